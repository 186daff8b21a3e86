/- Texts put together. -/
import Derived.Test.YtbeodjipdpcaiaaGreatDoorYFow1s
import Derived.Test.YtbeodjipdpcaiaaGreatDoorYDec0s
set_option maxRecDepth 100000
set_option maxHeartbeats 8000000
namespace Go.Proofs.YtbeodjipdpcaiaaGreatDoor
section
open Go.RowKit
theorem hexD_dig (c : Nat) : hexD c = true ↔ digV c < 16 := by
 unfold hexD digV
 rw [decide_eq_true_eq]
 split
 · omega
 · split
   · omega
   · split <;> omega
theorem byteAt_ext1 {B : ByteArray} {f g j : Nat} (h : f + j < g) : byteAt (B.extract f g) j = byteAt B (f + j) := by
 unfold byteAt
 rw [ByteArray.data_extract, Array.getElem?_extract]
 split
 · rfl
 · rw [Array.getElem?_eq_none (by omega)]
theorem bytesN_drop {s : ByteArray} {i : Nat} (h : i < s.size) : (bytesN s).drop i = byteAt s i :: (bytesN s).drop (i + 1) := by
 have hg := bytesN_get h
 obtain ⟨hl, he⟩ := List.getElem?_eq_some_iff.1 hg
 rw [List.drop_eq_getElem_cons hl, he]
theorem esc_num {s : ByteArray} {i : Nat} (h : i + 3 ≤ s.size) : (∃ v, escV ((bytesN s).drop (i + 1)) = some v ∧ numberF 16 255 (s.extract (i + 1) (i + 3)) = .ok v ∧ v < 256) ∨ (escV ((bytesN s).drop (i + 1)) = none ∧ ∃ k p, numberF 16 255 (s.extract (i + 1) (i + 3)) = .no k p) := by
 have hz : (s.extract (i + 1) (i + 3)).size = 2 := by simp; omega
 have e0 : byteAt (s.extract (i + 1) (i + 3)) 0 = byteAt s (i + 1) := byteAt_ext1 (by omega)
 have e1 : byteAt (s.extract (i + 1) (i + 3)) 1 = byteAt s (i + 2) := byteAt_ext1 (by omega)
 rw [bytesN_drop (show i + 1 < s.size by omega), bytesN_drop (show i + 1 + 1 < s.size by omega), escV]
 have h1 := hexD_dig (byteAt s (i + 1)); have h2 := hexD_dig (byteAt s (i + 2))
 by_cases hc : hexD (byteAt s (i + 1)) = true ∧ hexD (byteAt s (i + 1 + 1)) = true
 · have d1 := h1.1 hc.1; have d2 := h2.1 hc.2
   refine .inl ⟨_, by rw [if_pos hc], ?_, by show digV (byteAt s (i + 1)) * 16 + digV (byteAt s (i + 2)) < 256; omega⟩
   have hv : numVal 16 (s.extract (i + 1) (i + 3)) 2 = digV (byteAt s (i + 1)) * 16 + digV (byteAt s (i + 2)) := by
    show (0 * 16 + digV (byteAt _ 0)) * 16 + digV (byteAt _ 1) = _
    rw [e0, e1, Nat.zero_mul, Nat.zero_add]
   rw [numberF_end (by omega) (fun m hm => by
    unfold notDigit
    rw [hz] at hm
    match m, hm with
    | 0, _ => rw [e0]; exact dcF (by omega)
    | 1, _ => rw [e1]; exact dcF (by omega)), hz, hv, if_neg (by omega)]
 · refine .inr ⟨by rw [if_neg hc], ?_⟩
   by_cases c1 : hexD (byteAt s (i + 1)) = true
   · have c2 : ¬ hexD (byteAt s (i + 2)) = true := fun x => hc ⟨c1, x⟩
     have d1 := h1.1 c1
     have d2 : ¬ digV (byteAt s (i + 2)) < 16 := fun x => c2 (h2.2 x)
     exact ⟨_, _, numberF_bad (j := 1) (by omega) (by unfold notDigit; rw [e1]; exact dcT (by omega)) (fun m hm => by
      obtain rfl : m = 0 := by omega
      unfold notDigit; rw [e0]; exact dcF (by omega))⟩
   · have d1 : ¬ digV (byteAt s (i + 1)) < 16 := fun x => c1 (h1.2 x)
     exact ⟨_, _, numberF_bad (j := 0) (by omega) (by unfold notDigit; rw [e0]; exact dcT (by omega)) (fun m hm => by omega)⟩
theorem esc_short {s : ByteArray} {i : Nat} (h : ¬ i + 3 ≤ s.size) : escV ((bytesN s).drop (i + 1)) = none := by
 have hl : ((bytesN s).drop (i + 1)).length < 2 := by rw [List.length_drop, bytesN_len]; omega
 match (bytesN s).drop (i + 1), hl with
 | [], _ => rfl
 | [a], _ => rfl
 | a :: b :: l, hl => exact absurd hl (by simp only [List.length_cons]; omega)
def EscPost (s : ByteArray) (i : Nat) (w : World) (e : Ending) (w' : World) : Prop := Below w.heap.size w w' ∧ match escV ((bytesN s).drop (i + 1)) with
 | some v => e = .returned (.tuple #[.int .u8 v, .bool true])
 | none => ∃ n, e = .returned (.tuple #[.int .u8 n, .bool false])
theorem escape_any (s : ByteArray) (i : Nat) (w : World) (hs : s.size ≤ 1000000) (hi : i ≤ s.size) : Calls Tryz.prog 169 #[.string s, .int .i64 i] w (EscPost s i w) := by
 obtain ⟨Z, hZ⟩ : ∃ Z, (s.size : Int) - (i : Int) = Z := ⟨_, rfl⟩
 have q0 : IntKind.i64.wrap ((s.size : Int) - (i : Int)) = Z := by rw [hZ]; exact i64n _ (by omega)
 by_cases h3 : i + 3 ≤ s.size
 · have t1 : decide (Z < 3) = false := dcF (by omega)
   have q1 : IntKind.i64.wrap ((i : Int) + 1) = ((i + 1 : Nat) : Int) := (i64n _ (by omega)).trans (by omega)
   have q3 : IntKind.i64.wrap ((i : Int) + 3) = ((i + 3 : Nat) : Int) := (i64n _ (by omega)).trans (by omega)
   have HE := hid (esc_num h3)
   obtain ⟨x, hx⟩ : ∃ x, s.extract (i + 1) (i + 3) = x := ⟨_, rfl⟩
   have sl := sl_both s (i + 1) (i + 3) (by omega) h3 x hx
   rw [hx] at HE
   have C := hid (hex_any x 255 w (by rw [← hx]; simp; omega) (by decide))
   obtain ⟨a, ha⟩ : ∃ a, i + 1 = a := ⟨_, rfl⟩
   obtain ⟨b, hb⟩ : ∃ b, i + 3 = b := ⟨_, rfl⟩
   obtain ⟨Q, hQ⟩ : ∃ Q, EscPost s i w = Q := ⟨_, rfl⟩
   rw [hQ]
   have HQ := hid hQ
   rw [ha] at q1 sl
   rw [hb] at q3 sl
   clear h3 hx ha hb hQ hZ
   go_enter Tryz.func169, Tryz.ntmps169
   go_wp2_with fail
   refine C.out.mono ?_
   intro e w1 hsc
   rcases HE.out with ⟨v, he, hn, hv⟩ | ⟨he, k, p, hn⟩
   · rw [hn] at hsc
     obtain ⟨rfl, hbel⟩ := hsc
     have p1 : IntKind.u8.wrap (v : Int) = (v : Int) := IntWalk.u8_in _ (by omega)
     have HF : Hid (∀ n, Q (.returned (.tuple #[.int .u8 v, .bool true])) (w1.drewN n)) := hid (fun n => by rw [← HQ.out]; exact ⟨ext_drewN n hbel, by rw [he]⟩)
     clear hbel he hn
     go_wp2_with fail
     go_quiet (fail)
     go_wp2
     exact HF.out _
   · rw [hn] at hsc
     obtain ⟨u, rfl, hf⟩ := hsc
     have HF : Hid (∀ n m, Q (.returned (.tuple #[.int .u8 n, .bool false])) (w1.drewN m)) := hid (fun n m => by rw [← HQ.out]; exact ⟨ext_drewN m hf.2, by rw [he]; exact ⟨n, rfl⟩⟩)
     clear hf he hn
     go_wp2_with fail
     go_quiet (fail)
     go_wp2
     exact HF.out _ _
 · have t1 : decide (Z < 3) = true := dcT (by omega)
   have HF : Hid (EscPost s i w (.returned (.tuple #[.int .u8 0, .bool false])) w) := hid ⟨Below.refl _ _, by rw [esc_short h3]; exact ⟨0, rfl⟩⟩
   obtain ⟨Q, hQ⟩ : ∃ Q, EscPost s i w = Q := ⟨_, rfl⟩
   rw [hQ] at HF ⊢
   clear h3 hQ hZ
   go_enter Tryz.func169, Tryz.ntmps169
   go_wp2
   exact HF.out
end
section
open Go.RowKit
inductive PctTell (I : List (Nat × Bool) → World → Prop) : Value → Prop
 | dec (L : Nat) (h : ∀ acc (c : Nat) (b : Bool) W, acc.length ≤ 1000000 → I acc W → c < 256 → Calls Tryz.prog 100 #[.int .u8 c, .bool b, .pointer (some ⟨L, 0, none⟩)] W fun e W' => e = .returned (.tuple #[]) ∧ I (acc ++ [(c, b)]) W') : PctTell I (.func (.func 100) #[] #[.pointer (some ⟨L, 0, none⟩)])
 | norm (L : Nat) (h : ∀ acc (c : Nat) (b : Bool) W, acc.length ≤ 1000000 → I acc W → c < 256 → Calls Tryz.prog 201 #[.int .u8 c, .bool b, .pointer (some ⟨L, 0, none⟩)] W fun e W' => e = .returned (.tuple #[]) ∧ I (acc ++ [(c, b)]) W') : PctTell I (.func (.func 201) #[] #[.pointer (some ⟨L, 0, none⟩)])
def PeExt (I : List (Nat × Bool) → World → Prop) : Prop := ∀ acc W W', I acc W → Below W.heap.size W W' → I acc W'
def PePost (I : List (Nat × Bool) → World → Prop) (r : Sc (List (Nat × Bool))) (e : Ending) (w' : World) : Prop := match r with
 | .ok x => e = .returned .nilIface ∧ I x w'
 | .no k i => ∃ u acc, e = .returned u ∧ I acc w' ∧ Er w' u [((k : Int), i)]
def PeRel (s : ByteArray) (I : List (Nat × Bool) → World → Prop) (R : Sc (List (Nat × Bool))) (k : Value) (wr : World) : Prop := ∃ (j : Nat) (acc : List (Nat × Bool)), k = .int .i64 j ∧ j ≤ s.size ∧ acc.length ≤ j ∧ I acc wr ∧ pctG ((bytesN s).drop j) j acc = R
theorem each_any (s : ByteArray) (I : List (Nat × Bool) → World → Prop) (tell : Value) (w : World) (hT : PeExt I) (ht : PctTell I tell) (hI : I [] w) (hs : s.size ≤ 1000000) :
    Calls Tryz.prog 99 #[.string s, tell] w (PePost I (pctL (bytesN s))) := by
 obtain ⟨R, hR⟩ : ∃ R, pctL (bytesN s) = R := ⟨_, rfl⟩
 rw [hR]
 have HR := hid hR; have HT := hid hT; have HTE := hid ht; have HI := hid hI
 clear hR hT ht hI
 go_enter Tryz.func99, Tryz.ntmps99
 go_wp2_with fail
 go_loopw [5] (PeRel s I R) (fun k _ => s.size - (intOf k).toNat)
 case atStart => exact ⟨0, [], rfl, Nat.zero_le _, Nat.le_refl _, HI.out, HR.out⟩
 case round =>
  obtain ⟨j, acc, rfl, hj, hal, hI, hr⟩ := hrel
  have HIA := hid hI
  clear hI
  by_cases hlt : j < s.size
  · obtain ⟨t1, t1'⟩ := ltT j s.size hlt
    have hgb := byteAt_get s j hlt
    have hc256 := byteAt_lt s j
    rw [bytesN_drop hlt] at hr
    obtain ⟨x, hx⟩ : ∃ x, byteAt s j = x := ⟨_, rfl⟩
    rw [hx] at hr hgb hc256
    have hgx := hgb.symm
    have q1 := inc j (by omega)
    by_cases h37 : x = 37
    · subst h37
      have t2 : ((37 : Int) != 37) = false := rfl
      have HE := hid (escape_any s j wr hs (by omega))
      have HRR := hid hr
      clear hr hx hgb
      go_wp2_with fail
      refine HE.out.mono ?_
      intro e w1 hpost
      obtain ⟨hb1, hpost⟩ := hpost
      have HI1 := hid (HT.out _ _ _ HIA.out hb1)
      cases hv : escV ((bytesN s).drop (j + 1)) with
      | none =>
        rw [hv] at hpost
        obtain ⟨n, rfl⟩ := hpost
        have HR2 : Hid (R = .no 11 (j : Nat)) := hid (by have := HRR.out; rw [pctG_bad hv] at this; exact this.symm)
        clear hv hb1
        go_wp2_with fail
        go_at_call 44
        refine (fail_any _ _ _).mono ?_
        rintro e w3 ⟨rfl, rfl⟩
        have HF := hid (failed_er (failed_of (w := w1) (w0 := w1) (k := 11) (i := j) (Below.refl _ _) rfl))
        have HI3 := hid (HT.out _ _ _ HI1.out HF.out.2)
        go_wp2
        go_ret
        rw [HR2.out]
        exact ⟨_, _, rfl, HI3.out, HF.out.1⟩
      | some v =>
        rw [hv] at hpost
        obtain rfl := hpost
        have hv3 : j + 3 ≤ s.size := Decidable.byContradiction fun h => by rw [esc_short h] at hv; cases hv
        have hv2 := escV_lt hv
        have HR2 := hid (show pctG ((bytesN s).drop (j + 3)) (j + 3) (acc ++ [(v, true)]) = R by
         have := HRR.out
         rw [pctG_esc hv, List.drop_drop] at this
         exact this)
        have q2 : IntKind.i64.wrap ((j : Int) + 2) = (j : Int) + 2 := i64n _ (by omega)
        have q3 : IntKind.i64.wrap ((j : Int) + 2 + 1) = (j : Int) + 3 := (i64n _ (by omega)).trans (by omega)
        clear hv hb1
        cases HTE.out with
        | dec L h =>
          have CT := hid (h _ v true _ (by omega) HI1.out hv2)
          clear h
          go_wp2_with fail
          refine CT.out.mono ?_
          rintro e w2 ⟨rfl, hI2⟩
          have HRL : Hid (PeRel s I R (.int .i64 ((j : Int) + 3)) w2) := hid ⟨j + 3, _, by go_num, hv3, by simp; omega, hI2, HR2.out⟩
          clear hI2
          go_wp2
          refine ⟨?_, by simp [intOf] <;> omega⟩
          first | exact HRL.out | ((repeat apply Exists.intro); exact ⟨HRL.out, rfl⟩)
        | norm L h =>
          have CT := hid (h _ v true _ (by omega) HI1.out hv2)
          clear h
          go_wp2_with fail
          refine CT.out.mono ?_
          rintro e w2 ⟨rfl, hI2⟩
          have HRL : Hid (PeRel s I R (.int .i64 ((j : Int) + 3)) w2) := hid ⟨j + 3, _, by go_num, hv3, by simp; omega, hI2, HR2.out⟩
          clear hI2
          go_wp2
          refine ⟨?_, by simp [intOf] <;> omega⟩
          first | exact HRL.out | ((repeat apply Exists.intro); exact ⟨HRL.out, rfl⟩)
    · rw [pctG_plain h37] at hr
      have t2 : ((x : Int) != 37) = true := by simp; omega
      have HRR := hid hr
      clear hr hx hgb h37
      cases HTE.out with
      | dec L h =>
        have CT := hid (h _ x false _ (by omega) HIA.out hc256)
        clear h
        go_wp2_with fail
        refine CT.out.mono ?_
        rintro e w2 ⟨rfl, hI2⟩
        have HRL : Hid (PeRel s I R (.int .i64 ((j : Int) + 1)) w2) := hid ⟨j + 1, _, by go_num, hlt, by simp; omega, hI2, HRR.out⟩
        clear hI2
        go_wp2
        refine ⟨?_, by simp [intOf] <;> omega⟩
        first | exact HRL.out | ((repeat apply Exists.intro); exact ⟨HRL.out, rfl⟩)
      | norm L h =>
        have CT := hid (h _ x false _ (by omega) HIA.out hc256)
        clear h
        go_wp2_with fail
        refine CT.out.mono ?_
        rintro e w2 ⟨rfl, hI2⟩
        have HRL : Hid (PeRel s I R (.int .i64 ((j : Int) + 1)) w2) := hid ⟨j + 1, _, by go_num, hlt, by simp; omega, hI2, HRR.out⟩
        clear hI2
        go_wp2
        refine ⟨?_, by simp [intOf] <;> omega⟩
        first | exact HRL.out | ((repeat apply Exists.intro); exact ⟨HRL.out, rfl⟩)
  · obtain ⟨t1, t1'⟩ := ltF j s.size hlt
    rw [List.drop_eq_nil_of_le (by rw [bytesN_len]; omega), pctG_nil] at hr
    have HRR := hid hr
    clear hr hlt
    go_wp2
    go_ret
    rw [← HRR.out]
    exact ⟨rfl, HIA.out⟩
structure PdI (L : Nat) (w : World) (acc : List (Nat × Bool)) (W : World) : Prop where
 lt : w.heap.size ≤ L
 row : ∃ o, W.heap[L]? = some (.cells #[o] 29 (0, 0)) ∧ W.ownsRow (L + 1) 5 1 o acc.length (acc.map fun x => Value.int .u8 x.1)
 below : Below w.heap.size w W
theorem PdI.ext {L : Nat} {w : World} : PeExt (PdI L w) := fun acc W W' h hb => by
 obtain ⟨o, h1, h2⟩ := h.row
 have hL : L < W.heap.size := (Array.getElem?_eq_some_iff.1 h1).1
 exact ⟨h.lt, ⟨o, by rw [hb.block L hL]; exact h1, aown_ext h2 (fun g hg => hb.block g (h2.lt g hg).2) (Nat.le_refl _)⟩, xT h.below hb⟩
theorem pdfn_any (L : Nat) (w : World) (acc : List (Nat × Bool)) (c : Nat) (b : Bool) (W : World) (hl : acc.length ≤ 1000000) (h : PdI L w acc W) :
    Calls Tryz.prog 100 #[.int .u8 c, .bool b, .pointer (some ⟨L, 0, none⟩)] W fun e W' => e = .returned (.tuple #[]) ∧ PdI L w (acc ++ [(c, b)]) W' := by
 obtain ⟨o, h1, h2⟩ := h.row
 have hL : L < W.heap.size := (Array.getElem?_eq_some_iff.1 h1).1
 have hc : W.cell? ⟨L, 0, none⟩ = some o := by simp [World.cell?, h1]
 have hf : W.frozen? ⟨L, 0, none⟩ = false := Go.Joins.unfrozen_of_block h1 0
 obtain ⟨ao, cap, rfl, _⟩ := aown_form h2
 have H1 := hid h1; have H2 := hid h2; have H := hid h
 clear h1 h2 h
 go_enter Tryz.func100, Tryz.ntmps100
 go_wp2_with (at_builtin; refine wpList_app1 W _ _ rfl _ _ 29 rfl (L + 1) elByte _ _ _ rfl H2.out rfl rfl ?c1 ?c2 ?c3 ?c4 ?_)
 case c1 => first | rfl | (intro u hu; simp at hu; subst hu; rfl)
 case c2 => simp [maxLen]; omega
 case c3 => omega
 case c4 => exact hL
 intro v2 w2 ho2 hg2
 obtain ⟨ao2, cap2, rfl, _⟩ := aown_form ho2
 have hne : ∀ g, (Value.slice ao acc.length cap).ownBlock = some g → L < g := fun g hg => (H2.out.lt g hg).1
 have hblk : w2.heap[L]? = some (.cells #[.slice ao acc.length cap] 29 (0, 0)) := by
  rw [hg2.block L (by simp; omega) (fun e => by have := hne L e.symm; omega), Below.heap_alloc W _ L hL]; exact H1.out
 have hc2 : w2.cell? ⟨L, 0, none⟩ = some (.slice ao acc.length cap) := by simp [World.cell?, hblk]
 have hf2 : w2.frozen? ⟨L, 0, none⟩ = false := Go.Joins.unfrozen_of_block hblk 0
 have hst : (w2.setCell ⟨L, 0, none⟩ (.slice ao2 (acc.length + 1) cap2)).heap[L]? = some (.cells #[.slice ao2 (acc.length + 1) cap2] 29 (0, 0)) := by
  have := Go.Joins.block_setCell hblk (i := 0) (.slice ao2 (acc.length + 1) cap2)
  simpa using this
 have R : PdI L w (acc ++ [(c, b)]) (w2.setCell ⟨L, 0, none⟩ (.slice ao2 (acc.length + 1) cap2)) := by
  refine ⟨H.out.lt, ⟨_, hst, ?_⟩, ?_⟩
  · have := aown_ext (w' := w2.setCell ⟨L, 0, none⟩ (.slice ao2 (acc.length + 1) cap2)) ho2 (fun g hg => Below.heap_setCell w2 ⟨L, 0, none⟩ _ g (by have := (ho2.lt g hg).1; simp; omega)) (Nat.le_refl _)
    simpa using this
  · have hb := H.out.below; have hll := H.out.lt
    refine ((ext_alloc hb _).grown hg2 (ext_alloc hb _).size (fun g hg => ?_)).setCell (by simp; omega) _
    have := hne g hg; omega
 have HR := hid R
 clear R hst ho2 hg2 hblk hne hc hf
 go_wp2
 go_end0
 exact ⟨rfl, HR.out⟩
def PdPost (w : World) (r : Sc (List (Nat × Bool))) (e : Ending) (w' : World) : Prop := Below w.heap.size w w' ∧ match r with
 | .ok l => ∃ v, e = .returned (.tuple #[v, .nilIface]) ∧ w'.ownsRow w.heap.size 5 1 v l.length (l.map fun x => Value.int .u8 x.1)
 | .no k i => ∃ u, e = .returned (.tuple #[.slice none 0 0, u]) ∧ Er w' u [((k : Int), i)]
theorem pctdec_any (s : ByteArray) (w : World) (hs : s.size ≤ 1000000) : Calls Tryz.prog 46 #[.string s] w (PdPost w (pctL (bytesN s))) := by
 obtain ⟨L, hL⟩ : ∃ L, w.heap.size = L := ⟨_, rfl⟩
 obtain ⟨W1, hW1⟩ : ∃ W, w.alloc (.cells #[.slice none 0 0] 29) = W := ⟨_, rfl⟩
 have hI : PdI L w [] W1 := by
  rw [← hW1]
  exact ⟨Nat.le_of_eq hL, ⟨.slice none 0 0, by rw [← hL]; exact heap_alloc_new w _, World.ownsRow_nil _ _ _ _⟩, ext_alloc (Below.refl _ _) _⟩
 have CE := hid (each_any s (PdI L w) _ W1 PdI.ext (.dec L (fun acc c b W hl h _ => pdfn_any L w acc c b W hl h)) hI hs)
 have HW1 := hid hW1; have HL := hid hL
 obtain ⟨r, hr⟩ : ∃ r, pctL (bytesN s) = r := ⟨_, rfl⟩
 rw [hr] at CE ⊢
 clear hI hW1 hL hr
 go_enter Tryz.func46, Tryz.ntmps46
 go_wp2_with fail
 rw [HW1.out, HL.out]
 refine CE.out.mono ?_
 intro e w2 hp
 cases r with
 | no k p =>
   obtain ⟨u, acc, rfl, hI, hEr⟩ := hp
   obtain ⟨b, off, u2, rfl, _⟩ := fault_inv hEr
   have HEr := hid hEr; have HB := hid hI.below
   clear hEr hI
   go_wp2
   go_ret2
   exact ⟨HB.out, _, rfl, HEr.out⟩
 | ok l =>
   obtain ⟨rfl, hI⟩ := hp
   obtain ⟨o, h1, h2⟩ := hI.row
   have hc : w2.cell? ⟨L, 0, none⟩ = some o := by simp [World.cell?, h1]
   have hL2 : L < w2.heap.size := (Array.getElem?_eq_some_iff.1 h1).1
   have hll := hI.lt
   have H2 := hid (aown_ext (base' := w.heap.size) h2 (fun _ _ => rfl) (by omega)); have HB := hid hI.below
   clear hI h1 h2
   go_wp2
   go_ret2
   exact ⟨HB.out, _, rfl, H2.out⟩
end
end Go.Proofs.YtbeodjipdpcaiaaGreatDoor
