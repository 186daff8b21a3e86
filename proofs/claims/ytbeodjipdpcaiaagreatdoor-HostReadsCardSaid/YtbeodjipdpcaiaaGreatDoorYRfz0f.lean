/- Texts put together. -/
import Derived.Test.YtbeodjipdpcaiaaGreatDoorYMoreR
import Derived.Test.YtbeodjipdpcaiaaGreatDoorYRfy9
import Derived.Test.YtbeodjipdpcaiaaGreatDoorYCut0s
import Derived.Test.YtbeodjipdpcaiaaGreatDoorYRfx6f
import Derived.Test.YtbeodjipdpcaiaaGreatDoorYRfw1s
import Derived.Test.YtbeodjipdpcaiaaGreatDoorYRfx4
import Derived.Test.YtbeodjipdpcaiaaGreatDoorYDec2f
import Derived.Test.YtbeodjipdpcaiaaGreatDoorYLab0s
set_option maxRecDepth 100000
set_option maxHeartbeats 16000000
namespace Go.Proofs.YtbeodjipdpcaiaaGreatDoor
open Go.RowKit
theorem gapF_none {l : List Nat} (i : Nat) (h : l.length ≤ 1) : gapF l i = none := by
 match l, h with
 | [], _ => rfl
 | [a], _ => rw [gapF]; rw [if_neg (fun h => by simp at h)]; rfl
theorem gapF_at {s : ByteArray} {j : Nat} (h : j + 1 < s.size) : gapF ((bytesN s).drop j) j = if byteAt s j = 58 ∧ byteAt s (j + 1) = 58 then some j else gapF ((bytesN s).drop (j + 1)) (j + 1) := by
 rw [bytesN_getD (show j < s.size by omega), gapF, bytesN_getD h]
 by_cases h1 : byteAt s j = 58 ∧ byteAt s (j + 1) = 58
 · rw [if_pos ⟨h1.1, by rw [h1.2]; rfl⟩, if_pos h1]
 · rw [if_neg (fun h => h1 ⟨h.1, by simpa using h.2⟩), if_neg h1]
def G6Rel (s : ByteArray) (G : Option Nat) (w : World) (av iv : Value) (wr : World) : Prop := ∃ j : Nat, iv = .int .i64 j ∧ j ≤ s.size ∧ ((av = .int .i64 (-1) ∧ gapF ((bytesN s).drop j) j = G) ∨ ∃ i : Nat, av = .int .i64 i ∧ G = some i ∧ i + 1 < s.size) ∧ wr = w
structure F6 (F : Nat → Nat) (X : Nat) (W w : World) (j : Nat) (wr : World) : Prop where
 only : OnlyB X w wr
 below : Below W.heap.size W wr
 blk : wr.heap[X]? = some (.cells (g8P F j) 92 (0, 0))
theorem F6.cell {F : Nat → Nat} {X j : Nat} {W w wr : World} (h : F6 F X W w j wr) {b k : Nat} {v : Value} (hb : b ≠ X) (hc : w.cell? ⟨b, k, none⟩ = some v) : wr.cell? ⟨b, k, none⟩ = some v := by
 rw [← hc]
 unfold World.cell?
 rw [h.only.2 b hb]
theorem F6.put {F : Nat → Nat} {X j : Nat} {W w wr : World} (h : F6 F X W w j wr) (hj : j < 8) (hX : W.heap.size ≤ X) : F6 F X W w (j + 1) (wr.setCell ⟨X, j, none⟩ (.int .u16 (F j : Nat))) :=
 ⟨h.only.set, h.below.setCell (p := ⟨X, j, none⟩) hX _, by
  have := Go.Joins.block_setCell (w := wr) h.blk (i := j) (.int .u16 (F j : Nat))
  rw [g8P_set F j hj] at this
  exact this⟩
theorem F6.at_ {F : Nat → Nat} {X j : Nat} {W w wr : World} (h : F6 F X W w j wr) (hj : j < 8) : wr.cell? ⟨X, j, none⟩ = some (.int .u16 0) ∧ wr.frozen? ⟨X, j, none⟩ = false :=
 ⟨by have := g8P_get F j hj; simp [World.cell?, h.blk, this], Go.Joins.unfrozen_of_block h.blk j⟩
def L6Rel (F : Nat → Nat) (X o n : Nat) (W w : World) (iv : Value) (wr : World) : Prop := ∃ m : Nat, iv = .int .i64 m ∧ m ≤ n ∧ F6 F X W w (o + m) wr
theorem g8P_skip {F : Nat → Nat} {a k : Nat} (h : ∀ i, a ≤ i → i < k → F i = 0) (hak : a ≤ k) : g8P F a = g8P F k := by
 have e : ∀ i, grP F a i = grP F k i := fun i => by
  unfold grP
  by_cases h1 : i < a
  · rw [if_pos h1, if_pos (by omega)]
  · by_cases h2 : i < k
    · rw [if_neg h1, if_pos h2, h i (by omega) h2]
    · rw [if_neg h1, if_neg h2]
 unfold g8P
 rw [e 0, e 1, e 2, e 3, e 4, e 5, e 6, e 7]
theorem g8P_over {F : Nat → Nat} {k : Nat} (h : 8 ≤ k) : g8P F k = g8C F := by
 have e : ∀ i, i < 8 → grP F k i = .int .u16 (F i : Nat) := fun i hi => by unfold grP; rw [if_pos (by omega)]
 unfold g8P g8C
 rw [e 0 (by decide), e 1 (by decide), e 2 (by decide), e 3 (by decide), e 4 (by decide), e 5 (by decide), e 6 (by decide), e 7 (by decide)]
theorem six_at {x y L : List Nat} (h : six x y = some L) : x.length + y.length ≤ 7 ∧ L.length = 8 ∧ (∀ i, i < x.length → x[i]? = some (fOf L i)) ∧ (∀ i, x.length ≤ i → i < 8 - y.length → fOf L i = 0) ∧ ∀ i, i < y.length → y[i]? = some (fOf L (8 - y.length + i)) := by
 unfold six at h
 split at h
 · rename_i h7
   cases h
   refine ⟨h7, by simp; omega, fun i hi => ?_, fun i h1 h2 => ?_, fun i hi => ?_⟩
   · unfold fOf
     rw [List.append_assoc, List.getElem?_append_left hi, List.getElem?_eq_getElem hi]; rfl
   · unfold fOf
     rw [List.append_assoc, List.getElem?_append_right h1, List.getElem?_append_left (by rw [List.length_replicate]; omega), List.getElem?_replicate, if_pos (by omega)]; rfl
   · unfold fOf
     rw [List.getElem?_append_right (by simp; omega)]
     have e : 8 - y.length + i - (x ++ List.replicate (8 - x.length - y.length) 0).length = i := by simp; omega
     rw [e, List.getElem?_eq_getElem hi]; rfl
 · cases h
theorem six_not {x y : List Nat} (h : 7 < x.length + y.length) : six x y = none := by unfold six; rw [if_neg (by omega)]
def r6V (r : Option (List Nat)) : Value := match r with
 | some l => .tuple #[.agg (g8C (fOf l)), .bool true]
 | none => .tuple #[.agg zero8, .bool false]
theorem zero8_one : zero8.all (·.oneCell') = true := by
 rw [Array.all_eq_true_iff_forall_mem]
 intro v hv
 simp only [zero8, List.mem_toArray, List.mem_cons, List.not_mem_nil, or_false] at hv
 rcases hv with rfl | rfl | rfl | rfl | rfl | rfl | rfl | rfl <;> rfl
theorem ret6 {w W1 : World} {X : Nat} (hW1 : w.alloc (.cells #[.int .u16 0, .int .u16 0, .int .u16 0, .int .u16 0, .int .u16 0, .int .u16 0, .int .u16 0, .int .u16 0] 92) = W1) (cs : Array Value) (hs : cs.size = 8) (h1 : cs.all (·.oneCell') = true) (W : World) (hW : Below W1.heap.size W1 W) (hx : W.heap[X]? = some (.cells cs 92 (0, 0))) :
    (loadVar 92 ⟨X, 0, none⟩).run Tryz.prog W = .ok (.agg cs) W ∧ ∃ W9, (storeVar 92 ⟨w.heap.size, 0, none⟩ (.agg cs)).run Tryz.prog W = .ok () W9 ∧ (loadVar 92 ⟨w.heap.size, 0, none⟩).run Tryz.prog W9 = .ok (.agg cs) W9 ∧ Below w.heap.size w W9 := by
 have hx1 : W1.heap[w.heap.size]? = some (.cells zero8 92 (0, 0)) := by rw [← hW1]; exact heap_alloc_new w _
 have hb1 : Below w.heap.size w W1 := by rw [← hW1]; exact ext_alloc (Below.refl _ _) _
 have h0 := (hW.block _ (heap_lt hx1)).trans hx1
 exact ⟨g8_load cs hs _ W hx, _, g8_store cs zero8 hs h1 rfl _ W h0, g8_load cs hs _ _ (setRow_heap h0), setRow_below (xT hb1 hW) (Nat.le_refl _)⟩
end Go.Proofs.YtbeodjipdpcaiaaGreatDoor
namespace Go.Proofs.YtbeodjipdpcaiaaGreatDoor
open Go.RowKit
theorem plainL_snoc (acc : List (Nat × Bool)) (v : Nat) (b : Bool) : nbV (plainL acc) ++ [Value.int .u8 (v : Int)] = nbV (plainL (acc ++ [(v, b)])) := by unfold nbV plainL; simp
def RdeRel (s : ByteArray) (ev : List (Nat × Bool)) (w : World) (lv iv : Value) (wr : World) : Prop := ∃ (j : Nat) (acc : List (Nat × Bool)), iv = .int .i64 j ∧ j ≤ s.size ∧ acc.length ≤ j ∧ pctG ((bytesN s).drop j) j acc = .ok ev ∧ wr.ownsRow w.heap.size 5 1 lv acc.length (nbV (plainL acc)) ∧ Below w.heap.size w wr
theorem rdecode3_any (s : ByteArray) (ev : List (Nat × Bool)) (w : World) (hs : s.size ≤ 1000000) (hev : pctL (bytesN s) = .ok ev) : Calls Tryz.prog 66 #[.string s] w fun e w' => Below w.heap.size w w' ∧ ∃ v, e = .returned v ∧ w'.ownsRow w.heap.size 5 1 v (plainL ev).length (nbV (plainL ev)) := by
 obtain ⟨W1, hW1⟩ : ∃ W, w.alloc (.cells #[] 5) = W := ⟨_, rfl⟩
 have hb1 : Below w.heap.size w W1 := by rw [← hW1]; exact ext_alloc (Below.refl _ _) _
 have ho1 : W1.ownsRow w.heap.size 5 1 (.slice (some ⟨w.heap.size, 0, none⟩) 0 0) 0 (nbV (plainL [])) := ⟨rfl, .inr ⟨w.heap.size, 0, #[], rfl, Nat.le_refl _, by rw [← hW1]; exact heap_alloc_new w _, Nat.le_refl _, Nat.zero_le _, rfl, rfl⟩⟩
 have H0 : Hid (RdeRel s ev w (.slice (some ⟨w.heap.size, 0, none⟩) 0 0) (.int .i64 0) W1) := hid ⟨0, [], rfl, Nat.zero_le _, Nat.zero_le _, hev, ho1, hb1⟩
 clear hev hb1 ho1
 go_enter Tryz.func66, Tryz.ntmps66
 go_wp2_with fail
 go_loopw [3, 4] (RdeRel s ev w) (fun _ k _ => s.size - (intOf k).toNat)
 case atStart => exact H0.out
 case round =>
  obtain ⟨j, acc, rfl, hj, hal, hr, ho, hb⟩ := hrel
  obtain ⟨ao, lcap, rfl, _⟩ := aown_form ho
  have HO := hid ho; have HB := hid hb
  clear ho hb
  by_cases hlt : j < s.size
  · obtain ⟨t1, t1'⟩ := ltT j s.size hlt
    have q1 := inc j (by omega)
    have q3 : IntKind.i64.wrap ((j : Int) + 3) = (j : Int) + 3 := i64n _ (by omega)
    have hgb := byteAt_get s j hlt
    have hdr : (bytesN s).drop j = byteAt s j :: (bytesN s).drop (j + 1) := bytesN_getD hlt
    rw [hdr] at hr
    obtain ⟨x, hx⟩ : ∃ x, byteAt s j = x := ⟨_, rfl⟩
    rw [hx] at hgb hr
    have hgx := hgb.symm
    have HLT := hid hlt
    clear hgb hdr hx
    by_cases h37 : x = 37
    · subst h37
      have t2 : ((37 : Int) == 37) = true := rfl
      have h3 : j + 3 ≤ s.size := by
       refine Nat.le_of_not_lt fun h => ?_
       rw [pctG_bad (esc_short (by omega))] at hr
       cases hr
      obtain ⟨P, hP⟩ : ∃ P, s.extract (j + 1) (j + 3) = P := ⟨_, rfl⟩
      have sl : ∀ W, (Instr.slice 9 (.string s) (some (.int .i64 ((j : Int) + 1))) (some (.int .i64 ((j : Int) + 3))) none).run Tryz.prog W = .ok (.string P) W := fun W => sl_both s (j + 1) (j + 3) (by omega) h3 P hP W
      have hPz : P.size ≤ maxLen := by rw [← hP]; simp [maxLen]; omega
      have NU := rnum16_any P 255 wr hPz (by decide)
      rcases esc_num h3 with ⟨v, e1, e2, e3⟩ | ⟨e1, kk, p, e2⟩
      · rw [hP] at e2
        rw [e2] at NU
        rw [pctG_esc e1, List.drop_drop] at hr
        have qv : IntKind.u8.wrap (v : Int) = (v : Int) := IntWalk.u8_in _ (by omega)
        have NU := hid NU
        have HR := hid hr
        clear hr e1 e2 hP
        go_wp2_with fail
        refine NU.out.mono ?_
        rintro e w2 ⟨⟨n, rfl⟩, rfl⟩
        have HO2 : Hid ((wr.drewN n).ownsRow w.heap.size 5 1 (.slice ao acc.length lcap) acc.length (nbV (plainL acc))) := hid HO.out
        have HB2 := hid (ext_drewN n HB.out)
        generalize wr.drewN n = w2 at *
        go_wp2_with (at_builtin; refine wpList_app1 w2 #[.int .u8 (v : Nat)] 5 rfl _ _ 29 rfl w.heap.size elByte _ _ _ rfl HO2.out rfl rfl ?c1 ?c2 ?c3 ?c4 ?_)
        case c1 => first | rfl | (intro u hu; simp at hu; subst hu; rfl)
        case c2 => unfold maxLen; omega
        case c3 => omega
        case c4 => exact HB2.out.size
        intro v2 w3 ho2 hg2
        have hb2 : Below w.heap.size w w3 := (ext_alloc HB2.out _).grown hg2 (ext_alloc HB2.out _).size (fun k hk => (HO2.out.lt k hk).1)
        have ho3 : w3.ownsRow w.heap.size 5 1 v2 (acc ++ [(v, true)]).length (nbV (plainL (acc ++ [(v, true)]))) := by
         rw [← plainL_snoc, List.length_append]; exact ho2
        have HRL : Hid (RdeRel s ev w v2 (.int .i64 ((j : Int) + 3)) w3) := hid ⟨j + 3, acc ++ [(v, true)], by go_num, h3, by rw [List.length_append]; simp; omega, HR.out, ho3, hb2⟩
        obtain ⟨a2, c2, rfl, _⟩ := aown_form ho2
        clear ho2 hg2 hb2 ho3
        go_wp2
        refine ⟨?_, by have := HLT.out; simp [intOf]; omega⟩
        first | exact HRL.out | ((repeat apply Exists.intro); exact ⟨HRL.out, rfl⟩)
      · rw [pctG_bad e1] at hr
        cases hr
    · have t2 : ((x : Int) == 37) = false := by simp; omega
      have t2' : (x = 37) = False := by simp [h37]
      rw [pctG_plain h37] at hr
      have HR := hid hr
      clear hr h37
      go_wp2_with (at_builtin; refine wpList_app1 wr #[.int .u8 (x : Nat)] 5 rfl _ _ 29 rfl w.heap.size elByte _ _ _ rfl HO.out rfl rfl ?c1 ?c2 ?c3 ?c4 ?_)
      case c1 => first | rfl | (intro u hu; simp at hu; subst hu; rfl)
      case c2 => unfold maxLen; omega
      case c3 => omega
      case c4 => exact HB.out.size
      intro v2 w3 ho2 hg2
      have hb2 : Below w.heap.size w w3 := (ext_alloc HB.out _).grown hg2 (ext_alloc HB.out _).size (fun k hk => (HO.out.lt k hk).1)
      have ho3 : w3.ownsRow w.heap.size 5 1 v2 (acc ++ [(x, false)]).length (nbV (plainL (acc ++ [(x, false)]))) := by
       rw [← plainL_snoc, List.length_append]; exact ho2
      have HRL : Hid (RdeRel s ev w v2 (.int .i64 ((j : Int) + 1)) w3) := hid ⟨j + 1, acc ++ [(x, false)], by go_num, HLT.out, by rw [List.length_append]; simp; omega, HR.out, ho3, hb2⟩
      obtain ⟨a2, c2, rfl, _⟩ := aown_form ho2
      clear ho2 hg2 hb2 ho3
      go_wp2
      refine ⟨?_, by have := HLT.out; simp [intOf]; omega⟩
      first | exact HRL.out | ((repeat apply Exists.intro); exact ⟨HRL.out, rfl⟩)
  · obtain ⟨t1, t1'⟩ := ltF j s.size hlt
    rw [List.drop_of_length_le (by rw [bytesN_len]; omega), pctG_nil] at hr
    obtain rfl := Sc.ok.inj hr
    have HOF : Hid (wr.ownsRow w.heap.size 5 1 (.slice ao acc.length lcap) (plainL acc).length (nbV (plainL acc))) := hid (by
     have e : (plainL acc).length = acc.length := by unfold plainL; simp
     rw [e]; exact HO.out)
    clear hr hlt
    go_wp2
    go_ret
    exact ⟨HB.out, _, rfl, HOF.out⟩
end Go.Proofs.YtbeodjipdpcaiaaGreatDoor
namespace Go.Proofs.YtbeodjipdpcaiaaGreatDoor
open Go.RowKit
def RnmRel2 (R : Sc (List (List Nat))) (ps : List (List Nat)) (w1 : World) (ov fv kv : Value) (wr : World) : Prop := ∃ (j fr : Nat) (acc : List (List Nat)), kv = .int .i64 j ∧ j ≤ ps.length ∧ acc.length = j ∧ (∀ t ∈ acc, t.length ≤ 63) ∧ ov = .string (bytesL (joinN 46 acc)) ∧ fv = .int .i64 fr ∧ fr ≤ 2000000 * j ∧ namesF (ps.drop j) fr acc = R ∧ Below w1.heap.size w1 wr
theorem fldF_k (m most : Nat) : ∀ (l : List Nat) (i : Nat) (cur : List Nat) (acc : List (List Nat)) (k : Nat) (p : Int), fldF m most l i cur acc = .no k p → k = 15
 | [], i, cur, acc, k, p, h => by rw [fldF] at h; cases h
 | c :: l, i, cur, acc, k, p, h => by
   rw [fldF] at h
   split at h
   · split at h
     · injection h with h1 h2; exact h1.symm
     · exact fldF_k m most l _ _ _ k p h
   · exact fldF_k m most l _ _ _ k p h
theorem ascii_k {b : List Nat} {k : Nat} {p : Int} (h : asciiL b = .no k p) : k ≠ 0 := by
 unfold asciiL at h
 split at h
 · rename_i hc
   injection h with h1 h2
   rw [← h1, charsF_k _ _ _ _ _ _ hc]; decide
 · split at h
   · split at h
     · cases h
     · injection h with h1 h2; omega
   · unfold asciiW at h
     split at h
     · injection h with h1 h2; omega
     · split at h
       · injection h with h1 h2; omega
       · split at h
         · injection h with h1 h2; omega
         · cases h
theorem rname_core (s B : ByteArray) (w : World) (hs : s.size ≤ 1000000) (hB : bytesL (trimL (bytesN s)) = B) : Calls Tryz.prog 65 #[.string s] w fun e w' => e = .returned (raV (nameL (bytesN s))) ∧ Below w.heap.size w w' := by
 obtain ⟨R, hR⟩ : ∃ R, nameL (bytesN s) = R := ⟨_, rfl⟩
 rw [hR]
 obtain ⟨Q, hQ⟩ : ∃ Q : Ending → World → Prop, (fun e w' => e = .returned (raV R) ∧ Below w.heap.size w w') = Q := ⟨_, rfl⟩
 have HFF : Hid (∀ r W, R = r → Below w.heap.size w W → Q (.returned (raV r)) W) := hid (fun r W h hb => by rw [← hQ, h]; exact ⟨rfl, hb⟩)
 rw [hQ]
 have htl := trimL_len (bytesN s)
 rw [bytesN_len] at htl
 have hBz : B.size ≤ 1000000 := by rw [← hB, bytesL_size]; omega
 have hBN : bytesN B = trimL (bytesN s) := by rw [← hB]; exact bytesN_bytesL (trimL_byte (bytesN_lt s))
 have hRR := hR
 unfold nameL at hRR
 rw [← hBN] at hRR
 have FD := hid (fun W => rfields_any B 46 127 W hBz (by decide) (by decide) (by decide))
 have HRR := hid hRR
 have hcase : (decide ((1 : Int) < (s.size : Int)) = false ∧ s = B) ∨ ∃ (m : Nat) (hm : m < s.size) (x : Nat), decide ((1 : Int) < (s.size : Int)) = true ∧ IntKind.i64.wrap ((s.size : Int) - 1) = (m : Int) ∧ (s[m]'hm).toNat = x ∧ (((x : Int) == 46) = false ∧ (x = 46) = False ∧ s = B ∨ x = 46 ∧ ∀ W, (Instr.slice 9 (.string s) none (some (.int .i64 (m : Int))) none).run Tryz.prog W = .ok (.string B) W) := by
  by_cases h1 : 1 < s.size
  · refine .inr ⟨s.size - 1, by omega, byteAt s (s.size - 1), dcT (by omega), by rw [show (s.size : Int) - 1 = ((s.size - 1 : Nat) : Int) by omega]; exact i64n _ (by omega), (byteAt_get s _ (by omega)).symm, ?_⟩
    have hl : lastN (bytesN s) = byteAt s (s.size - 1) := by
     unfold lastN
     rw [List.getLast?_eq_getElem?, bytesN_len, bytesN_get (by omega)]; rfl
    by_cases h46 : byteAt s (s.size - 1) = 46
    · refine .inr ⟨h46, fun W => sl_to s (s.size - 1) (by omega) B ?_ W⟩
      rw [← hB, extract_bytesL]
      unfold trimL
      rw [if_pos ⟨by rw [bytesN_len]; exact h1, by rw [hl]; exact h46⟩, bytesN_len]
      rfl
    · refine .inl ⟨by simp; omega, by simp [h46], ?_⟩
      rw [← hB]
      unfold trimL
      rw [if_neg (fun h => h46 (by rw [← hl]; exact h.2)), bytesL_bytesN]
  · refine .inl ⟨dcF (by omega), ?_⟩
    rw [← hB]
    unfold trimL
    rw [if_neg (fun h => h1 (by have := h.1; rw [bytesN_len] at this; exact this)), bytesL_bytesN]
 clear hQ htl hRR hR hB hBN
 by_cases hz : B.size = 0
 · have t0 : ((B.size : Int) == 0) = true := beq_iff_eq.2 (by omega)
   have t0' : (B.size = 0) = True := eq_true hz
   have HF := hid (HFF.out (.no 10 0) w (by
    have := HRR.out
    rw [if_pos (List.eq_nil_of_length_eq_zero (by rw [bytesN_len]; exact hz))] at this
    exact this.symm) (Below.refl _ _))
   clear FD hz
   rcases hcase with ⟨g1, hsB⟩ | ⟨m, hm, x, g1, g2, g3, ⟨g4, g5, hsB⟩ | ⟨hx, g4⟩⟩
   all_goals
    first | (have h' := hsB.symm; subst h') | subst hx
    go_enter Tryz.func65, Tryz.ntmps65
    go_wp2
    (try simp only [Exit.inBlock, Exit.then]); refine bodyPost_ret (results_tmp3 rfl _ _ _) rfl ?_
    exact HF.out
 · have t0 : ((B.size : Int) == 0) = false := bneI.2 (by omega)
   have t0' : (B.size = 0) = False := eq_false hz
   have HR2 : Hid ((match fieldsL 46 127 (bytesN B) with
    | .no k q => .no k q
    | .ok ps => nameJ (namesF ps 0 [])) = R) := hid (by
    have := HRR.out
    rw [if_neg (fun e => hz (by rw [← bytesN_len, e]; rfl))] at this
    exact this)
   clear HRR hz
   rcases hcase with ⟨g1, hsB⟩ | ⟨m, hm, x, g1, g2, g3, ⟨g4, g5, hsB⟩ | ⟨hx, g4⟩⟩
   all_goals
    first | (have h' := hsB.symm; subst h') | subst hx
    go_enter Tryz.func65, Tryz.ntmps65
    go_wp2_with fail
    refine (FD.out _).mono ?_
    rintro e w1 ⟨hb1, hp⟩
    have HB1 := hid hb1
    have hr2 := HR2.out
    clear hb1 FD
    cases hf : fieldsL 46 127 (bytesN B) with
    | no k p =>
      rw [hf] at hp hr2
      dsimp only at hp hr2
      subst hp
      have hk : k = 15 := fldF_k _ _ _ _ _ _ k p hf
      subst hk
      have HF := hid (HFF.out _ w1 hr2.symm HB1.out)
      unfold raV at HF
      clear hf hr2
      go_wp2
      (try simp only [Exit.inBlock, Exit.then]); refine bodyPost_ret (results_tmp3 rfl _ _ _) rfl ?_
      exact HF.out
    | ok ps =>
      rw [hf] at hp hr2
      dsimp only at hr2
      obtain ⟨v, rfl, ho⟩ := hp
      have hfl := field_len (by decide) hf
      rw [bytesN_len] at hfl
      have HPL : Hid (∀ p ∈ ps, p.length ≤ 1000000 ∧ ByteL p) := hid (fun p hp => ⟨by have := (hfl.2.2 p hp).1; omega, fun c hc => bytesN_lt B c ((hfl.2.2 p hp).2 c hc)⟩)
      have hcount := hfl.1
      obtain ⟨ao, cap, rfl, hao⟩ := aown_form ho
      have HO := hid ho
      have HC : Hid (∀ (j : Nat) p, ps[j]? = some p → ∃ g, ao = some ⟨g, 0, none⟩ ∧ g < w1.heap.size ∧ w1.cell? ⟨g, j, none⟩ = some (.string (bytesL p))) := hid (fun j p hj => by
       have hjl := (List.getElem?_eq_some_iff.1 hj).1
       rcases hao with ⟨h0, _⟩ | ⟨g, rfl, _, hgl⟩
       · omega
       · refine ⟨g, rfl, hgl, ?_⟩
         rw [HO.out.cellAt j (by simpa using hjl)]
         unfold strV
         rw [List.getElem?_map, List.getElem?_map, hj]; rfl)
      obtain ⟨R1, hR1⟩ : ∃ R1, namesF ps 0 [] = R1 := ⟨_, rfl⟩
      rw [hR1] at hr2
      have HR3 := hid hr2
      obtain ⟨n0, hn0⟩ : ∃ n, ps.length = n := ⟨_, rfl⟩
      rw [hn0] at hcount ⊢
      have HN := hid hn0
      have HL0 : Hid (RnmRel2 R1 ps w1 (.string ⟨#[]⟩) (.int .i64 0) (.int .i64 0) w1) := hid ⟨0, 0, [], rfl, Nat.zero_le _, rfl, (fun t ht => by cases ht), rfl, rfl, Nat.zero_le _, hR1, Below.refl _ _⟩
      clear ho hao hf hfl hr2 hR1 hn0
      go_wp2_with fail
      go_loopw [8, 9, 10] (RnmRel2 R1 ps w1) (fun _ _ k _ => n0 - (intOf k).toNat)
      case atStart => exact HL0.out
      case round =>
       obtain ⟨j, fr, acc, rfl, hj, hal, hac, rfl, rfl, hfr, hnm, hb⟩ := hrel
       rw [HN.out] at hj
       have HB := hid hb
       have hJ : (joinN 46 acc).length ≤ 64 * 127 := by
        have := join_small 46 63 (ps := acc) hac
        have h2 : 64 * acc.length ≤ 64 * 127 := Nat.mul_le_mul_left _ (by omega)
        omega
       obtain ⟨O, hO⟩ : ∃ O, bytesL (joinN 46 acc) = O := ⟨_, rfl⟩
       have HOZ : Hid (O.size = (joinN 46 acc).length) := hid (by rw [← hO, bytesL_size])
       have hOz : O.size ≤ 64 * 127 := by rw [HOZ.out]; exact hJ
       have HOO := hid hO; have HAC := hid hac; have HAL := hid hal
       rw [hO]
       have hfr2 : fr ≤ 2000000 * 127 := by omega
       clear hb hO hac hal
       by_cases hlt : j < n0
       · obtain ⟨r1, r1'⟩ := ltT j n0 hlt
         have q1 := inc j (by omega)
         obtain ⟨p, hp⟩ := get_ex ps j (by rw [HN.out]; exact hlt)
         have hpl := HPL.out p (List.mem_of_getElem? hp)
         obtain ⟨g, rfl, hgl, hc⟩ := HC.out j p hp
         have c0 : wr.cell? ⟨g, j, none⟩ = some (.string (bytesL p)) := (bcell1 HB.out hgl _).trans hc
         have hdr : ps.drop j = p :: ps.drop (j + 1) := by
          obtain ⟨hj2, hp2⟩ := List.getElem?_eq_some_iff.1 hp
          rw [List.drop_eq_getElem_cons hj2, hp2]
         rw [hdr, namesF] at hnm
         have AS := rascii_any (bytesL p) wr (by rw [bytesL_size]; exact hpl.1)
         rw [bytesN_bytesL hpl.2] at AS
         obtain ⟨Z, hZ⟩ : ∃ Z, bytesL p = Z := ⟨_, rfl⟩
         have HZZ : Hid (Z.size = p.length) := hid (by rw [← hZ, bytesL_size])
         have hZz : Z.size ≤ 1000000 := by rw [HZZ.out]; exact hpl.1
         rw [hZ] at AS c0
         have hgw : g < wr.heap.size := Nat.lt_of_lt_of_le hgl HB.out.size
         cases ha : asciiL p with
         | no k q =>
           rw [ha] at hnm AS
           dsimp only at hnm
           have hk := ascii_k ha
           have hq := ascii_place ha
           have t3 : ((k : Int) == 0) = false := bneI.2 (by omega)
           have t3' : (k = 0) = False := eq_false hk
           have q2 : IntKind.i64.wrap ((fr : Int) + q) = (fr : Int) + q := i64n _ (by omega)
           have HF := hid (fun W h => HFF.out (.no k ((fr : Int) + q)) W (by rw [← HR3.out, ← hnm]; rfl) h)
           have AS := hid AS
           unfold raV at HF AS
           dsimp only at HF AS
           clear hnm ha hk hq hp hc hdr hZ
           go_wp2_with fail
           refine AS.out.mono ?_
           rintro e w3 ⟨rfl, hb3⟩
           have HB3 := hid (xT HB1.out (xT HB.out hb3))
           clear hb3
           go_wp2
           (try simp only [Exit.inBlock, Exit.then]); refine bodyPost_ret (results_tmp3 rfl _ _ _) rfl ?_
           exact HF.out _ HB3.out
         | ok t =>
           rw [ha] at hnm AS
           dsimp only at hnm
           have htl := asciiL_len ha
           obtain ⟨T, hT⟩ : ∃ T, bytesL t = T := ⟨_, rfl⟩
           have hTz : T.size ≤ 63 := by rw [← hT, bytesL_size]; exact htl
           unfold raV at AS
           dsimp only at AS
           rw [hT] at AS
           have q2 : IntKind.i64.wrap ((Z.size : Int) + 1) = (Z.size : Int) + 1 := i64n _ (by omega)
           have q3 : IntKind.i64.wrap ((fr : Int) + ((Z.size : Int) + 1)) = (fr : Int) + ((Z.size : Int) + 1) := i64n _ (by omega)
           have HST : Hid (∀ W, Below w1.heap.size w1 W → RnmRel2 R1 ps w1 (.string (if 0 < j then O ++ ⟨#[46]⟩ ++ T else O ++ T)) (.int .i64 ((fr : Int) + ((Z.size : Int) + 1))) (.int .i64 ((j : Int) + 1)) W) := hid (fun W hW => by
            refine ⟨j + 1, fr + p.length + 1, acc ++ [t], by go_num, by rw [HN.out]; exact hlt, by rw [List.length_append, HAL.out]; rfl, fun y hy => ?_, ?_, by rw [HZZ.out]; go_num, by have := hpl.1; omega, hnm, hW⟩
            · rcases List.mem_append.1 hy with hy | hy
              · exact HAC.out y hy
              · rw [List.mem_singleton.1 hy]; exact htl
            · congr 1
              by_cases hj0 : 0 < j
              · have hne : acc ≠ [] := fun e => by have := HAL.out; rw [e] at this; simp at this; omega
                rw [if_pos hj0, joinN_snoc 46 _ _ hne, bytesL_append, bytesL_append, HOO.out, hT]; rfl
              · rw [if_neg hj0]
                have he : acc = [] := List.eq_nil_of_length_eq_zero (by rw [HAL.out]; omega)
                have h0 := HOO.out
                rw [he, joinN] at h0
                rw [he, List.nil_append, joinN, ← h0, ← hT, ← bytesL_append, List.nil_append])
           have AS := hid AS
           have HLT := hid hlt
           clear hnm ha htl hp hc hdr hZ hT hlt
           by_cases hj0 : 0 < j
           · have t2 : decide ((0 : Int) < (j : Int)) = true := dcT (by omega)
             have t2' : decide (0 < j) = true := dcT hj0
             have HS2 := hid (fun W h => HST.out W h)
             rw [if_pos hj0] at HS2
             clear HST
             go_wp2_with fail
             refine AS.out.mono ?_
             rintro e w3 ⟨rfl, hb3⟩
             have HRL := hid (HS2.out _ (xT HB.out hb3))
             have c2 : w3.cell? ⟨g, j, none⟩ = some (.string Z) := (bcell1 hb3 hgw _).trans c0
             clear hb3 c0
             go_wp2
             refine ⟨?_, by have := HLT.out; simp [intOf]; omega⟩
             first | exact HRL.out | ((repeat apply Exists.intro); exact ⟨HRL.out, rfl⟩)
           · have t2 : decide ((0 : Int) < (j : Int)) = false := dcF (by omega)
             have t2' : decide (0 < j) = false := dcF hj0
             have HS2 := hid (fun W h => HST.out W h)
             rw [if_neg hj0] at HS2
             clear HST
             go_wp2_with fail
             refine AS.out.mono ?_
             rintro e w3 ⟨rfl, hb3⟩
             have HRL := hid (HS2.out _ (xT HB.out hb3))
             have c2 : w3.cell? ⟨g, j, none⟩ = some (.string Z) := (bcell1 hb3 hgw _).trans c0
             clear hb3 c0
             go_wp2
             refine ⟨?_, by have := HLT.out; simp [intOf]; omega⟩
             first | exact HRL.out | ((repeat apply Exists.intro); exact ⟨HRL.out, rfl⟩)
       · obtain ⟨r1, r1'⟩ := ltF j n0 hlt
         rw [List.drop_of_length_le (by rw [HN.out]; omega), namesF] at hnm
         have hR := HR3.out
         rw [← hnm] at hR
         unfold nameJ at hR
         dsimp only at hR
         rw [← HOZ.out] at hR
         have HBB := hid (xT HB1.out HB.out)
         by_cases h253 : 253 < O.size
         · have t4 : decide ((253 : Int) < (O.size : Int)) = true := dcT (by omega)
           rw [if_pos h253] at hR
           have HF := hid (HFF.out _ wr hR.symm HBB.out)
           unfold raV at HF
           clear hR hnm hlt hj
           go_wp2
           (try simp only [Exit.inBlock, Exit.then]); refine bodyPost_ret (results_tmp3 rfl _ _ _) rfl ?_
           exact HF.out
         · have t4 : decide ((253 : Int) < (O.size : Int)) = false := dcF (by omega)
           rw [if_neg h253] at hR
           have HF := hid (HFF.out _ wr hR.symm HBB.out)
           unfold raV at HF
           dsimp only at HF
           rw [HOO.out] at HF
           clear hR hnm hlt hj
           go_wp2
           (try simp only [Exit.inBlock, Exit.then]); refine bodyPost_ret (results_tmp3 rfl _ _ _) rfl ?_
           exact HF.out
theorem rname_any (s : ByteArray) (w : World) (hs : s.size ≤ 1000000) : Calls Tryz.prog 65 #[.string s] w fun e w' => e = .returned (raV (nameL (bytesN s))) ∧ Below w.heap.size w w' := rname_core s _ w hs rfl
end Go.Proofs.YtbeodjipdpcaiaaGreatDoor
