/- Texts put together. -/
import Derived.Test.YtbeodjipdpcaiaaGreatDoorYUrw1s
import Derived.Test.YtbeodjipdpcaiaaGreatDoorYCut0s
namespace Go.Proofs.YtbeodjipdpcaiaaGreatDoor
section
open Go.RowKit
def UsPost (w : World) (r : Ch (List Nat)) (e : Ending) (w' : World) : Prop := Below w.heap.size w w' ∧ match r with
 | .ok l => e = .returned (.tuple #[.string (bytesL l), .nilIface])
 | .er c => ∃ u, e = .returned (.tuple #[.string ⟨#[]⟩, u]) ∧ Er w' u c
theorem schemeL_bad {b : List Nat} {k p : Nat} (h : schE (untilA [58] b) = (k + 1, p)) : schemeL b = .er [(20, (p : Int)), (((k + 1 : Nat) : Int), (p : Int))] := by
 unfold schemeL; rw [h]
theorem schemeL_good {b : List Nat} {p : Nat} (h : schE (untilA [58] b) = (0, p)) : schemeL b = if untilB [58] b = [] then .er [(20, (b.length : Int))] else .ok ((untilA [58] b).map lowN) := by
 unfold schemeL; rw [h]
/-- What strings.Cut gives at a colon. -/
theorem ucut_any (s : ByteArray) (w : World) (hs : s.size ≤ 1000000) (hM : MaxT w) : ∃ (B : ByteArray) (ok : Bool), ok = decide (untilB [58] (bytesN s) ≠ []) ∧ Calls Tryz.prog 85 #[.string s, .string ⟨#[58]⟩] w fun e w' => e = .returned (.tuple #[.string (bytesL (untilA [58] (bytesN s))), .string B, .bool ok]) ∧ ∃ n, w' = w.drewN n := by
 have hCUT := Tryz.strings_Cut s ⟨#[58]⟩ _ w (by omega) hM.2.choose_spec
 rw [show ((⟨#[58]⟩ : ByteArray).data.toList) = [58] from rfl] at hCUT
 rcases cut_one s 58 with ⟨h1, h2, h3⟩ | ⟨h1, h3⟩
 · rw [h3] at hCUT
   have e1 : (⟨s.data.toList.toArray⟩ : ByteArray) = s := by cases s; simp
   simp only [e1] at hCUT
   have h1' : untilB [58] (bytesN s) = [] := h1
   have h2' : untilA [58] (bytesN s) = bytesN s := h2
   exact ⟨_, _, by rw [h1'], by rw [h2', bytesL_bytesN]; exact hCUT⟩
 · rw [h3] at hCUT
   have h1' : untilB [58] (bytesN s) ≠ [] := h1
   simp only [list_take] at hCUT
   have e2 : (bytesN s).take (untilA [58] (bytesN s)).length = untilA [58] (bytesN s) := (until_take _ _).symm
   have e3 : (58 : UInt8).toNat = 58 := rfl
   rw [e3, e2] at hCUT
   exact ⟨_, true, by rw [decide_eq_true h1'], hCUT⟩
set_option maxRecDepth 100000 in
set_option maxHeartbeats 4000000 in
/-- url.Scheme -/
theorem uscheme_any (s : ByteArray) (w : World) (hs : s.size ≤ 1000000) (hM : MaxT w) (hG : Glob w) : Calls Tryz.prog 31 #[.string s] w (UsPost w (schemeL (bytesN s))) := by
 obtain ⟨B, ok, hok, CUT⟩ := ucut_any s w hs hM
 have hNb : ByteL (untilA [58] (bytesN s)) := fun c hc => bytesN_lt s c (by rw [until_take] at hc; exact List.mem_of_mem_take hc)
 have hNz : (bytesL (untilA [58] (bytesN s))).size ≤ 1000000 := by
  have := until_len [58] (bytesN s)
  rw [bytesL_size]; rw [bytesN_len] at this; omega
 have hBN := bytesN_bytesL hNb
 have SC := fun W => ischeme_any (bytesL (untilA [58] (bytesN s))) W hNz
 have LW := fun W => lower_any (bytesL (untilA [58] (bytesN s))) W hNz
 unfold schR at SC
 rw [hBN] at SC LW
 obtain ⟨N, hN⟩ : ∃ N, bytesL (untilA [58] (bytesN s)) = N := ⟨_, rfl⟩
 rw [hN] at CUT SC LW
 have HC := Lib.hid CUT
 have HM := Lib.hid hM; have HG := Lib.hid hG
 clear CUT hM hG hNb hNz hBN hN
 match hsch : schE (untilA [58] (bytesN s)) with
 | (k + 1, p) =>
   rw [schemeL_bad hsch]
   rw [hsch] at SC
   obtain ⟨K, hK⟩ : ∃ K : Int, (((k + 1 : Nat) : Int)) = K := ⟨_, rfl⟩
   simp only [hK] at SC
   rw [hK]
   have SCH := Lib.hid SC
   clear SC LW hsch hok hK
   go_enter Tryz.func31, Tryz.ntmps31
   go_wp2_with fail
   refine HC.out.mono ?_
   rintro e w1 ⟨rfl, n, rfl⟩
   have hb1 : Below w.heap.size w (w.drewN n) := ext_drewN n (Below.refl _ _)
   have HG1 := Lib.hid (HG.out.ext hb1)
   have HB1 := Lib.hid hb1
   obtain ⟨W1, hW1⟩ : ∃ W, w.drewN n = W := ⟨_, rfl⟩
   rw [hW1] at HG1 HB1 ⊢
   clear hb1 hW1
   go_wp2_with fail
   refine (SCH.out _).mono ?_
   rintro e w2 ⟨v, rfl, hE, hb2⟩
   have PL := Lib.hid (uplace_any _ _ _ _ w2 (HG1.out.ext hb2) hE)
   have HE := Lib.hid hE; have HB2 := Lib.hid (ext_trans HB1.out hb2)
   obtain ⟨b, off, u2, rfl, _⟩ := fault_inv hE
   clear hE hb2
   go_wp2_with fail
   refine PL.out.mono ?_
   rintro e w3 ⟨rfl, hb3⟩
   have hE3 := HE.out.ext hb3
   have WR := Lib.hid (wrap_any 20 p _ _ w3 hE3)
   have HF := Lib.hid (Rd.fault (k := 20) (a := p) hE3)
   have HB := Lib.hid (ext_alloc (ext_trans HB2.out hb3) (.cells #[.int .i64 20, .int .i64 p, .iface 119 (.pointer (some ⟨b, off, none⟩))] 123))
   clear hE3 hb3
   go_wp2_with fail
   refine WR.out.mono ?_
   rintro e w4 ⟨rfl, rfl⟩
   go_wp2
   go_ret2
   exact ⟨HB.out, _, rfl, HF.out⟩
 | (0, p) =>
   rw [schemeL_good hsch]
   rw [hsch] at SC
   have SCH : Hid (∀ W, Calls Tryz.prog 86 #[.string N] W fun e w' => e = .returned .nilIface ∧ Below W.heap.size W w') := Lib.hid (fun W => (SC W).mono (by
    rintro e w' ⟨v, rfl, hE, hb⟩
    exact ⟨by rw [Er.of_nil hE], hb⟩))
   have LWH := Lib.hid LW
   clear SC LW hsch
   by_cases h0 : untilB [58] (bytesN s) = []
   · rw [if_pos h0, bytesN_len]
     rw [decide_eq_false (by simpa using h0)] at hok
     subst hok
     clear h0
     go_enter Tryz.func31, Tryz.ntmps31
     go_wp2_with fail
     refine HC.out.mono ?_
     rintro e w1 ⟨rfl, n, rfl⟩
     have hb1 : Below w.heap.size w (w.drewN n) := ext_drewN n (Below.refl _ _)
     have HB1 := Lib.hid hb1
     obtain ⟨W1, hW1⟩ : ∃ W, w.drewN n = W := ⟨_, rfl⟩
     rw [hW1] at HB1 ⊢
     clear hb1 hW1
     go_wp2_with fail
     refine (SCH.out _).mono ?_
     rintro e w2 ⟨rfl, hb2⟩
     have HB2 := Lib.hid (ext_trans HB1.out hb2)
     clear hb2
     go_wp2_with fail
     go_at_call 44
     refine (fail_any _ _ _).mono ?_
     rintro e w3 ⟨rfl, rfl⟩
     have hF := failed_er (failed_of (w := w2) (w0 := w2) (k := 20) (i := s.size) (Below.refl _ _) rfl)
     have HF := Lib.hid hF.1
     have HB := Lib.hid (ext_trans HB2.out hF.2)
     clear hF
     go_wp2
     go_ret2
     exact ⟨HB.out, _, rfl, HF.out⟩
   · rw [if_neg h0]
     rw [decide_eq_true h0] at hok
     subst hok
     obtain ⟨Z, hZ⟩ : ∃ Z, bytesL ((untilA [58] (bytesN s)).map lowN) = Z := ⟨_, rfl⟩
     rw [hZ] at LWH
     have HZ := Lib.hid hZ
     clear h0 hZ
     go_enter Tryz.func31, Tryz.ntmps31
     go_wp2_with fail
     refine HC.out.mono ?_
     rintro e w1 ⟨rfl, n, rfl⟩
     have hb1 : Below w.heap.size w (w.drewN n) := ext_drewN n (Below.refl _ _)
     have HB1 := Lib.hid hb1
     obtain ⟨W1, hW1⟩ : ∃ W, w.drewN n = W := ⟨_, rfl⟩
     rw [hW1] at HB1 ⊢
     clear hb1 hW1
     go_wp2_with fail
     refine (SCH.out _).mono ?_
     rintro e w2 ⟨rfl, hb2⟩
     have HB2 := Lib.hid (ext_trans HB1.out hb2)
     clear hb2
     go_wp2_with fail
     refine (LWH.out _).mono ?_
     rintro e w3 ⟨rfl, hb3⟩
     have HB := Lib.hid (ext_trans HB2.out hb3)
     clear hb3
     go_wp2
     go_ret2
     exact ⟨HB.out, by show _ = Ending.returned (.tuple #[.string (bytesL _), .nilIface]); rw [HZ.out]; rfl⟩
end
section
open Go.RowKit
theorem ixN_mem (k : Nat) : ∀ l : List Nat, decide (0 ≤ ixN k l) = l.contains k
 | [] => by rw [ixN_nil]; rfl
 | c :: l => by
   have ih := ixN_mem k l
   rw [ixN_cons, List.contains_cons]
   by_cases h : c = k
   · rw [if_pos h, h]; simp
   · rw [if_neg h, ← ih, beq_eq_false_iff_ne.2 (Ne.symm h), Bool.false_or]
     by_cases h2 : ixN k l = -1
     · rw [if_pos h2, h2]
     · rw [if_neg h2]
       refine decide_eq_decide.2 ?_
       have : -1 ≤ ixN k l := by unfold ixN; split <;> omega
       omega
theorem until_pre {m l : List Nat} {j : Nat} (h : ∀ c ∈ l.take j, m.contains c = false) : untilA m l = l.take j ++ untilA m (l.drop j) ∧ untilB m l = untilB m (l.drop j) := by
 have h' : ∀ c ∈ l.take j, notIn m c = true := fun c hc => by unfold notIn; rw [h c hc]; rfl
 have e := List.take_append_drop j l
 constructor
 · have := List.takeWhile_append_of_pos (l₂ := l.drop j) h'
   rw [e] at this; exact this
 · have := List.dropWhile_append_of_pos (l₂ := l.drop j) h'
   rw [e] at this; exact this
theorem take_bytes {s : ByteArray} {m : List Nat} {j : Nat} (hj : j ≤ s.size) (h : ∀ i, i < j → m.contains (byteAt s i) = false) : ∀ c ∈ (bytesN s).take j, m.contains c = false := fun c hc => by
 obtain ⟨i, hi, rfl⟩ := List.mem_iff_getElem.1 hc
 rw [List.length_take, bytesN_len] at hi
 rw [List.getElem_take]
 have hg := bytesN_get (B := s) (i := i) (by omega)
 rw [List.getElem?_eq_getElem (by rw [bytesN_len]; omega)] at hg
 rw [Option.some.inj hg]
 exact h i (by omega)
theorem until_hit_at {s : ByteArray} {m : List Nat} {j : Nat} (hj : j < s.size) (h : ∀ i, i < j → m.contains (byteAt s i) = false) (hc : m.contains (byteAt s j) = true) : untilA m (bytesN s) = (bytesN s).take j ∧ untilB m (bytesN s) = (bytesN s).drop j := by
 obtain ⟨e1, e2⟩ := until_pre (take_bytes (Nat.le_of_lt hj) h)
 rw [e1, e2, bytesN_getD hj]
 unfold untilA untilB
 have hn : notIn m (byteAt s j) = false := by unfold notIn; rw [hc]; rfl
 rw [List.takeWhile_cons, List.dropWhile_cons, hn]
 simp
theorem until_miss_at {s : ByteArray} {m : List Nat} (h : ∀ i, i < s.size → m.contains (byteAt s i) = false) : untilA m (bytesN s) = bytesN s ∧ untilB m (bytesN s) = [] := by
 have hh := take_bytes (Nat.le_refl _) h
 rw [List.take_of_length_le (by rw [bytesN_len]; exact Nat.le_refl _)] at hh
 exact until_free hh
/-- What url.until gives. -/
def UtlPost (s : ByteArray) (m : List Nat) (w : World) (e : Ending) (w' : World) : Prop := e = .returned (.tuple #[.string (bytesL (untilA m (bytesN s))), .string (bytesL (untilB m (bytesN s)))]) ∧ Below w.heap.size w w'
def UtlRel (s : ByteArray) (m : List Nat) (w : World) (iv : Value) (wr : World) : Prop := ∃ j : Nat, iv = .int .i64 j ∧ j ≤ s.size ∧ (∀ i, i < j → m.contains (byteAt s i) = false) ∧ wr = w
set_option maxRecDepth 100000 in
set_option maxHeartbeats 4000000 in
/-- url.until -/
theorem until_any (s marks : ByteArray) (m : List Nat) (w : World) (hm : bytesN marks = m) (hs : s.size ≤ 1000000) (_hmz : marks.size ≤ 1000) : Calls Tryz.prog 143 #[.string s, .string marks] w (UtlPost s m w) := by
 have IB : ∀ (c : Nat) W, c < 256 → ∃ Z : Int, decide (0 ≤ Z) = m.contains c ∧ Calls Tryz.prog 75 #[.string marks, .int .u8 c] W fun e w' => e = .returned (.int .i64 Z) ∧ w' = W := fun c W hc => by
  have K := Tryz.strings_IndexByte marks (c : Int) W
  rw [ixB_eq] at K
  have e1 : ((c : Int).toNat.toUInt8).toNat = c := by simp; omega
  have e2 : marks.data.toList.map (·.toNat) = m := hm
  rw [e1, e2] at K
  exact ⟨_, ixN_mem c m, K.mono (by rintro e w' ⟨rfl, h⟩; exact ⟨rfl, h⟩)⟩
 have HIB := Lib.hid IB
 obtain ⟨Q, hQ⟩ : ∃ Q, UtlPost s m w = Q := ⟨_, rfl⟩
 rw [hQ]
 have HQ := Lib.hid hQ
 clear IB hm hQ
 go_enter Tryz.func143, Tryz.ntmps143
 go_wp2_with fail
 go_loopw [9] (UtlRel s m w) (fun i _ => s.size - (intOf i).toNat)
 case atStart => exact ⟨0, rfl, Nat.zero_le _, fun i h => by omega, rfl⟩
 case round =>
  obtain ⟨j, rfl, hj, hn, rfl⟩ := hrel
  have HN := Lib.hid hn
  clear hn
  by_cases hlt : j < s.size
  · have t1 : decide ((j : Int) < (s.size : Int)) = true := decide_eq_true (by omega)
    have t1' : decide (j < s.size) = true := decide_eq_true hlt
    have hgb := byteAt_get s j hlt
    have q1 : IntKind.i64.wrap ((j : Int) + 1) = (j : Int) + 1 := IntWalk.i64_in _ (by omega)
    obtain ⟨Z, hZ, hC⟩ := HIB.out (byteAt s j) wr (byteAt_lt s j)
    have HC := Lib.hid hC
    obtain ⟨x, hx⟩ : ∃ x, byteAt s j = x := ⟨_, rfl⟩
    rw [hx] at hgb HC
    have hgx := hgb.symm
    clear hC hgb
    by_cases hc : m.contains (byteAt s j) = true
    · rw [hc] at hZ
      obtain ⟨e1, e2⟩ := until_hit_at hlt HN.out hc
      have x1 : s.extract 0 j = bytesL ((bytesN s).take j) := by rw [extract_bytesL]; simp
      have x2 : s.extract j s.size = bytesL ((bytesN s).drop j) := extract_drop s j
      obtain ⟨A, hA⟩ : ∃ A, bytesL ((bytesN s).take j) = A := ⟨_, rfl⟩
      obtain ⟨B, hB⟩ : ∃ B, bytesL ((bytesN s).drop j) = B := ⟨_, rfl⟩
      have s1 := sl_to s j hj A (by rw [x1, hA])
      have s2 := sl_from s j hj B (by rw [x2, hB])
      have HF : Hid (∀ W, Below wr.heap.size wr W → Q (.returned (.tuple #[.string A, .string B])) W) := Lib.hid (fun W hW => by
       rw [← HQ.out]
       exact ⟨by rw [e1, e2, hA, hB], hW⟩)
      clear e1 e2 x1 x2 hA hB hc hx
      go_wp2_with fail
      refine HC.out.mono ?_
      rintro e w1 ⟨rfl, hw⟩
      have hw' := hw.symm
      subst hw'
      clear hw
      go_wp2_with fail
      go_quiet (fail)
      go_wp2
      exact HF.out _ (ext_drewN _ (Below.refl _ _))
    · have hc' : m.contains (byteAt s j) = false := by simpa using hc
      rw [hc'] at hZ
      have R : UtlRel s m wr (.int .i64 ((j : Int) + 1)) wr := ⟨j + 1, by go_num, hlt, fun i hi => by
       by_cases h : i < j
       · exact HN.out i h
       · obtain rfl : i = j := by omega
         exact hc', rfl⟩
      have HR := Lib.hid R
      clear R hc hc' hx
      go_wp2_with fail
      refine HC.out.mono ?_
      rintro e w1 ⟨rfl, hw⟩
      have hw' := hw.symm
      subst hw'
      clear hw
      go_wp2
      refine ⟨?_, by simp [intOf]; omega⟩
      have R := HR.out
      first | exact R | ((repeat apply Exists.intro); exact ⟨R, rfl⟩)
  · have t1 : decide ((j : Int) < (s.size : Int)) = false := decide_eq_false (by omega)
    have t1' : decide (j < s.size) = false := decide_eq_false hlt
    obtain rfl : j = s.size := by omega
    obtain ⟨e1, e2⟩ := until_miss_at HN.out
    have HF : Hid (∀ W, Below wr.heap.size wr W → Q (.returned (.tuple #[.string s, .string ⟨#[]⟩])) W) := Lib.hid (fun W hW => by
     rw [← HQ.out]
     exact ⟨by rw [e1, e2, bytesL_bytesN]; rfl, hW⟩)
    clear e1 e2 hlt
    go_wp2
    exact HF.out _ (Below.refl _ _)
/-- A right text's bytes, or the place of the first wrong one. -/
def UplPost (w : World) (r : Option Nat) (e : Ending) (w' : World) : Prop := Below w.heap.size w w' ∧ match r with
 | none => e = .returned .nilIface
 | some i => ∃ u, e = .returned u ∧ Er w' u [(11, (i : Int))]
def UplRel (s : ByteArray) (W : World) (iv : Value) (wr : World) : Prop := ∃ j : Nat, iv = .int .i64 j ∧ j ≤ s.size ∧ (∀ i, i < j → badB (bytesN s) i = false) ∧ wr = W
theorem badB_at (s : ByteArray) (i : Nat) : badB (bytesN s) i = decide (byteAt s i ≤ 32 ∨ byteAt s i = 127) := by unfold badB; rw [← byteAt_bytesN]
set_option maxRecDepth 100000 in
set_option maxHeartbeats 4000000 in
/-- url.plain -/
theorem uplain_any (s : ByteArray) (w : World) (hs : s.size ≤ 1000000) : Calls Tryz.prog 74 #[.string s] w (UplPost w ((List.range s.size).find? (badB (bytesN s)))) := by
 obtain ⟨W0, cap, hcv, hcap, hb0, hz0, hcell⟩ := bytes_of_string s w
 obtain ⟨R, hR⟩ : ∃ R, (List.range s.size).find? (badB (bytesN s)) = R := ⟨_, rfl⟩
 rw [hR]
 have HRR := Lib.hid hR; have HC := Lib.hid hcell; have HB0 := Lib.hid hb0
 clear hR hcell hb0 hcap
 obtain ⟨X, hX⟩ : ∃ X, w.heap.size = X := ⟨_, rfl⟩
 have HX := Lib.hid hX
 rw [hX] at hcv HC hz0
 clear hX
 go_enter Tryz.func74, Tryz.ntmps74
 go_wp2_with fail
 go_loopw [8] (UplRel s W0) (fun i _ => s.size - (intOf i).toNat)
 case atStart => exact ⟨0, rfl, Nat.zero_le _, fun i h => by omega, rfl⟩
 case round =>
  obtain ⟨j, rfl, hj, hn, rfl⟩ := hrel
  have HN := Lib.hid hn
  clear hn hcv
  by_cases hlt : j < s.size
  · have t1 : decide ((j : Int) < (s.size : Int)) = true := decide_eq_true (by omega)
    have t1' : decide (j < s.size) = true := decide_eq_true hlt
    have q1 : IntKind.i64.wrap ((j : Int) + 1) = (j : Int) + 1 := IntWalk.i64_in _ (by omega)
    have c0 := HC.out j hlt
    have hbad := badB_at s j
    generalize byteAt s j = c at *
    have fin : badB (bytesN s) j = true → Hid (R = some j) := fun hb => Lib.hid (by
     rw [← HRR.out, List.find?_range_eq_some]
     exact ⟨hb, List.mem_range.2 hlt, fun m hm => by simp [HN.out m hm]⟩)
    have nxt : badB (bytesN s) j = false → Hid (UplRel s wr (.int .i64 ((j : Int) + 1)) wr) := fun hb => Lib.hid ⟨j + 1, by go_num, hlt, fun i hi => by
     by_cases h : i < j
     · exact HN.out i h
     · obtain rfl : i = j := by omega
       exact hb, rfl⟩
    have HFIN := Lib.hid fin; have HNXT := Lib.hid nxt
    clear fin nxt
    have bad : badB (bytesN s) j = true → ∀ w3 u, Er w3 u [((11 : Int), (j : Int))] → Below wr.heap.size wr w3 → UplPost w R (.returned u) w3 := fun hb w3 u hE hB => by
     rw [(HFIN.out hb).out]
     exact ⟨ext_trans HB0.out hB, u, rfl, hE⟩
    have HBAD := Lib.hid bad
    clear bad
    by_cases h32 : c ≤ 32
    · have t2 : decide ((c : Int) ≤ 32) = true := decide_eq_true (by omega)
      have HBB := Lib.hid (HBAD.out (by rw [hbad]; exact decide_eq_true (.inl h32)))
      clear hbad h32 HFIN HNXT HBAD
      go_wp2_with fail
      go_at_call 44
      refine (fail_any _ _ _).mono ?_
      rintro e w3 ⟨rfl, rfl⟩
      have hF := failed_er (failed_of (w := wr) (w0 := wr) (k := 11) (i := j) (Below.refl _ _) rfl)
      have HF := Lib.hid (HBB.out _ _ hF.1 hF.2)
      clear hF
      go_wp2
      go_ret
      exact HF.out
    · have t2 : decide ((c : Int) ≤ 32) = false := decide_eq_false (by omega)
      by_cases h127 : c = 127
      · have t3 : ((c : Int) == 127) = true := beq_iff_eq.2 (by omega)
        have HBB := Lib.hid (HBAD.out (by rw [hbad]; exact decide_eq_true (.inr h127)))
        clear hbad h32 h127 HFIN HNXT HBAD
        go_wp2_with fail
        go_at_call 44
        refine (fail_any _ _ _).mono ?_
        rintro e w3 ⟨rfl, rfl⟩
        have hF := failed_er (failed_of (w := wr) (w0 := wr) (k := 11) (i := j) (Below.refl _ _) rfl)
        have HF := Lib.hid (HBB.out _ _ hF.1 hF.2)
        clear hF
        go_wp2
        go_ret
        exact HF.out
      · have t3 : ((c : Int) == 127) = false := beq_eq_false_iff_ne.2 (by omega)
        have HR := HNXT.out (by rw [hbad]; exact decide_eq_false (by omega))
        clear hbad h32 h127 HFIN HNXT HBAD
        go_wp2
        refine ⟨?_, by simp [intOf]; omega⟩
        have R := HR.out
        first | exact R | ((repeat apply Exists.intro); exact ⟨R, rfl⟩)
  · have t1 : decide ((j : Int) < (s.size : Int)) = false := decide_eq_false (by omega)
    have t1' : decide (j < s.size) = false := decide_eq_false hlt
    obtain rfl : j = s.size := by omega
    have hnone : R = none := by
     rw [← HRR.out, List.find?_range_eq_none]
     exact fun m hm => by simp [HN.out m hm]
    have HE := Lib.hid hnone
    clear hnone hlt
    go_wp2
    go_ret
    rw [HE.out]
    exact ⟨HB0.out, rfl⟩
theorem pctF_no : ∀ (f : Nat) (l : List Nat) (i : Nat) (acc : List (Nat × Bool)) (k : Nat) (p : Int), pctF f l i acc = .no k p → ∃ j : Nat, p = ((i + j : Nat) : Int) ∧ j ≤ 3 * l.length
 | 0, l, i, acc, k, p, h => by rw [pctF] at h; cases h
 | f + 1, [], i, acc, k, p, h => by rw [pctF] at h; cases h
 | f + 1, c :: l, i, acc, k, p, h => by
   rw [pctF] at h
   split at h
   · split at h
     · injection h with _ h2
       exact ⟨0, h2.symm, Nat.zero_le _⟩
     · obtain ⟨j, h1, h2⟩ := pctF_no f _ _ _ _ _ h
       rw [List.length_drop] at h2
       exact ⟨3 + j, by rw [h1, Nat.add_assoc], by simp only [List.length_cons]; omega⟩
   · obtain ⟨j, h1, h2⟩ := pctF_no f _ _ _ _ _ h
     exact ⟨1 + j, by rw [h1, Nat.add_assoc], by simp only [List.length_cons]; omega⟩
theorem pct_no_place {s : ByteArray} {k : Nat} {p : Int} (hs : s.size ≤ 1000000) (h : pctL (bytesN s) = .no k p) : ∃ j : Nat, p = (j : Int) ∧ j ≤ 3000000 := by
 obtain ⟨j, h1, h2⟩ := pctF_no _ _ _ _ _ _ h
 rw [bytesN_len] at h2
 exact ⟨0 + j, h1, by omega⟩
set_option maxRecDepth 100000 in
set_option maxHeartbeats 4000000 in
/-- url.normal -/
theorem unormal_any (s : ByteArray) (at_ : Nat) (w : World) (hs : s.size ≤ 1000000) (ha : at_ ≤ 1000000) (hG : Glob w) : Calls Tryz.prog 79 #[.string s, .int .i64 at_] w (UsPost w (normalL (bytesN s) at_)) := by
 have NM := pnormal_any s w hs
 unfold normalL
 cases hr : pctL (bytesN s) with
 | ok l =>
   rw [hr] at NM
   obtain ⟨Z, hZ⟩ : ∃ Z, bytesL (normL l) = Z := ⟨_, rfl⟩
   have NM2 : Hid (Calls Tryz.prog 145 #[.string s] w fun e w' => Below w.heap.size w w' ∧ e = .returned (.tuple #[.string Z, .nilIface])) := Lib.hid (by rw [← hZ]; exact NM)
   have HZ := Lib.hid hZ
   clear NM hr hZ
   go_enter Tryz.func79, Tryz.ntmps79
   go_wp2_with fail
   refine NM2.out.mono ?_
   rintro e w1 ⟨hb1, rfl⟩
   have HB1 := Lib.hid hb1
   clear hb1
   go_wp2
   go_ret2
   exact ⟨HB1.out, by show _ = Ending.returned (.tuple #[.string (bytesL _), .nilIface]); rw [HZ.out]; rfl⟩
 | no k i =>
   rw [hr] at NM
   obtain ⟨i', hi'⟩ := pct_no_place hs hr
   obtain ⟨rfl, hi2⟩ := hi'
   have NM2 := Lib.hid NM
   have q1 : IntKind.i64.wrap ((at_ : Int) + (i' : Int)) = (at_ : Int) + (i' : Int) := IntWalk.i64_in _ (by omega)
   have HG := Lib.hid hG
   clear NM hr hi2 hG
   go_enter Tryz.func79, Tryz.ntmps79
   go_wp2_with fail
   refine NM2.out.mono ?_
   rintro e w1 ⟨hb1, u, rfl, hE⟩
   have PL := Lib.hid (uplace_any _ _ _ _ w1 (HG.out.ext hb1) hE)
   have HE := Lib.hid hE; have HB1 := Lib.hid hb1
   obtain ⟨b, off, u2, rfl, _⟩ := fault_inv hE
   clear hE hb1
   go_wp2_with fail
   refine PL.out.mono ?_
   rintro e w2 ⟨rfl, hb2⟩
   have hE2 := HE.out.ext hb2
   have WR := Lib.hid (wrap_any 11 ((at_ : Int) + (i' : Int)) _ _ w2 hE2)
   have HF := Lib.hid (Rd.fault (k := 11) (a := (at_ : Int) + (i' : Int)) hE2)
   have HB := Lib.hid (ext_alloc (ext_trans HB1.out hb2) (.cells #[.int .i64 11, .int .i64 ((at_ : Int) + (i' : Int)), .iface 119 (.pointer (some ⟨b, off, none⟩))] 123))
   clear hE2 hb2
   go_wp2_with fail
   refine WR.out.mono ?_
   rintro e w4 ⟨rfl, rfl⟩
   go_wp2
   go_ret2
   exact ⟨HB.out, _, rfl, HF.out⟩
end
end Go.Proofs.YtbeodjipdpcaiaaGreatDoor
