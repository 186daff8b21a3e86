/- Texts put together. -/
import Derived.Test.YtbeodjipdpcaiaaGreatDoorYQuw1s
set_option maxRecDepth 100000
set_option maxHeartbeats 4000000
namespace Go.Proofs.YtbeodjipdpcaiaaGreatDoor
section
open Go.RowKit
def amongC (base : Nat) : ByteArray := if base = 16 then hexC else if base = 8 then octC else decC
theorem octC_tab : ∀ c : Fin 256, (bytesN octC).contains c.val = octD c.val := by decide +kernel
theorem among_tab (base c : Nat) (hc : c < 256) : (bytesN (amongC base)).contains c = amongD base c := by
 unfold amongC amongD
 split
 · exact hexC_tab ⟨c, hc⟩
 · split
   · exact octC_tab ⟨c, hc⟩
   · exact decC_tab ⟨c, hc⟩
theorem among_ib (base c : Nat) (hc : c < 256) : decide (ibV (bytesN (amongC base)) c < 0) = !(amongD base c) := by
 rw [← among_tab base c hc, ← ibV_in]
 by_cases h : 0 ≤ ibV (bytesN (amongC base)) c
 · rw [dcT h, dcF (by omega)]; rfl
 · rw [dcF h, dcT (by omega)]; rfl
theorem among_hex {base c : Nat} (h : amongD base c = true) : digV c < 16 := by
 refine (hexD_dig c).1 ?_
 unfold amongD at h
 split at h
 · exact h
 · split at h
   · unfold octD at h; unfold hexD; simp at h ⊢; omega
   · unfold decD at h; unfold hexD; simp at h ⊢; omega
def digS (s : ByteArray) : ByteArray := bytesL ((bytesN s).drop (baseL (bytesN s)).2)
theorem extract_drop (s : ByteArray) (k : Nat) : s.extract k s.size = bytesL ((bytesN s).drop k) := by
 rw [extract_bytesL, List.take_of_length_le (by rw [List.length_drop, bytesN_len]; exact Nat.le_refl _)]
def PartPost (s : ByteArray) (w : World) (e : Ending) (w' : World) : Prop := e = .returned (.tuple #[.string (digS s), .int .i64 ((baseL (bytesN s)).2 : Nat), .string (amongC (baseL (bytesN s)).1)]) ∧ w' = w
theorem part_any (s : ByteArray) (w : World) (hs : s.size ≤ 1000000) : Calls Tryz.prog 178 #[.string s] w (PartPost s w) := by
 have HX := hexed_any s w hs
 obtain ⟨Q, hQ⟩ : ∃ Q, PartPost s w = Q := ⟨_, rfl⟩
 rw [hQ]
 have HQ := hid hQ
 clear hQ
 cases hh : hexedL (bytesN s) with
 | true =>
   have hb : baseL (bytesN s) = (16, 2) := by unfold baseL; rw [if_pos hh]
   have hr : hexedR (bytesN s) = digS s := by unfold hexedR digS; rw [if_pos hh, hb]
   have HF : Hid (Q (.returned (.tuple #[.string (digS s), .int .i64 2, .string ⟨#[48, 49, 50, 51, 52, 53, 54, 55, 56, 57, 97, 98, 99, 100, 101, 102, 65, 66, 67, 68, 69, 70]⟩])) w) := hid (by rw [← HQ.out]; exact ⟨by rw [hb]; rfl, rfl⟩)
   rw [hh, hr] at HX
   obtain ⟨D, hD⟩ : ∃ D, digS s = D := ⟨_, rfl⟩
   rw [hD] at HX HF
   have HX := hid HX
   clear hb hr hD hh
   go_enter Tryz.func178, Tryz.ntmps178
   go_wp2_with fail
   refine HX.out.mono ?_
   rintro e w1 ⟨rfl, hw1⟩
   have hw1' := hw1.symm
   subst hw1'
   clear hw1
   go_wp2
   exact bodyPost_ret (v := .tuple #[.string D, .int .i64 2, .string ⟨#[48, 49, 50, 51, 52, 53, 54, 55, 56, 57, 97, 98, 99, 100, 101, 102, 65, 66, 67, 68, 69, 70]⟩]) (by simp [results, Tryz.results178, go_sem]) rfl HF.out
 | false =>
   rw [hh] at HX
   obtain ⟨R, hR⟩ : ∃ R, hexedR (bytesN s) = R := ⟨_, rfl⟩
   rw [hR] at HX
   have HX := hid HX
   clear hR
   have heq : (1 < (bytesN s).length ∧ (bytesN s)[0]?.getD 0 = 48) ↔ (1 < s.size ∧ byteAt s 0 = 48) := by rw [bytesN_len, ← byteAt_bytesN]
   have hno : ¬ (1 < s.size ∧ byteAt s 0 = 48) → Q (.returned (.tuple #[.string s, .int .i64 0, .string ⟨#[48, 49, 50, 51, 52, 53, 54, 55, 56, 57]⟩])) w := fun h => by
    have hb : baseL (bytesN s) = (10, 0) := by unfold baseL; rw [if_neg (by rw [hh]; decide), if_neg (fun hc => h (heq.1 hc))]
    rw [← HQ.out]
    refine ⟨?_, rfl⟩
    unfold digS
    rw [hb, List.drop_zero, bytesL_bytesN]; rfl
   by_cases h1 : 1 < s.size
   · have u1 : decide ((1 : Int) < (s.size : Int)) = true := dcT (by omega)
     have u1' : decide (1 < s.size) = true := dcT h1
     have h0 : 0 < s.size := Nat.lt_of_succ_lt h1
     have u0' : decide (0 < s.size) = true := dcT h0
     have hg0 : (s[0]'h0).toNat = byteAt s 0 := (byteAt_get s 0 h0).symm
     obtain ⟨x0, hx0⟩ : ∃ x, byteAt s 0 = x := ⟨_, rfl⟩
     rw [hx0] at hg0 heq hno
     by_cases h48 : x0 = 48
     · have t2 : ((x0 : Int) == 48) = true := by rw [h48]; rfl
       have hb : baseL (bytesN s) = (8, 1) := by unfold baseL; rw [if_neg (by rw [hh]; decide), if_pos (heq.2 ⟨h1, h48⟩)]
       have sl : ∀ W, (Instr.slice 9 (.string s) (some (.int .i64 1)) none none).run Tryz.prog W = .ok (.string (digS s)) W := fun W => sl_from s 1 (by omega) _ (by unfold digS; rw [hb]; exact extract_drop s 1) W
       have HF : Hid (Q (.returned (.tuple #[.string (digS s), .int .i64 1, .string ⟨#[48, 49, 50, 51, 52, 53, 54, 55]⟩])) w) := hid (by rw [← HQ.out]; exact ⟨by rw [hb]; rfl, rfl⟩)
       obtain ⟨D, hD⟩ : ∃ D, digS s = D := ⟨_, rfl⟩
       rw [hD] at sl HF
       clear hb hD hh heq hno h48 hx0 h1 hs
       go_enter Tryz.func178, Tryz.ntmps178
       go_wp2_with fail
       refine HX.out.mono ?_
       rintro e w1 ⟨rfl, hw1⟩
       have hw1' := hw1.symm
       subst hw1'
       clear hw1
       go_wp2
       exact bodyPost_ret (v := .tuple #[.string D, .int .i64 1, .string ⟨#[48, 49, 50, 51, 52, 53, 54, 55]⟩]) (by simp [results, Tryz.results178, go_sem]) rfl HF.out
     · have t2 : ((x0 : Int) == 48) = false := bneI.2 (by omega)
       have HF := hid (hno (fun h => h48 h.2))
       clear hh heq hno h48 hx0 h1 hs
       go_enter Tryz.func178, Tryz.ntmps178
       go_wp2_with fail
       refine HX.out.mono ?_
       rintro e w1 ⟨rfl, hw1⟩
       have hw1' := hw1.symm
       subst hw1'
       clear hw1
       go_wp2
       exact bodyPost_ret (v := .tuple #[.string s, .int .i64 0, .string ⟨#[48, 49, 50, 51, 52, 53, 54, 55, 56, 57]⟩]) (by simp [results, Tryz.results178, go_sem]) rfl HF.out
   · have u1 : decide ((1 : Int) < (s.size : Int)) = false := dcF (by omega)
     have u1' : decide (1 < s.size) = false := dcF h1
     have HF := hid (hno (fun h => h1 h.1))
     clear hh heq hno h1 hs
     go_enter Tryz.func178, Tryz.ntmps178
     go_wp2_with fail
     refine HX.out.mono ?_
     rintro e w1 ⟨rfl, hw1⟩
     have hw1' := hw1.symm
     subst hw1'
     clear hw1
     go_wp2
     exact bodyPost_ret (v := .tuple #[.string s, .int .i64 0, .string ⟨#[48, 49, 50, 51, 52, 53, 54, 55, 56, 57]⟩]) (by simp [results, Tryz.results178, go_sem]) rfl HF.out
theorem hex_one {D : ByteArray} {j : Nat} (hj : j < D.size) (hd : digV (byteAt D j) < 16) : numberF 16 15 (D.extract j (j + 1)) = .ok (digV (byteAt D j)) := by
 have hz : (D.extract j (j + 1)).size = 1 := by simp; omega
 have e0 : byteAt (D.extract j (j + 1)) 0 = byteAt D j := byteAt_ext1 (by omega)
 have hv : numVal 16 (D.extract j (j + 1)) 1 = digV (byteAt D j) := by
  show 0 * 16 + digV (byteAt _ 0) = _
  rw [e0, Nat.zero_mul, Nat.zero_add]
 rw [numberF_end (by omega) (fun m hm => by
  unfold notDigit
  rw [hz] at hm
  obtain rfl : m = 0 := by omega
  rw [e0]; exact dcF (by omega)), hz, hv, if_neg (by omega)]
theorem valD_snoc (base : Nat) (l : List Nat) (c : Nat) : valD base (l ++ [c]) = valD base l * base + digV c := by unfold valD; rw [List.foldl_append]; rfl
theorem fold_ge (base : Nat) (hb : 1 ≤ base) : ∀ (l : List Nat) (n : Nat), n ≤ l.foldl (fun n c => n * base + digV c) n
 | [], n => Nat.le_refl _
 | c :: l, n => by
   have := fold_ge base hb l (n * base + digV c)
   have h2 : n ≤ n * base := Nat.le_mul_of_pos_right n hb
   rw [List.foldl_cons]; omega
theorem valD_take (base : Nat) (hb : 1 ≤ base) (l : List Nat) (j : Nat) : valD base (l.take j) ≤ valD base l := by
 conv => rhs; rw [← List.take_append_drop j l]
 unfold valD
 rw [List.foldl_append]
 exact fold_ge base hb _ _
def NumA (v : Nat) : Value := if v < 1099511627776 then .tuple #[.int .u64 v, .bool true] else .tuple #[.int .u64 0, .bool false]
def QnRel (base : Nat) (l : List Nat) (w : World) (nv iv : Value) (wr : World) : Prop := ∃ j : Nat, iv = .int .i64 j ∧ j ≤ l.length ∧ nv = .int .u64 (valD base (l.take j) : Nat) ∧ valD base (l.take j) < 1099511627776 ∧ Below w.heap.size w wr
theorem number_hex (s D : ByteArray) (w : World) (hs : s.size ≤ 1000000) (hD : digS s = D) (hz : D.size ≤ 1000000) (hdg : ∀ c ∈ bytesN D, digV c < 16) (hb : (baseL (bytesN s)).1 = 16) : Calls Tryz.prog 110 #[.string s] w fun e w' => e = .returned (NumA (valD 16 (bytesN D))) ∧ Below w.heap.size w w' := by
 have PT := part_any s w hs
 unfold PartPost at PT
 rw [hb, hD] at PT
 obtain ⟨k, hk⟩ : ∃ k, (baseL (bytesN s)).2 = k := ⟨_, rfl⟩
 rw [hk] at PT
 obtain ⟨A, hA⟩ : ∃ A, hexC = A := ⟨_, rfl⟩
 have tA1 : (A.toList == [48, 49, 50, 51, 52, 53, 54, 55, 56, 57, 97, 98, 99, 100, 101, 102, 65, 66, 67, 68, 69, 70]) = true := by rw [← hA, ByteArray.toList_eq]; rfl
 have tA2 : (A.toList == [48, 49, 50, 51, 52, 53, 54, 55, 56, 57]) = false := by rw [← hA, ByteArray.toList_eq]; rfl
 have PT2 : Hid (Calls Tryz.prog 178 #[.string s] w fun e w' => e = .returned (.tuple #[.string D, .int .i64 k, .string A]) ∧ w' = w) := hid (by rw [← hA]; exact PT)
 obtain ⟨V, hV⟩ : ∃ V, NumA (valD 16 (bytesN D)) = V := ⟨_, rfl⟩
 have HV := hid hV
 obtain ⟨Q, hQ⟩ : ∃ Q, (fun (e : Ending) (w' : World) => e = .returned V ∧ Below w.heap.size w w') = Q := ⟨_, rfl⟩
 rw [hV, hQ]
 have HQ := hid hQ
 have hdl : ∀ j, j < D.size → digV (byteAt D j) < 16 ∧ ∀ base, valD base ((bytesN D).take (j + 1)) = valD base ((bytesN D).take j) * base + digV (byteAt D j) := fun j hj => by
  have hg := bytesN_get hj
  refine ⟨hdg _ (List.mem_of_getElem? hg), fun base => ?_⟩
  rw [List.take_add_one, hg]
  exact valD_snoc base _ _
 have HDG := hid hdl
 have hln := bytesN_len D
 obtain ⟨l, hl⟩ : ∃ l, bytesN D = l := ⟨_, rfl⟩
 rw [hl] at HDG HV hln
 obtain ⟨n0, hn0⟩ : ∃ n, D.size = n := ⟨_, rfl⟩
 rw [hn0] at hln hz
 have HLN := hid hln
 clear PT hA hdg hb hD hk hV hQ hdl hl hln hs
 go_enter Tryz.func110, Tryz.ntmps110
 go_wp2_with fail
 refine PT2.out.mono ?_
 rintro e w1 ⟨rfl, hw1⟩
 have hw1' := hw1.symm
 subst hw1'
 clear hw1
 go_wp2_with fail
 go_loopw [2, 24] (QnRel 16 l w) (fun _ k _ => n0 - (intOf k).toNat)
 case atStart => exact ⟨0, rfl, Nat.zero_le _, rfl, by show 0 < _; omega, Below.refl _ _⟩
 case round =>
  obtain ⟨j, rfl, hj, rfl, hv, hb⟩ := hrel
  have HB := hid hb
  clear hb
  by_cases hlt : j < n0
  · obtain ⟨t1, t1'⟩ := ltT j n0 hlt
    have q1 := inc j (by omega)
    have hjD : j < D.size := by omega
    obtain ⟨hdv, hst⟩ := HDG.out j hjD
    obtain ⟨x, hx⟩ : ∃ x, D.extract j (j + 1) = x := ⟨_, rfl⟩
    have sl := sl_both D j (j + 1) (by omega) (by omega) x hx
    have HX := hex_any x 15 wr (by rw [← hx]; simp; omega) (by decide)
    rw [← hx, hex_one hjD hdv, hx] at HX
    have HX := hid HX
    have hsv := hst 16
    obtain ⟨v, hvv⟩ : ∃ v, valD 16 (l.take j) = v := ⟨_, rfl⟩
    rw [hvv] at hsv hv ⊢
    obtain ⟨d, hd⟩ : ∃ d, digV (byteAt D j) = d := ⟨_, rfl⟩
    rw [hd] at hsv hdv HX
    obtain ⟨v2, hv2⟩ : ∃ v2, v * 16 + d = v2 := ⟨_, rfl⟩
    rw [hv2] at hsv
    have q2 : IntKind.u64.wrap ((v : Int) * 16) = (v : Int) * 16 := IntWalk.u64_in _ (by omega)
    have q3 : IntKind.u64.wrap ((v : Int) * 16 + (d : Int)) = (v2 : Int) := by rw [IntWalk.u64_in _ (by omega)]; omega
    have hjj : ((j + 1 : Nat) : Int) = (j : Int) + 1 := by omega
    rw [hjj] at sl
    clear hx hvv hd hv2 hjj
    by_cases h40 : 1099511627776 ≤ v2
    · have t3 : decide ((1099511627776 : Int) ≤ (v2 : Int)) = true := dcT (by omega)
      have t3' : decide (1099511627776 ≤ v2) = true := dcT h40
      have hno : V = .tuple #[.int .u64 0, .bool false] := by
       have := valD_take 16 (by decide) l (j + 1)
       rw [hsv] at this
       rw [← HV.out]
       unfold NumA
       rw [if_neg (by omega)]
      have HNO := hid hno
      clear hno hsv hdv hst h40 hjD hv
      go_wp2_with fail
      refine HX.out.mono ?_
      rintro e w2 ⟨rfl, hb2⟩
      have HB2 := hid (xT HB.out hb2)
      clear hb2
      go_wp2
      rw [← HQ.out, HNO.out]
      exact ⟨rfl, HB2.out⟩
    · have t3 : decide ((1099511627776 : Int) ≤ (v2 : Int)) = false := dcF (by omega)
      have t3' : decide (1099511627776 ≤ v2) = false := dcF h40
      have HRL : Hid (∀ W, Below w.heap.size w W → QnRel 16 l w (.int .u64 (v2 : Nat)) (.int .i64 ((j : Int) + 1)) W) := hid (fun W hW => ⟨j + 1, by go_num, by rw [HLN.out]; exact hlt, by rw [hsv], by rw [hsv]; omega, hW⟩)
      clear hsv hdv hst h40 hjD hv
      go_wp2_with fail
      refine HX.out.mono ?_
      rintro e w2 ⟨rfl, hb2⟩
      have HRL2 := hid (HRL.out _ (xT HB.out hb2))
      clear hb2
      go_wp2
      refine ⟨?_, by simp [intOf] <;> omega⟩
      first | exact HRL2.out | ((repeat apply Exists.intro); exact ⟨HRL2.out, rfl⟩)
  · obtain ⟨t1, t1'⟩ := ltF j n0 hlt
    have hll : l.take j = l := List.take_of_length_le (by rw [HLN.out]; rw [HLN.out] at hj; omega)
    rw [hll] at hv ⊢
    have hyes : V = .tuple #[.int .u64 (valD 16 l : Nat), .bool true] := by
     rw [← HV.out]
     unfold NumA
     rw [if_pos hv]
    have HY := hid hyes
    obtain ⟨v, hvv⟩ : ∃ v, valD 16 l = v := ⟨_, rfl⟩
    rw [hvv] at HY ⊢
    clear hll hyes hvv hv hlt
    go_wp2
    rw [← HQ.out, HY.out]
    exact ⟨rfl, HB.out⟩
theorem number_oct (s D : ByteArray) (w : World) (hs : s.size ≤ 1000000) (hD : digS s = D) (hz : D.size ≤ 1000000) (hdg : ∀ c ∈ bytesN D, digV c < 16) (hb : (baseL (bytesN s)).1 = 8) : Calls Tryz.prog 110 #[.string s] w fun e w' => e = .returned (NumA (valD 8 (bytesN D))) ∧ Below w.heap.size w w' := by
 have PT := part_any s w hs
 unfold PartPost at PT
 rw [hb, hD] at PT
 obtain ⟨k, hk⟩ : ∃ k, (baseL (bytesN s)).2 = k := ⟨_, rfl⟩
 rw [hk] at PT
 obtain ⟨A, hA⟩ : ∃ A, octC = A := ⟨_, rfl⟩
 have tA1 : (A.toList == [48, 49, 50, 51, 52, 53, 54, 55, 56, 57, 97, 98, 99, 100, 101, 102, 65, 66, 67, 68, 69, 70]) = false := by rw [← hA, ByteArray.toList_eq]; rfl
 have tA2 : (A.toList == [48, 49, 50, 51, 52, 53, 54, 55, 56, 57]) = false := by rw [← hA, ByteArray.toList_eq]; rfl
 have PT2 : Hid (Calls Tryz.prog 178 #[.string s] w fun e w' => e = .returned (.tuple #[.string D, .int .i64 k, .string A]) ∧ w' = w) := hid (by rw [← hA]; exact PT)
 obtain ⟨V, hV⟩ : ∃ V, NumA (valD 8 (bytesN D)) = V := ⟨_, rfl⟩
 have HV := hid hV
 obtain ⟨Q, hQ⟩ : ∃ Q, (fun (e : Ending) (w' : World) => e = .returned V ∧ Below w.heap.size w w') = Q := ⟨_, rfl⟩
 rw [hV, hQ]
 have HQ := hid hQ
 have hdl : ∀ j, j < D.size → digV (byteAt D j) < 16 ∧ ∀ base, valD base ((bytesN D).take (j + 1)) = valD base ((bytesN D).take j) * base + digV (byteAt D j) := fun j hj => by
  have hg := bytesN_get hj
  refine ⟨hdg _ (List.mem_of_getElem? hg), fun base => ?_⟩
  rw [List.take_add_one, hg]
  exact valD_snoc base _ _
 have HDG := hid hdl
 have hln := bytesN_len D
 obtain ⟨l, hl⟩ : ∃ l, bytesN D = l := ⟨_, rfl⟩
 rw [hl] at HDG HV hln
 obtain ⟨n0, hn0⟩ : ∃ n, D.size = n := ⟨_, rfl⟩
 rw [hn0] at hln hz
 have HLN := hid hln
 clear PT hA hdg hb hD hk hV hQ hdl hl hln hs
 go_enter Tryz.func110, Tryz.ntmps110
 go_wp2_with fail
 refine PT2.out.mono ?_
 rintro e w1 ⟨rfl, hw1⟩
 have hw1' := hw1.symm
 subst hw1'
 clear hw1
 go_wp2_with fail
 go_loopw [2, 24] (QnRel 8 l w) (fun _ k _ => n0 - (intOf k).toNat)
 case atStart => exact ⟨0, rfl, Nat.zero_le _, rfl, by show 0 < _; omega, Below.refl _ _⟩
 case round =>
  obtain ⟨j, rfl, hj, rfl, hv, hb⟩ := hrel
  have HB := hid hb
  clear hb
  by_cases hlt : j < n0
  · obtain ⟨t1, t1'⟩ := ltT j n0 hlt
    have q1 := inc j (by omega)
    have hjD : j < D.size := by omega
    obtain ⟨hdv, hst⟩ := HDG.out j hjD
    obtain ⟨x, hx⟩ : ∃ x, D.extract j (j + 1) = x := ⟨_, rfl⟩
    have sl := sl_both D j (j + 1) (by omega) (by omega) x hx
    have HX := hex_any x 15 wr (by rw [← hx]; simp; omega) (by decide)
    rw [← hx, hex_one hjD hdv, hx] at HX
    have HX := hid HX
    have hsv := hst 8
    obtain ⟨v, hvv⟩ : ∃ v, valD 8 (l.take j) = v := ⟨_, rfl⟩
    rw [hvv] at hsv hv ⊢
    obtain ⟨d, hd⟩ : ∃ d, digV (byteAt D j) = d := ⟨_, rfl⟩
    rw [hd] at hsv hdv HX
    obtain ⟨v2, hv2⟩ : ∃ v2, v * 8 + d = v2 := ⟨_, rfl⟩
    rw [hv2] at hsv
    have q2 : IntKind.u64.wrap ((v : Int) * 8) = (v : Int) * 8 := IntWalk.u64_in _ (by omega)
    have q3 : IntKind.u64.wrap ((v : Int) * 8 + (d : Int)) = (v2 : Int) := by rw [IntWalk.u64_in _ (by omega)]; omega
    have hjj : ((j + 1 : Nat) : Int) = (j : Int) + 1 := by omega
    rw [hjj] at sl
    clear hx hvv hd hv2 hjj
    by_cases h40 : 1099511627776 ≤ v2
    · have t3 : decide ((1099511627776 : Int) ≤ (v2 : Int)) = true := dcT (by omega)
      have t3' : decide (1099511627776 ≤ v2) = true := dcT h40
      have hno : V = .tuple #[.int .u64 0, .bool false] := by
       have := valD_take 8 (by decide) l (j + 1)
       rw [hsv] at this
       rw [← HV.out]
       unfold NumA
       rw [if_neg (by omega)]
      have HNO := hid hno
      clear hno hsv hdv hst h40 hjD hv
      go_wp2_with fail
      refine HX.out.mono ?_
      rintro e w2 ⟨rfl, hb2⟩
      have HB2 := hid (xT HB.out hb2)
      clear hb2
      go_wp2
      rw [← HQ.out, HNO.out]
      exact ⟨rfl, HB2.out⟩
    · have t3 : decide ((1099511627776 : Int) ≤ (v2 : Int)) = false := dcF (by omega)
      have t3' : decide (1099511627776 ≤ v2) = false := dcF h40
      have HRL : Hid (∀ W, Below w.heap.size w W → QnRel 8 l w (.int .u64 (v2 : Nat)) (.int .i64 ((j : Int) + 1)) W) := hid (fun W hW => ⟨j + 1, by go_num, by rw [HLN.out]; exact hlt, by rw [hsv], by rw [hsv]; omega, hW⟩)
      clear hsv hdv hst h40 hjD hv
      go_wp2_with fail
      refine HX.out.mono ?_
      rintro e w2 ⟨rfl, hb2⟩
      have HRL2 := hid (HRL.out _ (xT HB.out hb2))
      clear hb2
      go_wp2
      refine ⟨?_, by simp [intOf] <;> omega⟩
      first | exact HRL2.out | ((repeat apply Exists.intro); exact ⟨HRL2.out, rfl⟩)
  · obtain ⟨t1, t1'⟩ := ltF j n0 hlt
    have hll : l.take j = l := List.take_of_length_le (by rw [HLN.out]; rw [HLN.out] at hj; omega)
    rw [hll] at hv ⊢
    have hyes : V = .tuple #[.int .u64 (valD 8 l : Nat), .bool true] := by
     rw [← HV.out]
     unfold NumA
     rw [if_pos hv]
    have HY := hid hyes
    obtain ⟨v, hvv⟩ : ∃ v, valD 8 l = v := ⟨_, rfl⟩
    rw [hvv] at HY ⊢
    clear hll hyes hvv hv hlt
    go_wp2
    rw [← HQ.out, HY.out]
    exact ⟨rfl, HB.out⟩
theorem number_dec (s D : ByteArray) (w : World) (hs : s.size ≤ 1000000) (hD : digS s = D) (hz : D.size ≤ 1000000) (hdg : ∀ c ∈ bytesN D, digV c < 16) (hb : (baseL (bytesN s)).1 = 10) : Calls Tryz.prog 110 #[.string s] w fun e w' => e = .returned (NumA (valD 10 (bytesN D))) ∧ Below w.heap.size w w' := by
 have PT := part_any s w hs
 unfold PartPost at PT
 rw [hb, hD] at PT
 obtain ⟨k, hk⟩ : ∃ k, (baseL (bytesN s)).2 = k := ⟨_, rfl⟩
 rw [hk] at PT
 obtain ⟨A, hA⟩ : ∃ A, decC = A := ⟨_, rfl⟩
 have tA1 : (A.toList == [48, 49, 50, 51, 52, 53, 54, 55, 56, 57, 97, 98, 99, 100, 101, 102, 65, 66, 67, 68, 69, 70]) = false := by rw [← hA, ByteArray.toList_eq]; rfl
 have tA2 : (A.toList == [48, 49, 50, 51, 52, 53, 54, 55, 56, 57]) = true := by rw [← hA, ByteArray.toList_eq]; rfl
 have PT2 : Hid (Calls Tryz.prog 178 #[.string s] w fun e w' => e = .returned (.tuple #[.string D, .int .i64 k, .string A]) ∧ w' = w) := hid (by rw [← hA]; exact PT)
 obtain ⟨V, hV⟩ : ∃ V, NumA (valD 10 (bytesN D)) = V := ⟨_, rfl⟩
 have HV := hid hV
 obtain ⟨Q, hQ⟩ : ∃ Q, (fun (e : Ending) (w' : World) => e = .returned V ∧ Below w.heap.size w w') = Q := ⟨_, rfl⟩
 rw [hV, hQ]
 have HQ := hid hQ
 have hdl : ∀ j, j < D.size → digV (byteAt D j) < 16 ∧ ∀ base, valD base ((bytesN D).take (j + 1)) = valD base ((bytesN D).take j) * base + digV (byteAt D j) := fun j hj => by
  have hg := bytesN_get hj
  refine ⟨hdg _ (List.mem_of_getElem? hg), fun base => ?_⟩
  rw [List.take_add_one, hg]
  exact valD_snoc base _ _
 have HDG := hid hdl
 have hln := bytesN_len D
 obtain ⟨l, hl⟩ : ∃ l, bytesN D = l := ⟨_, rfl⟩
 rw [hl] at HDG HV hln
 obtain ⟨n0, hn0⟩ : ∃ n, D.size = n := ⟨_, rfl⟩
 rw [hn0] at hln hz
 have HLN := hid hln
 clear PT hA hdg hb hD hk hV hQ hdl hl hln hs
 go_enter Tryz.func110, Tryz.ntmps110
 go_wp2_with fail
 refine PT2.out.mono ?_
 rintro e w1 ⟨rfl, hw1⟩
 have hw1' := hw1.symm
 subst hw1'
 clear hw1
 go_wp2_with fail
 go_loopw [2, 24] (QnRel 10 l w) (fun _ k _ => n0 - (intOf k).toNat)
 case atStart => exact ⟨0, rfl, Nat.zero_le _, rfl, by show 0 < _; omega, Below.refl _ _⟩
 case round =>
  obtain ⟨j, rfl, hj, rfl, hv, hb⟩ := hrel
  have HB := hid hb
  clear hb
  by_cases hlt : j < n0
  · obtain ⟨t1, t1'⟩ := ltT j n0 hlt
    have q1 := inc j (by omega)
    have hjD : j < D.size := by omega
    obtain ⟨hdv, hst⟩ := HDG.out j hjD
    obtain ⟨x, hx⟩ : ∃ x, D.extract j (j + 1) = x := ⟨_, rfl⟩
    have sl := sl_both D j (j + 1) (by omega) (by omega) x hx
    have HX := hex_any x 15 wr (by rw [← hx]; simp; omega) (by decide)
    rw [← hx, hex_one hjD hdv, hx] at HX
    have HX := hid HX
    have hsv := hst 10
    obtain ⟨v, hvv⟩ : ∃ v, valD 10 (l.take j) = v := ⟨_, rfl⟩
    rw [hvv] at hsv hv ⊢
    obtain ⟨d, hd⟩ : ∃ d, digV (byteAt D j) = d := ⟨_, rfl⟩
    rw [hd] at hsv hdv HX
    obtain ⟨v2, hv2⟩ : ∃ v2, v * 10 + d = v2 := ⟨_, rfl⟩
    rw [hv2] at hsv
    have q2 : IntKind.u64.wrap ((v : Int) * 10) = (v : Int) * 10 := IntWalk.u64_in _ (by omega)
    have q3 : IntKind.u64.wrap ((v : Int) * 10 + (d : Int)) = (v2 : Int) := by rw [IntWalk.u64_in _ (by omega)]; omega
    have hjj : ((j + 1 : Nat) : Int) = (j : Int) + 1 := by omega
    rw [hjj] at sl
    clear hx hvv hd hv2 hjj
    by_cases h40 : 1099511627776 ≤ v2
    · have t3 : decide ((1099511627776 : Int) ≤ (v2 : Int)) = true := dcT (by omega)
      have t3' : decide (1099511627776 ≤ v2) = true := dcT h40
      have hno : V = .tuple #[.int .u64 0, .bool false] := by
       have := valD_take 10 (by decide) l (j + 1)
       rw [hsv] at this
       rw [← HV.out]
       unfold NumA
       rw [if_neg (by omega)]
      have HNO := hid hno
      clear hno hsv hdv hst h40 hjD hv
      go_wp2_with fail
      refine HX.out.mono ?_
      rintro e w2 ⟨rfl, hb2⟩
      have HB2 := hid (xT HB.out hb2)
      clear hb2
      go_wp2
      rw [← HQ.out, HNO.out]
      exact ⟨rfl, HB2.out⟩
    · have t3 : decide ((1099511627776 : Int) ≤ (v2 : Int)) = false := dcF (by omega)
      have t3' : decide (1099511627776 ≤ v2) = false := dcF h40
      have HRL : Hid (∀ W, Below w.heap.size w W → QnRel 10 l w (.int .u64 (v2 : Nat)) (.int .i64 ((j : Int) + 1)) W) := hid (fun W hW => ⟨j + 1, by go_num, by rw [HLN.out]; exact hlt, by rw [hsv], by rw [hsv]; omega, hW⟩)
      clear hsv hdv hst h40 hjD hv
      go_wp2_with fail
      refine HX.out.mono ?_
      rintro e w2 ⟨rfl, hb2⟩
      have HRL2 := hid (HRL.out _ (xT HB.out hb2))
      clear hb2
      go_wp2
      refine ⟨?_, by simp [intOf] <;> omega⟩
      first | exact HRL2.out | ((repeat apply Exists.intro); exact ⟨HRL2.out, rfl⟩)
  · obtain ⟨t1, t1'⟩ := ltF j n0 hlt
    have hll : l.take j = l := List.take_of_length_le (by rw [HLN.out]; rw [HLN.out] at hj; omega)
    rw [hll] at hv ⊢
    have hyes : V = .tuple #[.int .u64 (valD 10 l : Nat), .bool true] := by
     rw [← HV.out]
     unfold NumA
     rw [if_pos hv]
    have HY := hid hyes
    obtain ⟨v, hvv⟩ : ∃ v, valD 10 l = v := ⟨_, rfl⟩
    rw [hvv] at HY ⊢
    clear hll hyes hvv hv hlt
    go_wp2
    rw [← HQ.out, HY.out]
    exact ⟨rfl, HB.out⟩
theorem digS_len (s : ByteArray) : (digS s).size ≤ s.size := by unfold digS; rw [bytesL_size, List.length_drop, bytesN_len]; omega
theorem digS_bytes (s : ByteArray) : bytesN (digS s) = (bytesN s).drop (baseL (bytesN s)).2 := bytesN_bytesL ((bytesN_lt s).drop _)
theorem base_is (p : List Nat) : (baseL p).1 = 16 ∨ (baseL p).1 = 8 ∨ (baseL p).1 = 10 := by
 unfold baseL; split
 · exact .inl rfl
 · split
   · exact .inr (.inl rfl)
   · exact .inr (.inr rfl)
theorem qnumber_any (s : ByteArray) (w : World) (hs : s.size ≤ 1000000) (hdg : ∀ c ∈ (bytesN s).drop (baseL (bytesN s)).2, amongD (baseL (bytesN s)).1 c = true) : Calls Tryz.prog 110 #[.string s] w fun e w' => e = .returned (NumA (valQ (bytesN s))) ∧ Below w.heap.size w w' := by
 have hz := digS_len s
 have hd : ∀ c ∈ bytesN (digS s), digV c < 16 := fun c hc => by rw [digS_bytes] at hc; exact among_hex (hdg c hc)
 unfold valQ
 rw [← digS_bytes]
 rcases base_is (bytesN s) with h | h | h
 · rw [h]; exact number_hex s _ w hs rfl (by omega) hd h
 · rw [h]; exact number_oct s _ w hs rfl (by omega) hd h
 · rw [h]; exact number_dec s _ w hs rfl (by omega) hd h
end
section
open Go.RowKit
def chk1 (p : List Nat) (at_ : Nat) : Option (Nat × Nat) := if p = [] then some (10, at_) else match (List.range p.length).find? (notD p) with
 | some i => some (11, at_ + i)
 | none => none
theorem chkF_cons (p : List Nat) (ps : List (List Nat)) (at_ : Nat) : chkF (p :: ps) at_ = match chk1 p at_ with
    | some x => some x
    | none => chkF ps (at_ + p.length + 1) := by
 unfold chk1
 rw [chkF]
 split
 · rfl
 · cases (List.range p.length).find? (notD p) <;> rfl
theorem chk1_right {p : List Nat} {at_ : Nat} (h : chk1 p at_ = none) : ∀ c ∈ p.drop (baseL p).2, amongD (baseL p).1 c = true := by
 intro c hc
 unfold chk1 at h
 split at h
 · cases h
 · cases hf : (List.range p.length).find? (notD p) with
   | some i => rw [hf] at h; cases h
   | none =>
     obtain ⟨i, hi, rfl⟩ := List.getElem_of_mem hc
     rw [List.getElem_drop]
     rw [List.length_drop] at hi
     have := find_none hf ((baseL p).2 + i) (by omega)
     unfold notD at this
     rw [dcT (Nat.le_add_right _ _), Bool.true_and, List.getElem?_eq_getElem (by omega)] at this
     simpa using this
theorem base_le (p : List Nat) (h : p ≠ []) : (baseL p).2 ≤ p.length ∧ (baseL p).2 ≤ 2 := by
 have := List.length_pos_iff.2 h
 unfold baseL
 split
 · rename_i hh
   unfold hexedL at hh
   have := of_decide_eq_true hh
   constructor
   · show 2 ≤ _; omega
   · show 2 ≤ 2; omega
 · split
   · constructor
     · show 1 ≤ _; omega
     · show 1 ≤ 2; omega
   · exact ⟨Nat.zero_le _, Nat.zero_le _⟩
def CkPost (w : World) (r : Option (Nat × Nat)) (e : Ending) (w' : World) : Prop := Below w.heap.size w w' ∧ match r with
 | none => e = .returned .nilIface
 | some x => ∃ u, e = .returned u ∧ Er w' u [((x.1 : Int), (x.2 : Int))]
def CkRel (s : ByteArray) (l : List Nat) (w : World) (iv : Value) (wr : World) : Prop := ∃ j : Nat, iv = .int .i64 j ∧ j ≤ l.length ∧ (∀ i, i < j → ∀ c, l[i]? = some c → amongD (baseL (bytesN s)).1 c = true) ∧ wr = w
theorem chk1_bad {p : List Nat} {j at_ c : Nat} (hp : p ≠ []) (hc : (p.drop (baseL p).2)[j]? = some c) (hb : amongD (baseL p).1 c = false) (hl : ∀ i, i < j → ∀ c, (p.drop (baseL p).2)[i]? = some c → amongD (baseL p).1 c = true) : chk1 p at_ = some (11, at_ + ((baseL p).2 + j)) := by
 have hj := (List.getElem?_eq_some_iff.1 hc).1
 rw [List.length_drop] at hj
 unfold chk1
 rw [if_neg hp, findR_at (j := (baseL p).2 + j) (by omega) (by
  unfold notD
  rw [← List.getElem?_drop, hc, dcT (Nat.le_add_right _ _)]
  show (true && !(amongD (baseL p).1 c)) = true
  rw [hb]; rfl) (fun i hi => by
  unfold notD
  by_cases h : (baseL p).2 ≤ i
  · obtain ⟨m, rfl⟩ : ∃ m, i = (baseL p).2 + m := ⟨i - (baseL p).2, by omega⟩
    have hm : m < (p.drop (baseL p).2).length := by rw [List.length_drop]; omega
    rw [← List.getElem?_drop, List.getElem?_eq_getElem hm]
    show (_ && !(amongD (baseL p).1 ((p.drop (baseL p).2)[m]))) = false
    rw [hl m (by omega) _ (List.getElem?_eq_getElem hm), Bool.not_true, Bool.and_false]
  · rw [dcF h, Bool.false_and])]
theorem chk1_good {p : List Nat} {at_ : Nat} (hp : p ≠ []) (hl : ∀ i, i < (p.drop (baseL p).2).length → ∀ c, (p.drop (baseL p).2)[i]? = some c → amongD (baseL p).1 c = true) : chk1 p at_ = none := by
 unfold chk1
 rw [if_neg hp, findR_no (fun i hi => by
  unfold notD
  by_cases h : (baseL p).2 ≤ i
  · obtain ⟨m, rfl⟩ : ∃ m, i = (baseL p).2 + m := ⟨i - (baseL p).2, by omega⟩
    have hm : m < (p.drop (baseL p).2).length := by rw [List.length_drop]; omega
    rw [← List.getElem?_drop, List.getElem?_eq_getElem hm]
    show (_ && !(amongD (baseL p).1 ((p.drop (baseL p).2)[m]))) = false
    rw [hl m hm _ (List.getElem?_eq_getElem hm), Bool.not_true, Bool.and_false]
  · rw [dcF h, Bool.false_and])]
theorem qchecked_any (s : ByteArray) (at_ : Nat) (w : World) (hs : s.size ≤ 1000000) (hat : at_ ≤ 1000000000000) : Calls Tryz.prog 109 #[.string s, .int .i64 at_] w (CkPost w (chk1 (bytesN s) at_)) := by
 obtain ⟨R, hR⟩ : ∃ R, chk1 (bytesN s) at_ = R := ⟨_, rfl⟩
 obtain ⟨Q, hQ⟩ : ∃ Q, CkPost w R = Q := ⟨_, rfl⟩
 rw [hR, hQ]
 have HQ := hid hQ; have HR := hid hR
 have HNO : Hid (∀ (k i : Nat), R = some (k, i) → Q (.returned (.iface 119 (.pointer (some ⟨w.heap.size, 0, none⟩)))) (w.alloc (.cells #[.int .i64 k, .int .i64 i, .nilIface] 123))) := hid (fun k i hr => by
  have HF := failed_er (failed_of (w := w) (w0 := w) (k := k) (i := i) (Below.refl _ _) rfl)
  rw [← HQ.out, hr]
  exact ⟨HF.2, _, rfl, HF.1⟩)
 by_cases h0 : s = ⟨#[]⟩
 · have hRe : R = some (10, at_) := by rw [← hR, h0]; rfl
   have t0 : (s.toList == []) = true := by rw [h0, ByteArray.toList_eq]; rfl
   have HF := hid (HNO.out 10 at_ hRe)
   clear hQ hR hRe h0 hs hat
   go_enter Tryz.func109, Tryz.ntmps109
   go_wp2_with fail
   go_at_call 44
   refine (fail_any _ _ _).mono ?_
   rintro e w3 ⟨rfl, rfl⟩
   go_wp2
   exact HF.out
 · have t0 : (s.toList == []) = false := by
     have h := beqS_f h0
     rw [show (⟨#[]⟩ : ByteArray).toList = [] by rw [ByteArray.toList_eq]] at h
     exact h
   have hp : bytesN s ≠ [] := fun e => h0 (by rw [← bytesL_bytesN s, e]; rfl)
   have PT := part_any s w hs
   unfold PartPost at PT
   have hbl := base_le _ hp
   have hdl := digS_bytes s
   have hdz := digS_len s
   have hib := fun c hc => among_ib (baseL (bytesN s)).1 c hc
   have HIB := hid (fun c hc W => ib_any (amongC (baseL (bytesN s)).1) (bytesN (amongC (baseL (bytesN s)).1)) rfl c hc W)
   have HG := hid (chk1_good (at_ := at_) hp)
   have HBD := hid (fun j c => chk1_bad (j := j) (c := c) (at_ := at_) hp)
   rw [hR] at HG HBD
   rw [← hdl] at HG HBD
   have HIBT := hid hib
   have HR0 : Hid (CkRel s (bytesN (digS s)) w (.int .i64 0) w) := hid ⟨0, rfl, Nat.zero_le _, fun i hi => by omega, rfl⟩
   obtain ⟨D, hD⟩ : ∃ D, digS s = D := ⟨_, rfl⟩
   obtain ⟨A, hA⟩ : ∃ A, amongC (baseL (bytesN s)).1 = A := ⟨_, rfl⟩
   obtain ⟨k, hk⟩ : ∃ k, (baseL (bytesN s)).2 = k := ⟨_, rfl⟩
   rw [hD, hA, hk] at PT
   rw [hA] at HIB HIBT
   rw [hD] at HG HBD HR0 hdz
   rw [hk] at HBD hbl
   have hgd : ∀ j, j < D.size → (bytesN D)[j]? = some (byteAt D j) := fun j hj => bytesN_get hj
   have HGD := hid hgd
   have hln := bytesN_len D
   obtain ⟨l, hl⟩ : ∃ l, bytesN D = l := ⟨_, rfl⟩
   rw [hl] at HG HBD HR0 HGD hln
   obtain ⟨n0, hn0⟩ : ∃ n, D.size = n := ⟨_, rfl⟩
   have PT := hid PT
   have HHN := hid hn0
   have hzz : n0 ≤ 1000000 := by omega
   have hkz : k ≤ 2 := hbl.2
   rw [hn0] at hln
   have HLN := hid hln
   clear hQ hR h0 hp hbl hdl hdz hib hD hA hk hgd hl hln hn0
   go_enter Tryz.func109, Tryz.ntmps109
   go_wp2_with fail
   refine PT.out.mono ?_
   rintro e w1 ⟨rfl, hw1⟩
   have hw1' := hw1.symm
   subst hw1'
   clear hw1
   go_wp2_with fail
   rw [HHN.out]
   go_loopw [21] (CkRel s l w) (fun k _ => n0 - (intOf k).toNat)
   case atStart => exact HR0.out
   case round =>
    obtain ⟨j, rfl, hj, hok, hwr⟩ := hrel
    have hwr' := hwr.symm
    subst hwr'
    clear hwr
    rw [HLN.out] at hj
    have HOK := hid hok
    clear hok
    by_cases hlt : j < n0
    · obtain ⟨t1, t1'⟩ := ltT j n0 hlt
      have q1 := inc j (by omega)
      have hjD : j < D.size := by rw [HHN.out]; exact hlt
      have t2' : decide (j < D.size) = true := dcT hjD
      have hgb := (byteAt_get D j hjD).symm
      have hx256 := byteAt_lt D j
      have hgx := HGD.out j hjD
      obtain ⟨x, hx⟩ : ∃ x, byteAt D j = x := ⟨_, rfl⟩
      rw [hx] at hgb hx256 hgx
      have IB := HIB.out x hx256 w
      have hz := HIBT.out x hx256
      obtain ⟨Z, hZ⟩ : ∃ Z, ibV (bytesN A) x = Z := ⟨_, rfl⟩
      rw [hZ] at IB hz
      have IB := hid IB
      have HGX := hid hgx
      clear hx hZ hgx
      cases ha : amongD (baseL (bytesN s)).1 x with
      | true =>
        rw [ha, Bool.not_true] at hz
        have HRL : Hid (CkRel s l w (.int .i64 ((j : Int) + 1)) w) := hid ⟨j + 1, by go_num, by rw [HLN.out]; exact hlt, fun i hi y hy => by
         by_cases e : i = j
         · subst e; rw [HGX.out] at hy; cases hy; exact ha
         · exact HOK.out i (by omega) y hy, rfl⟩
        clear ha
        go_wp2_with fail
        refine IB.out.mono ?_
        rintro e w2 ⟨rfl, hw2⟩
        subst hw2
        go_wp2
        refine ⟨?_, by simp [intOf] <;> omega⟩
        first | exact HRL.out | ((repeat apply Exists.intro); exact ⟨HRL.out, rfl⟩)
      | false =>
        rw [ha, Bool.not_false] at hz
        have hRe := HBD.out j x HGX.out ha HOK.out
        have q2 : IntKind.i64.wrap ((at_ : Int) + (k : Int)) = (at_ : Int) + (k : Int) := i64n _ (by omega)
        have q3 : IntKind.i64.wrap ((at_ : Int) + (k : Int) + (j : Int)) = ((at_ + (k + j) : Nat) : Int) := (i64n _ (by omega)).trans (by omega)
        have HF := HNO.out 11 (at_ + (k + j)) hRe
        obtain ⟨pl, hpl⟩ : ∃ p, at_ + (k + j) = p := ⟨_, rfl⟩
        rw [hpl] at q3 HF
        have HF := hid HF
        clear ha hRe hpl
        go_wp2_with fail
        refine IB.out.mono ?_
        rintro e w2 ⟨rfl, hw2⟩
        subst hw2
        go_wp2_with fail
        go_at_call 44
        refine (fail_any _ _ _).mono ?_
        rintro e w3 ⟨rfl, rfl⟩
        go_wp2
        exact HF.out
    · obtain ⟨t1, t1'⟩ := ltF j n0 hlt
      have hRe := HG.out (fun i hi => HOK.out i (by rw [HLN.out] at hi; omega))
      have HF : Hid (Q (.returned .nilIface) w) := hid (by rw [← HQ.out, hRe]; exact ⟨Below.refl _ _, rfl⟩)
      clear hRe hlt
      go_wp2
      exact HF.out
end
end Go.Proofs.YtbeodjipdpcaiaaGreatDoor
