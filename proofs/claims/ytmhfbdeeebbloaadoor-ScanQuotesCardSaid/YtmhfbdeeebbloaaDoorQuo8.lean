/- ref06.Quote: the walk. -/
import Derived.Test.YtmhfbdeeebbloaaDoorQuo7
import Derived.Test.YtmhfbdeeebbloaaDoorQuo6
import Derived.BigQuiet
namespace Go.Proofs.YtmhfbdeeebbloaaDoor
open Go.RowKit
theorem idx_str (S : ByteArray) (i : Nat) (hi : i < S.size) (W : World) : (Instr.index 9 (.string S) (.int .i64 (i : Int))).run Tryd.prog W = .ok (.int .u8 (byteAt S i : Nat)) W := by
  have hu := run_underlying (P := Tryd.prog) Tryd.underlying9
  have h2 : (i : Int) < (S.size : Int) := by omega
  rw [byteAt_get S i hi]
  simp [Instr.index, asIntOf, hu, part, go_sem, h2, hi]
def mkB (l : List Nat) : ByteArray := ⟨(l.map UInt8.ofNat).toArray⟩
def oS (s : ByteArray) (i : Nat) : ByteArray := ⟨(qL s i).toArray⟩
theorem mkB_size (l : List Nat) : (mkB l).size = l.length := by
  show (l.map UInt8.ofNat).toArray.size = _
  simp
theorem mkB_app (l m : List Nat) : mkB l ++ mkB m = mkB (l ++ m) := by
  apply toList_inj
  rw [ByteArray.toList_eq, ByteArray.toList_eq]
  simp [mkB, ByteArray.data_append]
theorem oS_next {s : ByteArray} {i : Nat} (hi : i < s.size) : oS s i ++ mkB (escB (byteAt s i)) = oS s (i + 1) := by
  apply toList_inj
  rw [ByteArray.toList_eq, ByteArray.toList_eq]
  simp [oS, mkB, ByteArray.data_append, qL_next hi]
theorem oS_size (s : ByteArray) (i : Nat) : (oS s i).size = offQ s i := by
  show (qL s i).toArray.size = _
  rw [List.size_toArray, qL_len]
theorem oS_full (s : ByteArray) : oS s s.size ++ ⟨#[34]⟩ = quoteB s := by
  rw [← qL_full]
  apply toList_inj
  rw [ByteArray.toList_eq, ByteArray.toList_eq]
  simp [oS, ByteArray.data_append]
/-- The name behind m looks. -/
def nmL (c m : Nat) : List Nat := if (valL.take m).contains c then [92, namL[valL.idxOf c]?.getD 0] else []
theorem nmL_step : ∀ (m : Fin 7) (c : Fin 256), nmL c.val (m.val + 1) = if (c.val == valL[m.val]?.getD 0) = true then [92, namL[m.val]?.getD 0] else nmL c.val m.val := by decide +kernel
theorem nmL_full (c : Nat) : nmL c 7 = if valL.contains c then escB c else [] := by
  unfold nmL escB
  rw [show valL.take 7 = valL from rfl]
  split <;> rfl
theorem extract_one (s : ByteArray) (j : Nat) (hj : j < s.size) : s.extract j (j + 1) = mkB [byteAt s j] := by
  have hd : j < s.data.size := hj
  apply toList_inj
  rw [ByteArray.toList_eq, ByteArray.toList_eq]
  simp only [mkB, byteAt, ByteArray.data_extract, Array.toList_extract, List.map_cons, List.map_nil, Array.getElem?_eq_getElem hd, Option.getD_some, UInt8.ofNat_toNat]
  apply List.ext_getElem?
  intro i
  rw [List.extract_eq_take_drop, List.getElem?_take]
  cases i with
  | zero => simp [hd]
  | succ i => simp
def RqRel (s : ByteArray) (w : World) (o i : Value) (wr : World) : Prop := ∃ j : Nat, i = .int .i64 j ∧ j ≤ s.size ∧ o = .string (oS s j) ∧ Below w.heap.size w wr
def RnRel (c : Nat) (w : World) (o k : Value) (wr : World) : Prop := ∃ m : Nat, k = .int .i64 m ∧ m ≤ 7 ∧ o = .string (mkB (nmL c m)) ∧ ∃ q, wr = w.drewN q
set_option maxRecDepth 100000 in
set_option maxHeartbeats 16000000 in
theorem rquote_any (s : ByteArray) (w : World) (hm : s.size ≤ 100000) :
    Calls Tryd.prog 21 #[.string s] w fun e w' => e = .returned (.string (quoteB s)) ∧ Below w.heap.size w w' := by
  obtain ⟨V, hV⟩ : ∃ V : ByteArray, (⟨#[34, 92, 8, 12, 10, 13, 9]⟩ : ByteArray) = V := ⟨_, rfl⟩
  obtain ⟨N, hN⟩ : ∃ N : ByteArray, (⟨#[34, 92, 98, 102, 110, 114, 116]⟩ : ByteArray) = N := ⟨_, rfl⟩
  have hVx : ∀ m, m < 7 → byteAt V m = valL[m]?.getD 0 := by
    intro m h
    subst hV
    have hj : m = 0 ∨ m = 1 ∨ m = 2 ∨ m = 3 ∨ m = 4 ∨ m = 5 ∨ m = 6 := by omega
    rcases hj with rfl | rfl | rfl | rfl | rfl | rfl | rfl <;> rfl
  have hNx : ∀ m, m < 7 → N.extract m (m + 1) = mkB [namL[m]?.getD 0] := by
    intro m h
    subst hN
    have hj : m = 0 ∨ m = 1 ∨ m = 2 ∨ m = 3 ∨ m = 4 ∨ m = 5 ∨ m = 6 := by omega
    rcases hj with rfl | rfl | rfl | rfl | rfl | rfl | rfl <;> decide
  have hVz : V.size = 7 := by rw [← hV]; rfl
  have hNz : N.size = 7 := by rw [← hN]; rfl
  have HVx := Lib.hid hVx; have HNx := Lib.hid hNx
  clear hVx hNx
  go_enter Tryd.func21, Tryd.ntmps21
  go_wp2_with fail
  rw [hV, hN]
  have HVz := Lib.hid hVz; have HNz := Lib.hid hNz
  clear hV hN hVz hNz
  go_loopw [3, 6] (RqRel s w) (fun _ k _ => s.size - (intOf k).toNat)
  case atStart => exact ⟨0, rfl, Nat.zero_le _, by rfl, Below.refl _ _⟩
  case round =>
    obtain ⟨j, rfl, hj, rfl, hB⟩ := hrel
    have HB := Lib.hid hB
    clear hB
    have hoz : (oS s j).size ≤ 700000 := by rw [oS_size]; have := offQ_le j hj; omega
    by_cases hlt : j < s.size
    · have t1 : decide ((j : Int) < (s.size : Int)) = true := decide_eq_true (by omega)
      have t1' : decide (j < s.size) = true := decide_eq_true hlt
      obtain ⟨c, hc⟩ : ∃ c, byteAt s j = c := ⟨_, rfl⟩
      have hc256 : c < 256 := by rw [← hc]; exact byteAt_lt s j
      have HNX := Lib.hid (oS_next hlt)
      have IX := idx_str s j hlt
      have HXT := Lib.hid (slice_one .i64 s j (by omega) _ rfl)
      rw [hc] at HNX IX
      have HC := Lib.hid hc
      clear hc
      go_wp2_with fail
      go_loopw [7, 8] (RnRel c wr) (fun _ k _ => 7 - (intOf k).toNat)
      case atStart => exact ⟨0, rfl, by decide, rfl, 0, rfl⟩
      case round =>
        obtain ⟨m, rfl, hm7, rfl, q, rfl⟩ := hrel
        by_cases hm : m < 7
        · have hst := nmL_step ⟨m, hm⟩ ⟨c, hc256⟩
          simp only at hst
          have HST := Lib.hid hst
          have IV := idx_str V m (by have := HVz.out; omega)
          rw [HVx.out m hm] at IV
          have SN := slice_one .i64 N m (by have := HNz.out; omega) _ (HNx.out m hm)
          have hv256 : valL[m]?.getD 0 < 256 := by rw [← HVx.out m hm]; exact byteAt_lt _ _
          have hx1 : (mkB [namL[m]?.getD 0]).size = 1 := mkB_size _
          have hx2 : mkB [92, namL[m]?.getD 0] = (⟨#[92]⟩ : ByteArray) ++ mkB [namL[m]?.getD 0] := (mkB_app [92] _).symm
          generalize valL[m]?.getD 0 = v at *
          generalize namL[m]?.getD 0 = x at *
          have q2 : IntKind.i64.wrap ((m : Int) + 1) = (m : Int) + 1 := IntWalk.i64_in _ (by omega)
          have t2 : decide ((m : Int) < 7) = true := decide_eq_true (by omega)
          have t2' : decide (m < 7) = true := decide_eq_true hm
          have HX2 := Lib.hid hx2
          clear hst hx2
          by_cases hcv : c = v
          · have tq : ((c : Int) == (v : Int)) = true := beq_iff_eq.2 (by omega)
            have R : ∀ q, RnRel c wr (.string ((⟨#[92]⟩ : ByteArray) ++ mkB [x])) (.int .i64 ((m : Int) + 1)) (wr.drewN q) := fun q => by
              have e := HST.out
              rw [if_pos (beq_iff_eq.2 hcv)] at e
              exact ⟨m + 1, by go_num, hm, by rw [e, HX2.out], q, rfl⟩
            have HR := Lib.hid R
            have z1 : (⟨#[92]⟩ : ByteArray).size = 1 := rfl
            clear R hcv HST HX2
            go_wp2
            go_quiet (fail)
            go_wp2
            refine ⟨?_, by simp [intOf]; omega⟩
            have R := HR.out
            simpa using R _
          · have tq : ((c : Int) == (v : Int)) = false := beq_eq_false_iff_ne.2 (by omega)
            have R : ∀ q, RnRel c wr (.string (mkB (nmL c m))) (.int .i64 ((m : Int) + 1)) (wr.drewN q) := fun q => by
              have e := HST.out
              rw [if_neg (by simpa using hcv)] at e
              exact ⟨m + 1, by go_num, hm, by rw [e], q, rfl⟩
            have HR := Lib.hid R
            clear R hcv HST HX2
            go_wp2
            go_quiet (fail)
            go_wp2
            refine ⟨?_, by simp [intOf]; omega⟩
            have R := HR.out
            simpa using R _
        · obtain rfl : m = 7 := by omega
          have HB2 := Lib.hid (ext_drewN q HB.out)
          generalize wr.drewN q = wr at *
          rw [nmL_full]
          have hez := (escB_len c).2
          have hez1 := (escB_len c).1
          have hmz := mkB_size (escB c)
          have z0 : ((oS s j).size : Int) ≤ 8388608 := by omega
          have z1 : ((mkB (escB c)).size : Int) ≤ 8388608 := by omega
          have hR : ∀ W, Below w.heap.size w W → RqRel s w (.string (oS s j ++ mkB (escB c))) (.int .i64 ((j : Int) + 1)) W := fun W h => ⟨j + 1, by go_num, hlt, by rw [HNX.out], h⟩
          have HR := Lib.hid hR
          have q2 : IntKind.i64.wrap ((j : Int) + 1) = (j : Int) + 1 := IntWalk.i64_in _ (by omega)
          clear hR
          cases hct : valL.contains c with
          | true =>
            rw [if_pos rfl]
            have hne : ((mkB (escB c)).toList == (⟨#[]⟩ : ByteArray).toList) = false := beqS_f (fun e => by have := congrArg ByteArray.size e; rw [hmz] at this; have h0 : (⟨#[]⟩ : ByteArray).size = 0 := rfl; omega)
            have hne2 : (mkB (escB c)).toList.isEmpty = false := str_ne (by omega)
            clear hct hez hez1 hmz
            generalize mkB (escB c) = E at *
            go_wp2
            refine ⟨?_, by simp [intOf]; omega⟩
            have R := HR.out _ HB2.out
            first | exact R | ((repeat apply Exists.intro); exact ⟨R, rfl⟩)
          | false =>
            rw [if_neg (by decide)]
            rw [show mkB [] = ⟨#[]⟩ from rfl]
            by_cases h32 : c < 32
            · have heE : escB c = [92, 117, 48, 48, hexU (c / 16), hexU (c % 16)] := by unfold escB; rw [hct, if_neg (by decide), if_pos h32]
              have hE : mkB (escB c) = (⟨#[92, 117, 48, 48]⟩ : ByteArray) ++ dig2 c := by rw [heE]; exact (mkB_app [92, 117, 48, 48] [hexU (c / 16), hexU (c % 16)]).symm
              have WR := Lib.hid (rwritten2_any c wr hc256)
              have t3 : decide ((c : Int) < 32) = true := decide_eq_true (by omega)
              have t3' : decide (c < 32) = true := decide_eq_true h32
              have q3 : IntKind.u64.wrap (c : Int) = (c : Int) := IntWalk.u64_in _ (by omega)
              have hne : ((mkB (escB c)).toList == (⟨#[]⟩ : ByteArray).toList) = false := beqS_f (fun e => by have := congrArg ByteArray.size e; rw [hmz] at this; have h0 : (⟨#[]⟩ : ByteArray).size = 0 := rfl; omega)
              have hne2 : (mkB (escB c)).toList.isEmpty = false := str_ne (by omega)
              have z4 : (⟨#[92, 117, 48, 48]⟩ : ByteArray).size = 4 := rfl
              have z5 : (dig2 c).size = 2 := rfl
              clear hct hez hez1 hmz h32 heE
              generalize mkB (escB c) = E at *
              generalize dig2 c = D at *
              have hE' := hE.symm
              clear hE
              go_wp2_with fail
              refine WR.out.mono ?_
              rintro e w2 ⟨rfl, hb2⟩
              have HB3 := Lib.hid (ext_trans HB2.out hb2)
              clear hb2
              go_wp2
              refine ⟨?_, by simp [intOf]; omega⟩
              have R := HR.out _ HB3.out
              first | exact R | ((repeat apply Exists.intro); exact ⟨R, rfl⟩)
            · have heE : escB c = [c] := by unfold escB; rw [hct, if_neg (by decide), if_neg h32]
              have hE : s.extract j (j + 1) = mkB (escB c) := by rw [heE, extract_one s j hlt, HC.out]
              have SX := HXT.out
              rw [hE] at SX
              have t3 : decide ((c : Int) < 32) = false := decide_eq_false (by omega)
              have t3' : decide (c < 32) = false := decide_eq_false h32
              clear hct hez hez1 hmz h32 heE hE HXT
              generalize mkB (escB c) = E at *
              go_wp2
              refine ⟨?_, by simp [intOf]; omega⟩
              have R := HR.out _ HB2.out
              first | exact R | ((repeat apply Exists.intro); exact ⟨R, rfl⟩)
    · have t1 : decide ((j : Int) < (s.size : Int)) = false := decide_eq_false (by omega)
      have t1' : decide (j < s.size) = false := decide_eq_false hlt
      obtain rfl : j = s.size := by omega
      have z0 : ((oS s s.size).size : Int) ≤ 8388608 := by omega
      have z1 : (⟨#[34]⟩ : ByteArray).size = 1 := rfl
      have HF := Lib.hid (oS_full s)
      clear hoz
      go_wp2
      go_ret
      exact ⟨by rw [← HF.out]; rfl, HB.out⟩
end Go.Proofs.YtmhfbdeeebbloaaDoor
