/- Texts put together. -/
import Derived.Test.YtbeodjipdpcaiaaGreatDoorYMore14
import Derived.Test.YtbeodjipdpcaiaaGreatDoorYHsw4sf
import Derived.Test.YtbeodjipdpcaiaaGreatDoorYQuo0s
import Derived.Test.YtbeodjipdpcaiaaGreatDoorYDec0s
import Derived.Test.YtbeodjipdpcaiaaGreatDoorProg
import Derived.WalkKit
import Derived.BigQuiet
namespace Go.Proofs.YtbeodjipdpcaiaaGreatDoor
open Go.RowKit
set_option maxRecDepth 100000 in
set_option maxHeartbeats 2000000 in
/-- waybillref13.Text -/
theorem rtextOf_any (k : Int) (t : ByteArray) (w : World) (ht : t.size ≤ 1000000) : Calls Tryz.prog 20 #[.agg #[.int .i64 k, .string t]] w fun e w' => e = .returned (.string (hostT k t)) ∧ Below w.heap.size w w' := by
 have HB := Lib.hid (ext_alloc (Below.refl w.heap.size w) (.cells #[.int .i64 k, .string t] 24))
 by_cases h : k = 3
 · have t1 : (k == 3) = true := by rw [h]; rfl
   obtain ⟨A, hA⟩ : ∃ A, (⟨#[91]⟩ : ByteArray) ++ t = A := ⟨_, rfl⟩
   obtain ⟨B, hB⟩ : ∃ B, A ++ (⟨#[93]⟩ : ByteArray) = B := ⟨_, rfl⟩
   have hAz : A.size ≤ 1000001 := by
    rw [← hA, ByteArray.size_append]
    have e1 : (⟨#[91]⟩ : ByteArray).size = 1 := rfl
    omega
   have hT : hostT k t = B := by unfold hostT; rw [if_pos h, hA, hB]
   rw [hT]
   clear h hT
   go_enter Tryz.func20, Tryz.ntmps20
   go_wp2
   go_ret
   exact ⟨rfl, HB.out⟩
 · have t1 : (k == 3) = false := beq_eq_false_iff_ne.2 h
   have hT : hostT k t = t := by unfold hostT; rw [if_neg h]
   rw [hT]
   clear h hT
   go_enter Tryz.func20, Tryz.ntmps20
   go_wp2
   go_ret
   exact ⟨rfl, HB.out⟩
end Go.Proofs.YtbeodjipdpcaiaaGreatDoor
namespace Go.Proofs.YtbeodjipdpcaiaaGreatDoor
section
open Go.RowKit
theorem drewN_add (w : World) (a b : Nat) : (w.drewN a).drewN b = w.drewN (a + b) := by simp [World.drewN, Nat.add_assoc]
theorem slice_one (k : IntKind) (S : ByteArray) (d : Nat) (h : d + 1 ≤ S.size) (x : ByteArray) (hx : S.extract d (d + 1) = x) (W : World) : (Instr.slice 9 (.string S) (some (.int k (d : Int))) (some (.int k ((d : Int) + 1))) none).run Tryz.prog W = .ok (.string x) W := by
 have e1 : ((d : Int) + 1).toNat = d + 1 := by omega
 have e2 : (0 : Int) ≤ (d : Int) + 1 := by omega
 have e3 : (d : Int) + 1 ≤ (S.size : Int) := by omega
 have e4 : (d : Int) ≤ (d : Int) + 1 := by omega
 simp [Instr.slice, run_underlying Tryz.underlying9, Instr.sliceBounds, run_sliceBound, e1, e2, e3, e4, hx]
end
section
open Go.RowKit
theorem figT : ∀ d : Fin 10, (⟨#[48, 49, 50, 51, 52, 53, 54, 55, 56, 57, 65, 66, 67, 68, 69, 70]⟩ : ByteArray).extract d.val (d.val + 1) = ⟨#[UInt8.ofNat (48 + d.val)]⟩ := by decide
def WtRel (n : Nat) (w : World) (nv ov : Value) (wr : World) : Prop := (∃ q, wr = w.drewN q) ∧ ∃ r, r < lenD n ∧ nv = .int .u64 ((n / 10 ^ r : Nat) : Int) ∧ ov = .string (decS r n)
set_option maxRecDepth 100000 in
set_option maxHeartbeats 16000000 in
theorem rwritten10_any (n : Nat) (w : World) (hn : n < 18446744073709551616) :
    Calls Tryz.prog 129 #[.int .u64 n, .int .u64 10, .int .i64 1] w fun e w' => e = .returned (.string (decB n)) ∧ Below w.heap.size w w' := by
 have FS := Lib.hid figT
 have HL := Lib.hid (lenD_iff n)
 have HP := Lib.hid (lenD_pos n)
 have HX := Lib.hid (lenD_le hn)
 have HN := Lib.hid hn
 clear hn
 go_enter Tryz.func129, Tryz.ntmps129
 go_wp2_with fail
 obtain ⟨S, hS⟩ : ∃ S : ByteArray, (⟨#[48, 49, 50, 51, 52, 53, 54, 55, 56, 57, 65, 66, 67, 68, 69, 70]⟩ : ByteArray) = S := ⟨_, rfl⟩
 rw [hS] at FS ⊢
 have hzS : S.size = 16 := by rw [← hS]; rfl
 clear hS
 go_loopw [0, 8] (WtRel n w) (fun a _ _ => (intOf a).toNat)
 case atStart => exact ⟨⟨0, rfl⟩, 0, HP.out, by simp, by rw [decS_zero]⟩
 case round =>
  obtain ⟨⟨q, rfl⟩, r, hr, rfl, rfl⟩ := hrel
  have hsz := decS_size r n
  have hr20 : r < 20 := Nat.lt_of_lt_of_le hr HX.out
  obtain ⟨m, hm⟩ : ∃ m, n / 10 ^ r = m := ⟨_, rfl⟩
  have hm64 : m < 18446744073709551616 := by
   have := Nat.div_le_self n (10 ^ r)
   have := HN.out
   omega
  have hcons := decS_cons r n
  have hnext : n / 10 ^ (r + 1) = m / 10 := by rw [← hm, Nat.pow_succ, Nat.div_div_eq_div_mul]
  have hiff := HL.out (r + 1) (by omega)
  rw [hnext] at hiff
  rw [hm] at hcons ⊢
  obtain ⟨d, hd⟩ : ∃ d, m % 10 = d := ⟨_, rfl⟩
  obtain ⟨p, hp⟩ : ∃ p, m / 10 = p := ⟨_, rfl⟩
  rw [hd] at hcons
  rw [hp] at hiff hnext
  have hd10 : d < 10 := by omega
  have hpm : p < m ∨ (p = 0 ∧ m = 0) := by omega
  have F1 : S.extract d (d + 1) = ⟨#[UInt8.ofNat (48 + d)]⟩ := FS.out ⟨d, hd10⟩
  have tm : (m : Int).tmod 10 = (d : Int) := by rw [Int.tmod_eq_emod_of_nonneg (by omega)]; omega
  have td : (m : Int).tdiv 10 = (p : Int) := by rw [Int.tdiv_eq_ediv_of_nonneg (by omega)]; omega
  have wr1 : IntKind.u64.wrap ((d : Int) + 1) = (d : Int) + 1 := IntWalk.u64_in _ (by omega)
  have wr0 : IntKind.u64.wrap (p : Int) = (p : Int) := IntWalk.u64_in _ (by omega)
  have sl := slice_one .u64 S d (by omega) _ F1
  obtain ⟨X, hX⟩ : ∃ X : ByteArray, (⟨#[UInt8.ofNat (48 + d)]⟩ : ByteArray) = X := ⟨_, rfl⟩
  have z1 : X.size = 1 := by rw [← hX]; rfl
  rw [hX] at sl hcons
  generalize decS r n = Y at *
  have hz2 : (X ++ Y).size = r + 1 := by rw [hcons, decS_size]
  have HCO := Lib.hid hcons
  have HNX := Lib.hid hnext
  have HPM := Lib.hid hpm
  have HDL : Hid (decB n = decS (lenD n) n) := Lib.hid rfl
  by_cases h0 : p = 0
  · have t0 : ((p : Int) == 0) = true := beq_iff_eq.2 (by omega)
    have hlen : lenD n = r + 1 := by have := hiff.2 h0; omega
    have HLE := Lib.hid hlen
    have tz : decide ((r : Int) + 1 < 1) = false := decide_eq_false (by omega)
    have HZ2 := Lib.hid hz2
    clear hm hd hp F1 hnext hiff hcons hX h0 hlen hr hpm hz2
    go_wp2
    go_quiet (fail)
    generalize hXY : X ++ Y = Z at *
    have hz3 : (Z.size : Int) = (r : Int) + 1 := by have := HZ2.out; omega
    have tz2 : decide (Z.size < 1) = false := decide_eq_false (by omega)
    have HXY := Lib.hid hXY
    clear hXY hsz z1 sl
    go_wp2_with fail
    go_loopw [8] (fun o W => o = .string Z ∧ ∃ q, W = w.drewN q) (fun _ _ => 0)
    case atStart => exact ⟨rfl, _, rfl⟩
    case round =>
     obtain ⟨rfl, q2, rfl⟩ := hrel
     go_wp2
     go_ret
     exact ⟨by rw [HDL.out, HLE.out, ← HCO.out]; rfl, ext_drewN _ (Below.refl _ _)⟩
  · have t0 : ((p : Int) == 0) = false := beq_eq_false_iff_ne.2 (by omega)
    have hr2 : r + 1 < lenD n := by
     refine Nat.lt_of_not_le fun h => h0 (hiff.1 h)
    have R : ∀ k, WtRel n w (.int .u64 (p : Int)) (.string (X ++ Y)) ((w.drewN q).drewN k) := fun k => ⟨⟨q + k, drewN_add _ _ _⟩, r + 1, hr2, by rw [hnext], by rw [hcons]⟩
    have HR := Lib.hid R
    have hlt : p < m := by omega
    have HLT := Lib.hid hlt
    clear hm hd hp F1 R hlt hiff hnext hcons hX hr hr2 hpm hz2 h0
    go_wp2
    go_quiet (fail)
    go_wp2
    refine ⟨?_, by have := HLT.out; simp [intOf]; omega⟩
    have R := HR.out
    first | exact R _ | simpa using R _
end
end Go.Proofs.YtbeodjipdpcaiaaGreatDoor
