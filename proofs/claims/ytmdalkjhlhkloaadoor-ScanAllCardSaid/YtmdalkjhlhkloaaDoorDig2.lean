/- The document's numbers (ref02): Number of four digits of base 16. -/
import Derived.Test.YtmdalkjhlhkloaaDoorDig1
import Derived.Deep.DeepCutAuto
namespace Go.Proofs.YtmdalkjhlhkloaaDoor
open Go.RowKit
theorem numVal_lt {s : ByteArray} (h : ∀ i, i < 4 → digV (byteAt s i) < 16) : ∀ j, j ≤ 4 → numVal 16 s j < 16 ^ j
  | 0, _ => by simp [numVal]
  | j + 1, hj => by
    have h1 := numVal_lt h j (by omega)
    have h2 := h j (by omega)
    rw [numVal, Nat.pow_succ]; omega
def RnbRel (s : ByteArray) (w : World) (n o i : Value) (wr : World) : Prop := ∃ j k : Nat, n = .int .u64 (numVal 16 s j) ∧ o = .bool false ∧ i = .int .i64 j ∧ j ≤ 4 ∧ wr = w.drewN k
set_option maxRecDepth 100000 in
set_option maxHeartbeats 4000000 in
theorem rnumber_any (s : ByteArray) (hs : s.size = 4) (hd : ∀ i, i < 4 → digV (byteAt s i) < 16) (w : World) :
    Calls Tryd.prog 188 #[.string s, .int .u64 16, .int .u64 65535] w fun e w' => e = .returned (.tuple #[.int .u64 (numVal 16 s 4), .int .i64 0, .int .i64 0]) ∧ ∃ n, w' = w.drewN n := by
  have HL := Lib.hid (numVal_lt hd)
  have HD := Lib.hid hd
  have HC := Lib.hid (fun j W => rdigit_any (byteAt s j) (byteAt_lt s j) W)
  have HS := Lib.hid hs
  have ts : ((s.size : Int) == 0) = false := beq_eq_false_iff_ne.2 (by omega)
  clear hd hs
  go_enter Tryd.func188, Tryd.ntmps188
  go_wp2_with fail
  go_loopw [9, 10, 11] (RnbRel s w) (fun _ _ i _ => 4 - (intOf i).toNat)
  case atStart => exact ⟨0, 0, rfl, rfl, rfl, by decide, rfl⟩
  case round =>
    obtain ⟨j, nq, rfl, rfl, rfl, hj, hw⟩ := hrel
    have HW : Hid (∀ m, wr.drewN m = w.drewN (nq + m)) := Lib.hid (fun m => by rw [hw, World.drewN_drewN])
    have HW0 := Lib.hid hw
    clear hw
    by_cases hlt : j < 4
    · have hjs : j < s.size := by rw [HS.out]; exact hlt
      have t1 : decide (j < s.size) = true := decide_eq_true hjs
      have hb : (s[j]'hjs).toNat = byteAt s j := (byteAt_get s j hjs).symm
      have hC := HC.out j wr
      rw [← hb] at hC
      have HCC := Lib.hid hC
      have h16 := HD.out j hlt
      have hn := HL.out j (by omega)
      have hp : 16 ^ j ≤ 16 ^ 4 := Nat.pow_le_pow_right (by decide) hj
      have HSTEP : Hid (numVal 16 s (j + 1) = numVal 16 s j * 16 + digV (byteAt s j)) := Lib.hid rfl
      rw [← hb] at h16 HSTEP
      have hn2 : numVal 16 s j < 65536 := Nat.lt_of_lt_of_le hn hp
      generalize numVal 16 s j = n at *
      generalize digV (s[j]'hjs).toNat = d at *
      clear hC hb hn hp
      go_wp2_with fail
      refine HCC.out.mono ?_
      rintro e w1 ⟨rfl, m, rfl⟩
      have t2 : decide (16 ≤ d) = false := decide_eq_false (by omega)
      have t2' : decide ((16 : Int) ≤ (d : Int)) = false := decide_eq_false (by omega)
      have t3 : decide ((18446744073709551615 - (d : Int)) / 16 < (n : Int)) = false := decide_eq_false (by omega)
      have R : RnbRel s w (.int .u64 ((n : Int) * 16 + (d : Int))) (.bool false) (.int .i64 (j + 1)) (wr.drewN m) := ⟨j + 1, nq + m, by rw [HSTEP.out]; rfl, rfl, by go_num, by omega, HW.out m⟩
      have HR := Lib.hid R
      clear R
      go_wp2
      refine ⟨?_, by simp [intOf] <;> omega⟩
      have R := HR.out
      first | exact R | ((repeat apply Exists.intro); exact ⟨R, rfl⟩)
    · obtain rfl : j = 4 := by omega
      have hjs : ¬ 4 < s.size := by rw [HS.out]; exact hlt
      have t1 : decide (4 < s.size) = false := decide_eq_false hjs
      have hn := HL.out 4 (by omega)
      have t2 : decide ((65535 : Int) < ((numVal 16 s 4 : Nat) : Int)) = false := decide_eq_false (by have : (16 : Nat) ^ 4 = 65536 := rfl; omega)
      have t2' : decide (65535 < numVal 16 s 4) = false := decide_eq_false (by have : (16 : Nat) ^ 4 = 65536 := rfl; omega)
      clear hn
      go_wp2
      refine bodyPost_ret (v := .tuple #[.int .u64 (numVal 16 s 4), .int .i64 0, .int .i64 0]) (by simp [results, Tryd.results188, go_sem]) rfl ⟨rfl, nq, HW0.out⟩
end Go.Proofs.YtmdalkjhlhkloaaDoor
