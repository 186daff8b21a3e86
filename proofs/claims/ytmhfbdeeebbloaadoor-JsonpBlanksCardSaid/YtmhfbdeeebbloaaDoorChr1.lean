
/- The document's characters (ref01): Half, Right, Whole. -/
import Derived.Test.YtmhfbdeeebbloaaDoorUtf0
import Derived.Test.YtmhfbdeeebbloaaDoorErrs3
-- @auto
import Derived.BigQuiet
namespace Go.Proofs.YtmhfbdeeebbloaaDoor
open Go.RowKit
set_option maxRecDepth 100000 in
theorem rhalf_any (n : Int) (w : World) : Calls Tryd.prog 125 #[.int .i64 n] w fun e w' => e = .returned (.int .i64 (halfN n)) ∧ w = w' := by
  by_cases h1 : n < 55296
  · have t1 : decide ((55296 : Int) ≤ n) = false := decide_eq_false (by omega)
    have t2 : decide ((56320 : Int) ≤ n) = false := decide_eq_false (by omega)
    have HE : Hid (halfN n = 0) := Lib.hid (by unfold halfN; rw [if_neg (by omega), if_neg (by omega)])
    clear h1
    go_enter Tryd.func125, Tryd.ntmps125
    go_wp2
    go_ret
    exact ⟨by rw [HE.out]; rfl, rfl⟩
  · have t1 : decide ((55296 : Int) ≤ n) = true := decide_eq_true (by omega)
    by_cases h2 : n < 56320
    · have t2 : decide (n < 56320) = true := decide_eq_true (by omega)
      have HE : Hid (halfN n = 1) := Lib.hid (by unfold halfN; rw [if_pos (by omega)])
      clear h1 h2
      go_enter Tryd.func125, Tryd.ntmps125
      go_wp2
      go_ret
      exact ⟨by rw [HE.out]; rfl, rfl⟩
    · have t2 : decide (n < 56320) = false := decide_eq_false (by omega)
      have t3 : decide ((56320 : Int) ≤ n) = true := decide_eq_true (by omega)
      by_cases h3 : n < 57344
      · have t4 : decide (n < 57344) = true := decide_eq_true (by omega)
        have HE : Hid (halfN n = 2) := Lib.hid (by unfold halfN; rw [if_neg (by omega), if_pos (by omega)])
        clear h1 h2 h3
        go_enter Tryd.func125, Tryd.ntmps125
        go_wp2
        go_ret
        exact ⟨by rw [HE.out]; rfl, rfl⟩
      · have t4 : decide (n < 57344) = false := decide_eq_false (by omega)
        have HE : Hid (halfN n = 0) := Lib.hid (by unfold halfN; rw [if_neg (by omega), if_neg (by omega)])
        clear h1 h2 h3
        go_enter Tryd.func125, Tryd.ntmps125
        go_wp2
        go_ret
        exact ⟨by rw [HE.out]; rfl, rfl⟩
set_option maxRecDepth 100000 in
theorem rright_any (n : Int) (w : World) : Calls Tryd.prog 83 #[.int .i64 n] w fun e w' => e = .returned (.bool (rightN n)) ∧ w = w' := by
  cases h1 : decide ((0 : Int) ≤ n) with
  | false =>
    have HE : Hid (rightN n = false) := Lib.hid (by unfold rightN; rw [h1]; rfl)
    go_enter Tryd.func83, Tryd.ntmps83
    go_wp2
    go_ret
    exact ⟨by rw [HE.out]; rfl, rfl⟩
  | true =>
    cases h2 : decide (n < 1114112) with
    | false =>
      have HE : Hid (rightN n = false) := Lib.hid (by unfold rightN; rw [h1, h2]; rfl)
      go_enter Tryd.func83, Tryd.ntmps83
      go_wp2
      go_ret
      exact ⟨by rw [HE.out]; rfl, rfl⟩
    | true =>
      have HE : Hid (rightN n = (halfN n == 0)) := Lib.hid (by unfold rightN; rw [h1, h2]; rfl)
      go_enter Tryd.func83, Tryd.ntmps83
      go_wp2_with fail
      refine (rhalf_any n w).mono ?_
      rintro e w' ⟨rfl, rfl⟩
      go_wp2
      go_ret
      exact ⟨by rw [HE.out]; rfl, rfl⟩
def rwholeN (h l : Int) : Int := if (halfN h == 1 && halfN l == 2) then 65536 + 1024 * (h - 55296) + (l - 56320) else 0
theorem rhalfOne {n : Int} (h : (halfN n == 1) = true) : 55296 ≤ n ∧ n < 56320 := by
  unfold halfN at h
  split at h
  · assumption
  · split at h <;> simp at h
theorem rhalfTwo {n : Int} (h : (halfN n == 2) = true) : 56320 ≤ n ∧ n < 57344 := by
  unfold halfN at h
  split at h
  · simp at h
  · split at h
    · assumption
    · simp at h
end Go.Proofs.YtmhfbdeeebbloaaDoor
