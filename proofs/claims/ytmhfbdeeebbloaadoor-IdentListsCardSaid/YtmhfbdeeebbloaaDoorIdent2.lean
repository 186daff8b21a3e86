/- Names of apps: the tests on bytes, and the walk of App. -/
import Derived.Test.YtmhfbdeeebbloaaDoorIdent1
namespace Go.Proofs.YtmhfbdeeebbloaaDoor
open Go.RowKit
def greatB (c : Nat) : Bool := decide (65 ≤ c) && decide (c ≤ 90)
def smallB (c : Nat) : Bool := decide (97 ≤ c) && decide (c ≤ 122)
def digitB (c : Nat) : Bool := decide (48 ≤ c) && decide (c ≤ 57)
def letterB (c : Nat) : Bool := smallB c || greatB c
theorem great_any (c : Nat) (w : World) : Calls Tryd.prog 68 #[.int .u8 c] w fun e w' => e = .returned (.bool (greatB c)) ∧ w = w' := by
  unfold greatB
  by_cases h1 : 65 ≤ c
  · by_cases h2 : c ≤ 90
    · have t1 : decide ((65 : Int) ≤ c) = true := decide_eq_true (by omega)
      have t2 : decide ((c : Int) ≤ 90) = true := decide_eq_true (by omega)
      rw [decide_eq_true h1, decide_eq_true h2]
      go_enter Tryd.func68, Tryd.ntmps68
      go_wp2
      go_ret
      exact ⟨rfl, rfl⟩
    · have t1 : decide ((65 : Int) ≤ c) = true := decide_eq_true (by omega)
      have t2 : decide ((c : Int) ≤ 90) = false := decide_eq_false (by omega)
      rw [decide_eq_true h1, decide_eq_false h2]
      go_enter Tryd.func68, Tryd.ntmps68
      go_wp2
      go_ret
      exact ⟨rfl, rfl⟩
  · have t1 : decide ((65 : Int) ≤ c) = false := decide_eq_false (by omega)
    rw [decide_eq_false h1]
    go_enter Tryd.func68, Tryd.ntmps68
    go_wp2
    go_ret
    exact ⟨rfl, rfl⟩
theorem small_any (c : Nat) (w : World) : Calls Tryd.prog 108 #[.int .u8 c] w fun e w' => e = .returned (.bool (smallB c)) ∧ w = w' := by
  unfold smallB
  by_cases h1 : 97 ≤ c
  · by_cases h2 : c ≤ 122
    · have t1 : decide ((97 : Int) ≤ c) = true := decide_eq_true (by omega)
      have t2 : decide ((c : Int) ≤ 122) = true := decide_eq_true (by omega)
      rw [decide_eq_true h1, decide_eq_true h2]
      go_enter Tryd.func108, Tryd.ntmps108
      go_wp2
      go_ret
      exact ⟨rfl, rfl⟩
    · have t1 : decide ((97 : Int) ≤ c) = true := decide_eq_true (by omega)
      have t2 : decide ((c : Int) ≤ 122) = false := decide_eq_false (by omega)
      rw [decide_eq_true h1, decide_eq_false h2]
      go_enter Tryd.func108, Tryd.ntmps108
      go_wp2
      go_ret
      exact ⟨rfl, rfl⟩
  · have t1 : decide ((97 : Int) ≤ c) = false := decide_eq_false (by omega)
    rw [decide_eq_false h1]
    go_enter Tryd.func108, Tryd.ntmps108
    go_wp2
    go_ret
    exact ⟨rfl, rfl⟩
theorem digit_any (c : Nat) (w : World) : Calls Tryd.prog 69 #[.int .u8 c] w fun e w' => e = .returned (.bool (digitB c)) ∧ w = w' := by
  unfold digitB
  by_cases h1 : 48 ≤ c
  · by_cases h2 : c ≤ 57
    · have t1 : decide ((48 : Int) ≤ c) = true := decide_eq_true (by omega)
      have t2 : decide ((c : Int) ≤ 57) = true := decide_eq_true (by omega)
      rw [decide_eq_true h1, decide_eq_true h2]
      go_enter Tryd.func69, Tryd.ntmps69
      go_wp2
      go_ret
      exact ⟨rfl, rfl⟩
    · have t1 : decide ((48 : Int) ≤ c) = true := decide_eq_true (by omega)
      have t2 : decide ((c : Int) ≤ 57) = false := decide_eq_false (by omega)
      rw [decide_eq_true h1, decide_eq_false h2]
      go_enter Tryd.func69, Tryd.ntmps69
      go_wp2
      go_ret
      exact ⟨rfl, rfl⟩
  · have t1 : decide ((48 : Int) ≤ c) = false := decide_eq_false (by omega)
    rw [decide_eq_false h1]
    go_enter Tryd.func69, Tryd.ntmps69
    go_wp2
    go_ret
    exact ⟨rfl, rfl⟩
theorem letter_any (c : Nat) (w : World) : Calls Tryd.prog 70 #[.int .u8 c] w fun e w' => e = .returned (.bool (letterB c)) ∧ w = w' := by
  unfold letterB
  cases h1 : smallB c with
  | true =>
    go_enter Tryd.func70, Tryd.ntmps70
    go_wp2_with fail
    refine (small_any c _).mono ?_
    rintro e w1 ⟨rfl, rfl⟩
    rw [h1]
    go_wp2
    go_ret
    exact ⟨rfl, rfl⟩
  | false =>
    go_enter Tryd.func70, Tryd.ntmps70
    go_wp2_with fail
    refine (small_any c _).mono ?_
    rintro e w1 ⟨rfl, rfl⟩
    rw [h1]
    go_wp2_with fail
    refine (great_any c _).mono ?_
    rintro e w1 ⟨rfl, rfl⟩
    go_wp2
    go_ret
    exact ⟨rfl, rfl⟩
def appB (i c : Nat) : Bool := if i < 10 then greatB c || digitB c else if i = 10 then decide (c = 46) else letterB c || digitB c || decide (c = 45) || decide (c = 46)
set_option maxHeartbeats 4000000 in
theorem app1_any (i c : Nat) (w : World) (hi : i ≤ 1000000) : Calls Tryd.prog 67 #[.int .i64 i, .int .u8 c] w fun e w' => e = .returned (.bool (appB i c)) ∧ w = w' := by
  unfold appB
  by_cases h1 : i < 10
  · rw [if_pos h1]
    have t1 : decide ((i : Int) < 10) = true := decide_eq_true (by omega)
    cases hg : greatB c with
    | true =>
      go_enter Tryd.func67, Tryd.ntmps67
      go_wp2_with fail
      refine (great_any c _).mono ?_
      rintro e w1 ⟨rfl, rfl⟩
      rw [hg]
      go_wp2
      go_ret
      exact ⟨rfl, rfl⟩
    | false =>
      go_enter Tryd.func67, Tryd.ntmps67
      go_wp2_with fail
      refine (great_any c _).mono ?_
      rintro e w1 ⟨rfl, rfl⟩
      rw [hg]
      go_wp2_with fail
      refine (digit_any c _).mono ?_
      rintro e w1 ⟨rfl, rfl⟩
      go_wp2
      go_ret
      exact ⟨rfl, rfl⟩
  · rw [if_neg h1]
    have t1 : decide ((i : Int) < 10) = false := decide_eq_false (by omega)
    by_cases h2 : i = 10
    · rw [if_pos h2]
      have t2 : ((i : Int) == 10) = true := beq_iff_eq.2 (by omega)
      by_cases h3 : c = 46
      · have t3 : ((c : Int) == 46) = true := beq_iff_eq.2 (by omega)
        rw [decide_eq_true h3]
        clear h1 h2 h3
        go_enter Tryd.func67, Tryd.ntmps67
        go_wp2
        go_ret
        exact ⟨rfl, rfl⟩
      · have t3 : ((c : Int) == 46) = false := beq_eq_false_iff_ne.2 (by omega)
        rw [decide_eq_false h3]
        clear h1 h2 h3
        go_enter Tryd.func67, Tryd.ntmps67
        go_wp2
        go_ret
        exact ⟨rfl, rfl⟩
    · rw [if_neg h2]
      have t2 : ((i : Int) == 10) = false := beq_eq_false_iff_ne.2 (by omega)
      have k3 : ∃ b, decide (c = 45) = b ∧ ((c : Int) == 45) = b := ⟨decide (c = 45), rfl, by by_cases h : c = 45 <;> simp [h]; omega⟩
      have k4 : ∃ b, decide (c = 46) = b ∧ ((c : Int) == 46) = b := ⟨decide (c = 46), rfl, by by_cases h : c = 46 <;> simp [h]; omega⟩
      obtain ⟨b3, e3, t3⟩ := k3
      obtain ⟨b4, e4, t4⟩ := k4
      rw [e3, e4]
      clear h1 h2 e3 e4
      cases hg : letterB c with
      | true =>
        cases b3 <;> cases b4
        all_goals
          go_enter Tryd.func67, Tryd.ntmps67
          go_wp2_with fail
          refine (letter_any c _).mono ?_
          rintro e w1 ⟨rfl, rfl⟩
          rw [hg]
          go_wp2
          go_ret
          exact ⟨rfl, rfl⟩
      | false =>
        cases hd : digitB c <;> cases b3 <;> cases b4
        all_goals
          go_enter Tryd.func67, Tryd.ntmps67
          go_wp2_with fail
          refine (letter_any c _).mono ?_
          rintro e w1 ⟨rfl, rfl⟩
          rw [hg]
          go_wp2_with fail
          refine (digit_any c _).mono ?_
          rintro e w1 ⟨rfl, rfl⟩
          rw [hd]
          go_wp2
          go_ret
          exact ⟨rfl, rfl⟩
theorem enters_id {P : Program} {k : FuncId} {fn : Func} {c : Code} (hf : P.funcs[k]? = some fn) (hn : (fn.name == "runtime.NumGoroutine") = false) (hb : fn.body = some c) (args : Array Value) (w : World) : (callFunc k args).run P w = .ok (.enter k args) w := by
  have hn' := beq_eq_false_iff_ne.1 hn
  simp [callFunc, hf, hn', hb]
theorem appFits : Fits 67 appB := ⟨enters_id Tryd.func67 (by kernel_rfl) rfl, fun i c w hi _ => app1_any i c w hi⟩
def appR (s : ByteArray) : List (Int × Int) := readR s 166 appB (decide (11 < s.size))
end Go.Proofs.YtmhfbdeeebbloaaDoor
