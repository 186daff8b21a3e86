
/- Chr1, Chr2, Chr3, Chr4, Chr5 in one text (a claim holds at most 60 files). -/
import Derived.Test.YtbeodjipdpcaiaaGreatDoorZFold0s
import Derived.Test.YtbeodjipdpcaiaaGreatDoorZErrs1s
import Derived.BigQuiet
import Derived.Test.YtbeodjipdpcaiaaGreatDoorZLib0s
import Derived.Deep.DeepCutAuto
import Derived.Test.YtbeodjipdpcaiaaGreatDoorZScan4s
import Derived.Deep.RegionWith
import Derived.Deep.RegionHeld3
-- @auto
namespace Go.Proofs.YtbeodjipdpcaiaaGreatDoor
section
open Go.RowKit
set_option maxRecDepth 100000 in
theorem rhalf_any (n : Int) (w : World) : Calls Tryz.prog 237 #[.int .i64 n] w fun e w' => e = .returned (.int .i64 (halfN n)) ∧ w = w' := by
  by_cases h1 : n < 55296
  · have t1 : decide ((55296 : Int) ≤ n) = false := decide_eq_false (by omega)
    have t2 : decide ((56320 : Int) ≤ n) = false := decide_eq_false (by omega)
    have HE : Hid (halfN n = 0) := Lib.hid (by unfold halfN; rw [if_neg (by omega), if_neg (by omega)])
    clear h1
    go_enter Tryz.func237, Tryz.ntmps237
    go_wp2
    go_ret
    exact ⟨by rw [HE.out]; rfl, rfl⟩
  · have t1 : decide ((55296 : Int) ≤ n) = true := decide_eq_true (by omega)
    by_cases h2 : n < 56320
    · have t2 : decide (n < 56320) = true := decide_eq_true (by omega)
      have HE : Hid (halfN n = 1) := Lib.hid (by unfold halfN; rw [if_pos (by omega)])
      clear h1 h2
      go_enter Tryz.func237, Tryz.ntmps237
      go_wp2
      go_ret
      exact ⟨by rw [HE.out]; rfl, rfl⟩
    · have t2 : decide (n < 56320) = false := decide_eq_false (by omega)
      have t3 : decide ((56320 : Int) ≤ n) = true := decide_eq_true (by omega)
      by_cases h3 : n < 57344
      · have t4 : decide (n < 57344) = true := decide_eq_true (by omega)
        have HE : Hid (halfN n = 2) := Lib.hid (by unfold halfN; rw [if_neg (by omega), if_pos (by omega)])
        clear h1 h2 h3
        go_enter Tryz.func237, Tryz.ntmps237
        go_wp2
        go_ret
        exact ⟨by rw [HE.out]; rfl, rfl⟩
      · have t4 : decide (n < 57344) = false := decide_eq_false (by omega)
        have HE : Hid (halfN n = 0) := Lib.hid (by unfold halfN; rw [if_neg (by omega), if_neg (by omega)])
        clear h1 h2 h3
        go_enter Tryz.func237, Tryz.ntmps237
        go_wp2
        go_ret
        exact ⟨by rw [HE.out]; rfl, rfl⟩
set_option maxRecDepth 100000 in
theorem rright_any (n : Int) (w : World) : Calls Tryz.prog 192 #[.int .i64 n] w fun e w' => e = .returned (.bool (rightN n)) ∧ w = w' := by
  cases h1 : decide ((0 : Int) ≤ n) with
  | false =>
    have HE : Hid (rightN n = false) := Lib.hid (by unfold rightN; rw [h1]; rfl)
    go_enter Tryz.func192, Tryz.ntmps192
    go_wp2
    go_ret
    exact ⟨by rw [HE.out]; rfl, rfl⟩
  | true =>
    cases h2 : decide (n < 1114112) with
    | false =>
      have HE : Hid (rightN n = false) := Lib.hid (by unfold rightN; rw [h1, h2]; rfl)
      go_enter Tryz.func192, Tryz.ntmps192
      go_wp2
      go_ret
      exact ⟨by rw [HE.out]; rfl, rfl⟩
    | true =>
      have HE : Hid (rightN n = (halfN n == 0)) := Lib.hid (by unfold rightN; rw [h1, h2]; rfl)
      go_enter Tryz.func192, Tryz.ntmps192
      go_wp2_with fail
      refine (rhalf_any n w).mono ?_
      rintro e w' ⟨rfl, rfl⟩
      go_wp2
      go_ret
      exact ⟨by rw [HE.out]; rfl, rfl⟩
end
section
open Go.RowKit
def putV (n : Nat) : Array Value := ((putN n).map fun (b : Nat) => Value.int .u8 (b : Int)).toArray
theorem arr1 {a c : Int} (h1 : a = c) : (#[.int .u8 a] : Array Value) = #[.int .u8 c] := by rw [h1]
theorem arr2 {a b c d : Int} (h1 : a = c) (h2 : b = d) : (#[.int .u8 a, .int .u8 b] : Array Value) = #[.int .u8 c, .int .u8 d] := by rw [h1, h2]
theorem arr3 {a b c d e f : Int} (h1 : a = d) (h2 : b = e) (h3 : c = f) : (#[.int .u8 a, .int .u8 b, .int .u8 c] : Array Value) = #[.int .u8 d, .int .u8 e, .int .u8 f] := by rw [h1, h2, h3]
theorem arr4 {a b c d e f g h : Int} (h1 : a = e) (h2 : b = f) (h3 : c = g) (h4 : d = h) : (#[.int .u8 a, .int .u8 b, .int .u8 c, .int .u8 d] : Array Value) = #[.int .u8 e, .int .u8 f, .int .u8 g, .int .u8 h] := by rw [h1, h2, h3, h4]
set_option maxRecDepth 100000 in
set_option maxHeartbeats 4000000 in
theorem rput_any (n : Nat) (hn : n < 1114112) (w : World) : Calls Tryz.prog 193 #[.int .i64 n] w fun e w' => e = .returned (.slice (some ⟨w.heap.size, 0, none⟩) (putN n).length (putN n).length) ∧ w' = w.alloc (.cells (putV n) 5) := by
  by_cases h1 : n < 128
  · have t1 : decide ((n : Int) < 128) = true := decide_eq_true (by omega)
    have HE : putN n = [n] := by unfold putN; rw [if_pos h1]
    have HV : putV n = #[.int .u8 (n : Int)] := by unfold putV; rw [HE]; rfl
    rw [HE, HV]
    clear HE HV
    go_enter Tryz.func193, Tryz.ntmps193
    go_wp2
    go_ret
    exact ⟨rfl, congrArg (fun x => w.alloc (.cells x 5)) (arr1 (by omega))⟩
  · have t1 : decide ((n : Int) < 128) = false := decide_eq_false (by omega)
    by_cases h2 : n < 2048
    · have t2 : decide ((n : Int) < 2048) = true := decide_eq_true (by omega)
      have HE : putN n = [192 + n / 64, 128 + n % 64] := by unfold putN; rw [if_neg h1, if_pos h2]
      have HV : putV n = #[.int .u8 ((192 + n / 64 : Nat) : Int), .int .u8 ((128 + n % 64 : Nat) : Int)] := by unfold putV; rw [HE]; rfl
      rw [HE, HV]
      clear HE HV
      go_enter Tryz.func193, Tryz.ntmps193
      go_wp2
      go_ret
      exact ⟨rfl, congrArg (fun x => w.alloc (.cells x 5)) (arr2 (by omega) (by omega))⟩
    · have t2 : decide ((n : Int) < 2048) = false := decide_eq_false (by omega)
      by_cases h3 : n < 65536
      · have t3 : decide ((n : Int) < 65536) = true := decide_eq_true (by omega)
        have HE : putN n = [224 + n / 4096, 128 + n / 64 % 64, 128 + n % 64] := by unfold putN; rw [if_neg h1, if_neg h2, if_pos h3]
        have HV : putV n = #[.int .u8 ((224 + n / 4096 : Nat) : Int), .int .u8 ((128 + n / 64 % 64 : Nat) : Int), .int .u8 ((128 + n % 64 : Nat) : Int)] := by unfold putV; rw [HE]; rfl
        rw [HE, HV]
        clear HE HV
        go_enter Tryz.func193, Tryz.ntmps193
        go_wp2
        go_ret
        exact ⟨rfl, congrArg (fun x => w.alloc (.cells x 5)) (arr3 (by omega) (by omega) (by omega))⟩
      · have t3 : decide ((n : Int) < 65536) = false := decide_eq_false (by omega)
        have HE : putN n = [240 + n / 262144, 128 + n / 4096 % 64, 128 + n / 64 % 64, 128 + n % 64] := by unfold putN; rw [if_neg h1, if_neg h2, if_neg h3]
        have HV : putV n = #[.int .u8 ((240 + n / 262144 : Nat) : Int), .int .u8 ((128 + n / 4096 % 64 : Nat) : Int), .int .u8 ((128 + n / 64 % 64 : Nat) : Int), .int .u8 ((128 + n % 64 : Nat) : Int)] := by unfold putV; rw [HE]; rfl
        rw [HE, HV]
        clear HE HV
        go_enter Tryz.func193, Tryz.ntmps193
        go_wp2
        go_ret
        exact ⟨rfl, congrArg (fun x => w.alloc (.cells x 5)) (arr4 (by omega) (by omega) (by omega) (by omega))⟩
end
section
open Go.RowKit
end
section
open Go.RowKit
end
section
open Go.RowKit
end
end Go.Proofs.YtbeodjipdpcaiaaGreatDoor
