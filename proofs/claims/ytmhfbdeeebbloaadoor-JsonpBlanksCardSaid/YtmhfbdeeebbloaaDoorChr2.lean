/- The document's characters (ref01): Put. -/
import Derived.Test.YtmhfbdeeebbloaaDoorUtf0
import Derived.Test.YtmhfbdeeebbloaaDoorErrs3
import Derived.BigQuiet
namespace Go.Proofs.YtmhfbdeeebbloaaDoor
open Go.RowKit
def putV (n : Nat) : Array Value := ((putN n).map fun (b : Nat) => Value.int .u8 (b : Int)).toArray
theorem arr1 {a c : Int} (h1 : a = c) : (#[.int .u8 a] : Array Value) = #[.int .u8 c] := by rw [h1]
theorem arr2 {a b c d : Int} (h1 : a = c) (h2 : b = d) : (#[.int .u8 a, .int .u8 b] : Array Value) = #[.int .u8 c, .int .u8 d] := by rw [h1, h2]
theorem arr3 {a b c d e f : Int} (h1 : a = d) (h2 : b = e) (h3 : c = f) : (#[.int .u8 a, .int .u8 b, .int .u8 c] : Array Value) = #[.int .u8 d, .int .u8 e, .int .u8 f] := by rw [h1, h2, h3]
theorem arr4 {a b c d e f g h : Int} (h1 : a = e) (h2 : b = f) (h3 : c = g) (h4 : d = h) : (#[.int .u8 a, .int .u8 b, .int .u8 c, .int .u8 d] : Array Value) = #[.int .u8 e, .int .u8 f, .int .u8 g, .int .u8 h] := by rw [h1, h2, h3, h4]
set_option maxRecDepth 100000 in
set_option maxHeartbeats 4000000 in
theorem rput_any (n : Nat) (hn : n < 1114112) (w : World) : Calls Tryd.prog 84 #[.int .i64 n] w fun e w' => e = .returned (.slice (some ⟨w.heap.size, 0, none⟩) (putN n).length (putN n).length) ∧ w' = w.alloc (.cells (putV n) 5) := by
  by_cases h1 : n < 128
  · have t1 : decide ((n : Int) < 128) = true := decide_eq_true (by omega)
    have HE : putN n = [n] := by unfold putN; rw [if_pos h1]
    have HV : putV n = #[.int .u8 (n : Int)] := by unfold putV; rw [HE]; rfl
    rw [HE, HV]
    clear HE HV
    go_enter Tryd.func84, Tryd.ntmps84
    go_wp2
    go_ret
    exact ⟨rfl, congrArg (fun x => w.alloc (.cells x 5)) (arr1 (by omega))⟩
  · have t1 : decide ((n : Int) < 128) = false := decide_eq_false (by omega)
    by_cases h2 : n < 2048
    · have t2 : decide ((n : Int) < 2048) = true := decide_eq_true (by omega)
      have HE : putN n = [192 + n / 64, 128 + n % 64] := by unfold putN; rw [if_neg h1, if_pos h2]
      have HV : putV n = #[.int .u8 ((192 + n / 64 : Nat) : Int), .int .u8 ((128 + n % 64 : Nat) : Int)] := by unfold putV; rw [HE]; rfl
      rw [HE, HV]
      clear HE HV
      go_enter Tryd.func84, Tryd.ntmps84
      go_wp2
      go_ret
      exact ⟨rfl, congrArg (fun x => w.alloc (.cells x 5)) (arr2 (by omega) (by omega))⟩
    · have t2 : decide ((n : Int) < 2048) = false := decide_eq_false (by omega)
      by_cases h3 : n < 65536
      · have t3 : decide ((n : Int) < 65536) = true := decide_eq_true (by omega)
        have HE : putN n = [224 + n / 4096, 128 + n / 64 % 64, 128 + n % 64] := by unfold putN; rw [if_neg h1, if_neg h2, if_pos h3]
        have HV : putV n = #[.int .u8 ((224 + n / 4096 : Nat) : Int), .int .u8 ((128 + n / 64 % 64 : Nat) : Int), .int .u8 ((128 + n % 64 : Nat) : Int)] := by unfold putV; rw [HE]; rfl
        rw [HE, HV]
        clear HE HV
        go_enter Tryd.func84, Tryd.ntmps84
        go_wp2
        go_ret
        exact ⟨rfl, congrArg (fun x => w.alloc (.cells x 5)) (arr3 (by omega) (by omega) (by omega))⟩
      · have t3 : decide ((n : Int) < 65536) = false := decide_eq_false (by omega)
        have HE : putN n = [240 + n / 262144, 128 + n / 4096 % 64, 128 + n / 64 % 64, 128 + n % 64] := by unfold putN; rw [if_neg h1, if_neg h2, if_neg h3]
        have HV : putV n = #[.int .u8 ((240 + n / 262144 : Nat) : Int), .int .u8 ((128 + n / 4096 % 64 : Nat) : Int), .int .u8 ((128 + n / 64 % 64 : Nat) : Int), .int .u8 ((128 + n % 64 : Nat) : Int)] := by unfold putV; rw [HE]; rfl
        rw [HE, HV]
        clear HE HV
        go_enter Tryd.func84, Tryd.ntmps84
        go_wp2
        go_ret
        exact ⟨rfl, congrArg (fun x => w.alloc (.cells x 5)) (arr4 (by omega) (by omega) (by omega) (by omega))⟩
end Go.Proofs.YtmhfbdeeebbloaaDoor
