/- Texts put together. -/
import Derived.Test.YtcaiibkgajhohaaGreatDoorYUtf0s
import Derived.Test.YtcaiibkgajhohaaGreatDoorYErrs1s
import Derived.Test.YtcaiibkgajhohaaGreatDoorYLib0s
import Derived.Test.YtcaiibkgajhohaaGreatDoorYScan4s
import Derived.BigQuiet
import Derived.Deep.DeepCutAuto
import Derived.Deep.RegionWith
import Derived.Deep.RegionHeld3
namespace Go.Proofs.YtcaiibkgajhohaaGreatDoor
section
open Go.RowKit
set_option maxRecDepth 100000 in
theorem rhalf_any (n : Int) (w : World) : Calls Tryz.prog 164 #[.int .i64 n] w fun e w' => e = .returned (.int .i64 (halfN n)) ∧ w = w' := by
 by_cases h1 : n < 55296
 · have t1 : decide ((55296 : Int) ≤ n) = false := decide_eq_false (by omega)
   have t2 : decide ((56320 : Int) ≤ n) = false := decide_eq_false (by omega)
   have HE : Hid (halfN n = 0) := Lib.hid (by unfold halfN; rw [if_neg (by omega), if_neg (by omega)])
   clear h1
   go_enter Tryz.func164, Tryz.ntmps164
   go_wp2
   go_ret
   exact ⟨by rw [HE.out]; rfl, rfl⟩
 · have t1 : decide ((55296 : Int) ≤ n) = true := decide_eq_true (by omega)
   by_cases h2 : n < 56320
   · have t2 : decide (n < 56320) = true := decide_eq_true (by omega)
     have HE : Hid (halfN n = 1) := Lib.hid (by unfold halfN; rw [if_pos (by omega)])
     clear h1 h2
     go_enter Tryz.func164, Tryz.ntmps164
     go_wp2
     go_ret
     exact ⟨by rw [HE.out]; rfl, rfl⟩
   · have t2 : decide (n < 56320) = false := decide_eq_false (by omega)
     have t3 : decide ((56320 : Int) ≤ n) = true := decide_eq_true (by omega)
     by_cases h3 : n < 57344
     · have t4 : decide (n < 57344) = true := decide_eq_true (by omega)
       have HE : Hid (halfN n = 2) := Lib.hid (by unfold halfN; rw [if_neg (by omega), if_pos (by omega)])
       clear h1 h2 h3
       go_enter Tryz.func164, Tryz.ntmps164
       go_wp2
       go_ret
       exact ⟨by rw [HE.out]; rfl, rfl⟩
     · have t4 : decide (n < 57344) = false := decide_eq_false (by omega)
       have HE : Hid (halfN n = 0) := Lib.hid (by unfold halfN; rw [if_neg (by omega), if_neg (by omega)])
       clear h1 h2 h3
       go_enter Tryz.func164, Tryz.ntmps164
       go_wp2
       go_ret
       exact ⟨by rw [HE.out]; rfl, rfl⟩
set_option maxRecDepth 100000 in
theorem rright_any (n : Int) (w : World) : Calls Tryz.prog 133 #[.int .i64 n] w fun e w' => e = .returned (.bool (rightN n)) ∧ w = w' := by
 cases h1 : decide ((0 : Int) ≤ n) with
 | false =>
   have HE : Hid (rightN n = false) := Lib.hid (by unfold rightN; rw [h1]; rfl)
   go_enter Tryz.func133, Tryz.ntmps133
   go_wp2
   go_ret
   exact ⟨by rw [HE.out]; rfl, rfl⟩
 | true =>
   cases h2 : decide (n < 1114112) with
   | false =>
     have HE : Hid (rightN n = false) := Lib.hid (by unfold rightN; rw [h1, h2]; rfl)
     go_enter Tryz.func133, Tryz.ntmps133
     go_wp2
     go_ret
     exact ⟨by rw [HE.out]; rfl, rfl⟩
   | true =>
     have HE : Hid (rightN n = (halfN n == 0)) := Lib.hid (by unfold rightN; rw [h1, h2]; rfl)
     go_enter Tryz.func133, Tryz.ntmps133
     go_wp2_with fail
     refine (rhalf_any n w).mono ?_
     rintro e w' ⟨rfl, rfl⟩
     go_wp2
     go_ret
     exact ⟨by rw [HE.out]; rfl, rfl⟩
end
section
open Go.RowKit
def putV (n : Nat) : Array Value := ((putN n).map fun (b : Nat) => Value.int .u8 (b : Int)).toArray
theorem arr1 {a c : Int} (h1 : a = c) : (#[.int .u8 a] : Array Value) = #[.int .u8 c] := by rw [h1]
theorem arr2 {a b c d : Int} (h1 : a = c) (h2 : b = d) : (#[.int .u8 a, .int .u8 b] : Array Value) = #[.int .u8 c, .int .u8 d] := by rw [h1, h2]
theorem arr3 {a b c d e f : Int} (h1 : a = d) (h2 : b = e) (h3 : c = f) : (#[.int .u8 a, .int .u8 b, .int .u8 c] : Array Value) = #[.int .u8 d, .int .u8 e, .int .u8 f] := by rw [h1, h2, h3]
theorem arr4 {a b c d e f g h : Int} (h1 : a = e) (h2 : b = f) (h3 : c = g) (h4 : d = h) : (#[.int .u8 a, .int .u8 b, .int .u8 c, .int .u8 d] : Array Value) = #[.int .u8 e, .int .u8 f, .int .u8 g, .int .u8 h] := by rw [h1, h2, h3, h4]
set_option maxRecDepth 100000 in
set_option maxHeartbeats 4000000 in
theorem rput_any (n : Nat) (hn : n < 1114112) (w : World) : Calls Tryz.prog 134 #[.int .i64 n] w fun e w' => e = .returned (.slice (some ⟨w.heap.size, 0, none⟩) (putN n).length (putN n).length) ∧ w' = w.alloc (.cells (putV n) 5) := by
 by_cases h1 : n < 128
 · have t1 : decide ((n : Int) < 128) = true := decide_eq_true (by omega)
   have HE : putN n = [n] := by unfold putN; rw [if_pos h1]
   have HV : putV n = #[.int .u8 (n : Int)] := by unfold putV; rw [HE]; rfl
   rw [HE, HV]
   clear HE HV
   go_enter Tryz.func134, Tryz.ntmps134
   go_wp2
   go_ret
   exact ⟨rfl, congrArg (fun x => w.alloc (.cells x 5)) (arr1 (by omega))⟩
 · have t1 : decide ((n : Int) < 128) = false := decide_eq_false (by omega)
   by_cases h2 : n < 2048
   · have t2 : decide ((n : Int) < 2048) = true := decide_eq_true (by omega)
     have HE : putN n = [192 + n / 64, 128 + n % 64] := by unfold putN; rw [if_neg h1, if_pos h2]
     have HV : putV n = #[.int .u8 ((192 + n / 64 : Nat) : Int), .int .u8 ((128 + n % 64 : Nat) : Int)] := by unfold putV; rw [HE]; rfl
     rw [HE, HV]
     clear HE HV
     go_enter Tryz.func134, Tryz.ntmps134
     go_wp2
     go_ret
     exact ⟨rfl, congrArg (fun x => w.alloc (.cells x 5)) (arr2 (by omega) (by omega))⟩
   · have t2 : decide ((n : Int) < 2048) = false := decide_eq_false (by omega)
     by_cases h3 : n < 65536
     · have t3 : decide ((n : Int) < 65536) = true := decide_eq_true (by omega)
       have HE : putN n = [224 + n / 4096, 128 + n / 64 % 64, 128 + n % 64] := by unfold putN; rw [if_neg h1, if_neg h2, if_pos h3]
       have HV : putV n = #[.int .u8 ((224 + n / 4096 : Nat) : Int), .int .u8 ((128 + n / 64 % 64 : Nat) : Int), .int .u8 ((128 + n % 64 : Nat) : Int)] := by unfold putV; rw [HE]; rfl
       rw [HE, HV]
       clear HE HV
       go_enter Tryz.func134, Tryz.ntmps134
       go_wp2
       go_ret
       exact ⟨rfl, congrArg (fun x => w.alloc (.cells x 5)) (arr3 (by omega) (by omega) (by omega))⟩
     · have t3 : decide ((n : Int) < 65536) = false := decide_eq_false (by omega)
       have HE : putN n = [240 + n / 262144, 128 + n / 4096 % 64, 128 + n / 64 % 64, 128 + n % 64] := by unfold putN; rw [if_neg h1, if_neg h2, if_neg h3]
       have HV : putV n = #[.int .u8 ((240 + n / 262144 : Nat) : Int), .int .u8 ((128 + n / 4096 % 64 : Nat) : Int), .int .u8 ((128 + n / 64 % 64 : Nat) : Int), .int .u8 ((128 + n % 64 : Nat) : Int)] := by unfold putV; rw [HE]; rfl
       rw [HE, HV]
       clear HE HV
       go_enter Tryz.func134, Tryz.ntmps134
       go_wp2
       go_ret
       exact ⟨rfl, congrArg (fun x => w.alloc (.cells x 5)) (arr4 (by omega) (by omega) (by omega) (by omega))⟩
end
section
open Go.RowKit
def offG (k : Nat) : Int := if k = 2 then 192 else if k = 3 then 224 else if k = 4 then 240 else 0
/-- What the first i bytes told. -/
def gN (B : ByteArray) (at_ k : Nat) : Nat → Int
 | 0 => (byteAt B at_ : Int) - offG k
 | i + 1 => 64 * gN B at_ k i + (byteAt B (at_ + (i + 1)) : Int) - 128
theorem gN_small (B : ByteArray) (at_ k : Nat) : ∀ i, i < 4 → -100000000 ≤ gN B at_ k i ∧ gN B at_ k i ≤ 100000000 := by
 have ho : 0 ≤ offG k ∧ offG k ≤ 240 := by unfold offG; repeat' split; all_goals omega
 have hb : ∀ i, byteAt B i < 256 := fun i => byteAt_lt B i
 intro i hi
 have h0 := hb at_; have h1 := hb (at_ + 1); have h2 := hb (at_ + 2); have h3 := hb (at_ + 3)
 have hi' : i = 0 ∨ i = 1 ∨ i = 2 ∨ i = 3 := by omega
 rcases hi' with rfl | rfl | rfl | rfl <;> simp only [gN, Nat.zero_add, Nat.reduceAdd] <;> omega
def GsRel (B : ByteArray) (at_ k : Nat) (w : World) (n i : Value) (wr : World) : Prop := ∃ j : Nat, i = .int .i64 j ∧ 1 ≤ j ∧ j ≤ k ∧ n = .int .i64 (gN B at_ k (j - 1)) ∧ w = wr
set_option maxRecDepth 100000 in
set_option maxHeartbeats 8000000 in
theorem rguess_any (S : Nat → Prop) (v : Value) (B : ByteArray) (at_ k : Nat) (w : World) (hB : Rd S w v (bytesDB B)) (hz : B.size ≤ 1100000) (hk : 1 ≤ k ∧ k ≤ 4) (ha : at_ + k ≤ B.size) :
    Calls Tryz.prog 132 #[v, .int .i64 at_, .int .i64 k] w fun e w' => e = .returned (.int .i64 (gN B at_ k (k - 1))) ∧ w = w' := by
 obtain ⟨a, c, rfl, _, hac, hcc⟩ := hB.by_inv
 obtain ⟨b, off, rfl, _, hx⟩ := hcc (by omega)
 have x0 := hx at_ (by omega)
 have HX := Lib.hid hx
 have hb0 : byteAt B at_ < 256 := byteAt_lt B at_
 have hat : at_ < B.size := by omega
 clear hB hcc hx
 have hk' : k = 1 ∨ k = 2 ∨ k = 3 ∨ k = 4 := by omega
 rcases hk' with rfl | rfl | rfl | rfl
 · have G0 : Hid (gN B at_ 1 0 = (byteAt B at_ : Int) - 0) := Lib.hid rfl
   clear hk
   go_enter Tryz.func132, Tryz.ntmps132
   go_wp2_with fail
   go_loopw [7, 8] (GsRel B at_ 1 w) (fun _ i _ => 1 - (intOf i).toNat)
   case atStart => exact ⟨1, rfl, by decide, by decide, by rw [show (1 : Nat) - 1 = 0 from rfl, G0.out]; try simp, rfl⟩
   case round =>
    obtain ⟨j, rfl, hj1, hj, rfl, rfl⟩ := hrel
    have hg := gN_small B at_ 1 (j - 1) (by omega)
    have hn : gN B at_ 1 (j + 1 - 1) = 64 * gN B at_ 1 (j - 1) + (byteAt B (at_ + j) : Int) - 128 := by
     obtain ⟨m, rfl⟩ : ∃ m, j = m + 1 := ⟨j - 1, by omega⟩
     rfl
    have HN := Lib.hid hn
    clear hn
    by_cases hlt : j < 1
    · have x1 := HX.out (at_ + j) (by omega)
      have hb1 : byteAt B (at_ + j) < 256 := byteAt_lt B _
      generalize gN B at_ 1 (j - 1) = g at *
      have q1 : IntKind.i64.wrap ((at_ : Int) + (j : Int)) = (at_ : Int) + (j : Int) := IntWalk.i64_in _ (by omega)
      have q2 : (0 : Int) ≤ (at_ : Int) + (j : Int) := by omega
      have q3 : ((at_ : Int) + (j : Int)).toNat = at_ + j := by omega
      have q4 : (at_ : Int) + (j : Int) < (B.size : Int) := by omega
      have q5 : IntKind.i64.wrap (64 * g) = 64 * g := IntWalk.i64_in _ (by omega)
      have q6 : IntKind.i64.wrap (64 * g + (byteAt B (at_ + j) : Int)) = 64 * g + (byteAt B (at_ + j) : Int) := IntWalk.i64_in _ (by omega)
      have q7 : IntKind.i64.wrap (64 * g + (byteAt B (at_ + j) : Int) - 128) = 64 * g + (byteAt B (at_ + j) : Int) - 128 := IntWalk.i64_in _ (by omega)
      have t1 : decide ((j : Int) < 1) = true := decide_eq_true (by omega)
      have R : GsRel B at_ 1 w (.int .i64 (64 * g + (byteAt B (at_ + j) : Int) - 128)) (.int .i64 (j + 1)) w := ⟨j + 1, by go_num, by omega, by omega, by rw [HN.out], rfl⟩
      have HR := Lib.hid R
      clear R
      go_wp2
      refine ⟨?_, by simp [intOf] <;> omega⟩
      have R := HR.out
      first | exact R | ((repeat apply Exists.intro); exact ⟨R, rfl⟩)
    · obtain rfl : j = 1 := by omega
      go_wp2
      go_ret
      exact ⟨rfl, rfl⟩
 · have G0 : Hid (gN B at_ 2 0 = (byteAt B at_ : Int) - 192) := Lib.hid rfl
   clear hk
   go_enter Tryz.func132, Tryz.ntmps132
   go_wp2_with fail
   go_loopw [7, 8] (GsRel B at_ 2 w) (fun _ i _ => 2 - (intOf i).toNat)
   case atStart => exact ⟨1, rfl, by decide, by decide, by rw [show (1 : Nat) - 1 = 0 from rfl, G0.out]; try simp, rfl⟩
   case round =>
    obtain ⟨j, rfl, hj1, hj, rfl, rfl⟩ := hrel
    have hg := gN_small B at_ 2 (j - 1) (by omega)
    have hn : gN B at_ 2 (j + 1 - 1) = 64 * gN B at_ 2 (j - 1) + (byteAt B (at_ + j) : Int) - 128 := by
     obtain ⟨m, rfl⟩ : ∃ m, j = m + 1 := ⟨j - 1, by omega⟩
     rfl
    have HN := Lib.hid hn
    clear hn
    by_cases hlt : j < 2
    · have x1 := HX.out (at_ + j) (by omega)
      have hb1 : byteAt B (at_ + j) < 256 := byteAt_lt B _
      generalize gN B at_ 2 (j - 1) = g at *
      have q1 : IntKind.i64.wrap ((at_ : Int) + (j : Int)) = (at_ : Int) + (j : Int) := IntWalk.i64_in _ (by omega)
      have q2 : (0 : Int) ≤ (at_ : Int) + (j : Int) := by omega
      have q3 : ((at_ : Int) + (j : Int)).toNat = at_ + j := by omega
      have q4 : (at_ : Int) + (j : Int) < (B.size : Int) := by omega
      have q5 : IntKind.i64.wrap (64 * g) = 64 * g := IntWalk.i64_in _ (by omega)
      have q6 : IntKind.i64.wrap (64 * g + (byteAt B (at_ + j) : Int)) = 64 * g + (byteAt B (at_ + j) : Int) := IntWalk.i64_in _ (by omega)
      have q7 : IntKind.i64.wrap (64 * g + (byteAt B (at_ + j) : Int) - 128) = 64 * g + (byteAt B (at_ + j) : Int) - 128 := IntWalk.i64_in _ (by omega)
      have t1 : decide ((j : Int) < 2) = true := decide_eq_true (by omega)
      have R : GsRel B at_ 2 w (.int .i64 (64 * g + (byteAt B (at_ + j) : Int) - 128)) (.int .i64 (j + 1)) w := ⟨j + 1, by go_num, by omega, by omega, by rw [HN.out], rfl⟩
      have HR := Lib.hid R
      clear R
      go_wp2
      refine ⟨?_, by simp [intOf] <;> omega⟩
      have R := HR.out
      first | exact R | ((repeat apply Exists.intro); exact ⟨R, rfl⟩)
    · obtain rfl : j = 2 := by omega
      go_wp2
      go_ret
      exact ⟨rfl, rfl⟩
 · have G0 : Hid (gN B at_ 3 0 = (byteAt B at_ : Int) - 224) := Lib.hid rfl
   clear hk
   go_enter Tryz.func132, Tryz.ntmps132
   go_wp2_with fail
   go_loopw [7, 8] (GsRel B at_ 3 w) (fun _ i _ => 3 - (intOf i).toNat)
   case atStart => exact ⟨1, rfl, by decide, by decide, by rw [show (1 : Nat) - 1 = 0 from rfl, G0.out]; try simp, rfl⟩
   case round =>
    obtain ⟨j, rfl, hj1, hj, rfl, rfl⟩ := hrel
    have hg := gN_small B at_ 3 (j - 1) (by omega)
    have hn : gN B at_ 3 (j + 1 - 1) = 64 * gN B at_ 3 (j - 1) + (byteAt B (at_ + j) : Int) - 128 := by
     obtain ⟨m, rfl⟩ : ∃ m, j = m + 1 := ⟨j - 1, by omega⟩
     rfl
    have HN := Lib.hid hn
    clear hn
    by_cases hlt : j < 3
    · have x1 := HX.out (at_ + j) (by omega)
      have hb1 : byteAt B (at_ + j) < 256 := byteAt_lt B _
      generalize gN B at_ 3 (j - 1) = g at *
      have q1 : IntKind.i64.wrap ((at_ : Int) + (j : Int)) = (at_ : Int) + (j : Int) := IntWalk.i64_in _ (by omega)
      have q2 : (0 : Int) ≤ (at_ : Int) + (j : Int) := by omega
      have q3 : ((at_ : Int) + (j : Int)).toNat = at_ + j := by omega
      have q4 : (at_ : Int) + (j : Int) < (B.size : Int) := by omega
      have q5 : IntKind.i64.wrap (64 * g) = 64 * g := IntWalk.i64_in _ (by omega)
      have q6 : IntKind.i64.wrap (64 * g + (byteAt B (at_ + j) : Int)) = 64 * g + (byteAt B (at_ + j) : Int) := IntWalk.i64_in _ (by omega)
      have q7 : IntKind.i64.wrap (64 * g + (byteAt B (at_ + j) : Int) - 128) = 64 * g + (byteAt B (at_ + j) : Int) - 128 := IntWalk.i64_in _ (by omega)
      have t1 : decide ((j : Int) < 3) = true := decide_eq_true (by omega)
      have R : GsRel B at_ 3 w (.int .i64 (64 * g + (byteAt B (at_ + j) : Int) - 128)) (.int .i64 (j + 1)) w := ⟨j + 1, by go_num, by omega, by omega, by rw [HN.out], rfl⟩
      have HR := Lib.hid R
      clear R
      go_wp2
      refine ⟨?_, by simp [intOf] <;> omega⟩
      have R := HR.out
      first | exact R | ((repeat apply Exists.intro); exact ⟨R, rfl⟩)
    · obtain rfl : j = 3 := by omega
      go_wp2
      go_ret
      exact ⟨rfl, rfl⟩
 · have G0 : Hid (gN B at_ 4 0 = (byteAt B at_ : Int) - 240) := Lib.hid rfl
   clear hk
   go_enter Tryz.func132, Tryz.ntmps132
   go_wp2_with fail
   go_loopw [7, 8] (GsRel B at_ 4 w) (fun _ i _ => 4 - (intOf i).toNat)
   case atStart => exact ⟨1, rfl, by decide, by decide, by rw [show (1 : Nat) - 1 = 0 from rfl, G0.out]; try simp, rfl⟩
   case round =>
    obtain ⟨j, rfl, hj1, hj, rfl, rfl⟩ := hrel
    have hg := gN_small B at_ 4 (j - 1) (by omega)
    have hn : gN B at_ 4 (j + 1 - 1) = 64 * gN B at_ 4 (j - 1) + (byteAt B (at_ + j) : Int) - 128 := by
     obtain ⟨m, rfl⟩ : ∃ m, j = m + 1 := ⟨j - 1, by omega⟩
     rfl
    have HN := Lib.hid hn
    clear hn
    by_cases hlt : j < 4
    · have x1 := HX.out (at_ + j) (by omega)
      have hb1 : byteAt B (at_ + j) < 256 := byteAt_lt B _
      generalize gN B at_ 4 (j - 1) = g at *
      have q1 : IntKind.i64.wrap ((at_ : Int) + (j : Int)) = (at_ : Int) + (j : Int) := IntWalk.i64_in _ (by omega)
      have q2 : (0 : Int) ≤ (at_ : Int) + (j : Int) := by omega
      have q3 : ((at_ : Int) + (j : Int)).toNat = at_ + j := by omega
      have q4 : (at_ : Int) + (j : Int) < (B.size : Int) := by omega
      have q5 : IntKind.i64.wrap (64 * g) = 64 * g := IntWalk.i64_in _ (by omega)
      have q6 : IntKind.i64.wrap (64 * g + (byteAt B (at_ + j) : Int)) = 64 * g + (byteAt B (at_ + j) : Int) := IntWalk.i64_in _ (by omega)
      have q7 : IntKind.i64.wrap (64 * g + (byteAt B (at_ + j) : Int) - 128) = 64 * g + (byteAt B (at_ + j) : Int) - 128 := IntWalk.i64_in _ (by omega)
      have t1 : decide ((j : Int) < 4) = true := decide_eq_true (by omega)
      have R : GsRel B at_ 4 w (.int .i64 (64 * g + (byteAt B (at_ + j) : Int) - 128)) (.int .i64 (j + 1)) w := ⟨j + 1, by go_num, by omega, by omega, by rw [HN.out], rfl⟩
      have HR := Lib.hid R
      clear R
      go_wp2
      refine ⟨?_, by simp [intOf] <;> omega⟩
      have R := HR.out
      first | exact R | ((repeat apply Exists.intro); exact ⟨R, rfl⟩)
    · obtain rfl : j = 4 := by omega
      go_wp2
      go_ret
      exact ⟨rfl, rfl⟩
end
section
open Go.RowKit
theorem gN_guess (B : ByteArray) (a k : Nat) (h1 : 1 ≤ k) (h4 : k ≤ 4) : gN B a k (k - 1) = guessN (byteAt B a) (byteAt B (a + 1)) (byteAt B (a + 2)) (byteAt B (a + 3)) k := by
 have hk : k = 1 ∨ k = 2 ∨ k = 3 ∨ k = 4 := by omega
 rcases hk with rfl | rfl | rfl | rfl
 · show (byteAt B a : Int) - 0 = _
   rw [guess1]; omega
 · rfl
 · rfl
 · rfl
def putB (n : Nat) : ByteArray := ⟨((putN n).map UInt8.ofNat).toArray⟩
theorem putB_list {n : Nat} (h : n < 1114112) : (putB n).data.toList.map (·.toNat) = putN n := by
 unfold putB
 rw [List.toList_toArray, List.map_map]
 conv => rhs; rw [← List.map_id (putN n)]
 apply List.map_congr_left
 intro x hx
 have := putN_lt h x hx
 simp; omega
theorem putB_size (n : Nat) : (putB n).size = (putN n).length := by
 show ((putN n).map UInt8.ofNat).toArray.size = _
 simp
theorem subB_list (B : ByteArray) (a k : Nat) (h4 : k ≤ 4) (h : a + k ≤ B.size) : (subB B a k).data.toList.map (·.toNat) = [byteAt B a, byteAt B (a + 1), byteAt B (a + 2), byteAt B (a + 3)].take k := by
 have hz : B.data.size = B.size := rfl
 apply List.ext_getElem?
 intro j
 by_cases hj : j < k
 · have hb := subB_at B a k j hj
   have hsz := subB_size B a k h
   have hl : j < (subB B a k).data.size := by show j < (subB B a k).size; omega
   rw [List.getElem?_map, Array.getElem?_toList, Array.getElem?_eq_getElem hl, Option.map_some, List.getElem?_take, if_pos hj]
   have e : (subB B a k).data[j].toNat = byteAt B (a + j) := by
    rw [← hb]; unfold byteAt; rw [Array.getElem?_eq_getElem hl]; rfl
   rw [e]
   have hj' : j = 0 ∨ j = 1 ∨ j = 2 ∨ j = 3 := by omega
   rcases hj' with rfl | rfl | rfl | rfl <;> rfl
 · have hsz := subB_size B a k h
   have hl : ¬ j < (subB B a k).data.size := by show ¬ j < (subB B a k).size; omega
   rw [List.getElem?_map, Array.getElem?_toList, Array.getElem?_eq_none (by omega), List.getElem?_take, if_neg hj]
   rfl
theorem list_toNat_inj : ∀ {x y : List UInt8}, x.map (·.toNat) = y.map (·.toNat) → x = y
 | [], [], _ => rfl
 | [], _ :: _, h => by simp at h
 | _ :: _, [], h => by simp at h
 | a :: x, b :: y, h => by
   simp only [List.map_cons, List.cons.injEq] at h
   rw [UInt8.toNat.inj h.1, list_toNat_inj h.2]
theorem put_sub {n : Nat} (hn : n < 1114112) (B : ByteArray) (a k : Nat) (h4 : k ≤ 4) (h : a + k ≤ B.size) : ((putB n).toList == (subB B a k).toList) = (putN n == [byteAt B a, byteAt B (a + 1), byteAt B (a + 2), byteAt B (a + 3)].take k) := by
 have h1 := putB_list hn; have h2 := subB_list B a k h4 h
 by_cases he : putB n = subB B a k
 · rw [beqS_t he, ← h1, he, h2]; exact (beq_self_eq_true _).symm
 · rw [beqS_f he]
   symm
   apply beq_eq_false_iff_ne.2
   intro hx
   rw [← h1, ← h2] at hx
   apply he
   have := list_toNat_inj hx
   cases hp : putB n with | mk d1 => 
   cases hs : subB B a k with | mk d2 =>
   rw [hp, hs] at this
   have : d1 = d2 := Array.toList_inj.1 this
   rw [this]
theorem put_cells {n : Nat} (hn : n < 1114112) (W : World) : ∀ j, j < (putN n).length → (W.alloc (.cells (putV n) 5)).cell? ⟨W.heap.size, 0 + j, none⟩ = some (.int .u8 (byteAt (putB n) j)) := by
 intro j hj
 apply new_cells
 have hl := putB_list hn
 have hd : j < (putB n).data.size := by show j < (putB n).size; rw [putB_size]; exact hj
 have e : (putN n)[j]? = some (byteAt (putB n) j) := by
  rw [← hl, List.getElem?_map, Array.getElem?_toList, Array.getElem?_eq_getElem hd]
  unfold byteAt; rw [Array.getElem?_eq_getElem hd]; rfl
 unfold putV
 rw [List.toList_toArray, List.getElem?_map, e]; rfl
def nxN (B : ByteArray) (a : Nat) : Nat × Nat := if decU B a = (65533, 1) then (0, 0) else decU B a
abbrev hitB (B : ByteArray) (a k : Nat) : Bool := hitN (byteAt B a) (byteAt B (a + 1)) (byteAt B (a + 2)) (byteAt B (a + 3)) k
theorem nx_hit {B : ByteArray} {a k n : Nat} (ha : a < B.size) (h1 : 1 ≤ k) (h4 : k ≤ 4) (hk : a + k ≤ B.size) (hh : hitB B a k = true) (hn : gN B a k (k - 1) = (n : Int)) : nxN B a = (n, k) := by
 obtain ⟨e1, e2⟩ := decode_hit (byteAt_lt B a) (byteAt_lt B (a + 1)) (byteAt_lt B (a + 2)) (B.size - a) (by omega) k h1 h4 (by omega) hh
 rw [gN_guess B a k h1 h4] at hn
 rw [hn, Int.toNat_natCast] at e1 e2
 unfold nxN decU
 rw [e1, if_neg e2]
theorem nx_none {B : ByteArray} {a : Nat} (ha : a < B.size) (h : ∀ k, 1 ≤ k → k ≤ 4 → a + k ≤ B.size → hitB B a k = false) : nxN B a = (0, 0) := by
 have := decode_none (byteAt_lt B a) (byteAt_lt B (a + 1)) (byteAt_lt B (a + 2)) (B.size - a) (by omega) (fun k h1 h4 hk => h k h1 h4 (by omega))
 unfold nxN decU
 rw [if_pos this]
end
section
open Go.RowKit
def NcRel (B : ByteArray) (a : Nat) (w : World) (i : Value) (wr : World) : Prop := ∃ k : Nat, i = .int .i64 k ∧ 1 ≤ k ∧ k ≤ 5 ∧ (∀ m, 1 ≤ m → m < k → a + m ≤ B.size → hitB B a m = false) ∧ Below w.heap.size w wr
set_option maxRecDepth 100000 in
set_option maxHeartbeats 16000000 in
theorem rnext_any (v : Value) (B : ByteArray) (a : Nat) (w : World) (hB : Rd (Own w) w v (bytesDB B)) (hz : B.size ≤ 1100000) (ha : a < B.size) :
    Calls Tryz.prog 103 #[v, .int .i64 a] w fun e w' => e = .returned (.tuple #[.int .i64 (nxN B a).1, .int .i64 (nxN B a).2]) ∧ Below w.heap.size w w' := by
 have HB := Lib.hid (fun W (hO : Below w.heap.size w W) => hB.ext hO)
 obtain ⟨av, c, rfl, _, hac, hcc⟩ := hB.by_inv
 obtain ⟨b, off, rfl, hSb, hx⟩ := hcc (by omega)
 have HX := Lib.hid hx
 have hSb' : b < w.heap.size := hSb
 clear hB hcc hx
 go_enter Tryz.func103, Tryz.ntmps103
 go_wp2_with fail
 go_loopw [6] (NcRel B a w) (fun i _ => 5 - (intOf i).toNat)
 case atStart => exact ⟨1, rfl, by decide, by decide, fun m h1 h2 => by omega, Below.refl _ _⟩
 case round =>
  obtain ⟨k, rfl, hk1, hk5, hn, hb⟩ := hrel
  have HN := Lib.hid hn; have HBW := Lib.hid hb
  have hzr := hb.size
  clear hn hb
  by_cases hk4 : k ≤ 4
  · have t1 : decide (k ≤ 4) = true := decide_eq_true hk4
    have t1' : decide ((k : Int) ≤ 4) = true := decide_eq_true (by omega)
    have q1 : IntKind.i64.wrap ((a : Int) + (k : Int)) = (a : Int) + (k : Int) := IntWalk.i64_in _ (by omega)
    by_cases hk : a + k ≤ B.size
    · have t2 : decide ((a : Int) + (k : Int) ≤ (B.size : Int)) = true := decide_eq_true (by omega)
      have HG := rguess_any _ _ B a k wr (HB.out wr HBW.out) hz ⟨hk1, hk4⟩ hk
      have hg := gN_small B a (k) (k - 1) (by omega)
      have hh : hitB B a k = (rightN (gN B a k (k - 1)) && (putN (gN B a k (k - 1)).toNat == [byteAt B a, byteAt B (a + 1), byteAt B (a + 2), byteAt B (a + 3)].take k)) := by
       rw [gN_guess B a k hk1 hk4]; rfl
      have hhit : ∀ n : Nat, gN B a k (k - 1) = (n : Int) → hitB B a k = true → nxN B a = (n, k) := fun n h1 h2 => nx_hit ha hk1 hk4 hk h2 h1
      have step : hitB B a k = false → ∀ W, Below w.heap.size w W → NcRel B a w (.int .i64 (k + 1)) W := fun hf W hW => ⟨k + 1, by go_num, by omega, by omega, fun m h1 h2 h3 => by
       by_cases e : m = k
       · subst e; exact hf
       · exact HN.out m h1 (by omega) h3, hW⟩
      generalize gN B a k (k - 1) = g at *
      have HGG := Lib.hid HG
      clear HG
      have HRI := Lib.hid (fun W => rright_any g W)
      cases hr : rightN g with
      | false =>
        rw [hr, Bool.false_and] at hh
        have HST := Lib.hid (step hh)
        rw [hr] at HRI
        clear hh hhit step hr hg
        go_wp2_with fail
        refine HGG.out.mono ?_
        rintro e w1 ⟨rfl, rfl⟩
        go_wp2
        go_quiet ((go_at_call 133; exact quiet_eq (HRI.out _)))
        go_wp2
        refine ⟨?_, by simp [intOf] <;> omega⟩
        have R := fun m => HST.out (wr.drewN m) (ext_drewN m HBW.out)
        first | exact R _ | ((repeat apply Exists.intro); exact ⟨R _, rfl⟩)
      | true =>
        rw [hr, Bool.true_and] at hh
        obtain ⟨n, rfl, hn⟩ : ∃ n : Nat, g = (n : Int) ∧ n < 1114112 := by
         have := (right_iff g).1 hr
         exact ⟨g.toNat, by omega, by omega⟩
        rw [Int.toNat_natCast] at hh
        have hps := put_sub hn B a k hk4 hk
        rw [← hh] at hps
        rw [hr] at HRI
        have HP := fun W => rput_any n hn W
        obtain ⟨C, hC⟩ : ∃ C, C = Obj.cells (putV n) 5 (0, 0) := ⟨_, rfl⟩
        have hpc := put_cells hn wr
        have hpl := putB_size n
        rw [← hC] at hpc
        have HP' : ∀ W, Calls Tryz.prog 134 #[.int .i64 n] W fun e w' => e = .returned (.slice (some ⟨W.heap.size, 0, none⟩) (putN n).length (putN n).length) ∧ w' = W.alloc C := by rw [hC]; exact HP
        generalize (putN n).length = L at hpc hpl HP'
        generalize putB n = P1 at *
        have cvA := bytes_back (wr.alloc C).drew wr.heap.size 0 L L P1 hpl (fun j hj => hpc j hj)
        obtain ⟨a', c', e1, _, _, hc⟩ := (HB.out wr HBW.out).by_inv
        cases e1
        obtain ⟨b', off', e2, _, x0⟩ := hc (by omega)
        cases e2
        have cvB := bytes_back wr.drew b (off + a) k (c - a) (subB B a k) (subB_size B a k hk) (fun j hj => by
         rw [subB_at B a k j hj, Nat.add_assoc]; exact x0 (a + j) (by omega))
        have cvB2 := bytes_back (wr.alloc C).drew b (off + a) k (c - a) (subB B a k) (subB_size B a k hk) (fun j hj => by
         rw [subB_at B a k j hj, Nat.add_assoc]; exact cell_alloc C (x0 (a + j) (by omega)))
        generalize subB B a k = P2 at *
        have HPP := Lib.hid HP'
        have HW1 := Lib.hid (fun hf => step hf (wr.alloc C).drew (ext_drewN 1 (ext_alloc HBW.out C)))
        have HHI := Lib.hid (hhit n rfl)
        have q5 : (a : Int) + (k : Int) ≤ (c : Int) := by omega
        have q6 : a + k ≤ c := by omega
        have q7 : (a : Int) ≤ (a : Int) + (k : Int) := by omega
        have q8 : ((a : Int) + (k : Int)).toNat = a + k := by omega
        clear hh hhit step hr hg HP hC hpc hpl HP' hc x0 hn
        have hbd : Below w.heap.size w (wr.alloc C).drew := ext_drewN 1 (ext_alloc HBW.out C)
        have HBD := Lib.hid hbd
        clear hbd
        have q9 : ¬ c = a := by omega
        obtain ⟨hv, hhv⟩ : ∃ x, hitB B a k = x := ⟨_, rfl⟩
        rw [hhv] at hps
        have HHV := Lib.hid hhv
        clear hhv
        go_wp2_with fail
        refine HGG.out.mono ?_
        rintro e w1 ⟨rfl, rfl⟩
        go_wp2_with fail
        refine wp_region_noPanic ?_
        refine wp_region_held_drew (S := fun W => (convert 22 9 (.slice (some ⟨b, off + a, none⟩) k (c - a))).run Tryz.prog W = .ok (.string P2) W) (by kernel_rfl) cvB (fun hHeld => ?_)
        refine wpAnyH_take (i := 0) (oi := _) (v := .int .i64 n) rfl (by kernel_rfl) (by kernel_rfl) (by kernel_rfl) (fun _ _ _ h => h) (Or.inl ⟨by rfl, ?_⟩) hHeld ?_
        · intro w hSw; go_simp
        try simp only [Act.put, List.setIfInBounds_toArray, List.set_cons_zero, List.set_cons_succ, List.getElem_toArray, List.getElem_cons_zero]
        refine wpAnyH_ready (rs := [1]) (by kernel_rfl) (by simp) ?_
        refine AllReadyH.cons (o := _) rfl (fun K hK => ?_) AllReadyH.nil
        go_simp
        refine (HRI.out _).mono ?_; rintro e w' ⟨rfl, rfl⟩
        go_wp2_with fail
        refine hK.out _ _ cvB (fun hHeld => ?_)
        clear hK K
        try simp only [Act.put, List.setIfInBounds_toArray, List.set_cons_zero, List.set_cons_succ, List.getElem_toArray, List.getElem_cons_zero, List.getElem_cons_succ]
        refine wpAnyH_take (i := 2) (oi := _) (v := .bool true) rfl (by kernel_rfl) (by kernel_rfl) (by kernel_rfl) (fun _ _ _ h => h) (Or.inl ⟨by rfl, ?_⟩) hHeld ?_
        · intro w hSw; go_simp
        try simp only [Act.put, List.setIfInBounds_toArray, List.set_cons_zero, List.set_cons_succ, List.getElem_toArray, List.getElem_cons_zero, List.getElem_cons_succ]
        refine wpAnyH_take (i := 3) (oi := _) (v := .int .i64 n) rfl (by kernel_rfl) (by kernel_rfl) (by kernel_rfl) (fun _ _ _ h => h) (Or.inl ⟨by rfl, ?_⟩) hHeld ?_
        · intro w hSw; go_simp
        try simp only [Act.put, List.setIfInBounds_toArray, List.set_cons_zero, List.set_cons_succ, List.getElem_toArray, List.getElem_cons_zero, List.getElem_cons_succ]
        refine wpAnyH_take (i := 6) (oi := _) (v := .slice (some ⟨b, off, none⟩) B.size c) rfl (by kernel_rfl) (by kernel_rfl) (by kernel_rfl) (fun _ _ _ h => h) (Or.inl ⟨by rfl, ?_⟩) hHeld ?_
        · intro w hSw; go_simp
        try simp only [Act.put, List.setIfInBounds_toArray, List.set_cons_zero, List.set_cons_succ, List.getElem_toArray, List.getElem_cons_zero, List.getElem_cons_succ]
        refine wpAnyH_take (i := 7) (oi := _) (v := .int .i64 a) rfl (by kernel_rfl) (by kernel_rfl) (by kernel_rfl) (fun _ _ _ h => h) (Or.inl ⟨by rfl, ?_⟩) hHeld ?_
        · intro w hSw; go_simp
        try simp only [Act.put, List.setIfInBounds_toArray, List.set_cons_zero, List.set_cons_succ, List.getElem_toArray, List.getElem_cons_zero, List.getElem_cons_succ]
        refine wpAnyH_take (i := 8) (oi := _) (v := .int .i64 a) rfl (by kernel_rfl) (by kernel_rfl) (by kernel_rfl) (fun _ _ _ h => h) (Or.inl ⟨by rfl, ?_⟩) hHeld ?_
        · intro w hSw; go_simp
        try simp only [Act.put, List.setIfInBounds_toArray, List.set_cons_zero, List.set_cons_succ, List.getElem_toArray, List.getElem_cons_zero, List.getElem_cons_succ]
        refine wpAnyH_take (i := 9) (oi := _) (v := .int .i64 k) rfl (by kernel_rfl) (by kernel_rfl) (by kernel_rfl) (fun _ _ _ h => h) (Or.inl ⟨by rfl, ?_⟩) hHeld ?_
        · intro w hSw; go_simp
        try simp only [Act.put, List.setIfInBounds_toArray, List.set_cons_zero, List.set_cons_succ, List.getElem_toArray, List.getElem_cons_zero, List.getElem_cons_succ]
        refine wpAnyH_take (i := 10) (oi := _) (v := .int .i64 ((a : Int) + (k : Int))) rfl (by kernel_rfl) (by kernel_rfl) (by kernel_rfl) (fun _ _ _ h => h) (Or.inl ⟨by rfl, ?_⟩) hHeld ?_
        · intro w hSw; go_simp
        try simp only [Act.put, List.setIfInBounds_toArray, List.set_cons_zero, List.set_cons_succ, List.getElem_toArray, List.getElem_cons_zero, List.getElem_cons_succ]
        refine wpAnyH_take (i := 11) (oi := _) (v := .slice (some ⟨b, off + a, none⟩) k (c - a)) rfl (by kernel_rfl) (by kernel_rfl) (by kernel_rfl) (fun _ _ _ h => h) (Or.inl ⟨by rfl, ?_⟩) hHeld ?_
        · intro w hSw; go_simp
        try simp only [Act.put, List.setIfInBounds_toArray, List.set_cons_zero, List.set_cons_succ, List.getElem_toArray, List.getElem_cons_zero, List.getElem_cons_succ]
        refine wpAnyH_take (i := 12) (oi := _) (v := .string P2) rfl (by kernel_rfl) (by kernel_rfl) (by kernel_rfl) (fun _ _ _ h => h) (Or.inl ⟨by rfl, ?_⟩) hHeld ?_
        · intro w hSw; go_simp
        try simp only [Act.put, List.setIfInBounds_toArray, List.set_cons_zero, List.set_cons_succ, List.getElem_toArray, List.getElem_cons_zero, List.getElem_cons_succ]
        refine wpAnyH_ready (rs := [4]) (by kernel_rfl) (by simp) ?_
        refine AllReadyH.cons (o := _) rfl (fun K hK => ?_) AllReadyH.nil
        go_simp
        refine (HPP.out _).mono ?_; rintro e w' ⟨rfl, rfl⟩
        go_wp2_with fail
        refine hK.out _ _ cvB2 (fun hHeld => ?_)
        clear hK K
        try simp only [Act.put, List.setIfInBounds_toArray, List.set_cons_zero, List.set_cons_succ, List.getElem_toArray, List.getElem_cons_zero, List.getElem_cons_succ]
        refine wpAnyH_ready (rs := [5]) (by kernel_rfl) (by simp) ?_
        refine AllReadyH.cons (o := _) rfl (fun K hK => ?_) AllReadyH.nil
        go_simp
        refine hK.out _ _ cvB2 (fun hHeld => ?_)
        clear hK K
        try simp only [Act.put, List.setIfInBounds_toArray, List.set_cons_zero, List.set_cons_succ, List.getElem_toArray, List.getElem_cons_zero, List.getElem_cons_succ]
        refine wpAnyH_take (i := 13) (oi := _) (v := .bool hv) rfl (by kernel_rfl) (by kernel_rfl) (by kernel_rfl) (fun _ _ _ h => h) (Or.inl ⟨by rfl, ?_⟩) hHeld ?_
        · intro w hSw; go_simp
        try simp only [Act.put, List.setIfInBounds_toArray, List.set_cons_zero, List.set_cons_succ, List.getElem_toArray, List.getElem_cons_zero, List.getElem_cons_succ]
        refine wpAnyH_take (i := 14) (oi := _) (v := .bool hv) rfl (by kernel_rfl) (by kernel_rfl) (by kernel_rfl) (fun _ _ _ h => h) (Or.inl ⟨by rfl, ?_⟩) hHeld ?_
        · intro w hSw; go_simp
        try simp only [Act.put, List.setIfInBounds_toArray, List.set_cons_zero, List.set_cons_succ, List.getElem_toArray, List.getElem_cons_zero, List.getElem_cons_succ]
        refine wpAnyH_done (by kernel_rfl) ?_ _
        refine NoPanic.normal ?_
        cases hv with
        | true =>
          have HE := Lib.hid (HHI.out HHV.out)
          go_wp2
          go_ret2
          exact ⟨by rw [HE.out]; rfl, HBD.out⟩
        | false =>
          have HR := Lib.hid (HW1.out HHV.out)
          go_wp2
          refine ⟨?_, by simp [intOf] <;> omega⟩
          have R := HR.out
          first | exact R | ((repeat apply Exists.intro); exact ⟨R, rfl⟩)
    · have t2 : decide ((a : Int) + (k : Int) ≤ (B.size : Int)) = false := decide_eq_false (by omega)
      have HE : Hid (nxN B a = (0, 0)) := Lib.hid (nx_none ha (fun m h1 h2 h3 => HN.out m h1 (by omega) h3))
      clear hk
      go_wp2
      go_ret2
      exact ⟨by rw [HE.out]; rfl, HBW.out⟩
  · have t1 : decide (k ≤ 4) = false := decide_eq_false hk4
    have t1' : decide ((k : Int) ≤ 4) = false := decide_eq_false (by omega)
    have HE : Hid (nxN B a = (0, 0)) := Lib.hid (nx_none ha (fun m h1 h2 h3 => HN.out m h1 (by omega) h3))
    clear hk4
    go_wp2
    go_ret2
    exact ⟨by rw [HE.out]; rfl, HBW.out⟩
end
end Go.Proofs.YtcaiibkgajhohaaGreatDoor
