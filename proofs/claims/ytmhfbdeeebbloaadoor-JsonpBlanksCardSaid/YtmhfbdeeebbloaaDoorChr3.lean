/- The document's characters (ref01): guess. -/
import Derived.Test.YtmhfbdeeebbloaaDoorUtf0
import Derived.Test.YtmhfbdeeebbloaaDoorErrs3
import Derived.Test.YtmhfbdeeebbloaaDoorBytes0
import Derived.BigQuiet
import Derived.Deep.DeepCutAuto
namespace Go.Proofs.YtmhfbdeeebbloaaDoor
open Go.RowKit
def offG (k : Nat) : Int := if k = 2 then 192 else if k = 3 then 224 else if k = 4 then 240 else 0
/-- What the first i bytes told. -/
def gN (B : ByteArray) (at_ k : Nat) : Nat → Int
  | 0 => (byteAt B at_ : Int) - offG k
  | i + 1 => 64 * gN B at_ k i + (byteAt B (at_ + (i + 1)) : Int) - 128
theorem gN_small (B : ByteArray) (at_ k : Nat) : ∀ i, i < 4 → -100000000 ≤ gN B at_ k i ∧ gN B at_ k i ≤ 100000000 := by
  have ho : 0 ≤ offG k ∧ offG k ≤ 240 := by unfold offG; repeat' split; all_goals omega
  have hb : ∀ i, byteAt B i < 256 := fun i => byteAt_lt B i
  intro i hi
  have h0 := hb at_; have h1 := hb (at_ + 1); have h2 := hb (at_ + 2); have h3 := hb (at_ + 3)
  have hi' : i = 0 ∨ i = 1 ∨ i = 2 ∨ i = 3 := by omega
  rcases hi' with rfl | rfl | rfl | rfl <;> simp only [gN, Nat.zero_add, Nat.reduceAdd] <;> omega
def GsRel (B : ByteArray) (at_ k : Nat) (w : World) (n i : Value) (wr : World) : Prop := ∃ j : Nat, i = .int .i64 j ∧ 1 ≤ j ∧ j ≤ k ∧ n = .int .i64 (gN B at_ k (j - 1)) ∧ w = wr
set_option maxRecDepth 100000 in
set_option maxHeartbeats 8000000 in
theorem rguess_any (S : Nat → Prop) (v : Value) (B : ByteArray) (at_ k : Nat) (w : World) (hB : Rd S w v (bytesDB B)) (hz : B.size ≤ 1000000) (hk : 1 ≤ k ∧ k ≤ 4) (ha : at_ + k ≤ B.size) :
    Calls Tryd.prog 82 #[v, .int .i64 at_, .int .i64 k] w fun e w' => e = .returned (.int .i64 (gN B at_ k (k - 1))) ∧ w = w' := by
  obtain ⟨a, c, rfl, _, hac, hcc⟩ := hB.by_inv
  obtain ⟨b, off, rfl, _, hx⟩ := hcc (by omega)
  have x0 := hx at_ (by omega)
  have HX := Lib.hid hx
  have hb0 : byteAt B at_ < 256 := byteAt_lt B at_
  have hat : at_ < B.size := by omega
  clear hB hcc hx
  have hk' : k = 1 ∨ k = 2 ∨ k = 3 ∨ k = 4 := by omega
  rcases hk' with rfl | rfl | rfl | rfl
  · have G0 : Hid (gN B at_ 1 0 = (byteAt B at_ : Int) - 0) := Lib.hid rfl
    clear hk
    go_enter Tryd.func82, Tryd.ntmps82
    go_wp2_with fail
    go_loopw [7, 8] (GsRel B at_ 1 w) (fun _ i _ => 1 - (intOf i).toNat)
    case atStart => exact ⟨1, rfl, by decide, by decide, by rw [show (1 : Nat) - 1 = 0 from rfl, G0.out]; try simp, rfl⟩
    case round =>
      obtain ⟨j, rfl, hj1, hj, rfl, rfl⟩ := hrel
      have hg := gN_small B at_ 1 (j - 1) (by omega)
      have hn : gN B at_ 1 (j + 1 - 1) = 64 * gN B at_ 1 (j - 1) + (byteAt B (at_ + j) : Int) - 128 := by
        obtain ⟨m, rfl⟩ : ∃ m, j = m + 1 := ⟨j - 1, by omega⟩
        rfl
      have HN := Lib.hid hn
      clear hn
      by_cases hlt : j < 1
      · have x1 := HX.out (at_ + j) (by omega)
        have hb1 : byteAt B (at_ + j) < 256 := byteAt_lt B _
        generalize gN B at_ 1 (j - 1) = g at *
        have q1 : IntKind.i64.wrap ((at_ : Int) + (j : Int)) = (at_ : Int) + (j : Int) := IntWalk.i64_in _ (by omega)
        have q2 : (0 : Int) ≤ (at_ : Int) + (j : Int) := by omega
        have q3 : ((at_ : Int) + (j : Int)).toNat = at_ + j := by omega
        have q4 : (at_ : Int) + (j : Int) < (B.size : Int) := by omega
        have q5 : IntKind.i64.wrap (64 * g) = 64 * g := IntWalk.i64_in _ (by omega)
        have q6 : IntKind.i64.wrap (64 * g + (byteAt B (at_ + j) : Int)) = 64 * g + (byteAt B (at_ + j) : Int) := IntWalk.i64_in _ (by omega)
        have q7 : IntKind.i64.wrap (64 * g + (byteAt B (at_ + j) : Int) - 128) = 64 * g + (byteAt B (at_ + j) : Int) - 128 := IntWalk.i64_in _ (by omega)
        have t1 : decide ((j : Int) < 1) = true := decide_eq_true (by omega)
        have R : GsRel B at_ 1 w (.int .i64 (64 * g + (byteAt B (at_ + j) : Int) - 128)) (.int .i64 (j + 1)) w := ⟨j + 1, by go_num, by omega, by omega, by rw [HN.out], rfl⟩
        have HR := Lib.hid R
        clear R
        go_wp2
        refine ⟨?_, by simp [intOf] <;> omega⟩
        have R := HR.out
        first | exact R | ((repeat apply Exists.intro); exact ⟨R, rfl⟩)
      · obtain rfl : j = 1 := by omega
        go_wp2
        go_ret
        exact ⟨rfl, rfl⟩
  · have G0 : Hid (gN B at_ 2 0 = (byteAt B at_ : Int) - 192) := Lib.hid rfl
    clear hk
    go_enter Tryd.func82, Tryd.ntmps82
    go_wp2_with fail
    go_loopw [7, 8] (GsRel B at_ 2 w) (fun _ i _ => 2 - (intOf i).toNat)
    case atStart => exact ⟨1, rfl, by decide, by decide, by rw [show (1 : Nat) - 1 = 0 from rfl, G0.out]; try simp, rfl⟩
    case round =>
      obtain ⟨j, rfl, hj1, hj, rfl, rfl⟩ := hrel
      have hg := gN_small B at_ 2 (j - 1) (by omega)
      have hn : gN B at_ 2 (j + 1 - 1) = 64 * gN B at_ 2 (j - 1) + (byteAt B (at_ + j) : Int) - 128 := by
        obtain ⟨m, rfl⟩ : ∃ m, j = m + 1 := ⟨j - 1, by omega⟩
        rfl
      have HN := Lib.hid hn
      clear hn
      by_cases hlt : j < 2
      · have x1 := HX.out (at_ + j) (by omega)
        have hb1 : byteAt B (at_ + j) < 256 := byteAt_lt B _
        generalize gN B at_ 2 (j - 1) = g at *
        have q1 : IntKind.i64.wrap ((at_ : Int) + (j : Int)) = (at_ : Int) + (j : Int) := IntWalk.i64_in _ (by omega)
        have q2 : (0 : Int) ≤ (at_ : Int) + (j : Int) := by omega
        have q3 : ((at_ : Int) + (j : Int)).toNat = at_ + j := by omega
        have q4 : (at_ : Int) + (j : Int) < (B.size : Int) := by omega
        have q5 : IntKind.i64.wrap (64 * g) = 64 * g := IntWalk.i64_in _ (by omega)
        have q6 : IntKind.i64.wrap (64 * g + (byteAt B (at_ + j) : Int)) = 64 * g + (byteAt B (at_ + j) : Int) := IntWalk.i64_in _ (by omega)
        have q7 : IntKind.i64.wrap (64 * g + (byteAt B (at_ + j) : Int) - 128) = 64 * g + (byteAt B (at_ + j) : Int) - 128 := IntWalk.i64_in _ (by omega)
        have t1 : decide ((j : Int) < 2) = true := decide_eq_true (by omega)
        have R : GsRel B at_ 2 w (.int .i64 (64 * g + (byteAt B (at_ + j) : Int) - 128)) (.int .i64 (j + 1)) w := ⟨j + 1, by go_num, by omega, by omega, by rw [HN.out], rfl⟩
        have HR := Lib.hid R
        clear R
        go_wp2
        refine ⟨?_, by simp [intOf] <;> omega⟩
        have R := HR.out
        first | exact R | ((repeat apply Exists.intro); exact ⟨R, rfl⟩)
      · obtain rfl : j = 2 := by omega
        go_wp2
        go_ret
        exact ⟨rfl, rfl⟩
  · have G0 : Hid (gN B at_ 3 0 = (byteAt B at_ : Int) - 224) := Lib.hid rfl
    clear hk
    go_enter Tryd.func82, Tryd.ntmps82
    go_wp2_with fail
    go_loopw [7, 8] (GsRel B at_ 3 w) (fun _ i _ => 3 - (intOf i).toNat)
    case atStart => exact ⟨1, rfl, by decide, by decide, by rw [show (1 : Nat) - 1 = 0 from rfl, G0.out]; try simp, rfl⟩
    case round =>
      obtain ⟨j, rfl, hj1, hj, rfl, rfl⟩ := hrel
      have hg := gN_small B at_ 3 (j - 1) (by omega)
      have hn : gN B at_ 3 (j + 1 - 1) = 64 * gN B at_ 3 (j - 1) + (byteAt B (at_ + j) : Int) - 128 := by
        obtain ⟨m, rfl⟩ : ∃ m, j = m + 1 := ⟨j - 1, by omega⟩
        rfl
      have HN := Lib.hid hn
      clear hn
      by_cases hlt : j < 3
      · have x1 := HX.out (at_ + j) (by omega)
        have hb1 : byteAt B (at_ + j) < 256 := byteAt_lt B _
        generalize gN B at_ 3 (j - 1) = g at *
        have q1 : IntKind.i64.wrap ((at_ : Int) + (j : Int)) = (at_ : Int) + (j : Int) := IntWalk.i64_in _ (by omega)
        have q2 : (0 : Int) ≤ (at_ : Int) + (j : Int) := by omega
        have q3 : ((at_ : Int) + (j : Int)).toNat = at_ + j := by omega
        have q4 : (at_ : Int) + (j : Int) < (B.size : Int) := by omega
        have q5 : IntKind.i64.wrap (64 * g) = 64 * g := IntWalk.i64_in _ (by omega)
        have q6 : IntKind.i64.wrap (64 * g + (byteAt B (at_ + j) : Int)) = 64 * g + (byteAt B (at_ + j) : Int) := IntWalk.i64_in _ (by omega)
        have q7 : IntKind.i64.wrap (64 * g + (byteAt B (at_ + j) : Int) - 128) = 64 * g + (byteAt B (at_ + j) : Int) - 128 := IntWalk.i64_in _ (by omega)
        have t1 : decide ((j : Int) < 3) = true := decide_eq_true (by omega)
        have R : GsRel B at_ 3 w (.int .i64 (64 * g + (byteAt B (at_ + j) : Int) - 128)) (.int .i64 (j + 1)) w := ⟨j + 1, by go_num, by omega, by omega, by rw [HN.out], rfl⟩
        have HR := Lib.hid R
        clear R
        go_wp2
        refine ⟨?_, by simp [intOf] <;> omega⟩
        have R := HR.out
        first | exact R | ((repeat apply Exists.intro); exact ⟨R, rfl⟩)
      · obtain rfl : j = 3 := by omega
        go_wp2
        go_ret
        exact ⟨rfl, rfl⟩
  · have G0 : Hid (gN B at_ 4 0 = (byteAt B at_ : Int) - 240) := Lib.hid rfl
    clear hk
    go_enter Tryd.func82, Tryd.ntmps82
    go_wp2_with fail
    go_loopw [7, 8] (GsRel B at_ 4 w) (fun _ i _ => 4 - (intOf i).toNat)
    case atStart => exact ⟨1, rfl, by decide, by decide, by rw [show (1 : Nat) - 1 = 0 from rfl, G0.out]; try simp, rfl⟩
    case round =>
      obtain ⟨j, rfl, hj1, hj, rfl, rfl⟩ := hrel
      have hg := gN_small B at_ 4 (j - 1) (by omega)
      have hn : gN B at_ 4 (j + 1 - 1) = 64 * gN B at_ 4 (j - 1) + (byteAt B (at_ + j) : Int) - 128 := by
        obtain ⟨m, rfl⟩ : ∃ m, j = m + 1 := ⟨j - 1, by omega⟩
        rfl
      have HN := Lib.hid hn
      clear hn
      by_cases hlt : j < 4
      · have x1 := HX.out (at_ + j) (by omega)
        have hb1 : byteAt B (at_ + j) < 256 := byteAt_lt B _
        generalize gN B at_ 4 (j - 1) = g at *
        have q1 : IntKind.i64.wrap ((at_ : Int) + (j : Int)) = (at_ : Int) + (j : Int) := IntWalk.i64_in _ (by omega)
        have q2 : (0 : Int) ≤ (at_ : Int) + (j : Int) := by omega
        have q3 : ((at_ : Int) + (j : Int)).toNat = at_ + j := by omega
        have q4 : (at_ : Int) + (j : Int) < (B.size : Int) := by omega
        have q5 : IntKind.i64.wrap (64 * g) = 64 * g := IntWalk.i64_in _ (by omega)
        have q6 : IntKind.i64.wrap (64 * g + (byteAt B (at_ + j) : Int)) = 64 * g + (byteAt B (at_ + j) : Int) := IntWalk.i64_in _ (by omega)
        have q7 : IntKind.i64.wrap (64 * g + (byteAt B (at_ + j) : Int) - 128) = 64 * g + (byteAt B (at_ + j) : Int) - 128 := IntWalk.i64_in _ (by omega)
        have t1 : decide ((j : Int) < 4) = true := decide_eq_true (by omega)
        have R : GsRel B at_ 4 w (.int .i64 (64 * g + (byteAt B (at_ + j) : Int) - 128)) (.int .i64 (j + 1)) w := ⟨j + 1, by go_num, by omega, by omega, by rw [HN.out], rfl⟩
        have HR := Lib.hid R
        clear R
        go_wp2
        refine ⟨?_, by simp [intOf] <;> omega⟩
        have R := HR.out
        first | exact R | ((repeat apply Exists.intro); exact ⟨R, rfl⟩)
      · obtain rfl : j = 4 := by omega
        go_wp2
        go_ret
        exact ⟨rfl, rfl⟩
end Go.Proofs.YtmhfbdeeebbloaaDoor
