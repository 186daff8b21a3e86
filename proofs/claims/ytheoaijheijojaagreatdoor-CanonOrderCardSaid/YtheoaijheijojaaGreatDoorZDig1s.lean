/- Dig1, Dig2 in one text (a claim holds at most 60 files). -/
import Derived.Test.YtheoaijheijojaaGreatDoorZFold0s
import Derived.Test.YtheoaijheijojaaGreatDoorZErrs1s
import Derived.BigQuiet
import Derived.Deep.DeepCutAuto
namespace Go.Proofs.YtheoaijheijojaaGreatDoor
section
open Go.RowKit
def smallN (c : Nat) : Nat := if 65 ≤ c ∧ c ≤ 90 then c + 32 else c
set_option maxRecDepth 100000 in
theorem rsmall_any (c : Nat) (hc : c < 256) (w : World) : Calls Tryz.prog 151 #[.int .u8 c] w fun e w' => e = .returned (.int .u8 (smallN c)) ∧ w = w' := by
  by_cases h1 : 65 ≤ c
  · have t1 : decide (65 ≤ c) = true := decide_eq_true h1
    have t1' : decide ((65 : Int) ≤ (c : Int)) = true := decide_eq_true (by omega)
    by_cases h2 : c ≤ 90
    · have t2 : decide (c ≤ 90) = true := decide_eq_true h2
      have t2' : decide ((c : Int) ≤ 90) = true := decide_eq_true (by omega)
      have HE : Hid (((smallN c : Nat) : Int) = (c : Int) + 32) := Lib.hid (by unfold smallN; rw [if_pos ⟨h1, h2⟩]; rfl)
      have q1 : IntKind.u8.wrap ((c : Int) + 32) = (c : Int) + 32 := IntWalk.u8_in _ (by omega)
      have hz : c + 32 < 256 := by omega
      go_enter Tryz.func151, Tryz.ntmps151
      go_wp2
      go_ret
      exact ⟨by rw [HE.out]; first | rfl | (congr 2; omega), rfl⟩
    · have t2 : decide (c ≤ 90) = false := decide_eq_false h2
      have t2' : decide ((c : Int) ≤ 90) = false := decide_eq_false (by omega)
      have HE : Hid (smallN c = c) := Lib.hid (by unfold smallN; rw [if_neg (by omega)])
      clear h1 h2
      go_enter Tryz.func151, Tryz.ntmps151
      go_wp2
      go_ret
      exact ⟨by rw [HE.out]; rfl, rfl⟩
  · have t1 : decide (65 ≤ c) = false := decide_eq_false h1
    have t1' : decide ((65 : Int) ≤ (c : Int)) = false := decide_eq_false (by omega)
    have HE : Hid (smallN c = c) := Lib.hid (by unfold smallN; rw [if_neg (by omega)])
    clear h1
    go_enter Tryz.func151, Tryz.ntmps151
    go_wp2
    go_ret
    exact ⟨by rw [HE.out]; rfl, rfl⟩
def hexL : List Nat := [48, 49, 50, 51, 52, 53, 54, 55, 56, 57, 97, 98, 99, 100, 101, 102]
theorem dig_hit : ∀ c : Fin 256, ∀ j : Fin 16, hexL[j.val]? = some (smallN c.val) → digV c.val = j.val := by decide +kernel
theorem dig_none : ∀ c : Fin 256, (∀ j : Fin 16, hexL[j.val]? ≠ some (smallN c.val)) → digV c.val = 99 := by decide +kernel
def RdgRel (c : Nat) (w : World) (i : Value) (wr : World) : Prop := ∃ j n : Nat, i = .int .i64 j ∧ j ≤ 16 ∧ (∀ m, m < j → hexL[m]? ≠ some (smallN c)) ∧ wr = w.drewN n
set_option maxRecDepth 100000 in
set_option maxHeartbeats 4000000 in
theorem rdigit_any (c : Nat) (hc : c < 256) (w : World) : Calls Tryz.prog 118 #[.int .u8 c] w fun e w' => e = .returned (.int .u64 (digV c)) ∧ ∃ n, w' = w.drewN n := by
  have HS := Lib.hid (fun W => rsmall_any c hc W)
  have HC := Lib.hid hc
  obtain ⟨s, hs⟩ : ∃ s, smallN c = s := ⟨_, rfl⟩
  have HSS := Lib.hid hs
  rw [hs] at HS
  obtain ⟨S, hS⟩ : ∃ S : ByteArray, (⟨#[48, 49, 50, 51, 52, 53, 54, 55, 56, 57, 97, 98, 99, 100, 101, 102]⟩ : ByteArray) = S := ⟨_, rfl⟩
  have hsz : S.size = 16 := by rw [← hS]; rfl
  have HB : Hid (∀ j (h : j < S.size), hexL[j]? = some (S[j]'h).toNat) := Lib.hid (by
    subst hS
    intro j h
    have h' : j < 16 := h
    revert h
    have hj : j = 0 ∨ j = 1 ∨ j = 2 ∨ j = 3 ∨ j = 4 ∨ j = 5 ∨ j = 6 ∨ j = 7 ∨ j = 8 ∨ j = 9 ∨ j = 10 ∨ j = 11 ∨ j = 12 ∨ j = 13 ∨ j = 14 ∨ j = 15 := by omega
    rcases hj with rfl | rfl | rfl | rfl | rfl | rfl | rfl | rfl | rfl | rfl | rfl | rfl | rfl | rfl | rfl | rfl <;> exact fun _ => rfl)
  have HSZ := Lib.hid hsz
  clear hc hs hsz
  go_enter Tryz.func118, Tryz.ntmps118
  rw [hS]
  clear hS
  go_wp2_with fail
  go_loopw [4] (RdgRel c w) (fun i _ => 16 - (intOf i).toNat)
  case atStart => exact ⟨0, 0, rfl, by decide, fun m h => by omega, rfl⟩
  case round =>
    obtain ⟨j, nq, rfl, hj, hn, hw⟩ := hrel
    have HN := Lib.hid hn
    have HW : Hid (∀ m, wr.drewN m = w.drewN (nq + m)) := Lib.hid (fun m => by rw [hw, World.drewN_drewN])
    have HW0 := Lib.hid hw
    clear hn hw
    by_cases hlt : j < 16
    · have hjs : j < S.size := by rw [HSZ.out]; exact hlt
      have hb := HB.out j hjs
      have t1 : decide (j < S.size) = true := decide_eq_true hjs
      by_cases he : (S[j]'hjs).toNat = s
      · have t2 : (((S[j]'hjs).toNat : Int) == (s : Int)) = true := beq_iff_eq.2 (by omega)
        have t3 : ((S[j]'hjs).toNat == s) = true := beq_iff_eq.2 he
        have HD : Hid (digV c = j) := Lib.hid (dig_hit ⟨c, HC.out⟩ ⟨j, hlt⟩ (by show hexL[j]? = some (smallN c); rw [hb, he, HSS.out]))
        clear hb he
        go_wp2
        go_quiet ((go_at_call 151; exact quiet_eq (HS.out _)))
        go_wp2
        go_ret
        exact ⟨by rw [HD.out]; rfl, _, HW.out _⟩
      · have t2 : (((S[j]'hjs).toNat : Int) == (s : Int)) = false := beq_eq_false_iff_ne.2 (by omega)
        have t3 : ((S[j]'hjs).toNat == s) = false := beq_eq_false_iff_ne.2 he
        have R : ∀ n, RdgRel c w (.int .i64 (j + 1)) (wr.drewN n) := fun n => ⟨j + 1, nq + n, by go_num, by omega, fun m hm => by
          by_cases e : m = j
          · subst e; rw [hb]; intro h; exact he (by rw [← HSS.out]; exact Option.some.inj h)
          · exact HN.out m (by omega), HW.out n⟩
        have HR := Lib.hid R
        clear hb he R
        go_wp2
        go_quiet ((go_at_call 151; exact quiet_eq (HS.out _)))
        go_wp2
        refine ⟨?_, by simp [intOf] <;> omega⟩
        have R := HR.out
        first | exact R _ | ((repeat apply Exists.intro); exact ⟨R _, rfl⟩)
    · have hjs : ¬ j < S.size := by rw [HSZ.out]; exact hlt
      have t1 : decide (j < S.size) = false := decide_eq_false hjs
      have HD : Hid (digV c = 99) := Lib.hid (dig_none ⟨c, HC.out⟩ (fun m => HN.out m.val (by omega)))
      go_wp2
      go_ret
      exact ⟨by rw [HD.out]; rfl, nq, HW0.out⟩
end
section
open Go.RowKit
theorem numVal_lt {s : ByteArray} (h : ∀ i, i < 4 → digV (byteAt s i) < 16) : ∀ j, j ≤ 4 → numVal 16 s j < 16 ^ j
  | 0, _ => by simp [numVal]
  | j + 1, hj => by
    have h1 := numVal_lt h j (by omega)
    have h2 := h j (by omega)
    rw [numVal, Nat.pow_succ]; omega
def RnbRel (s : ByteArray) (w : World) (n o i : Value) (wr : World) : Prop := ∃ j k : Nat, n = .int .u64 (numVal 16 s j) ∧ o = .bool false ∧ i = .int .i64 j ∧ j ≤ 4 ∧ wr = w.drewN k
set_option maxRecDepth 100000 in
set_option maxHeartbeats 4000000 in
theorem rnumber_any (s : ByteArray) (hs : s.size = 4) (hd : ∀ i, i < 4 → digV (byteAt s i) < 16) (w : World) :
    Calls Tryz.prog 82 #[.string s, .int .u64 16, .int .u64 65535] w fun e w' => e = .returned (.tuple #[.int .u64 (numVal 16 s 4), .int .i64 0, .int .i64 0]) ∧ ∃ n, w' = w.drewN n := by
  have HL := Lib.hid (numVal_lt hd)
  have HD := Lib.hid hd
  have HC := Lib.hid (fun j W => rdigit_any (byteAt s j) (byteAt_lt s j) W)
  have HS := Lib.hid hs
  have ts : ((s.size : Int) == 0) = false := beq_eq_false_iff_ne.2 (by omega)
  clear hd hs
  go_enter Tryz.func82, Tryz.ntmps82
  go_wp2_with fail
  go_loopw [9, 10, 11] (RnbRel s w) (fun _ _ i _ => 4 - (intOf i).toNat)
  case atStart => exact ⟨0, 0, rfl, rfl, rfl, by decide, rfl⟩
  case round =>
    obtain ⟨j, nq, rfl, rfl, rfl, hj, hw⟩ := hrel
    have HW : Hid (∀ m, wr.drewN m = w.drewN (nq + m)) := Lib.hid (fun m => by rw [hw, World.drewN_drewN])
    have HW0 := Lib.hid hw
    clear hw
    by_cases hlt : j < 4
    · have hjs : j < s.size := by rw [HS.out]; exact hlt
      have t1 : decide (j < s.size) = true := decide_eq_true hjs
      have hb : (s[j]'hjs).toNat = byteAt s j := (byteAt_get s j hjs).symm
      have hC := HC.out j wr
      rw [← hb] at hC
      have HCC := Lib.hid hC
      have h16 := HD.out j hlt
      have hn := HL.out j (by omega)
      have hp : 16 ^ j ≤ 16 ^ 4 := Nat.pow_le_pow_right (by decide) hj
      have HSTEP : Hid (numVal 16 s (j + 1) = numVal 16 s j * 16 + digV (byteAt s j)) := Lib.hid rfl
      rw [← hb] at h16 HSTEP
      have hn2 : numVal 16 s j < 65536 := Nat.lt_of_lt_of_le hn hp
      generalize numVal 16 s j = n at *
      generalize digV (s[j]'hjs).toNat = d at *
      clear hC hb hn hp
      go_wp2_with fail
      refine HCC.out.mono ?_
      rintro e w1 ⟨rfl, m, rfl⟩
      have t2 : decide (16 ≤ d) = false := decide_eq_false (by omega)
      have t2' : decide ((16 : Int) ≤ (d : Int)) = false := decide_eq_false (by omega)
      have t3 : decide ((18446744073709551615 - (d : Int)) / 16 < (n : Int)) = false := decide_eq_false (by omega)
      have R : RnbRel s w (.int .u64 ((n : Int) * 16 + (d : Int))) (.bool false) (.int .i64 (j + 1)) (wr.drewN m) := ⟨j + 1, nq + m, by rw [HSTEP.out]; rfl, rfl, by go_num, by omega, HW.out m⟩
      have HR := Lib.hid R
      clear R
      go_wp2
      refine ⟨?_, by simp [intOf] <;> omega⟩
      have R := HR.out
      first | exact R | ((repeat apply Exists.intro); exact ⟨R, rfl⟩)
    · obtain rfl : j = 4 := by omega
      have hjs : ¬ 4 < s.size := by rw [HS.out]; exact hlt
      have t1 : decide (4 < s.size) = false := decide_eq_false hjs
      have hn := HL.out 4 (by omega)
      have t2 : decide ((65535 : Int) < ((numVal 16 s 4 : Nat) : Int)) = false := decide_eq_false (by have : (16 : Nat) ^ 4 = 65536 := rfl; omega)
      have t2' : decide (65535 < numVal 16 s 4) = false := decide_eq_false (by have : (16 : Nat) ^ 4 = 65536 := rfl; omega)
      clear hn
      go_wp2
      refine bodyPost_ret (v := .tuple #[.int .u64 (numVal 16 s 4), .int .i64 0, .int .i64 0]) (by simp [results, Tryz.results82, go_sem]) rfl ⟨rfl, nq, HW0.out⟩
end
end Go.Proofs.YtheoaijheijojaaGreatDoor
