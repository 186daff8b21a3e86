/- The document's numbers (ref02): Small, digit. -/
import Derived.Test.YtmdalkjhlhkloaaDoorFold0
import Derived.Test.YtmdalkjhlhkloaaDoorErrs3
import Derived.BigQuiet
namespace Go.Proofs.YtmdalkjhlhkloaaDoor
open Go.RowKit
def smallN (c : Nat) : Nat := if 65 ≤ c ∧ c ≤ 90 then c + 32 else c
set_option maxRecDepth 100000 in
theorem rsmall_any (c : Nat) (hc : c < 256) (w : World) : Calls Tryd.prog 199 #[.int .u8 c] w fun e w' => e = .returned (.int .u8 (smallN c)) ∧ w = w' := by
  by_cases h1 : 65 ≤ c
  · have t1 : decide (65 ≤ c) = true := decide_eq_true h1
    have t1' : decide ((65 : Int) ≤ (c : Int)) = true := decide_eq_true (by omega)
    by_cases h2 : c ≤ 90
    · have t2 : decide (c ≤ 90) = true := decide_eq_true h2
      have t2' : decide ((c : Int) ≤ 90) = true := decide_eq_true (by omega)
      have HE : Hid (((smallN c : Nat) : Int) = (c : Int) + 32) := Lib.hid (by unfold smallN; rw [if_pos ⟨h1, h2⟩]; rfl)
      have q1 : IntKind.u8.wrap ((c : Int) + 32) = (c : Int) + 32 := IntWalk.u8_in _ (by omega)
      have hz : c + 32 < 256 := by omega
      go_enter Tryd.func199, Tryd.ntmps199
      go_wp2
      go_ret
      exact ⟨by rw [HE.out]; first | rfl | (congr 2; omega), rfl⟩
    · have t2 : decide (c ≤ 90) = false := decide_eq_false h2
      have t2' : decide ((c : Int) ≤ 90) = false := decide_eq_false (by omega)
      have HE : Hid (smallN c = c) := Lib.hid (by unfold smallN; rw [if_neg (by omega)])
      clear h1 h2
      go_enter Tryd.func199, Tryd.ntmps199
      go_wp2
      go_ret
      exact ⟨by rw [HE.out]; rfl, rfl⟩
  · have t1 : decide (65 ≤ c) = false := decide_eq_false h1
    have t1' : decide ((65 : Int) ≤ (c : Int)) = false := decide_eq_false (by omega)
    have HE : Hid (smallN c = c) := Lib.hid (by unfold smallN; rw [if_neg (by omega)])
    clear h1
    go_enter Tryd.func199, Tryd.ntmps199
    go_wp2
    go_ret
    exact ⟨by rw [HE.out]; rfl, rfl⟩
def hexL : List Nat := [48, 49, 50, 51, 52, 53, 54, 55, 56, 57, 97, 98, 99, 100, 101, 102]
def hexS : ByteArray := ⟨#[48, 49, 50, 51, 52, 53, 54, 55, 56, 57, 97, 98, 99, 100, 101, 102]⟩
theorem dig_hit : ∀ c : Fin 256, ∀ j : Fin 16, hexL[j.val]? = some (smallN c.val) → digV c.val = j.val := by decide +kernel
theorem dig_none : ∀ c : Fin 256, (∀ j : Fin 16, hexL[j.val]? ≠ some (smallN c.val)) → digV c.val = 99 := by decide +kernel
def RdgRel (c : Nat) (w : World) (i : Value) (wr : World) : Prop := ∃ j n : Nat, i = .int .i64 j ∧ j ≤ 16 ∧ (∀ m, m < j → hexL[m]? ≠ some (smallN c)) ∧ wr = w.drewN n
set_option maxRecDepth 100000 in
set_option maxHeartbeats 4000000 in
theorem rdigit_any (c : Nat) (hc : c < 256) (w : World) : Calls Tryd.prog 197 #[.int .u8 c] w fun e w' => e = .returned (.int .u64 (digV c)) ∧ ∃ n, w' = w.drewN n := by
  have HS := Lib.hid (fun W => rsmall_any c hc W)
  have HC := Lib.hid hc
  obtain ⟨s, hs⟩ : ∃ s, smallN c = s := ⟨_, rfl⟩
  have HSS := Lib.hid hs
  rw [hs] at HS
  obtain ⟨S, hS⟩ : ∃ S : ByteArray, (⟨#[48, 49, 50, 51, 52, 53, 54, 55, 56, 57, 97, 98, 99, 100, 101, 102]⟩ : ByteArray) = S := ⟨_, rfl⟩
  have hsz : S.size = 16 := by rw [← hS]; rfl
  have HB : Hid (∀ j (h : j < S.size), hexL[j]? = some (S[j]'h).toNat) := Lib.hid (by
    subst hS
    intro j h
    have h' : j < 16 := h
    revert h
    have hj : j = 0 ∨ j = 1 ∨ j = 2 ∨ j = 3 ∨ j = 4 ∨ j = 5 ∨ j = 6 ∨ j = 7 ∨ j = 8 ∨ j = 9 ∨ j = 10 ∨ j = 11 ∨ j = 12 ∨ j = 13 ∨ j = 14 ∨ j = 15 := by omega
    rcases hj with rfl | rfl | rfl | rfl | rfl | rfl | rfl | rfl | rfl | rfl | rfl | rfl | rfl | rfl | rfl | rfl <;> exact fun _ => rfl)
  have HSZ := Lib.hid hsz
  clear hc hs hsz
  go_enter Tryd.func197, Tryd.ntmps197
  rw [hS]
  clear hS
  go_wp2_with fail
  go_loopw [4] (RdgRel c w) (fun i _ => 16 - (intOf i).toNat)
  case atStart => exact ⟨0, 0, rfl, by decide, fun m h => by omega, rfl⟩
  case round =>
    obtain ⟨j, nq, rfl, hj, hn, hw⟩ := hrel
    have HN := Lib.hid hn
    have HW : Hid (∀ m, wr.drewN m = w.drewN (nq + m)) := Lib.hid (fun m => by rw [hw, World.drewN_drewN])
    have HW0 := Lib.hid hw
    clear hn hw
    by_cases hlt : j < 16
    · have hjs : j < S.size := by rw [HSZ.out]; exact hlt
      have hb := HB.out j hjs
      have t1 : decide (j < S.size) = true := decide_eq_true hjs
      by_cases he : (S[j]'hjs).toNat = s
      · have t2 : (((S[j]'hjs).toNat : Int) == (s : Int)) = true := beq_iff_eq.2 (by omega)
        have t3 : ((S[j]'hjs).toNat == s) = true := beq_iff_eq.2 he
        have HD : Hid (digV c = j) := Lib.hid (dig_hit ⟨c, HC.out⟩ ⟨j, hlt⟩ (by show hexL[j]? = some (smallN c); rw [hb, he, HSS.out]))
        clear hb he
        go_wp2
        go_quiet ((go_at_call 199; exact quiet_eq (HS.out _)))
        go_wp2
        go_ret
        exact ⟨by rw [HD.out]; rfl, _, HW.out _⟩
      · have t2 : (((S[j]'hjs).toNat : Int) == (s : Int)) = false := beq_eq_false_iff_ne.2 (by omega)
        have t3 : ((S[j]'hjs).toNat == s) = false := beq_eq_false_iff_ne.2 he
        have R : ∀ n, RdgRel c w (.int .i64 (j + 1)) (wr.drewN n) := fun n => ⟨j + 1, nq + n, by go_num, by omega, fun m hm => by
          by_cases e : m = j
          · subst e; rw [hb]; intro h; exact he (by rw [← HSS.out]; exact Option.some.inj h)
          · exact HN.out m (by omega), HW.out n⟩
        have HR := Lib.hid R
        clear hb he R
        go_wp2
        go_quiet ((go_at_call 199; exact quiet_eq (HS.out _)))
        go_wp2
        refine ⟨?_, by simp [intOf] <;> omega⟩
        have R := HR.out
        first | exact R _ | ((repeat apply Exists.intro); exact ⟨R _, rfl⟩)
    · have hjs : ¬ j < S.size := by rw [HSZ.out]; exact hlt
      have t1 : decide (j < S.size) = false := decide_eq_false hjs
      have HD : Hid (digV c = 99) := Lib.hid (dig_none ⟨c, HC.out⟩ (fun m => HN.out m.val (by omega)))
      go_wp2
      go_ret
      exact ⟨by rw [HD.out]; rfl, nq, HW0.out⟩
end Go.Proofs.YtmdalkjhlhkloaaDoor
