
/- Dec3, Hxd1 in one text (a claim holds at most 60 files). -/
import Derived.Test.YtbeodjipdpcaiaaGreatDoorZDec0s
import Derived.Test.YtbeodjipdpcaiaaGreatDoorZScan4s
import Derived.Test.YtbeodjipdpcaiaaGreatDoorZFoldWs
import Derived.Lib.SmallJoins
-- @auto
namespace Go.Proofs.YtbeodjipdpcaiaaGreatDoor
section
open Go.RowKit
structure WrAt10 (n : Nat) (w : World) (r : Nat) (arr : Array Value) (wr : World) : Prop where
  box : wr.heap[w.heap.size]? = some (.cells arr 250 (0, 0))
  size : arr.size = 64
  below : Below w.heap.size w wr
  dig : ∀ j, j < r → arr[63 - j]? = some (.int .u8 ((48 + n / 10 ^ j % 10 : Nat) : Int))
def WrRel10 (n : Nat) (w : World) (nv av : Value) (wr : World) : Prop := ∃ (r a : Nat) (arr : Array Value), nv = .int .u64 ((n / 10 ^ r : Nat) : Int) ∧ av = .int .i64 (a : Nat) ∧ a + r = 64 ∧ r ≤ lenD n ∧ WrAt10 n w r arr wr
theorem WrAt10.step {n r a : Nat} {w wr : World} {arr : Array Value} (h : WrAt10 n w r arr wr) (ha : a + 1 + r = 64) (hr : r < lenD n) : WrRel10 n w (.int .u64 ((n / 10 ^ r / 10 : Nat) : Int)) (.int .i64 (a : Nat)) (wr.setCell ⟨w.heap.size, a, none⟩ (.int .u8 ((48 + n / 10 ^ r % 10 : Nat) : Int))) := by
  have hs := h.size
  have hb := Go.Joins.block_setCell h.box (i := a) (.int .u8 ((48 + n / 10 ^ r % 10 : Nat) : Int))
  refine ⟨r + 1, a, _, by rw [Nat.pow_succ, Nat.div_div_eq_div_mul], rfl, by omega, hr, ⟨hb, by simp [hs], h.below.setCell (Nat.le_refl _) _, fun j hj => ?_⟩⟩
  rw [Array.getElem?_setIfInBounds]
  by_cases e : j = r
  · subst e
    rw [if_pos (by omega), if_pos (by omega)]
  · rw [if_neg (by omega)]
    exact h.dig j (by omega)
set_option maxRecDepth 100000 in
set_option maxHeartbeats 16000000 in
theorem written10_any (n : Nat) (w : World) (hn : n < 18446744073709551616) :
    Calls Tryz.prog 180 #[.int .u64 n, .int .u64 10, .int .i64 1] w fun e w' => e = .returned (.string (decB n)) ∧ Below w.heap.size w w' := by
  have HL := Lib.hid (lenD_iff n)
  have HP := Lib.hid (lenD_pos n)
  have HX := Lib.hid (lenD_le hn)
  have HN := Lib.hid hn
  clear hn
  go_enter Tryz.func180, Tryz.ntmps180
  go_wp2_with fail
  go_loopw [0, 8] (WrRel10 n w) (fun _ a _ => (intOf a).toNat)
  case atStart => exact ⟨0, 64, _, by simp, rfl, rfl, Nat.zero_le _, ⟨heap_alloc_new w _, rfl, ext_alloc (Below.refl _ _) _, fun j h => by omega⟩⟩
  case round =>
    obtain ⟨r, a, arr, rfl, rfl, har, hr, hA⟩ := hrel
    have hL := (Array.getElem?_eq_some_iff.1 hA.box).1
    have HA := Lib.hid hA
    have HDL : Hid (decB n = decS (lenD n) n) := Lib.hid rfl
    obtain ⟨m, hm⟩ : ∃ m, n / 10 ^ r = m := ⟨_, rfl⟩
    have hm64 : m < 18446744073709551616 := by
      have := Nat.div_le_self n (10 ^ r)
      have := HN.out
      omega
    by_cases hgo : r < lenD n
    · -- one more digit
      obtain ⟨S, hS⟩ : ∃ S : ByteArray, (⟨#[48, 49, 50, 51, 52, 53, 54, 55, 56, 57, 65, 66, 67, 68, 69, 70]⟩ : ByteArray) = S := ⟨_, rfl⟩
      have hzS : S.size = 16 := by rw [← hS]; rfl
      have hgt : ∀ d (h : d < S.size), d < 10 → (S[d]'h).toNat = 48 + d := by
        subst hS
        intro d h h10
        revert h
        have hj : d = 0 ∨ d = 1 ∨ d = 2 ∨ d = 3 ∨ d = 4 ∨ d = 5 ∨ d = 6 ∨ d = 7 ∨ d = 8 ∨ d = 9 := by omega
        rcases hj with rfl | rfl | rfl | rfl | rfl | rfl | rfl | rfl | rfl | rfl <;> exact fun _ => rfl
      have hr20 := Nat.lt_of_lt_of_le hgo HX.out
      obtain ⟨b, rfl⟩ : ∃ b, a = b + 1 := ⟨a - 1, by omega⟩
      have HST := hA.step (a := b) har hgo
      rw [hm] at HST ⊢
      rw [hS]
      obtain ⟨d, hd⟩ : ∃ d, m % 10 = d := ⟨_, rfl⟩
      obtain ⟨p, hp⟩ : ∃ p, m / 10 = p := ⟨_, rfl⟩
      rw [hd, hp] at HST
      have hd10 : d < 10 := by omega
      have tm : (m : Int).tmod 10 = (d : Int) := by rw [Int.tmod_eq_emod_of_nonneg (by omega)]; omega
      have td : (m : Int).tdiv 10 = (p : Int) := by rw [Int.tdiv_eq_ediv_of_nonneg (by omega)]; omega
      have wr0 : IntKind.u64.wrap (p : Int) = (p : Int) := IntWalk.u64_in _ (by omega)
      have hi1 : d < S.size := by omega
      have hgx := hgt d hi1 hd10
      obtain ⟨x, hx⟩ : ∃ x, wr.cell? ⟨w.heap.size, b, none⟩ = some x := by
        have hs := hA.size
        exact ⟨arr[b], by simp [World.cell?, hA.box, Array.getElem?_eq_getElem (show b < arr.size by omega)]⟩
      have hf : wr.frozen? ⟨w.heap.size, b, none⟩ = false := Go.Joins.unfrozen_of_block hA.box b
      have hb64 : b < 64 := by omega
      have hrm : r = 0 → m = n := fun e => by rw [e] at hm; simpa using hm.symm
      have hm0 : m = 0 → r = 0 := fun e => by
        refine Nat.le_zero.1 (Nat.le_of_not_lt fun h => ?_)
        have := (HL.out r h).2 (by rw [hm, e])
        omega
      have HST := Lib.hid HST
      have HG := Lib.hid hgx
      have HGT := Lib.hid hgt
      by_cases h0 : m = 0
      · have hb63 : b = 63 := by have := hm0 h0; omega
        have t1 : decide ((0 : Int) < (m : Int)) = false := decide_eq_false (by omega)
        have t1' : decide (0 < m) = false := decide_eq_false (by omega)
        subst hb63
        have HM0 := Lib.hid h0
        have HR := Lib.hid har
        clear hgx hgt hA hm hd hp hS hrm hm0 h0 har hgo hr
        go_wp2
        rw [HG.out]
        refine ⟨?_, by simp [intOf]⟩
        have R := HST.out
        first | exact R | ((repeat apply Exists.intro); exact ⟨R, rfl⟩)
      · have t1 : decide ((0 : Int) < (m : Int)) = true := decide_eq_true (by omega)
        have t1' : decide (0 < m) = true := decide_eq_true (by omega)
        have HR := Lib.hid har
        clear hgx hgt hA hm hd hp hS hrm hm0 h0 har hgo hr
        go_wp2
        rw [HG.out]
        refine ⟨?_, by simp [intOf]⟩
        have R := HST.out
        first | exact R | ((repeat apply Exists.intro); exact ⟨R, rfl⟩)
    · have hre : r = lenD n := by omega
      have hp1 := HP.out
      have hm0 : m = 0 := by rw [← hm]; exact (HL.out r (by omega)).1 (by omega)
      have hr20 := HX.out
      rw [hm]
      subst hm0
      have cv := bytes_back wr w.heap.size a r r (decS r n) (decS_size r n) (fun j hj => by
        rw [decS_at hj]
        have := hA.dig (r - 1 - j) (by omega)
        rw [show 63 - (r - 1 - j) = a + j by omega] at this
        simp [World.cell?, hA.box, this])
      have HB := Lib.hid hA.below
      have HRE := Lib.hid hre
      have hr1 : 1 ≤ r := by omega
      have t2 : decide ((64 : Int) - (a : Int) < 1) = false := decide_eq_false (by omega)
      have h64 : 64 - a = r := by omega
      have hac : ¬ 64 = a := by omega
      have ha1 : a ≤ 64 := by omega
      have ha2 : (a : Int) ≤ 64 := by omega
      obtain ⟨X, hX⟩ : ∃ X, decS r n = X := ⟨_, rfl⟩
      rw [hX] at cv
      have HX2 : Hid (decB n = X) := Lib.hid (by rw [HDL.out, ← hre, hX])
      clear hA hm hre hgo hp1 hr20 hX HDL har hr
      go_wp2
      go_ret
      exact ⟨by rw [HX2.out]; rfl, HB.out⟩
set_option maxRecDepth 100000 in
theorem digits_dec (n : Nat) (w : World) (hn : n < 18446744073709551616) : Calls Tryz.prog 112 #[.int .u64 n] w fun e w' => e = .returned (.string (decB n)) ∧ Below w.heap.size w w' := by
  have HW := Lib.hid (written10_any n w hn)
  clear hn
  go_enter Tryz.func112, Tryz.ntmps112
  go_wp2_with fail
  refine HW.out.mono ?_
  rintro e w1 ⟨rfl, hb⟩
  have HB := Lib.hid hb
  clear hb
  go_wp2
  go_ret
  exact ⟨rfl, HB.out⟩
end
section
open Go.RowKit
structure WrAt16 (n : Nat) (w : World) (r : Nat) (arr : Array Value) (wr : World) : Prop where
  box : wr.heap[w.heap.size]? = some (.cells arr 250 (0, 0))
  size : arr.size = 64
  below : Below w.heap.size w wr
  dig : ∀ j, j < r → arr[63 - j]? = some (.int .u8 ((hexU (n / 16 ^ j % 16) : Nat) : Int))
def WrRel16 (n : Nat) (w : World) (nv av : Value) (wr : World) : Prop := ∃ (r a : Nat) (arr : Array Value), nv = .int .u64 ((n / 16 ^ r : Nat) : Int) ∧ av = .int .i64 (a : Nat) ∧ a + r = 64 ∧ r ≤ lenH n ∧ WrAt16 n w r arr wr
theorem WrAt16.step {n r a : Nat} {w wr : World} {arr : Array Value} (h : WrAt16 n w r arr wr) (ha : a + 1 + r = 64) (hr : r < lenH n) : WrRel16 n w (.int .u64 ((n / 16 ^ r / 16 : Nat) : Int)) (.int .i64 (a : Nat)) (wr.setCell ⟨w.heap.size, a, none⟩ (.int .u8 ((hexU (n / 16 ^ r % 16) : Nat) : Int))) := by
  have hs := h.size
  have hb := Go.Joins.block_setCell h.box (i := a) (.int .u8 ((hexU (n / 16 ^ r % 16) : Nat) : Int))
  refine ⟨r + 1, a, _, by rw [Nat.pow_succ, Nat.div_div_eq_div_mul], rfl, by omega, hr, ⟨hb, by simp [hs], h.below.setCell (Nat.le_refl _) _, fun j hj => ?_⟩⟩
  rw [Array.getElem?_setIfInBounds]
  by_cases e : j = r
  · subst e
    rw [if_pos (by omega), if_pos (by omega)]
  · rw [if_neg (by omega)]
    exact h.dig j (by omega)
set_option maxRecDepth 100000 in
set_option maxHeartbeats 16000000 in
theorem written16_any (n : Nat) (w : World) (hn : n < 65536) :
    Calls Tryz.prog 180 #[.int .u64 n, .int .u64 16, .int .i64 1] w fun e w' => e = .returned (.string (hexB6 n)) ∧ Below w.heap.size w w' := by
  have HL := Lib.hid (lenH_iff n)
  have HP := Lib.hid (lenH_pos n)
  have HX := Lib.hid (lenH_le hn)
  have HN := Lib.hid hn
  clear hn
  go_enter Tryz.func180, Tryz.ntmps180
  go_wp2_with fail
  go_loopw [0, 8] (WrRel16 n w) (fun _ a _ => (intOf a).toNat)
  case atStart => exact ⟨0, 64, _, by simp, rfl, rfl, Nat.zero_le _, ⟨heap_alloc_new w _, rfl, ext_alloc (Below.refl _ _) _, fun j h => by omega⟩⟩
  case round =>
    obtain ⟨r, a, arr, rfl, rfl, har, hr, hA⟩ := hrel
    have hL := (Array.getElem?_eq_some_iff.1 hA.box).1
    have HA := Lib.hid hA
    have HDL : Hid (hexB6 n = hexS6 (lenH n) n) := Lib.hid rfl
    obtain ⟨m, hm⟩ : ∃ m, n / 16 ^ r = m := ⟨_, rfl⟩
    have hm64 : m < 18446744073709551616 := by
      have := Nat.div_le_self n (16 ^ r)
      have := HN.out
      omega
    by_cases hgo : r < lenH n
    · -- one more digit
      obtain ⟨S, hS⟩ : ∃ S : ByteArray, (⟨#[48, 49, 50, 51, 52, 53, 54, 55, 56, 57, 65, 66, 67, 68, 69, 70]⟩ : ByteArray) = S := ⟨_, rfl⟩
      have hzS : S.size = 16 := by rw [← hS]; rfl
      have hgt : ∀ d (h : d < S.size), d < 16 → (S[d]'h).toNat = hexU d := by
        subst hS
        intro d h h10
        revert h
        have hj : d = 0 ∨ d = 1 ∨ d = 2 ∨ d = 3 ∨ d = 4 ∨ d = 5 ∨ d = 6 ∨ d = 7 ∨ d = 8 ∨ d = 9 ∨ d = 10 ∨ d = 11 ∨ d = 12 ∨ d = 13 ∨ d = 14 ∨ d = 15 := by omega
        rcases hj with rfl | rfl | rfl | rfl | rfl | rfl | rfl | rfl | rfl | rfl | rfl | rfl | rfl | rfl | rfl | rfl <;> exact fun _ => rfl
      have hr20 := Nat.lt_of_lt_of_le hgo HX.out
      obtain ⟨b, rfl⟩ : ∃ b, a = b + 1 := ⟨a - 1, by omega⟩
      have HST := hA.step (a := b) har hgo
      rw [hm] at HST ⊢
      rw [hS]
      obtain ⟨d, hd⟩ : ∃ d, m % 16 = d := ⟨_, rfl⟩
      obtain ⟨p, hp⟩ : ∃ p, m / 16 = p := ⟨_, rfl⟩
      rw [hd, hp] at HST
      have hd10 : d < 16 := by omega
      have tm : (m : Int).tmod 16 = (d : Int) := by rw [Int.tmod_eq_emod_of_nonneg (by omega)]; omega
      have td : (m : Int).tdiv 16 = (p : Int) := by rw [Int.tdiv_eq_ediv_of_nonneg (by omega)]; omega
      have wr0 : IntKind.u64.wrap (p : Int) = (p : Int) := IntWalk.u64_in _ (by omega)
      have hi1 : d < S.size := by omega
      have hgx := hgt d hi1 hd10
      obtain ⟨x, hx⟩ : ∃ x, wr.cell? ⟨w.heap.size, b, none⟩ = some x := by
        have hs := hA.size
        exact ⟨arr[b], by simp [World.cell?, hA.box, Array.getElem?_eq_getElem (show b < arr.size by omega)]⟩
      have hf : wr.frozen? ⟨w.heap.size, b, none⟩ = false := Go.Joins.unfrozen_of_block hA.box b
      have hb64 : b < 64 := by omega
      have hrm : r = 0 → m = n := fun e => by rw [e] at hm; simpa using hm.symm
      have hm0 : m = 0 → r = 0 := fun e => by
        refine Nat.le_zero.1 (Nat.le_of_not_lt fun h => ?_)
        have := (HL.out r h).2 (by rw [hm, e])
        omega
      have HST := Lib.hid HST
      have HG := Lib.hid hgx
      have HGT := Lib.hid hgt
      by_cases h0 : m = 0
      · have hb63 : b = 63 := by have := hm0 h0; omega
        have t1 : decide ((0 : Int) < (m : Int)) = false := decide_eq_false (by omega)
        have t1' : decide (0 < m) = false := decide_eq_false (by omega)
        subst hb63
        have HM0 := Lib.hid h0
        have HR := Lib.hid har
        clear hgx hgt hA hm hd hp hS hrm hm0 h0 har hgo hr
        go_wp2
        rw [HG.out]
        refine ⟨?_, by simp [intOf]⟩
        have R := HST.out
        first | exact R | ((repeat apply Exists.intro); exact ⟨R, rfl⟩)
      · have t1 : decide ((0 : Int) < (m : Int)) = true := decide_eq_true (by omega)
        have t1' : decide (0 < m) = true := decide_eq_true (by omega)
        have HR := Lib.hid har
        clear hgx hgt hA hm hd hp hS hrm hm0 h0 har hgo hr
        go_wp2
        rw [HG.out]
        refine ⟨?_, by simp [intOf]⟩
        have R := HST.out
        first | exact R | ((repeat apply Exists.intro); exact ⟨R, rfl⟩)
    · have hre : r = lenH n := by omega
      have hp1 := HP.out
      have hm0 : m = 0 := by rw [← hm]; exact (HL.out r (by omega)).1 (by omega)
      have hr20 := HX.out
      rw [hm]
      subst hm0
      have cv := bytes_back wr w.heap.size a r r (hexS6 r n) (hexS6_size r n) (fun j hj => by
        rw [hexS6_at hj]
        have := hA.dig (r - 1 - j) (by omega)
        rw [show 63 - (r - 1 - j) = a + j by omega] at this
        simp [World.cell?, hA.box, this])
      have HB := Lib.hid hA.below
      have HRE := Lib.hid hre
      have hr1 : 1 ≤ r := by omega
      have t2 : decide ((64 : Int) - (a : Int) < 1) = false := decide_eq_false (by omega)
      have h64 : 64 - a = r := by omega
      have hac : ¬ 64 = a := by omega
      have ha1 : a ≤ 64 := by omega
      have ha2 : (a : Int) ≤ 64 := by omega
      obtain ⟨X, hX⟩ : ∃ X, hexS6 r n = X := ⟨_, rfl⟩
      rw [hX] at cv
      have HX2 : Hid (hexB6 n = X) := Lib.hid (by rw [HDL.out, ← hre, hX])
      clear hA hm hre hgo hp1 hr20 hX HDL har hr
      go_wp2
      go_ret
      exact ⟨by rw [HX2.out]; rfl, HB.out⟩
end
end Go.Proofs.YtbeodjipdpcaiaaGreatDoor
