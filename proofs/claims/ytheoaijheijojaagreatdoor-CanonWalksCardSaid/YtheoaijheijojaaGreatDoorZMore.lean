
/- Further items of ZSrt0s, ZJsO1s. -/
import Derived.Test.YtheoaijheijojaaGreatDoorZSrt0s
import Derived.Shelf.SlSortCmp.NoneTotal
import Derived.Lib.SmallJoins
import Derived.WalkKit
import Derived.BigQuiet
import Derived.Deep.DeepCutAuto
import Derived.Test.YtheoaijheijojaaGreatDoorZJsO1s
import Derived.RegionTactic
import Derived.BigRegion
-- @auto
namespace Go.Proofs.YtheoaijheijojaaGreatDoor
section
section
open Go.RowKit
section
variable {α : Type} [Inhabited α] {enc : α → List Value} {k : Nat}
end
end
section
open Go.RowKit
/-- The last r digits of a number. -/
def decL (r n : Nat) : List UInt8 := (List.range r).map fun j => UInt8.ofNat (48 + n / 10 ^ (r - 1 - j) % 10)
def decS (r n : Nat) : ByteArray := ⟨(decL r n).toArray⟩
def lenF : Nat → Nat → Nat
  | 0, _ => 1
  | f + 1, n => if n < 10 then 1 else lenF f (n / 10) + 1
def lenD (n : Nat) : Nat := lenF n n
def decB (n : Nat) : ByteArray := decS (lenD n) n
theorem decS_size (r n : Nat) : (decS r n).size = r := by
  show (decL r n).toArray.size = r
  simp [decL]
theorem lenF_iff : ∀ (f n r : Nat), n ≤ f → 1 ≤ r → (lenF f n ≤ r ↔ n / 10 ^ r = 0)
  | 0, n, r, h, h1 => by
    obtain rfl : n = 0 := by omega
    simp [lenF]; exact h1
  | f + 1, n, r, h, h1 => by
    rw [lenF]
    obtain ⟨q, rfl⟩ : ∃ q, r = q + 1 := ⟨r - 1, by omega⟩
    have hp : 0 < 10 ^ (q + 1) := Nat.pow_pos (by decide)
    split
    · rename_i h10
      refine ⟨fun _ => Nat.div_eq_of_lt ?_, fun _ => h1⟩
      have : 10 ^ 1 ≤ 10 ^ (q + 1) := Nat.pow_le_pow_right (by decide) (by omega)
      omega
    · rename_i h10
      have e : n / 10 ^ (q + 1) = n / 10 / 10 ^ q := by rw [Nat.pow_succ, Nat.mul_comm, Nat.div_div_eq_div_mul]
      by_cases hq : 1 ≤ q
      · rw [e, ← lenF_iff f (n / 10) q (by omega) hq]; omega
      · obtain rfl : q = 0 := by omega
        rw [e, Nat.pow_zero, Nat.div_one]
        refine ⟨fun h => ?_, fun h => by omega⟩
        have : 1 ≤ lenF f (n / 10) := by cases f with
          | zero => exact Nat.le_refl _
          | succ f => rw [lenF]; split <;> omega
        omega
theorem lenD_iff (n r : Nat) (h : 1 ≤ r) : lenD n ≤ r ↔ n / 10 ^ r = 0 := lenF_iff n n r (Nat.le_refl _) h
theorem lenD_pos (n : Nat) : 1 ≤ lenD n := by
  unfold lenD
  cases n with
  | zero => exact Nat.le_refl _
  | succ f => rw [lenF]; split <;> omega
theorem lenD_le {n : Nat} (h : n < 18446744073709551616) : lenD n ≤ 20 := by
  rw [lenD_iff n 20 (by decide)]
  refine Nat.div_eq_of_lt ?_
  have : (10 : Nat) ^ 20 = 100000000000000000000 := rfl
  omega
/-- One more digit ahead. -/
theorem decL_cons (r n : Nat) : decL (r + 1) n = UInt8.ofNat (48 + n / 10 ^ r % 10) :: decL r n := by
  unfold decL
  rw [List.range_succ_eq_map, List.map_cons, List.map_map]
  congr 1
  refine List.map_congr_left (fun j _ => ?_)
  show UInt8.ofNat (48 + n / 10 ^ (r + 1 - 1 - (j + 1)) % 10) = _
  congr 5
  omega
theorem decS_cons (r n : Nat) : (⟨#[UInt8.ofNat (48 + n / 10 ^ r % 10)]⟩ : ByteArray) ++ decS r n = decS (r + 1) n := by
  have : ∀ (a : UInt8) (l : List UInt8), (⟨#[a]⟩ : ByteArray) ++ ⟨l.toArray⟩ = ⟨(a :: l).toArray⟩ := fun a l => by
    apply toList_inj
    rw [ByteArray.toList_eq, ByteArray.toList_eq, ByteArray.data_append]
    simp
  unfold decS
  rw [this, decL_cons]
theorem decS_at {r n j : Nat} (h : j < r) : byteAt (decS r n) j = 48 + n / 10 ^ (r - 1 - j) % 10 := by
  unfold byteAt decS decL
  simp [h]
  omega
theorem decS_zero (n : Nat) : decS 0 n = ⟨#[]⟩ := rfl
end
section
open Go.RowKit
structure WrAt10 (n : Nat) (w : World) (r : Nat) (arr : Array Value) (wr : World) : Prop where
  box : wr.heap[w.heap.size]? = some (.cells arr 225 (0, 0))
  size : arr.size = 64
  below : Below w.heap.size w wr
  dig : ∀ j, j < r → arr[63 - j]? = some (.int .u8 ((48 + n / 10 ^ j % 10 : Nat) : Int))
def WrRel10 (n : Nat) (w : World) (nv av : Value) (wr : World) : Prop := ∃ (r a : Nat) (arr : Array Value), nv = .int .u64 ((n / 10 ^ r : Nat) : Int) ∧ av = .int .i64 (a : Nat) ∧ a + r = 64 ∧ r ≤ lenD n ∧ WrAt10 n w r arr wr
theorem WrAt10.step {n r a : Nat} {w wr : World} {arr : Array Value} (h : WrAt10 n w r arr wr) (ha : a + 1 + r = 64) (hr : r < lenD n) : WrRel10 n w (.int .u64 ((n / 10 ^ r / 10 : Nat) : Int)) (.int .i64 (a : Nat)) (wr.setCell ⟨w.heap.size, a, none⟩ (.int .u8 ((48 + n / 10 ^ r % 10 : Nat) : Int))) := by
  have hs := h.size
  have hb := Go.Joins.block_setCell h.box (i := a) (.int .u8 ((48 + n / 10 ^ r % 10 : Nat) : Int))
  refine ⟨r + 1, a, _, by rw [Nat.pow_succ, Nat.div_div_eq_div_mul], rfl, by omega, hr, ⟨hb, by simp [hs], h.below.setCell (Nat.le_refl _) _, fun j hj => ?_⟩⟩
  rw [Array.getElem?_setIfInBounds]
  by_cases e : j = r
  · subst e
    rw [if_pos (by omega), if_pos (by omega)]
  · rw [if_neg (by omega)]
    exact h.dig j (by omega)
set_option maxRecDepth 100000 in
set_option maxHeartbeats 16000000 in
theorem written10_any (n : Nat) (w : World) (hn : n < 18446744073709551616) :
    Calls Tryz.prog 113 #[.int .u64 n, .int .u64 10, .int .i64 1] w fun e w' => e = .returned (.string (decB n)) ∧ Below w.heap.size w w' := by
  have HL := Lib.hid (lenD_iff n)
  have HP := Lib.hid (lenD_pos n)
  have HX := Lib.hid (lenD_le hn)
  have HN := Lib.hid hn
  clear hn
  go_enter Tryz.func113, Tryz.ntmps113
  go_wp2_with fail
  go_loopw [0, 8] (WrRel10 n w) (fun _ a _ => (intOf a).toNat)
  case atStart => exact ⟨0, 64, _, by simp, rfl, rfl, Nat.zero_le _, ⟨heap_alloc_new w _, rfl, ext_alloc (Below.refl _ _) _, fun j h => by omega⟩⟩
  case round =>
    obtain ⟨r, a, arr, rfl, rfl, har, hr, hA⟩ := hrel
    have hL := (Array.getElem?_eq_some_iff.1 hA.box).1
    have HA := Lib.hid hA
    have HDL : Hid (decB n = decS (lenD n) n) := Lib.hid rfl
    obtain ⟨m, hm⟩ : ∃ m, n / 10 ^ r = m := ⟨_, rfl⟩
    have hm64 : m < 18446744073709551616 := by
      have := Nat.div_le_self n (10 ^ r)
      have := HN.out
      omega
    by_cases hgo : r < lenD n
    · -- one more digit
      obtain ⟨S, hS⟩ : ∃ S : ByteArray, (⟨#[48, 49, 50, 51, 52, 53, 54, 55, 56, 57, 65, 66, 67, 68, 69, 70]⟩ : ByteArray) = S := ⟨_, rfl⟩
      have hzS : S.size = 16 := by rw [← hS]; rfl
      have hgt : ∀ d (h : d < S.size), d < 10 → (S[d]'h).toNat = 48 + d := by
        subst hS
        intro d h h10
        revert h
        have hj : d = 0 ∨ d = 1 ∨ d = 2 ∨ d = 3 ∨ d = 4 ∨ d = 5 ∨ d = 6 ∨ d = 7 ∨ d = 8 ∨ d = 9 := by omega
        rcases hj with rfl | rfl | rfl | rfl | rfl | rfl | rfl | rfl | rfl | rfl <;> exact fun _ => rfl
      have hr20 := Nat.lt_of_lt_of_le hgo HX.out
      obtain ⟨b, rfl⟩ : ∃ b, a = b + 1 := ⟨a - 1, by omega⟩
      have HST := hA.step (a := b) har hgo
      rw [hm] at HST ⊢
      rw [hS]
      obtain ⟨d, hd⟩ : ∃ d, m % 10 = d := ⟨_, rfl⟩
      obtain ⟨p, hp⟩ : ∃ p, m / 10 = p := ⟨_, rfl⟩
      rw [hd, hp] at HST
      have hd10 : d < 10 := by omega
      have tm : (m : Int).tmod 10 = (d : Int) := by rw [Int.tmod_eq_emod_of_nonneg (by omega)]; omega
      have td : (m : Int).tdiv 10 = (p : Int) := by rw [Int.tdiv_eq_ediv_of_nonneg (by omega)]; omega
      have wr0 : IntKind.u64.wrap (p : Int) = (p : Int) := IntWalk.u64_in _ (by omega)
      have hi1 : d < S.size := by omega
      have hgx := hgt d hi1 hd10
      obtain ⟨x, hx⟩ : ∃ x, wr.cell? ⟨w.heap.size, b, none⟩ = some x := by
        have hs := hA.size
        exact ⟨arr[b], by simp [World.cell?, hA.box, Array.getElem?_eq_getElem (show b < arr.size by omega)]⟩
      have hf : wr.frozen? ⟨w.heap.size, b, none⟩ = false := Go.Joins.unfrozen_of_block hA.box b
      have hb64 : b < 64 := by omega
      have hrm : r = 0 → m = n := fun e => by rw [e] at hm; simpa using hm.symm
      have hm0 : m = 0 → r = 0 := fun e => by
        refine Nat.le_zero.1 (Nat.le_of_not_lt fun h => ?_)
        have := (HL.out r h).2 (by rw [hm, e])
        omega
      have HST := Lib.hid HST
      have HG := Lib.hid hgx
      have HGT := Lib.hid hgt
      by_cases h0 : m = 0
      · have hb63 : b = 63 := by have := hm0 h0; omega
        have t1 : decide ((0 : Int) < (m : Int)) = false := decide_eq_false (by omega)
        have t1' : decide (0 < m) = false := decide_eq_false (by omega)
        subst hb63
        have HM0 := Lib.hid h0
        have HR := Lib.hid har
        clear hgx hgt hA hm hd hp hS hrm hm0 h0 har hgo hr
        go_wp2
        rw [HG.out]
        refine ⟨?_, by simp [intOf]⟩
        have R := HST.out
        first | exact R | ((repeat apply Exists.intro); exact ⟨R, rfl⟩)
      · have t1 : decide ((0 : Int) < (m : Int)) = true := decide_eq_true (by omega)
        have t1' : decide (0 < m) = true := decide_eq_true (by omega)
        have HR := Lib.hid har
        clear hgx hgt hA hm hd hp hS hrm hm0 h0 har hgo hr
        go_wp2
        rw [HG.out]
        refine ⟨?_, by simp [intOf]⟩
        have R := HST.out
        first | exact R | ((repeat apply Exists.intro); exact ⟨R, rfl⟩)
    · have hre : r = lenD n := by omega
      have hp1 := HP.out
      have hm0 : m = 0 := by rw [← hm]; exact (HL.out r (by omega)).1 (by omega)
      have hr20 := HX.out
      rw [hm]
      subst hm0
      have cv := bytes_back wr w.heap.size a r r (decS r n) (decS_size r n) (fun j hj => by
        rw [decS_at hj]
        have := hA.dig (r - 1 - j) (by omega)
        rw [show 63 - (r - 1 - j) = a + j by omega] at this
        simp [World.cell?, hA.box, this])
      have HB := Lib.hid hA.below
      have HRE := Lib.hid hre
      have hr1 : 1 ≤ r := by omega
      have t2 : decide ((64 : Int) - (a : Int) < 1) = false := decide_eq_false (by omega)
      have h64 : 64 - a = r := by omega
      have hac : ¬ 64 = a := by omega
      have ha1 : a ≤ 64 := by omega
      have ha2 : (a : Int) ≤ 64 := by omega
      obtain ⟨X, hX⟩ : ∃ X, decS r n = X := ⟨_, rfl⟩
      rw [hX] at cv
      have HX2 : Hid (decB n = X) := Lib.hid (by rw [HDL.out, ← hre, hX])
      clear hA hm hre hgo hp1 hr20 hX HDL har hr
      go_wp2
      go_ret
      exact ⟨by rw [HX2.out]; rfl, HB.out⟩
set_option maxRecDepth 100000 in
theorem digits_dec (n : Nat) (w : World) (hn : n < 18446744073709551616) : Calls Tryz.prog 77 #[.int .u64 n] w fun e w' => e = .returned (.string (decB n)) ∧ Below w.heap.size w w' := by
  have HW := Lib.hid (written10_any n w hn)
  clear hn
  go_enter Tryz.func77, Tryz.ntmps77
  go_wp2_with fail
  refine HW.out.mono ?_
  rintro e w1 ⟨rfl, hb⟩
  have HB := Lib.hid hb
  clear hb
  go_wp2
  go_ret
  exact ⟨rfl, HB.out⟩
end
section
open Go.RowKit
end
section
open Go.RowKit
end
end
section
section
open Go.RowKit
end
section
open Go.RowKit
def strsD7 (l : List ByteArray) : Dat := .list 1 (l.map .str)
end
section
open Go.RowKit
def SameS7 (n : Nat) (W : World) (i : Value) (wr : World) : Prop := ∃ j nq : Nat, i = .int .i64 j ∧ j ≤ n ∧ wr = W.drewN nq
set_option maxRecDepth 100000 in
theorem sameS_any {S1 S2 : Nat → Prop} (v1 v2 : Value) (l : List ByteArray) (w : World) (h1 : Rd S1 w v1 (strsD7 l)) (h2 : Rd S2 w v2 (strsD7 l)) (hm : l.length ≤ 1000000) :
    Calls Tryz.prog 17 #[v1, v2] w fun e w' => e = .returned (.bool true) ∧ Below w.heap.size w w' := by
  obtain ⟨a1, c1, rfl, _, _, hc1⟩ := h1.strs_inv
  obtain ⟨a2, c2, rfl, _, _, hc2⟩ := h2.strs_inv
  have t : ((l.length : Int) != l.length) = false := by simp
  have H1 := Lib.hid hc1; have H2 := Lib.hid hc2
  clear h1 h2 hc1 hc2
  go_enter Tryz.func17, Tryz.ntmps17
  go_wp2_with fail
  go_loopw [5] (SameS7 l.length w) (fun i _ => l.length - (intOf i).toNat)
  case atStart => exact ⟨0, 0, rfl, Nat.zero_le _, rfl⟩
  case round =>
    obtain ⟨j, nq, rfl, hj, rfl⟩ := hrel
    by_cases hlt : j < l.length
    · obtain ⟨b1, o1, rfl, _, x1⟩ := H1.out (by omega)
      obtain ⟨b2, o2, rfl, _, x2⟩ := H2.out (by omega)
      obtain ⟨x, hx⟩ := get_ex l j hlt
      have y1 := x1 j x hx
      have y2 := x2 j x hx
      have t2 := beqS_t (show x = x from rfl)
      clear x1 x2 hx
      go_wp2
      go_quiet (fail)
      go_wp2
      refine ⟨?_, by simp [intOf]; omega⟩
      have R : ∀ W k, SameS7 l.length W (.int .i64 (j + 1)) (W.drewN k) := fun W k => ⟨j + 1, k, by go_num, by omega, rfl⟩
      first | exact R _ _ | ((repeat apply Exists.intro); exact ⟨R _ _, rfl⟩)
    · go_wp2
      go_ret
      exact ⟨rfl, ext_drewN _ (Below.refl _ _)⟩
end
section
open Go.RowKit
section
variable {w : World} {base D T : Nat} {s : PS} {nodes : Int} {tv : Value} {ns : List ANode} {DR gn cn gu cu : Nat}
end
end
end
end Go.Proofs.YtheoaijheijojaaGreatDoor
