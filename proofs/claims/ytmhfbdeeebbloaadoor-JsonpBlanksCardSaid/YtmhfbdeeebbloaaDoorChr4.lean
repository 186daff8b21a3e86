/- The document's characters (ref01): Next. -/
import Derived.Test.YtmhfbdeeebbloaaDoorChr1
import Derived.Test.YtmhfbdeeebbloaaDoorChr2
import Derived.Test.YtmhfbdeeebbloaaDoorChr3
import Derived.Test.YtmhfbdeeebbloaaDoorScan4
import Derived.Deep.RegionWith
namespace Go.Proofs.YtmhfbdeeebbloaaDoor
open Go.RowKit
theorem gN_guess (B : ByteArray) (a k : Nat) (h1 : 1 ≤ k) (h4 : k ≤ 4) : gN B a k (k - 1) = guessN (byteAt B a) (byteAt B (a + 1)) (byteAt B (a + 2)) (byteAt B (a + 3)) k := by
  have hk : k = 1 ∨ k = 2 ∨ k = 3 ∨ k = 4 := by omega
  rcases hk with rfl | rfl | rfl | rfl
  · show (byteAt B a : Int) - 0 = _
    rw [guess1]; omega
  · rfl
  · rfl
  · rfl
def putB (n : Nat) : ByteArray := ⟨((putN n).map UInt8.ofNat).toArray⟩
theorem putB_list {n : Nat} (h : n < 1114112) : (putB n).data.toList.map (·.toNat) = putN n := by
  unfold putB
  rw [List.toList_toArray, List.map_map]
  conv => rhs; rw [← List.map_id (putN n)]
  apply List.map_congr_left
  intro x hx
  have := putN_lt h x hx
  simp; omega
theorem putB_size (n : Nat) : (putB n).size = (putN n).length := by
  show ((putN n).map UInt8.ofNat).toArray.size = _
  simp
theorem subB_list (B : ByteArray) (a k : Nat) (h4 : k ≤ 4) (h : a + k ≤ B.size) : (subB B a k).data.toList.map (·.toNat) = [byteAt B a, byteAt B (a + 1), byteAt B (a + 2), byteAt B (a + 3)].take k := by
  have hz : B.data.size = B.size := rfl
  apply List.ext_getElem?
  intro j
  by_cases hj : j < k
  · have hb := subB_at B a k j hj
    have hsz := subB_size B a k h
    have hl : j < (subB B a k).data.size := by show j < (subB B a k).size; omega
    rw [List.getElem?_map, Array.getElem?_toList, Array.getElem?_eq_getElem hl, Option.map_some, List.getElem?_take, if_pos hj]
    have e : (subB B a k).data[j].toNat = byteAt B (a + j) := by
      rw [← hb]; unfold byteAt; rw [Array.getElem?_eq_getElem hl]; rfl
    rw [e]
    have hj' : j = 0 ∨ j = 1 ∨ j = 2 ∨ j = 3 := by omega
    rcases hj' with rfl | rfl | rfl | rfl <;> rfl
  · have hsz := subB_size B a k h
    have hl : ¬ j < (subB B a k).data.size := by show ¬ j < (subB B a k).size; omega
    rw [List.getElem?_map, Array.getElem?_toList, Array.getElem?_eq_none (by omega), List.getElem?_take, if_neg hj]
    rfl
theorem list_toNat_inj : ∀ {x y : List UInt8}, x.map (·.toNat) = y.map (·.toNat) → x = y
  | [], [], _ => rfl
  | [], _ :: _, h => by simp at h
  | _ :: _, [], h => by simp at h
  | a :: x, b :: y, h => by
    simp only [List.map_cons, List.cons.injEq] at h
    rw [UInt8.toNat.inj h.1, list_toNat_inj h.2]
theorem put_sub {n : Nat} (hn : n < 1114112) (B : ByteArray) (a k : Nat) (h4 : k ≤ 4) (h : a + k ≤ B.size) : ((putB n).toList == (subB B a k).toList) = (putN n == [byteAt B a, byteAt B (a + 1), byteAt B (a + 2), byteAt B (a + 3)].take k) := by
  have h1 := putB_list hn; have h2 := subB_list B a k h4 h
  by_cases he : putB n = subB B a k
  · rw [beqS_t he, ← h1, he, h2]; exact (beq_self_eq_true _).symm
  · rw [beqS_f he]
    symm
    apply beq_eq_false_iff_ne.2
    intro hx
    rw [← h1, ← h2] at hx
    apply he
    have := list_toNat_inj hx
    cases hp : putB n with | mk d1 => 
    cases hs : subB B a k with | mk d2 =>
    rw [hp, hs] at this
    have : d1 = d2 := Array.toList_inj.1 this
    rw [this]
theorem put_cells {n : Nat} (hn : n < 1114112) (W : World) : ∀ j, j < (putN n).length → (W.alloc (.cells (putV n) 5)).cell? ⟨W.heap.size, 0 + j, none⟩ = some (.int .u8 (byteAt (putB n) j)) := by
  intro j hj
  apply new_cells
  have hl := putB_list hn
  have hd : j < (putB n).data.size := by show j < (putB n).size; rw [putB_size]; exact hj
  have e : (putN n)[j]? = some (byteAt (putB n) j) := by
    rw [← hl, List.getElem?_map, Array.getElem?_toList, Array.getElem?_eq_getElem hd]
    unfold byteAt; rw [Array.getElem?_eq_getElem hd]; rfl
  unfold putV
  rw [List.toList_toArray, List.getElem?_map, e]; rfl
def nxN (B : ByteArray) (a : Nat) : Nat × Nat := if decU B a = (65533, 1) then (0, 0) else decU B a
abbrev hitB (B : ByteArray) (a k : Nat) : Bool := hitN (byteAt B a) (byteAt B (a + 1)) (byteAt B (a + 2)) (byteAt B (a + 3)) k
theorem nx_hit {B : ByteArray} {a k n : Nat} (ha : a < B.size) (h1 : 1 ≤ k) (h4 : k ≤ 4) (hk : a + k ≤ B.size) (hh : hitB B a k = true) (hn : gN B a k (k - 1) = (n : Int)) : nxN B a = (n, k) := by
  obtain ⟨e1, e2⟩ := decode_hit (byteAt_lt B a) (byteAt_lt B (a + 1)) (byteAt_lt B (a + 2)) (B.size - a) (by omega) k h1 h4 (by omega) hh
  rw [gN_guess B a k h1 h4] at hn
  rw [hn, Int.toNat_natCast] at e1 e2
  unfold nxN decU
  rw [e1, if_neg e2]
theorem nx_none {B : ByteArray} {a : Nat} (ha : a < B.size) (h : ∀ k, 1 ≤ k → k ≤ 4 → a + k ≤ B.size → hitB B a k = false) : nxN B a = (0, 0) := by
  have := decode_none (byteAt_lt B a) (byteAt_lt B (a + 1)) (byteAt_lt B (a + 2)) (B.size - a) (by omega) (fun k h1 h4 hk => h k h1 h4 (by omega))
  unfold nxN decU
  rw [if_pos this]
end Go.Proofs.YtmhfbdeeebbloaaDoor
