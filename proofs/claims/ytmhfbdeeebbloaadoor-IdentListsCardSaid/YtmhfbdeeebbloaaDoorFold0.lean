/- Numbers of digits: the plain law. Nothing of the program. -/
import Derived.Test.YtmhfbdeeebbloaaDoorBytes0
namespace Go.Proofs.YtmhfbdeeebbloaaDoor
open Go.RowKit
def digV (c : Nat) : Nat := if 48 ≤ c ∧ c ≤ 57 then c - 48 else if 97 ≤ c ∧ c ≤ 102 then c - 87 else if 65 ≤ c ∧ c ≤ 70 then c - 55 else 99
theorem digV_le (c : Nat) : digV c ≤ 99 := by
  unfold digV; split
  · omega
  · split
    · omega
    · split <;> omega
/-- The number of the first j bytes. -/
def numVal (base : Nat) (s : ByteArray) : Nat → Nat
  | 0 => 0
  | j + 1 => numVal base s j * base + digV (byteAt s j)
def notDigit (base : Nat) (s : ByteArray) (i : Nat) : Bool := decide (base ≤ digV (byteAt s i))
def numberF (base most : Nat) (s : ByteArray) : Sc Nat := if s.size = 0 then .no 10 0 else match (List.range s.size).find? (notDigit base s) with
  | some i => .no 11 i
  | none => if most < numVal base s s.size then .no 16 0 else .ok (numVal base s s.size)
theorem numberF_bad {base most : Nat} {s : ByteArray} {j : Nat} (hj : j < s.size) (hb : notDigit base s j = true) (h : ∀ m, m < j → notDigit base s m = false) : numberF base most s = .no 11 j := by
  have : (List.range s.size).find? (notDigit base s) = some j := by
    rw [List.find?_range_eq_some]
    exact ⟨hb, List.mem_range.2 hj, fun m hm => by simp [h m hm]⟩
  unfold numberF
  rw [if_neg (by omega), this]
theorem numberF_end {base most : Nat} {s : ByteArray} (h0 : s.size ≠ 0) (h : ∀ m, m < s.size → notDigit base s m = false) : numberF base most s = if most < numVal base s s.size then .no 16 0 else .ok (numVal base s s.size) := by
  have : (List.range s.size).find? (notDigit base s) = none := by
    rw [List.find?_range_eq_none]
    exact fun m hm => by simp [h m hm]
  unfold numberF
  rw [if_neg h0, this]
/-- A step, by halves: what stands above 64 bits is told. -/
theorem num_step {n base d : Nat} (_hn : n < 18446744073709551616) (_hb : base < 18446744073709551616) (hd : d < 18446744073709551616) :
    (0 < n * base / 18446744073709551616 + (n * base % 18446744073709551616 + d) / 18446744073709551616 ↔ 18446744073709551616 ≤ n * base + d) ∧
    (n * base + d < 18446744073709551616 → (n * base % 18446744073709551616 + d) % 18446744073709551616 = n * base + d) := by
  generalize n * base = x
  constructor <;> omega
theorem numVal_mono (base : Nat) (s : ByteArray) (hb : 1 ≤ base) (j : Nat) : numVal base s j ≤ numVal base s (j + 1) := by
  have : numVal base s (j + 1) = numVal base s j * base + digV (byteAt s j) := rfl
  have h2 : numVal base s j * 1 ≤ numVal base s j * base := Nat.mul_le_mul_left _ hb
  omega
end Go.Proofs.YtmhfbdeeebbloaaDoor
