/- Scan0, ScanAll0, ScanLe in one text (a claim holds at most 60 files). -/
import Derived.Test.YtbeodjipdpcaiaaGreatDoorZLib0s
import Derived.Lib.DecodeNEq
namespace Go.Proofs.YtbeodjipdpcaiaaGreatDoor
section
open Go.RowKit
def isDig (c : Nat) : Bool := decide (48 ≤ c) && decide (c ≤ 57)
def isHex (c : Nat) : Bool := isDig c || (decide (97 ≤ c) && decide (c ≤ 102)) || (decide (65 ≤ c) && decide (c ≤ 70))
def hexV (c : Nat) : Nat := if c ≤ 57 then c - 48 else if c ≤ 70 then c - 55 else c - 87
def unitFit (B : ByteArray) (i k : Nat) : Bool := decide (i + k < B.size) && (if k = 0 then byteAt B i == 92 else if k = 1 then byteAt B (i + 1) == 117 else isHex (byteAt B (i + k)))
/-- The first of the places from i on, n at most, at which something does not fit. -/
def firstBad (B : ByteArray) (i n : Nat) (fit : Nat → Bool) : Sc Unit := match (List.range n).find? (fun k => !fit k) with
  | some k => if i + k = B.size then .no 10 B.size else .no 11 (i + k : Nat)
  | none => .ok ()
theorem firstBad_no {B : ByteArray} {i n k : Nat} {fit : Nat → Bool} (hk : k < n) (hb : fit k = false) (h : ∀ m, m < k → fit m = true) : firstBad B i n fit = if i + k = B.size then .no 10 B.size else .no 11 (i + k : Nat) := by
  have : (List.range n).find? (fun k => !fit k) = some k := by
    rw [List.find?_range_eq_some]
    exact ⟨by simp [hb], List.mem_range.2 hk, fun m hm => by simp [h m hm]⟩
  simp [firstBad, this]
theorem firstBad_ok {B : ByteArray} {i n : Nat} {fit : Nat → Bool} (h : ∀ m, m < n → fit m = true) : firstBad B i n fit = .ok () := by
  have : (List.range n).find? (fun k => !fit k) = none := by
    rw [List.find?_range_eq_none]
    exact fun m hm => by simp [h m hm]
  simp [firstBad, this]
def hex4 (B : ByteArray) (i : Nat) : Nat := 4096 * hexV (byteAt B i) + 256 * hexV (byteAt B (i + 1)) + 16 * hexV (byteAt B (i + 2)) + hexV (byteAt B (i + 3))
def unitS (B : ByteArray) (i : Nat) : Sc Nat := (firstBad B i 6 (unitFit B i)).bind fun _ => .ok (hex4 B (i + 2))
def pairLow (_B : ByteArray) (i n : Nat) : Sc Nat → Sc (Nat × Nat)
  | .ok m => if 56320 ≤ m ∧ m ≤ 57343 then .ok (65536 + (n - 55296) * 1024 + (m - 56320), 12) else .no 11 i
  | .no k j => if k = 10 then .no 10 j else .no 11 i
def pairS (B : ByteArray) (i : Nat) : Sc (Nat × Nat) := (unitS B i).bind fun n =>
  if n < 55296 ∨ 57343 < n then .ok (n, 6) else if n < 56320 then pairLow B i n (unitS B (i + 6)) else .no 11 i
def simpleS (c : Nat) : Option Nat := if c = 34 ∨ c = 92 ∨ c = 47 then some c else if c = 98 then some 8 else if c = 102 then some 12 else if c = 110 then some 10 else if c = 114 then some 13 else if c = 116 then some 9 else none
def escapeS (B : ByteArray) (i : Nat) : Sc (Nat × Nat) := if i + 1 = B.size then .no 10 B.size else if byteAt B (i + 1) = 117 then pairS B i else match simpleS (byteAt B (i + 1)) with
  | some x => .ok (x, 2)
  | none => .no 11 (i + 1 : Nat)
def decU (B : ByteArray) (i : Nat) : Nat × Nat := Go.Lib.decodeN (B.size - i) (byteAt B i) (byteAt B (i + 1)) (byteAt B (i + 2)) (byteAt B (i + 3))
def charS (B : ByteArray) (i : Nat) : Sc (Nat × Nat) := if i = B.size then .no 10 i else if decU B i = (65533, 1) then .no 12 i else .ok (decU B i)
/-! ### Ends -/
theorem Sc.bind_eq_ok {α β : Type} {r : Sc α} {f : α → Sc β} {b : β} (h : r.bind f = .ok b) : ∃ a, r = .ok a ∧ f a = .ok b := by
  cases r with
  | ok a => exact ⟨a, rfl, h⟩
  | no k i => cases h
theorem unitFit_lt {B : ByteArray} {i k : Nat} (h : unitFit B i k = true) : i + k < B.size := by
  simp [unitFit] at h; exact h.1
theorem firstBad_unit {B : ByteArray} {i n : Nat} {fit : Nat → Bool} (h : firstBad B i n fit = .ok ()) : ∀ m, m < n → fit m = true := by
  unfold firstBad at h
  split at h
  · split at h <;> cases h
  · rename_i h1
    rw [List.find?_range_eq_none] at h1
    intro m hm
    simpa using h1 m hm
theorem unitS_ok {B : ByteArray} {i n : Nat} (h : unitS B i = .ok n) : (∀ m, m < 6 → unitFit B i m = true) ∧ n = hex4 B (i + 2) ∧ i + 6 ≤ B.size := by
  obtain ⟨u, h1, h2⟩ := Sc.bind_eq_ok h
  have hf := firstBad_unit h1
  have := unitFit_lt (hf 5 (by omega))
  cases h2
  exact ⟨hf, rfl, by omega⟩
theorem hexV_lt {c : Nat} (h : isHex c = true) : hexV c < 16 := by
  simp [isHex, isDig] at h
  unfold hexV
  split
  · omega
  · split <;> omega
theorem unitS_lt {B : ByteArray} {i n : Nat} (h : unitS B i = .ok n) : n < 65536 := by
  obtain ⟨hf, rfl, _⟩ := unitS_ok h
  have key : ∀ k, 2 ≤ k → k < 6 → hexV (byteAt B (i + k)) < 16 := fun k h2 h6 => by
    have := hf k h6
    simp only [unitFit, Bool.and_eq_true] at this
    rw [if_neg (by omega), if_neg (by omega)] at this
    exact hexV_lt this.2
  have h2 := key 2 (by omega) (by omega); have h3 := key 3 (by omega) (by omega); have h4 := key 4 (by omega) (by omega); have h5 := key 5 (by omega) (by omega)
  unfold hex4
  simp only [Nat.add_assoc, Nat.reduceAdd] at *
  omega
theorem decodeN_size (n b0 b1 b2 b3 : Nat) (h : 0 < n) : 0 < (Go.Lib.decodeN n b0 b1 b2 b3).2 ∧ (Go.Lib.decodeN n b0 b1 b2 b3).2 ≤ n := by
  unfold Go.Lib.decodeN
  repeat' split
  all_goals simp only <;> omega
end
section
open Go.RowKit
end
section
open Go.RowKit
variable {B : ByteArray}
end
end Go.Proofs.YtbeodjipdpcaiaaGreatDoor
