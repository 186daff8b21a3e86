/- Scan0, ScanAll0, ScanLe in one text (a claim holds at most 60 files). -/
import Derived.Test.YtbeodjipdpcaiaaGreatDoorYLib0s
import Derived.Test.YtbeodjipdpcaiaaGreatDoorYErrs1s
import Derived.Lib.DecodeNEq
import Derived.Test.YtbeodjipdpcaiaaGreatDoorZShelf
import Derived.BigQuiet
import Derived.Deep.DeepCutAuto
import Derived.IntWalk
namespace Go.Proofs.YtbeodjipdpcaiaaGreatDoor
section
open Go.RowKit
def isDig (c : Nat) : Bool := decide (48 ≤ c) && decide (c ≤ 57)
def isHex (c : Nat) : Bool := isDig c || (decide (97 ≤ c) && decide (c ≤ 102)) || (decide (65 ≤ c) && decide (c ≤ 70))
def hexV (c : Nat) : Nat := if c ≤ 57 then c - 48 else if c ≤ 70 then c - 55 else c - 87
def unitFit (B : ByteArray) (i k : Nat) : Bool := decide (i + k < B.size) && (if k = 0 then byteAt B i == 92 else if k = 1 then byteAt B (i + 1) == 117 else isHex (byteAt B (i + k)))
/-- The first of the places from i on, n at most, at which something does not fit. -/
def firstBad (B : ByteArray) (i n : Nat) (fit : Nat → Bool) : Sc Unit := match (List.range n).find? (fun k => !fit k) with
 | some k => if i + k = B.size then .no 10 B.size else .no 11 (i + k : Nat)
 | none => .ok ()
theorem firstBad_no {B : ByteArray} {i n k : Nat} {fit : Nat → Bool} (hk : k < n) (hb : fit k = false) (h : ∀ m, m < k → fit m = true) : firstBad B i n fit = if i + k = B.size then .no 10 B.size else .no 11 (i + k : Nat) := by
 have : (List.range n).find? (fun k => !fit k) = some k := by
  rw [List.find?_range_eq_some]
  exact ⟨by simp [hb], List.mem_range.2 hk, fun m hm => by simp [h m hm]⟩
 simp [firstBad, this]
theorem firstBad_ok {B : ByteArray} {i n : Nat} {fit : Nat → Bool} (h : ∀ m, m < n → fit m = true) : firstBad B i n fit = .ok () := by
 have : (List.range n).find? (fun k => !fit k) = none := by
  rw [List.find?_range_eq_none]
  exact fun m hm => by simp [h m hm]
 simp [firstBad, this]
def hex4 (B : ByteArray) (i : Nat) : Nat := 4096 * hexV (byteAt B i) + 256 * hexV (byteAt B (i + 1)) + 16 * hexV (byteAt B (i + 2)) + hexV (byteAt B (i + 3))
def unitS (B : ByteArray) (i : Nat) : Sc Nat := (firstBad B i 6 (unitFit B i)).bind fun _ => .ok (hex4 B (i + 2))
def pairLow (_B : ByteArray) (i n : Nat) : Sc Nat → Sc (Nat × Nat)
 | .ok m => if 56320 ≤ m ∧ m ≤ 57343 then .ok (65536 + (n - 55296) * 1024 + (m - 56320), 12) else .no 11 i
 | .no k j => if k = 10 then .no 10 j else .no 11 i
def pairS (B : ByteArray) (i : Nat) : Sc (Nat × Nat) := (unitS B i).bind fun n =>
 if n < 55296 ∨ 57343 < n then .ok (n, 6) else if n < 56320 then pairLow B i n (unitS B (i + 6)) else .no 11 i
def simpleS (c : Nat) : Option Nat := if c = 34 ∨ c = 92 ∨ c = 47 then some c else if c = 98 then some 8 else if c = 102 then some 12 else if c = 110 then some 10 else if c = 114 then some 13 else if c = 116 then some 9 else none
def escapeS (B : ByteArray) (i : Nat) : Sc (Nat × Nat) := if i + 1 = B.size then .no 10 B.size else if byteAt B (i + 1) = 117 then pairS B i else match simpleS (byteAt B (i + 1)) with
 | some x => .ok (x, 2)
 | none => .no 11 (i + 1 : Nat)
def decU (B : ByteArray) (i : Nat) : Nat × Nat := Go.Lib.decodeN (B.size - i) (byteAt B i) (byteAt B (i + 1)) (byteAt B (i + 2)) (byteAt B (i + 3))
def charS (B : ByteArray) (i : Nat) : Sc (Nat × Nat) := if i = B.size then .no 10 i else if decU B i = (65533, 1) then .no 12 i else .ok (decU B i)
/-! ### Ends -/
theorem Sc.bind_eq_ok {α β : Type} {r : Sc α} {f : α → Sc β} {b : β} (h : r.bind f = .ok b) : ∃ a, r = .ok a ∧ f a = .ok b := by
 cases r with
 | ok a => exact ⟨a, rfl, h⟩
 | no k i => cases h
theorem unitFit_lt {B : ByteArray} {i k : Nat} (h : unitFit B i k = true) : i + k < B.size := by
 simp [unitFit] at h; exact h.1
theorem firstBad_unit {B : ByteArray} {i n : Nat} {fit : Nat → Bool} (h : firstBad B i n fit = .ok ()) : ∀ m, m < n → fit m = true := by
 unfold firstBad at h
 split at h
 · split at h <;> cases h
 · rename_i h1
   rw [List.find?_range_eq_none] at h1
   intro m hm
   simpa using h1 m hm
theorem unitS_ok {B : ByteArray} {i n : Nat} (h : unitS B i = .ok n) : (∀ m, m < 6 → unitFit B i m = true) ∧ n = hex4 B (i + 2) ∧ i + 6 ≤ B.size := by
 obtain ⟨u, h1, h2⟩ := Sc.bind_eq_ok h
 have hf := firstBad_unit h1
 have := unitFit_lt (hf 5 (by omega))
 cases h2
 exact ⟨hf, rfl, by omega⟩
theorem hexV_lt {c : Nat} (h : isHex c = true) : hexV c < 16 := by
 simp [isHex, isDig] at h
 unfold hexV
 split
 · omega
 · split <;> omega
theorem unitS_lt {B : ByteArray} {i n : Nat} (h : unitS B i = .ok n) : n < 65536 := by
 obtain ⟨hf, rfl, _⟩ := unitS_ok h
 have key : ∀ k, 2 ≤ k → k < 6 → hexV (byteAt B (i + k)) < 16 := fun k h2 h6 => by
  have := hf k h6
  simp only [unitFit, Bool.and_eq_true] at this
  rw [if_neg (by omega), if_neg (by omega)] at this
  exact hexV_lt this.2
 have h2 := key 2 (by omega) (by omega); have h3 := key 3 (by omega) (by omega); have h4 := key 4 (by omega) (by omega); have h5 := key 5 (by omega) (by omega)
 unfold hex4
 simp only [Nat.add_assoc, Nat.reduceAdd] at *
 omega
theorem decodeN_size (n b0 b1 b2 b3 : Nat) (h : 0 < n) : 0 < (Go.Lib.decodeN n b0 b1 b2 b3).2 ∧ (Go.Lib.decodeN n b0 b1 b2 b3).2 ≤ n := by
 unfold Go.Lib.decodeN
 repeat' split
 all_goals simp only <;> omega
end
section
open Go.RowKit
end
section
open Go.RowKit
variable {B : ByteArray}
end
end Go.Proofs.YtbeodjipdpcaiaaGreatDoor
namespace Go.Proofs.YtbeodjipdpcaiaaGreatDoor
section
open Go.RowKit
/-- A fault made just now. -/
def Failed (w : World) (k : Nat) (i : Int) (u : Value) (w' : World) : Prop := Rd (Fresh w w') w' u (errD 119 [((k : Int), i)]) ∧ Below w.heap.size w w'
def FailPost (w : World) (k : Nat) (i : Int) (e : Ending) (w' : World) : Prop := ∃ u, e = .returned u ∧ Failed w k i u w'
theorem failed_of {w w0 w1 : World} {k : Nat} {i : Int} (h0 : Below w.heap.size w w0) (h1 : w1 = w0.alloc (.cells #[.int .i64 k, .int .i64 i, .nilIface] 123)) : Failed w k i (.iface 119 (.pointer (some ⟨w0.heap.size, 0, none⟩))) w1 := by
 subst h1
 exact ⟨(Rd.failedF (k : Int) i w0).wide (fun b e => ⟨by have := h0.size; omega, by rw [e]; simp⟩), ext_alloc h0 _⟩
theorem Failed.form {w w' : World} {k : Nat} {i : Int} {u : Value} (h : Failed w k i u w') : ∃ p, u = .iface 119 (.pointer (some p)) := by
 obtain ⟨b, off, u, rfl, _⟩ := fault_inv h.1
 exact ⟨_, rfl⟩
theorem Failed.after {a b c : World} {k : Nat} {i : Int} {u : Value} (h : Failed b k i u c) (hb : Below a.heap.size a b) : Failed a k i u c :=
 ⟨h.1.wide (fun x hx => ⟨by have := hx.1; have := hb.size; omega, hx.2⟩), ext_trans hb h.2⟩
theorem fails (k : Nat) (i : Int) (w : World) : Calls Tryz.prog 44 #[.int .i64 k, .int .i64 i] w (FailPost w k i) :=
 (fail_any k i w).mono fun _ _ ⟨he, hw⟩ => ⟨_, he, failed_of (Below.refl _ _) hw⟩
def ibV (l : List Nat) (c : Nat) : Int := if l.contains c then (l.idxOf c : Int) else -1
theorem indexByte_nat (l : List UInt8) (c : Nat) (hc : c < 256) : Go.Lib.indexByte l (c : Int).toNat.toUInt8 = ibV (l.map (·.toNat)) c := by
 induction l with
 | nil => rfl
 | cons b l ih =>
   have hb : (b == (c : Int).toNat.toUInt8) = (b.toNat == c) := by
    rw [Int.toNat_natCast, Bool.eq_iff_iff, beq_iff_eq, beq_iff_eq]
    constructor
    · intro h; rw [h]; simp; omega
    · intro h; apply UInt8.toNat.inj; rw [h]; simp; omega
   unfold Go.Lib.indexByte
   rw [hb, ih, List.map_cons]
   unfold ibV
   rw [List.contains_cons, List.idxOf_cons]
   by_cases hx : b.toNat = c
   · simp [hx]
   · have hx' : (b.toNat == c) = false := by simpa using hx
     have hx2 : (c == b.toNat) = false := by rw [beq_eq_false_iff_ne]; exact fun h => hx h.symm
     rw [hx', hx2, Bool.false_or, if_neg (by simp)]
     by_cases h1 : (l.map (·.toNat)).contains c = true
     · rw [if_pos h1, if_pos h1, if_neg (by simp <;> omega)]; simp
     · rw [if_neg h1, if_neg h1, if_pos (by rfl)]
theorem ibV_in {l : List Nat} {c : Nat} : decide (0 ≤ ibV l c) = l.contains c := by
 unfold ibV
 by_cases h : l.contains c = true
 · rw [if_pos h, h]; exact decide_eq_true (Int.natCast_nonneg _)
 · rw [if_neg h]; simp only [Bool.not_eq_true] at h; rw [h]; rfl
/-- strings.IndexByte. -/
theorem ib_any (s : ByteArray) (l : List Nat) (hl : s.data.toList.map (·.toNat) = l) (c : Nat) (hc : c < 256) (w : World) : Calls Tryz.prog 75 #[.string s, .int .u8 c] w fun e w' => e = .returned (.int .i64 (ibV l c)) ∧ w = w' :=
 (Tryz.strings_IndexByte s _ w).mono fun e w' ⟨he, hw⟩ => ⟨by rw [he, indexByte_nat _ c hc, hl], hw.symm⟩
end
section
open Go.RowKit
section
variable {v : Value} {B : ByteArray} {w : World}
end
end
section
open Go.RowKit
/-- A number, or a fault. -/
def ScB (w : World) (r : Sc Nat) (e : Ending) (w' : World) : Prop := match r with
 | .ok n => e = .returned (.tuple #[.int .i64 n, .nilIface]) ∧ Below w.heap.size w w'
 | .no k i => ∃ u, e = .returned (.tuple #[.int .i64 0, .iface 119 (.pointer (some u))]) ∧ Failed w k i (.iface 119 (.pointer (some u))) w'
def simpleT (c : Nat) : Value × Value := match simpleS c with
 | some x => (.int .u8 x, .bool true)
 | none => (.int .u8 0, .bool false)
end
end Go.Proofs.YtbeodjipdpcaiaaGreatDoor
