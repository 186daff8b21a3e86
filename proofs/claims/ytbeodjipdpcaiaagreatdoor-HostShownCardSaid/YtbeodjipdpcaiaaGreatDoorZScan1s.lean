
/- Scan1, Scan2, Scan3 in one text (a claim holds at most 60 files). -/
import Derived.Test.YtbeodjipdpcaiaaGreatDoorZErrs1s
import Derived.Test.YtbeodjipdpcaiaaGreatDoorZScan0s
import Derived.Test.YtbeodjipdpcaiaaGreatDoorShelf
import Derived.BigQuiet
import Derived.Deep.DeepCutAuto
import Derived.IntWalk
-- @auto
namespace Go.Proofs.YtbeodjipdpcaiaaGreatDoor
section
open Go.RowKit
/-- A fault made just now. -/
def Failed (w : World) (k : Nat) (i : Int) (u : Value) (w' : World) : Prop := Rd (Fresh w w') w' u (errD 119 [((k : Int), i)]) ∧ Below w.heap.size w w'
def FailPost (w : World) (k : Nat) (i : Int) (e : Ending) (w' : World) : Prop := ∃ u, e = .returned u ∧ Failed w k i u w'
theorem failed_of {w w0 w1 : World} {k : Nat} {i : Int} (h0 : Below w.heap.size w w0) (h1 : w1 = w0.alloc (.cells #[.int .i64 k, .int .i64 i, .nilIface] 123)) : Failed w k i (.iface 119 (.pointer (some ⟨w0.heap.size, 0, none⟩))) w1 := by
  subst h1
  exact ⟨(Rd.failedF (k : Int) i w0).wide (fun b e => ⟨by have := h0.size; omega, by rw [e]; simp⟩), ext_alloc h0 _⟩
theorem Failed.form {w w' : World} {k : Nat} {i : Int} {u : Value} (h : Failed w k i u w') : ∃ p, u = .iface 119 (.pointer (some p)) := by
  obtain ⟨b, off, u, rfl, _⟩ := fault_inv h.1
  exact ⟨_, rfl⟩
theorem Failed.after {a b c : World} {k : Nat} {i : Int} {u : Value} (h : Failed b k i u c) (hb : Below a.heap.size a b) : Failed a k i u c :=
  ⟨h.1.wide (fun x hx => ⟨by have := hx.1; have := hb.size; omega, hx.2⟩), ext_trans hb h.2⟩
theorem fails (k : Nat) (i : Int) (w : World) : Calls Tryz.prog 44 #[.int .i64 k, .int .i64 i] w (FailPost w k i) :=
  (fail_any k i w).mono fun _ _ ⟨he, hw⟩ => ⟨_, he, failed_of (Below.refl _ _) hw⟩
def ibV (l : List Nat) (c : Nat) : Int := if l.contains c then (l.idxOf c : Int) else -1
theorem indexByte_nat (l : List UInt8) (c : Nat) (hc : c < 256) : Go.Lib.indexByte l (c : Int).toNat.toUInt8 = ibV (l.map (·.toNat)) c := by
  induction l with
  | nil => rfl
  | cons b l ih =>
    have hb : (b == (c : Int).toNat.toUInt8) = (b.toNat == c) := by
      rw [Int.toNat_natCast, Bool.eq_iff_iff, beq_iff_eq, beq_iff_eq]
      constructor
      · intro h; rw [h]; simp; omega
      · intro h; apply UInt8.toNat.inj; rw [h]; simp; omega
    unfold Go.Lib.indexByte
    rw [hb, ih, List.map_cons]
    unfold ibV
    rw [List.contains_cons, List.idxOf_cons]
    by_cases hx : b.toNat = c
    · simp [hx]
    · have hx' : (b.toNat == c) = false := by simpa using hx
      have hx2 : (c == b.toNat) = false := by rw [beq_eq_false_iff_ne]; exact fun h => hx h.symm
      rw [hx', hx2, Bool.false_or, if_neg (by simp)]
      by_cases h1 : (l.map (·.toNat)).contains c = true
      · rw [if_pos h1, if_pos h1, if_neg (by simp <;> omega)]; simp
      · rw [if_neg h1, if_neg h1, if_pos (by rfl)]
theorem ibV_in {l : List Nat} {c : Nat} : decide (0 ≤ ibV l c) = l.contains c := by
  unfold ibV
  by_cases h : l.contains c = true
  · rw [if_pos h, h]; exact decide_eq_true (Int.natCast_nonneg _)
  · rw [if_neg h]; simp only [Bool.not_eq_true] at h; rw [h]; rfl
/-- strings.IndexByte. -/
theorem ib_any (s : ByteArray) (l : List Nat) (hl : s.data.toList.map (·.toNat) = l) (c : Nat) (hc : c < 256) (w : World) : Calls Tryz.prog 75 #[.string s, .int .u8 c] w fun e w' => e = .returned (.int .i64 (ibV l c)) ∧ w = w' :=
  (Tryz.strings_IndexByte s _ w).mono fun e w' ⟨he, hw⟩ => ⟨by rw [he, indexByte_nat _ c hc, hl], hw.symm⟩
end
section
open Go.RowKit
section
variable {v : Value} {B : ByteArray} {w : World}
end
end
section
open Go.RowKit
/-- A number, or a fault. -/
def ScB (w : World) (r : Sc Nat) (e : Ending) (w' : World) : Prop := match r with
  | .ok n => e = .returned (.tuple #[.int .i64 n, .nilIface]) ∧ Below w.heap.size w w'
  | .no k i => ∃ u, e = .returned (.tuple #[.int .i64 0, .iface 119 (.pointer (some u))]) ∧ Failed w k i (.iface 119 (.pointer (some u))) w'
def simpleT (c : Nat) : Value × Value := match simpleS c with
  | some x => (.int .u8 x, .bool true)
  | none => (.int .u8 0, .bool false)
end
end Go.Proofs.YtbeodjipdpcaiaaGreatDoor
