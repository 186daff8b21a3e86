/- Fingerprints held against one another, by value. -/
import Derived.Test.YtmhfbdeeebbloaaDoorIdp2
import Derived.ChangeKeysEq
namespace Go.Proofs.YtmhfbdeeebbloaaDoor
open Go.RowKit
theorem eqByte (d : Nat) (a b : Nat) (W : World) : (Op.equalIn (d + 1) 5 (.int .u8 a) (.int .u8 b)).run Tryd.prog W = .ok ((a : Int) == (b : Int)) W := by
  have hu := run_underlying (P := Tryd.prog) Tryd.underlying5
  simp [Op.equalIn, hu]
theorem eqBytes (d : Nat) (xs ys : Array Value) (f g : Nat → Nat) (hx : ∀ i, i < 32 → xs[i]? = some (.int .u8 (f i : Nat))) (hy : ∀ i, i < 32 → ys[i]? = some (.int .u8 (g i : Nat))) (W : World) :
    ∀ is : List Nat, (∀ i ∈ is, i < 32) → (Op.eqItems (d + 1) 5 1 xs ys is).run Tryd.prog W = .ok (is.all fun i => (f i : Int) == (g i : Int)) W
  | [], _ => by simp [Op.eqItems]
  | i :: is, h => by
    have hi := h i (by simp)
    have ih := eqBytes d xs ys f g hx hy W is (fun j hj => h j (by simp [hj]))
    have p1 := run_part_plain (P := Tryd.prog) W (e := 5) (by kernel_rfl) (hx i hi)
    have p2 := run_part_plain (P := Tryd.prog) W (e := 5) (by kernel_rfl) (hy i hi)
    have q := eqByte d (f i) (g i) W
    rw [Op.eqItems]
    simp only [Nat.mul_one, Sem.run_bind, p1, p2, q, Result.andThen_ok, List.all_cons]
    cases hr : ((f i : Int) == (g i : Int)) with
    | true => simpa using ih
    | false => simp
/-- Whether two fingerprints are one. -/
def prEq (f g : Nat → Nat) : Bool := (List.range 32).all fun i => (f i : Int) == (g i : Int)
theorem prEq_refl (f : Nat → Nat) : prEq f f = true := by simp [prEq]
theorem run_prEq (f g : Nat → Nat) (W : World) : (Op.equalIn 10000 23 (.agg (prC f 32)) (.agg (prC g 32))).run Tryd.prog W = .ok (prEq f g) W := by
  obtain ⟨i, hi⟩ := info_of_underlying (P := Tryd.prog) Tryd.underlying5
  have hc : Tryd.prog.cellsOf 5 = 1 := by kernel_rfl
  rw [show (10000 : Nat) = 9999 + 1 from rfl, run_equalIn_array W 9999 _ _ Tryd.underlying23 hi, hc]
  exact eqBytes 9998 _ _ f g (fun i hi => by rw [prC_get f 32 i hi, if_pos hi]) (fun i hi => by rw [prC_get g 32 i hi, if_pos hi]) W _ (fun i hi => List.mem_range.1 hi)
end Go.Proofs.YtmhfbdeeebbloaaDoor
