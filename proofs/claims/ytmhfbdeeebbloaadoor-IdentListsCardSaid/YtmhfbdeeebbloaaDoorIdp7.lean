/- A fingerprint among the arguments, opened. -/
import Derived.Test.YtmhfbdeeebbloaaDoorIdp6
import Derived.Test.YtmhfbdeeebbloaaDoorLib2
namespace Go.Proofs.YtmhfbdeeebbloaaDoor
open Go.RowKit Go.ChangeShapes Go.WideShapes
theorem okWide_array {P : Program} {w : World} {r : Reach} {base : Nat} {t : TypeId} {v : Value} {n : Nat} {e : TypeId} (ht : P.underlying t = some (.array n e)) (h : Value.okWide P w r base t v) : ∃ cs, v = .agg cs ∧ cs.size = P.cellsOf t := by
  simp only [Value.okWide, ht] at h
  obtain ⟨cs, h1, h2, _⟩ := h
  exact ⟨cs, h1, h2⟩
def fOf (cs : Array Value) (i : Nat) : Nat := match cs[i]? with
  | some (.int _ n) => n.toNat
  | _ => 0
set_option maxRecDepth 100000 in
theorem print_arg {H : Type} {enc : TypeId × Value → H} {W : World} {base : Nat} {v : Value} {d : DataW H} {p : List MemPlace} (hv : Value.okWide Tryd.prog W .any base 23 v)
    (h : DataW.Trod enc Tryd.prog W 0 (fun _ => true) true 23 v d p) : ∃ f : Nat → Nat, v = .agg (prC f 32) ∧ ∀ i, f i < 256 := by
  obtain ⟨cs, rfl, hz⟩ := okWide_array Tryd.underlying23 hv
  have hz32 : cs.size = 32 := hz.trans (by kernel_rfl)
  obtain ⟨fuel, hf⟩ := h
  obtain ⟨xs, m, _, _, hl, hxl, hel⟩ := DataW.trod_array Tryd.underlying23 hf
  have hc1 : Tryd.prog.cellsOf 5 = 1 := by kernel_rfl
  have each : ∀ i, i < 32 → ∃ n : Nat, cs[i]? = some (.int .u8 n) ∧ n < 256 := fun i hi => by
    have h1 := hel i hi
    obtain ⟨x, hx⟩ : ∃ x, xs[i]? = some x := ⟨xs[i]'(by omega), List.getElem?_eq_getElem (by omega)⟩
    rw [hx, hc1, Nat.mul_one] at h1
    obtain ⟨n, h2, _, hw⟩ := DataW.trod_int Tryd.underlying5 h1
    have hb := bounds_u8 hw
    have h3 : cs[i]? = some (.int .u8 n) := by
      have h4 := congrArg (fun l => l[0]?) h2
      simp only [List.getElem?_take, List.getElem?_drop, Nat.add_zero] at h4
      simpa [Value.cells] using h4
    exact ⟨n.toNat, by rw [h3, Int.toNat_of_nonneg hb.1], by omega⟩
  have hfo : ∀ i, i < 32 → cs[i]? = some (.int .u8 (fOf cs i : Nat)) ∧ fOf cs i < 256 := fun i hi => by
    obtain ⟨n, h1, h2⟩ := each i hi
    have : fOf cs i = n := by unfold fOf; rw [h1]; simp
    rw [this]; exact ⟨h1, h2⟩
  refine ⟨fOf cs, ?_, fun i => ?_⟩
  · congr 1
    apply Array.ext_getElem?
    intro i
    by_cases hi : i < 32
    · rw [(hfo i hi).1, prC_get _ 32 i hi, if_pos hi]
    · rw [Array.getElem?_eq_none (by omega), Array.getElem?_eq_none (by rw [prC_size]; omega)]
  · by_cases hi : i < 32
    · exact (hfo i hi).2
    · unfold fOf
      rw [Array.getElem?_eq_none (by omega)]
      decide
end Go.Proofs.YtmhfbdeeebbloaaDoor
