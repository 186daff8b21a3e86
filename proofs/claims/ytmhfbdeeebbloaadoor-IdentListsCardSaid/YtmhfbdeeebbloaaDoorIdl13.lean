/- A row of fingerprints among the arguments, opened. -/
import Derived.Test.YtmhfbdeeebbloaaDoorIdl12
import Derived.Test.YtmhfbdeeebbloaaDoorIdp7
namespace Go.Proofs.YtmhfbdeeebbloaaDoor
open Go.RowKit Go.ChangeShapes Go.WideShapes
def prD (x : Pr) : List Dat := x.1.map fun c => Dat.int .u8 ((c.toNat : Nat) : Int)
theorem prD_len (x : Pr) : (prD x).length = 32 := by simp [prD, x.2]
theorem prD_get (x : Pr) (i : Nat) (hi : i < 32) : (prD x)[i]? = some (.int .u8 (x.b i : Nat)) := by
  have h : i < x.1.length := by rw [x.2]; exact hi
  simp [prD, Pr.b, List.getElem?_eq_getElem h, List.getD]
def prOf (f : Nat → Nat) : Pr := ⟨(List.range 32).map fun i => UInt8.ofNat (f i), by simp⟩
theorem prOf_b (f : Nat → Nat) (hf : ∀ i, f i < 256) (i : Nat) (hi : i < 32) : (prOf f).b i = f i := by
  unfold Pr.b prOf
  simp [List.getD, hi, Nat.mod_eq_of_lt (hf i)]
theorem prC_prOf (f : Nat → Nat) (hf : ∀ i, f i < 256) : prC f 32 = prV (prOf f) := by
  apply Array.ext_getElem?
  intro i
  unfold prV
  by_cases hi : i < 32
  · rw [prC_get _ 32 i hi, prC_get _ 32 i hi, if_pos hi, if_pos hi, prOf_b f hf i hi]
  · rw [Array.getElem?_eq_none (by rw [prC_size]; omega), Array.getElem?_eq_none (by rw [prC_size]; omega)]
section
variable {H : Type} {enc : TypeId × Value → H} {W : World}
set_option maxRecDepth 100000 in
theorem opensPr : Opens enc Tryd.prog W 0 (fun _ => true) true 23 Pr prD (fun _ => True) (fun _ => 0) := by
  intro fuel cs y hf
  obtain ⟨xs, m, _, _, hl, hxl, hel⟩ := DataW.trod_array Tryd.underlying23 hf
  have hc1 : Tryd.prog.cellsOf 5 = 1 := by kernel_rfl
  have hl32 : cs.length = 32 := hl.trans (by kernel_rfl)
  have each : ∀ i, i < 32 → ∃ n : Nat, cs[i]? = some (.int .u8 n) ∧ n < 256 := fun i hi => by
    have h1 := hel i hi
    obtain ⟨x, hx⟩ : ∃ x, xs[i]? = some x := ⟨xs[i]'(by omega), List.getElem?_eq_getElem (by omega)⟩
    rw [hx, hc1, Nat.mul_one] at h1
    obtain ⟨n, h2, _, hw⟩ := DataW.trod_int Tryd.underlying5 h1
    have hb := bounds_u8 hw
    have h3 : cs[i]? = some (.int .u8 n) := by
      have h4 := congrArg (fun l => l[0]?) h2
      simp only [List.getElem?_take, List.getElem?_drop, Nat.add_zero] at h4
      simpa using h4
    exact ⟨n.toNat, by rw [h3, Int.toNat_of_nonneg hb.1], by omega⟩
  have hfo : ∀ i, i < 32 → cs[i]? = some (.int .u8 (fOf cs.toArray i : Nat)) ∧ fOf cs.toArray i < 256 := fun i hi => by
    obtain ⟨n, h1, h2⟩ := each i hi
    have : fOf cs.toArray i = n := by unfold fOf; rw [List.getElem?_toArray, h1]; simp
    rw [this]; exact ⟨h1, h2⟩
  have hall : ∀ i, fOf cs.toArray i < 256 := fun i => by
    by_cases hi : i < 32
    · exact (hfo i hi).2
    · unfold fOf
      rw [Array.getElem?_eq_none (by simp; omega)]
      decide
  refine ⟨prOf (fOf cs.toArray), ⟨by rw [prD_len, hl32], fun j u d hu hd => ?_⟩, trivial, Nat.zero_le _⟩
  have hj : j < 32 := by have := (List.getElem?_eq_some_iff.1 hu).1; omega
  rw [prD_get _ j hj, prOf_b _ hall j hj] at hd
  rw [(hfo j hj).1] at hu
  cases hu; cases hd
  exact .int _ _
theorem opensPrs : Opens enc Tryd.prog W 0 (fun _ => true) true 32 (List Pr) (fun xs => [.list 32 (xs.flatMap prD)]) (fun xs => xs.length ≤ maxLen ∧ ∀ x ∈ xs, True) (fun xs => (xs.map fun _ => 0).sum + 1) :=
  opens_slice Tryd.underlying32 (by kernel_rfl) (by decide) prD_len opensPr
end
theorem prs_row {W : World} {v : Value} {ps : List Pr} (h : Rd (Own W) W v (.list 32 (ps.flatMap prD))) : ∃ a c, v = .slice a ps.length c ∧ (a = none → ps.length = 0 ∧ c = 0) ∧ (0 < ps.length → ∃ b off, a = some ⟨b, off, none⟩ ∧ b < W.heap.size ∧ RowP W b off ps) := by
  obtain ⟨a, c, rfl, h1, _, h2⟩ := h.rows_inv prD_len (by decide)
  refine ⟨a, c, rfl, h1, fun h0 => ?_⟩
  obtain ⟨b, off, rfl, hb, hc⟩ := h2 h0
  refine ⟨b, off, rfl, hb, fun j x hx i hi => ?_⟩
  obtain ⟨u, hu, hr⟩ := hc j x hx i _ (prD_get x i hi)
  rw [hu, hr.int_inv]
end Go.Proofs.YtmhfbdeeebbloaaDoor
