/- The document's values, as they lie in memory: what its calls read. -/
import Derived.Test.YtmhfbdeeebbloaaGreatDoorZJrM3
namespace Go.Proofs.YtmhfbdeeebbloaaGreatDoor
open Go.RowKit
structure RView (w : World) (D : Nat) (s : PS) (gn cn gu cu : Nat) : Prop where
  c0 : w.cell? ⟨D, 0, none⟩ = some (.slice (some ⟨gn, 0, none⟩) s.js.length cn)
  c1 : w.cell? ⟨D, 1, none⟩ = some (.slice (some ⟨gu, 0, none⟩) s.js.length cu)
  nd : ∀ (i : Nat) x, s.js[i]? = some x → w.cell? ⟨gn, i * 4, none⟩ = some (.int .i64 x.kind) ∧ w.cell? ⟨gn, i * 4 + 1, none⟩ = some (.string x.key) ∧ w.cell? ⟨gn, i * 4 + 2, none⟩ = some (.string x.text) ∧ w.cell? ⟨gn, i * 4 + 3, none⟩ = some (.int .i64 x.at_)
  up : ∀ (i u : Nat), 0 < i → s.ups[i]? = some u → w.cell? ⟨gu, i, none⟩ = some (.int .i64 u)
  up0 : w.cell? ⟨gu, 0, none⟩ = some (.int .i64 (-1))
  zD : D < w.heap.size
  zN : gn < w.heap.size
  zU : gu < w.heap.size
  ul : s.ups.length = s.js.length
  pos : 0 < s.js.length
theorem RView.below {w w' : World} {D gn cn gu cu : Nat} {s : PS} (h : RView w D s gn cn gu cu) (hb : Below w.heap.size w w') : RView w' D s gn cn gu cu :=
  ⟨(bcell1 hb h.zD 0).trans h.c0, (bcell1 hb h.zD 1).trans h.c1, fun i x hx => by
    obtain ⟨h1, h2, h3, h4⟩ := h.nd i x hx
    exact ⟨(bcell1 hb h.zN _).trans h1, (bcell1 hb h.zN _).trans h2, (bcell1 hb h.zN _).trans h3, (bcell1 hb h.zN _).trans h4⟩,
   fun i u h0 hu => (bcell1 hb h.zU _).trans (h.up i u h0 hu), (bcell1 hb h.zU _).trans h.up0, Nat.lt_of_lt_of_le h.zD hb.size, Nat.lt_of_lt_of_le h.zN hb.size, Nat.lt_of_lt_of_le h.zU hb.size, h.ul, h.pos⟩
theorem RDoc.view {w : World} {base D : Nat} {js : List JN} {ups : List Int} {nv uv : Value} {st : List Op} (h : RDoc w base D js ups nv uv) (hu : UOK js ups) (h0 : 0 < js.length) : ∃ gn cn gu cu, RView w D ⟨js, upsN ups, st⟩ gn cn gu cu := by
  have hul := hu.len
  obtain ⟨aN, cN, rfl, hN⟩ := aown_form h.rowN
  obtain ⟨aU, cU, rfl, hU⟩ := aown_form h.rowU
  obtain ⟨gn, rfl, _, zN⟩ : ∃ g, aN = some ⟨g, 0, none⟩ ∧ base ≤ g ∧ g < w.heap.size := by
    rcases hN with ⟨e, _⟩ | e
    · omega
    · exact e
  obtain ⟨gu, rfl, _, zU⟩ : ∃ g, aU = some ⟨g, 0, none⟩ ∧ base ≤ g ∧ g < w.heap.size := by
    rcases hU with ⟨e, _⟩ | e
    · omega
    · exact e
  refine ⟨gn, cN, gu, cU, h.c 0, by rw [h.c 1, hul]; rfl, fun i x hx => ?_, fun i u hi hx => ?_, ?_, heap_lt h.doc, zN, zU, by simp [upsN, hul], h0⟩
  · have c := fun j hj => row_cell jnC_len h.rowN hx (j := j) hj
    exact ⟨c 0 (by decide), c 1 (by decide), c 2 (by decide), c 3 (by decide)⟩
  · simp only [upsN, List.getElem?_map] at hx
    cases hy : ups[i]? with
    | none => rw [hy] at hx; cases hx
    | some y =>
      rw [hy] at hx
      have hyp := hu.pos i y hi hy
      have hyu : y.toNat = u := by simpa using hx
      have hl := (List.getElem?_eq_some_iff.1 hy).1
      rw [h.rowU.cellAt i (by omega), List.getElem?_map, hy, ← hyu]
      simp only [Option.map_some]
      rw [Int.toNat_of_nonneg hyp]
  · rw [h.rowU.cellAt 0 (by omega), List.getElem?_map]
    obtain ⟨y, hy⟩ := get_ex ups 0 (by omega)
    rw [hy, hu.zero y hy]
    rfl
end Go.Proofs.YtmhfbdeeebbloaaGreatDoor
