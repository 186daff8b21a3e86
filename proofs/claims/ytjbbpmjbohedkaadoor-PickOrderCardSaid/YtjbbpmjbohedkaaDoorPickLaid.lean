/- The tables of the package pick, as the rows list them. -/
import Derived.Test.YtjbbpmjbohedkaaDoorRows
import Derived.Test.YtjbbpmjbohedkaaDoorLib2
import Derived.Test.YtjbbpmjbohedkaaDoorPick5
import Derived.Deep.DeepHandedRow
namespace Go.Proofs.YtjbbpmjbohedkaaDoor
open Go.RowKit Go.ChangeShapes Go.WideShapes
def strsData {H : Type} (ss : List ByteArray) : DataW H := .agg (ss.map fun s => .lit (.string s.data.toList))
theorem cells_of_strs {H : Type} {enc : TypeId × Value → H} {P : Program} {w : World} {base : Nat} {sp : Nat → Bool} {held : Bool} {fuel : Nat} {t e : TypeId} {n : Nat} {cs : List Value} {ss : List ByteArray} {p : List MemPlace}
    (ht : P.underlying t = some (.array n e)) (he : P.underlying e = some .string) (hce : P.cellsOf e = 1) (hct : P.cellsOf t = n)
    (h : DataW.trod enc P w base sp held fuel t cs = some (strsData ss, p)) : cs = ss.map Value.string := by
  obtain ⟨xs, m, _, hx, hl, hxl, hf⟩ := DataW.trod_array ht h
  have hxs : xs.map (·.1) = ss.map fun s => (DataW.lit (.string s.data.toList) : DataW H) := by
    have := congrArg Prod.fst hx
    simpa [strsData] using this.symm
  have hsl : ss.length = n := by
    have := congrArg List.length hxs
    simp at this
    omega
  apply List.ext_getElem?
  intro i
  by_cases hi : i < n
  · have hy : xs[i]? = some xs[i] := List.getElem?_eq_getElem (by omega)
    have h1 := hf i hi
    rw [hy, hce, Nat.mul_one] at h1
    obtain ⟨s, hc, hd, _⟩ := DataW.trod_string he h1
    have h2 : cs[i]? = some (.string s) := by
      have := congrArg (fun l : List Value => l[0]?) hc
      simpa [List.getElem?_take, List.getElem?_drop] using this
    have h3 : (xs.map (·.1))[i]? = some (DataW.lit (.string s.data.toList) : DataW H) := by simp [hy, hd]
    rw [hxs] at h3
    simp only [List.getElem?_map, Option.map_eq_some_iff, DataW.lit.injEq, Lit.string.injEq] at h3
    obtain ⟨s', hs', e⟩ := h3
    have : s' = s := by cases s; cases s'; simpa using Array.toList_inj.1 e
    subst this
    simp [h2, hs']
  · rw [List.getElem?_eq_none (by omega), List.getElem?_eq_none (by simp; omega)]
theorem rd_table {P : Program} {W : World} {name : String} {g : Nat} {ss : List ByteArray} {B : Nat} (hg : P.globalNamed name = some g) (hB : g < B) (h0 : 0 < ss.length)
    (h : W.var? P name = some (ss.map Value.string).toArray) : Rd (· < B) W (.slice (some ⟨g, 0, none⟩) ss.length ss.length) (strsD ss) := by
  refine .list g 0 _ _ 1 _ (fun j => ((ss.map Value.string)[j]?).getD undef) hB h0 (Nat.le_refl _) (by simp) (fun j hj => ?_) (fun j hj => ?_)
  · have := World.var?_cell hg h j
    rw [Nat.zero_add, this]
    simp at hj ⊢
    simp [hj]
  · simp at hj ⊢
    simp [hj]
    exact .str _
theorem gKinds : Tryd.prog.globalNamed "waybill/pick.kinds" = some 0 := by kernel_rfl
theorem gReasons : Tryd.prog.globalNamed "waybill/pick.reasons" = some 1 := by kernel_rfl
theorem tKinds : (Tryd.prog.globals[0]?).map (·.type) = some 82 := by kernel_rfl
theorem tReasons : (Tryd.prog.globals[1]?).map (·.type) = some 83 := by kernel_rfl
theorem tables_of {W : World} (h : laidMetH Tryd.prog [("waybill/pick.kinds", Rows.laid_waybill_pick_kinds), ("waybill/pick.reasons", Rows.laid_waybill_pick_reasons)] W) : Tables W := by
  obtain ⟨ps, ⟨g, t, cs, fuel, p, q, hg, ht, hvar, hd, ⟨g2, t2, cs2, fuel2, p2, q2, hg2, ht2, hvar2, hd2, _⟩, _⟩, _⟩ := h
  obtain rfl := Option.some.inj (gKinds.symm.trans hg)
  obtain rfl := Option.some.inj (tKinds.symm.trans ht)
  obtain rfl := Option.some.inj (gReasons.symm.trans hg2)
  obtain rfl := Option.some.inj (tReasons.symm.trans ht2)
  have e1 := cells_of_strs (ss := kindsL) Tryd.underlying82 Tryd.underlying9 (by kernel_rfl) (by kernel_rfl) hd
  have e2 := cells_of_strs (ss := reasonsL) Tryd.underlying83 Tryd.underlying9 (by kernel_rfl) (by kernel_rfl) hd2
  have f1 : cs = (kindsL.map Value.string).toArray := by rw [← e1]
  have f2 : cs2 = (reasonsL.map Value.string).toArray := by rw [← e2]
  rw [f1] at hvar
  rw [f2] at hvar2
  exact ⟨rd_table gKinds (by decide) (by decide) hvar, rd_table gReasons (by decide) (by decide) hvar2⟩
theorem Tables.size {w : World} (h : Tables w) : 2 ≤ w.heap.size := by
  obtain ⟨a, c, e, _, _, hc⟩ := h.reasons.strs_inv
  obtain ⟨b, off, rfl, _, hx⟩ := hc (by decide)
  cases e
  exact World.block_lt_of_cell? _ _ (hx 0 _ rfl)
theorem own : ownKnob Tryd.prog.godebug = none := by kernel_rfl
theorem laidOut : laidOutB Tryd.prog = true := by kernel_rfl
def layStrs (ss : List ByteArray) : Obj → Obj
  | .cells _ t frozen => .cells (ss.map Value.string).toArray t frozen
  | o => o
/-- A world for the witnesses: the tables as their initialisers lay them. -/
noncomputable def laidWorld (os : Os) : World :=
  { World.holding Tryd.prog os ⟨#[], #[], []⟩ with heap := ((World.holding Tryd.prog os ⟨#[], #[], []⟩).heap.modify 0 (layStrs kindsL)).modify 1 (layStrs reasonsL) }
end Go.Proofs.YtjbbpmjbohedkaaDoor
