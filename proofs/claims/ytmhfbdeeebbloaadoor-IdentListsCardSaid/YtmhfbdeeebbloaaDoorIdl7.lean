/- slices.Clone, slices.SortFunc at fingerprints. -/
import Derived.Test.YtmhfbdeeebbloaaDoorIdl6
import Derived.Test.YtmhfbdeeebbloaaDoorIdl2
import Derived.Test.YtmhfbdeeebbloaaDoorShelf
import Derived.Shelf.SlSortCmp.NoneTotal
namespace Go.Proofs.YtmhfbdeeebbloaaDoor
open Go.RowKit
theorem ltP_strict : StrictOrd ltP where
  irrefl x := cB_irrefl x.1
  trans x y z h k := cB_trans x.1 y.1 z.1 h k
  total x y h k := Subtype.ext (cB_total x.1 y.1 h k)
def cfP (x y : Pr) : Int := Lib.compareBytes x.1 y.1
theorem ltOf_cfP (x y : Pr) : ltOf cfP x y = ltP x y := rfl
theorem cfP_swo : Go.Sort.SWO (ltOf cfP) where
  irrefl x := ltP_strict.irrefl x
  trans x y z h k := ltP_strict.trans x y z h k
  ntrans x y z h k := by
    rw [ltOf_cfP] at *
    cases hxz : ltP x z with
    | false => rfl
    | true =>
      cases hyx : ltP y x with
      | true => rw [ltP_strict.trans y x z hyx hxz] at k; cases k
      | false => obtain rfl := ltP_strict.total x y h hyx; rw [hxz] at k; cases k
set_option maxRecDepth 100000 in
set_option maxHeartbeats 8000000 in
theorem clone_any (w : World) (b off cap : Nat) (ps : List Pr) (hr : RowP w b off ps) (hb : b < w.heap.size) (hm : ps.length ≤ 100000) :
    Calls Tryd.prog 40 #[.slice (some ⟨b, off, none⟩) ps.length cap] w fun e w' => ∃ g c, e = .returned (.slice (some ⟨g, 0, none⟩) ps.length c) ∧ OwnP w' w.heap.size g c ps ∧ Below w.heap.size w w' := by
  have HR := Lib.hid hr
  have q22 : ∀ w : World, (binOp .eql 32 (.slice (some ⟨b, off, none⟩) ps.length cap) (.slice none 0 0)).run Tryd.prog w = .ok (.bool false) w := fun w => Lib.run_eql_slice_nil w _ _ _ _ _ _ _ Tryd.underlying32
  clear hr
  go_enter Tryd.func40, Tryd.ntmps40
  go_wp2_with (at_builtin; refine Hid.out ?_)
  refine Lib.hid ?_
  (refine wpList_appP (w.alloc (.cells #[] 23)) rfl _ _ rfl w.heap.size w.heap.size 0 0 [] ps rfl rfl (OwnP.empty w) _ ps.length _ ?c1 rfl ?c2 ?c3 ?c4 ?c5 _ rfl ps.length ?c6 ?_)
  case c1 => rfl
  case c2 => nofun
  case c3 => exact fun _ => ⟨b, off, rfl, HR.out.below (ext_alloc (Below.refl w.heap.size w) _) hb⟩
  case c4 => simp; omega
  case c5 => simp
  case c6 => simp
  intro g5 cap5 w5 ho5 hg5 _
  have hb5 : Below w.heap.size w w5 := (ext_alloc (Below.refl w.heap.size w) _).grown hg5 (by simp) (fun q e => by cases e; exact Nat.le_refl _)
  have HO5 := Lib.hid ho5; have HB5 := Lib.hid hb5
  clear ho5 hg5 hb5
  go_wp2
  go_ret
  exact ⟨g5, cap5, rfl, HO5.out, HB5.out⟩
/-- The flat row of the sort's kit. -/
theorem flat_eq (ps : List Pr) : (Go.Sort.flatK encP 32 ps.toArray).toList = pflat ps := by
  apply List.ext_getElem?
  intro t
  by_cases ht : t < ps.length * 32
  · obtain ⟨x, hx⟩ := get_ex ps (t / 32) (by omega)
    have h1 := pflat_get ps (t / 32) x (t % 32) hx (Nat.mod_lt _ (by decide))
    rw [show t / 32 * 32 + t % 32 = t by omega] at h1
    have h2 := Go.Sort.get_flatK encP 32 ps.toArray t (by simpa using ht)
    have hz : t < (Go.Sort.flatK encP 32 ps.toArray).size := by rw [Go.Sort.size_flatK]; simpa using ht
    rw [getElem!_pos (Go.Sort.flatK encP 32 ps.toArray) t hz] at h2
    have hx2 : ps.toArray[t / 32]! = x := by
      have hl := (List.getElem?_eq_some_iff.1 hx)
      obtain ⟨hl, he⟩ := hl
      rw [getElem!_pos ps.toArray (t / 32) (by simpa using hl)]; simpa using he
    have hl3 : t % 32 < (encP x).length := by rw [encP_len]; exact Nat.mod_lt _ (by decide)
    rw [hx2, getElem!_pos (encP x) (t % 32) hl3] at h2
    rw [h1, Array.getElem?_toList, Array.getElem?_eq_getElem hz, h2, ← List.getElem?_eq_getElem hl3, encP_get x _ (Nat.mod_lt _ (by decide))]
  · rw [List.getElem?_eq_none (by rw [Array.length_toList, Go.Sort.size_flatK]; simp; omega), List.getElem?_eq_none (by rw [pflat_len]; omega)]
theorem OwnP.holds {w : World} {base g cap : Nat} {ps : List Pr} (h : OwnP w base g cap ps) : Go.Sort.HoldsK encP 32 w g 0 ps.toArray := by
  intro t ht
  rw [Go.Sort.size_flatK] at ht
  have hfl : (Go.Sort.flatK encP 32 ps.toArray)[t]? = (pflat ps)[t]? := by rw [← flat_eq, Array.getElem?_toList]
  have hz : t < (Go.Sort.flatK encP 32 ps.toArray).size := by rw [Go.Sort.size_flatK]; exact ht
  refine ⟨?_, ?_⟩
  · rw [getElem!_pos (Go.Sort.flatK encP 32 ps.toArray) t hz]
    refine h.row.cells t _ ?_
    rw [← hfl, Array.getElem?_eq_getElem hz]; rfl
  · rw [Nat.zero_add]
    exact World.ownsRow.frozenAt h t
theorem OwnP.sorted {w : World} {base g cap n : Nat} {ps qs : List Pr} {os : Array Obj} (h : OwnP w base g cap ps) (hl : qs.length = ps.length) :
    OwnP (sortWorldK encP 32 w g 0 n qs.toArray os) base g cap qs ∧ w.grownBy (sortWorldK encP 32 w g 0 n qs.toArray os) (some g) := by
  have hg := h.parts.2
  refine ⟨?_, ⟨rfl, rfl, rfl, by simp [sortWorldK, Go.Sort.putRowK, Go.Sort.putRow, Go.Sort.mapBlock, Go.Sort.ahead], fun k hk hne => ?_⟩⟩
  · rcases h.2 with ⟨h2, _⟩ | ⟨g', cap', cur, hv, hbase, hc, h1, h2, h3, h4⟩
    · cases h2
    · simp only [Value.slice.injEq, Option.some.injEq, Addr.mk.injEq, and_true, true_and] at hv
      obtain ⟨rfl, rfl⟩ := hv
      refine ⟨pflat_len qs, .inr ⟨g, cap, Go.Sort.putCells id 0 (Go.Sort.flatK encP 32 qs.toArray) cur, rfl, hbase, ?_, by omega, h2, by simp [Go.Sort.putCells, h3], ?_⟩⟩
      · unfold sortWorldK
        rw [Go.Sort.heap_grow_old _ _ (by simpa [Go.Sort.putRowK, Go.Sort.putRow, Go.Sort.mapBlock, Go.Sort.ahead] using hg)]
        simp [Go.Sort.putRowK, Go.Sort.putRow, Go.Sort.mapBlock, Go.Sort.ahead, Array.getElem?_modify, hc, Go.Sort.onCells]
      · apply List.ext_getElem?
        intro j
        by_cases hj : j < qs.length * 32
        · have hz : j < (Go.Sort.flatK encP 32 qs.toArray).size := by rw [Go.Sort.size_flatK]; simpa using hj
          have hjc : j < cur.size := by rw [h3]; omega
          rw [List.getElem?_take_of_lt hj, Array.getElem?_toList, ← flat_eq, Array.getElem?_toList]
          have hz2 : j < qs.length * 32 := hj
          rw [Array.getElem?_eq_getElem hz, ← getElem!_pos (Go.Sort.flatK encP 32 qs.toArray) j hz]
          simp [Go.Sort.putCells, hjc, hz2]
        · rw [List.getElem?_take_eq_none (by omega), List.getElem?_eq_none (by rw [pflat_len]; omega)]
  · unfold sortWorldK
    rw [Go.Sort.heap_grow_old _ _ (by simpa [Go.Sort.putRowK, Go.Sort.putRow, Go.Sort.mapBlock, Go.Sort.ahead] using hk)]
    have : g ≠ k := fun e => hne (by rw [e])
    simp [Go.Sort.putRowK, Go.Sort.putRow, Go.Sort.mapBlock, Go.Sort.ahead, Array.getElem?_modify, this]
end Go.Proofs.YtmhfbdeeebbloaaDoor
