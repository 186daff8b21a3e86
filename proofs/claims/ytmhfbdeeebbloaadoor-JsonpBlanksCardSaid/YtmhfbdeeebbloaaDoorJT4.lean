/- Add, where there is room and the number above is there: the walk. -/
import Derived.Test.YtmhfbdeeebbloaaDoorJT3
import Derived.Deep.RegionLaw
namespace Go.Proofs.YtmhfbdeeebbloaaDoor
open Go.RowKit
theorem infoNode : (Tryd.prog.info? 161).map (fun i => (i.zero, i.size, i.bytes)) = some (some (.agg #[.int .i64 0, .string ⟨#[]⟩, .string ⟨#[]⟩, .int .i64 0, .int .i64 0, .int .i64 0, .int .i64 0, .int .i64 0, .int .i64 0, .int .i64 0]), 10, 96) := by kernel_rfl
def AddPost (B : Nat) (v : Value) (ns : List ANode) (most : Int) (w : World) (e : Ending) (w' : World) (n : Nat) : Prop :=
  ∃ v', e = .returned (.tuple #[.int .i64 n, .nilIface]) ∧ TreeAt w' B v' ns most ∧ Only (TB B v) w w' ∧ (∀ g, v'.ownBlock = some g → v.ownBlock = some g ∨ w.heap.size ≤ g)
theorem AddPost.up {B : Nat} {v : Value} {ns : List ANode} {most : Int} {w0 w w' : World} {e : Ending} {n : Nat} (hO : Only (TB B v) w0 w) (h : AddPost B v ns most w e w' n) : AddPost B v ns most w0 e w' n := by
  obtain ⟨v', he, ht, ho, hg⟩ := h
  exact ⟨v', he, ht, hO.trans ho, fun g hg' => (hg g hg').imp id (fun h => Nat.le_trans hO.size h)⟩
/-- Behind the append and the store of the new slice. -/
theorem add_fin {w W3 Wx w5 : World} {B g' n cap' : Nat} {v : Value} {ns3 : List ANode} {new : ANode} {most : Int} (h3 : TreeAt W3 B v ns3 most) (o3 : Only (TB B v) w W3) (hn : ns3.length = n)
    (hz : w.heap.size ≤ W3.heap.size) (hx : Below W3.heap.size W3 Wx) (hgrow : Wx.grownBy w5 v.ownBlock)
    (hown5 : w5.ownsRow (B + 1) 161 10 (.slice (some ⟨g', 0, none⟩) (n + 1) cap') (n + 1) (ns3.flatMap jcells ++ jcells new)) (hat : v.ownBlock = some g' ∨ g' = W3.heap.size + 1) :
    AddPost B v (ns3 ++ [new]) most w (.returned (.tuple #[.int .i64 n, .nilIface])) (w5.setCell ⟨B, 0, none⟩ (.slice (some ⟨g', 0, none⟩) (n + 1) cap')) n := by
  subst hn
  have hB3 := h3.lt
  have hg' := (hown5.lt g' rfl).1
  have hbox : w5.heap[B]? = some (.cells #[v, .int .i64 most] 145 (0, 0)) := by
    rw [hgrow.block B (by have := hx.size; omega) (fun e => by have := (h3.own.lt B e.symm).1; omega), hx.block B hB3]; exact h3.box
  refine ⟨.slice (some ⟨g', 0, none⟩) (ns3.length + 1) cap', rfl, ⟨?_, ?_⟩, ?_, ?_⟩
  · rw [heap_setCell_same _ _ _ _ _ _ hbox]; simp
  · have h5 : (w5.setCell ⟨B, 0, none⟩ (.slice (some ⟨g', 0, none⟩) (ns3.length + 1) cap')).ownsRow (B + 1) 161 10 (.slice (some ⟨g', 0, none⟩) (ns3.length + 1) cap') (ns3.length + 1) (ns3.flatMap jcells ++ jcells new) :=
      aown_ext hown5 (fun k hk => by
        have : k = g' := by simpa [Value.ownBlock] using hk.symm
        subst this
        exact Below.heap_setCell _ _ _ _ (show k ≠ B by omega)) (Nat.le_refl _)
    simpa using h5
  · exact ((o3.trans (.of hx)).grown hgrow (fun k hk _ => .inr hk)).set (fun _ => .inl rfl) _
  · intro k hk
    have : k = g' := by simpa [Value.ownBlock] using hk.symm
    subst this
    rcases hat with h | h
    · exact .inl h
    · right; omega
set_option maxRecDepth 100000 in
set_option maxHeartbeats 8000000 in
theorem add_ok (B : Nat) (v : Value) (ns : List ANode) (ups : List Nat) (most : Int) (u : Nat) (x : JN) (w0 : World) (h0_ : TreeAt w0 B v ns most) (hg : GoodN ns ups) (hw : WfUps ups) (hu : u < ups.length) (hmost : ns.length < most) (hm : ns.length ≤ 1000000) :
    Calls Tryd.prog 135 #[.pointer (some ⟨B, 0, none⟩), .int .i64 u, .agg #[.int .i64 x.kind, .string x.key, .string x.text, .int .i64 x.at_]] w0 fun e w' => AddPost B v (addN ns u x.val) most w0 e w' ns.length := by
  obtain ⟨w, hbx⟩ : ∃ W, w0.alloc (.cells #[.int .i64 x.kind, .string x.key, .string x.text, .int .i64 x.at_] 58) = W := ⟨_, rfl⟩
  have h : TreeAt w B v ns most := h0_.below (by rw [← hbx]; exact ext_alloc (Below.refl _ _) _)
  have bx : ∀ o, w.cell? ⟨w0.heap.size, o, none⟩ = (#[.int .i64 x.kind, .string x.key, .string x.text, .int .i64 x.at_] : Array Value)[o]? := fun o => by rw [← hbx]; simp
  have HOB : Hid (Only (TB B v) w0 w) := Lib.hid (by rw [← hbx]; exact (Only.refl _ _).alloc _)
  clear h0_
  have hlen := hg.len
  have HH := Lib.hid (has_id B v ns most u w h)
  obtain ⟨g, cap, rfl, hBg, hgw⟩ := h.form1 (by omega)
  have c0 := h.cell0
  have c1 := h.cell1
  have hBw := h.lt
  obtain ⟨a, ha⟩ := get_ex ns u (by omega)
  have hd := deep_le hg hw u a ha
  have hc := hg.count u a ha
  have hcl := kids_le ups u
  rw [← hlen] at hcl
  have t : decide (0 ≤ (u : Int) ∧ (u : Int) < (ns.length : Int)) = true := decide_eq_true (by omega)
  have t2 : decide (most ≤ (ns.length : Int)) = false := decide_eq_false (by omega)
  have t3 : decide (0 < (ns.length : Int)) = true := decide_eq_true (by omega)
  have n5 := h.n5 ha
  obtain ⟨W0, hW0⟩ : ∃ W, w.alloc (.cells #[.int .i64 x.kind, .string x.key, .string x.text, .int .i64 x.at_, .int .i64 u, .int .i64 (-1), .int .i64 (-1), .int .i64 (-1), .int .i64 (a.deep + 1), .int .i64 0] 161) = W := ⟨_, rfl⟩
  have h0 : TreeAt W0 B (.slice (some ⟨g, 0, none⟩) ns.length cap) ns most := h.below (by rw [← hW0]; exact ext_alloc (Below.refl _ _) _)
  have d0 : ∀ o, W0.cell? ⟨w.heap.size, o, none⟩ = #[.int .i64 x.kind, .string x.key, .string x.text, .int .i64 x.at_, .int .i64 u, .int .i64 (-1), .int .i64 (-1), .int .i64 (-1), .int .i64 (a.deep + 1), .int .i64 0][o]? := fun o => by rw [← hW0]; simp
  have z0 : W0.heap.size = w.heap.size + 1 := by rw [← hW0]; simp
  have o0 : Only (TB B (.slice (some ⟨g, 0, none⟩) ns.length cap)) w W0 := by rw [← hW0]; exact (Only.refl _ _).alloc _
  have k3 := h0.n3 ha
  have e0 := h0.cell0
  have hun := (List.getElem?_eq_some_iff.1 ha).1
  have hne : g ≠ w.heap.size := by omega
  have k0 : ∀ j, TB B (.slice (some ⟨g, 0, none⟩) ns.length cap) (⟨g, j, none⟩ : Addr).block := fun j => .inr rfl
  rcases lastI_cases hw u with hl | ⟨l, hl, hlu, hul⟩
  · rw [← hg.last u a ha] at hl
    rw [hl] at k3
    obtain ⟨W1, hW1⟩ : ∃ W, W0.setCell ⟨g, u * 10 + 5, none⟩ (.int .i64 ns.length) = W := ⟨_, rfl⟩
    obtain ⟨W2, hW2⟩ : ∃ W, W1.setCell ⟨g, u * 10 + 6, none⟩ (.int .i64 ns.length) = W := ⟨_, rfl⟩
    obtain ⟨W3, hW3⟩ : ∃ W, W2.setCell ⟨g, u * 10 + 9, none⟩ (.int .i64 (a.count + 1)) = W := ⟨_, rfl⟩
    have h1 := h0.set rfl (j := 5) (b := { a with first := ns.length }) (x := .int .i64 ns.length) ha (by decide) (jcells_set _ _ 1 _ rfl rfl)
    have u2 : (ns.set u { a with first := ns.length })[u]? = some { a with first := ns.length } := List.getElem?_set_self hun
    rw [hW1] at h1
    have h2 := h1.set (by simp) (j := 6) (b := { a with first := ns.length, last := ns.length }) (x := .int .i64 ns.length) u2 (by decide) (jcells_set _ _ 2 _ rfl rfl)
    have u3 : ((ns.set u { a with first := ns.length }).set u { a with first := ns.length, last := ns.length })[u]? = some { a with first := ns.length, last := ns.length } := List.getElem?_set_self (by simpa using hun)
    rw [hW2] at h2
    have h3 := h2.set (by simp) (j := 9) (b := { a with first := ns.length, last := ns.length, count := a.count + 1 }) (x := .int .i64 (a.count + 1)) u3 (by decide) (jcells_set _ _ 5 _ rfl rfl)
    rw [hW3] at h3
    have q0 : W0.cell? ⟨g, u * 10 + 5, none⟩ = some (.int .i64 a.first) := h0.n2 ha
    have f0 := h0.frozen rfl (u * 10 + 5)
    have q1 : W1.cell? ⟨g, u * 10 + 6, none⟩ = some (.int .i64 a.last) := (h1.nd (by simp) u2 6 (by decide)).trans (jcells_tail _ 2)
    have f1 := h1.frozen (by simp) (u * 10 + 6)
    have q2 : W2.cell? ⟨g, u * 10 + 9, none⟩ = some (.int .i64 a.count) := (h2.nd (by simp) u3 9 (by decide)).trans (jcells_tail _ 5)
    have f2 := h2.frozen (by simp) (u * 10 + 9)
    have e3 := h3.cell0
    have fB := h3.frozenB 0
    have d3 : ∀ o, W3.cell? ⟨w.heap.size, o, none⟩ = #[.int .i64 x.kind, .string x.key, .string x.text, .int .i64 x.at_, .int .i64 u, .int .i64 (-1), .int .i64 (-1), .int .i64 (-1), .int .i64 (a.deep + 1), .int .i64 0][o]? := fun o => by
      rw [← hW3, ← hW2, ← hW1, cell_keep (Below.heap_setCell _ _ _ _ hne.symm), cell_keep (Below.heap_setCell _ _ _ _ hne.symm), cell_keep (Below.heap_setCell _ _ _ _ hne.symm)]
      exact d0 o
    have z3 : W3.heap.size = w.heap.size + 1 := by rw [← hW3, ← hW2, ← hW1]; simpa using z0
    have o3 : Only (TB B (.slice (some ⟨g, 0, none⟩) ns.length cap)) w W3 := by
      rw [← hW3, ← hW2, ← hW1]; exact ((o0.set (fun _ => k0 _) _).set (fun _ => k0 _) _).set (fun _ => k0 _) _
    have ea := addN_first (v := x.val) ha hl
    rw [hc] at q2
    have hW3' := hW3
    rw [hc] at hW3'
    have ho3 := h3.own
    simp only [List.length_set] at ho3
    have HO3 := Lib.hid ho3
    clear ho3
    have y1 : B < W3.heap.size := by omega
    have y2 : g < W3.heap.size := by omega
    have HZ3 := Lib.hid z3; clear z3
    have H3 := Lib.hid h3; have O3 := Lib.hid o3; have EA := Lib.hid ea; have HD0 := Lib.hid d0
    clear h h0 h1 h2 h3 o3 ea d0 o0 hg hw ha u2 u3 hc k0 hW3 hlen
    go_enter Tryd.func135, Tryd.ntmps135
    go_wp2_with fail
    clear hbx
    refine HH.out.mono ?_
    rintro e w1 ⟨rfl, rfl⟩
    rw [t]
    clear t
    go_wp2_with fail
    obtain ⟨i0, hi0, hz0, hz1, hz2⟩ := info_parts infoNode
    go_region_law ((refine step_append_lies _ (by rfl) _ _ _ (by rfl) (B + 1) 161 i0 _ 10 96 Tryd.underlying143 hi0 hz0 hz1 hz2 rfl (by omega) (.slice (some ⟨g, 0, none⟩) ns.length cap) ns.length _ (by rfl) (by first | exact HO3.out.alloc _ | exact (HO3.out.alloc _).drew | exact HO3.out.drew.alloc _) ⟨W3.heap.size, 0, none⟩ 1 1 [.int .i64 x.kind, .string x.key, .string x.text, .int .i64 x.at_, .int .i64 u, .int .i64 (-1), .int .i64 (-1), .int .i64 (-1), .int .i64 (a.deep + 1), .int .i64 0] (by rfl) (by rfl) (World.news_of_block (cs := #[.int .i64 x.kind, .string x.key, .string x.text, .int .i64 x.at_, .int .i64 u, .int .i64 (-1), .int .i64 (-1), .int .i64 (-1), .int .i64 (a.deep + 1), .int .i64 0]) (t := 161) (fr := (0, 0)) (heap_alloc_new W3 _)) (by simp [Value.oneCell']) (by omega) (by simp [maxLen]; omega) (by omega) (by simp; omega) (W3.heap.size + 1) (by simp) ?_; intro g' cap' w5 hown5 hgrow hat hlt; have b5 := hgrow.cell_far (a := ⟨B, 0, none⟩) (by simp; omega) (by simp [Value.ownBlock]; omega); have c5 := hgrow.frozen_far (a := ⟨B, 0, none⟩) (by simp; omega) (by simp [Value.ownBlock]; omega)))
    all_goals go_wp2
    all_goals go_ret2
    all_goals
      rw [EA.out]
      exact AddPost.up HOB.out <| add_fin H3.out O3.out (by simp) (by have := HZ3.out; omega) (by first | exact ext_alloc (Below.refl _ _) _ | exact ⟨rfl, rfl, rfl, by simp, fun k hk => Below.heap_alloc W3 _ k hk⟩) hgrow hown5 hat
  · rw [← hg.last u a ha] at hl
    rw [hl] at k3
    obtain ⟨b, hb⟩ := get_ex ns l (by omega)
    have hlun : l < ns.length := by omega
    have tl : ((l : Int) == -1) = false := beq_eq_false_iff_ne.2 (by omega)
    obtain ⟨W1, hW1⟩ : ∃ W, W0.drew.setCell ⟨g, l * 10 + 7, none⟩ (.int .i64 ns.length) = W := ⟨_, rfl⟩
    obtain ⟨W2, hW2⟩ : ∃ W, W1.setCell ⟨g, u * 10 + 6, none⟩ (.int .i64 ns.length) = W := ⟨_, rfl⟩
    obtain ⟨W3, hW3⟩ : ∃ W, W2.setCell ⟨g, u * 10 + 9, none⟩ (.int .i64 (a.count + 1)) = W := ⟨_, rfl⟩
    have h0' : TreeAt W0.drew B (.slice (some ⟨g, 0, none⟩) ns.length cap) ns most := ⟨h0.box, h0.own.drew⟩
    have h1 := h0'.set rfl (j := 7) (b := { b with next := ns.length }) (x := .int .i64 ns.length) hb (by decide) (jcells_set _ _ 3 _ rfl rfl)
    have u2 : (ns.set l { b with next := ns.length })[u]? = some a := by rw [List.getElem?_set_ne (by omega)]; exact ha
    rw [hW1] at h1
    have h2 := h1.set (by simp) (j := 6) (b := { a with last := ns.length }) (x := .int .i64 ns.length) u2 (by decide) (jcells_set _ _ 2 _ rfl rfl)
    have u3 : ((ns.set l { b with next := ns.length }).set u { a with last := ns.length })[u]? = some { a with last := ns.length } := List.getElem?_set_self (by simpa using hun)
    rw [hW2] at h2
    have h3 := h2.set (by simp) (j := 9) (b := { a with last := ns.length, count := a.count + 1 }) (x := .int .i64 (a.count + 1)) u3 (by decide) (jcells_set _ _ 5 _ rfl rfl)
    rw [hW3] at h3
    have q0 : W0.cell? ⟨g, l * 10 + 7, none⟩ = some (.int .i64 b.next) := h0.n4 hb
    have f0 := h0.frozen rfl (l * 10 + 7)
    have q1 : W1.cell? ⟨g, u * 10 + 6, none⟩ = some (.int .i64 a.last) := (h1.nd (by simp) u2 6 (by decide)).trans (jcells_tail _ 2)
    have f1 := h1.frozen (by simp) (u * 10 + 6)
    have q2 : W2.cell? ⟨g, u * 10 + 9, none⟩ = some (.int .i64 a.count) := (h2.nd (by simp) u3 9 (by decide)).trans (jcells_tail _ 5)
    have f2 := h2.frozen (by simp) (u * 10 + 9)
    have e3 := h3.cell0
    have fB := h3.frozenB 0
    have d3 : ∀ o, W3.cell? ⟨w.heap.size, o, none⟩ = #[.int .i64 x.kind, .string x.key, .string x.text, .int .i64 x.at_, .int .i64 u, .int .i64 (-1), .int .i64 (-1), .int .i64 (-1), .int .i64 (a.deep + 1), .int .i64 0][o]? := fun o => by
      rw [← hW3, ← hW2, ← hW1, cell_keep (Below.heap_setCell _ _ _ _ hne.symm), cell_keep (Below.heap_setCell _ _ _ _ hne.symm), cell_keep (Below.heap_setCell _ _ _ _ hne.symm)]
      exact d0 o
    have z3 : W3.heap.size = w.heap.size + 1 := by rw [← hW3, ← hW2, ← hW1]; simpa using z0
    have o3 : Only (TB B (.slice (some ⟨g, 0, none⟩) ns.length cap)) w W3 := by
      rw [← hW3, ← hW2, ← hW1]; exact (((o0.trans (.of ⟨rfl, rfl, rfl, Nat.le_refl _, fun _ _ => rfl⟩ : Only _ W0 W0.drew)).set (fun _ => k0 _) _).set (fun _ => k0 _) _).set (fun _ => k0 _) _
    have ea := addN_next (v := x.val) ha hl hb (by omega)
    rw [hc] at q2
    have hW3' := hW3
    rw [hc] at hW3'
    have ho3 := h3.own
    simp only [List.length_set] at ho3
    have HO3 := Lib.hid ho3
    clear ho3
    have y1 : B < W3.heap.size := by omega
    have y2 : g < W3.heap.size := by omega
    have HZ3 := Lib.hid z3; clear z3
    have H3 := Lib.hid h3; have O3 := Lib.hid o3; have EA := Lib.hid ea; have HD0 := Lib.hid d0
    clear h h0 h1 h2 h3 o3 ea d0 o0 hg hw ha u2 u3 hc k0 hW3 hlen
    go_enter Tryd.func135, Tryd.ntmps135
    go_wp2_with fail
    clear hbx
    refine HH.out.mono ?_
    rintro e w1 ⟨rfl, rfl⟩
    rw [t]
    clear t
    go_wp2_with fail
    go_region
    go_wp2_with fail
    obtain ⟨i0, hi0, hz0, hz1, hz2⟩ := info_parts infoNode
    go_region_law ((refine step_append_lies _ (by rfl) _ _ _ (by rfl) (B + 1) 161 i0 _ 10 96 Tryd.underlying143 hi0 hz0 hz1 hz2 rfl (by omega) (.slice (some ⟨g, 0, none⟩) ns.length cap) ns.length _ (by rfl) (by first | exact HO3.out.alloc _ | exact (HO3.out.alloc _).drew | exact HO3.out.drew.alloc _) ⟨W3.heap.size, 0, none⟩ 1 1 [.int .i64 x.kind, .string x.key, .string x.text, .int .i64 x.at_, .int .i64 u, .int .i64 (-1), .int .i64 (-1), .int .i64 (-1), .int .i64 (a.deep + 1), .int .i64 0] (by rfl) (by rfl) (World.news_of_block (cs := #[.int .i64 x.kind, .string x.key, .string x.text, .int .i64 x.at_, .int .i64 u, .int .i64 (-1), .int .i64 (-1), .int .i64 (-1), .int .i64 (a.deep + 1), .int .i64 0]) (t := 161) (fr := (0, 0)) (heap_alloc_new W3 _)) (by simp [Value.oneCell']) (by omega) (by simp [maxLen]; omega) (by omega) (by simp; omega) (W3.heap.size + 1) (by simp) ?_; intro g' cap' w5 hown5 hgrow hat hlt; have b5 := hgrow.cell_far (a := ⟨B, 0, none⟩) (by simp; omega) (by simp [Value.ownBlock]; omega); have c5 := hgrow.frozen_far (a := ⟨B, 0, none⟩) (by simp; omega) (by simp [Value.ownBlock]; omega)))
    all_goals go_wp2
    all_goals go_ret2
    all_goals
      rw [EA.out]
      exact AddPost.up HOB.out <| add_fin H3.out O3.out (by simp) (by have := HZ3.out; omega) (by first | exact ext_alloc (Below.refl _ _) _ | exact ⟨rfl, rfl, rfl, by simp, fun k hk => Below.heap_alloc W3 _ k hk⟩) hgrow hown5 hat
end Go.Proofs.YtmhfbdeeebbloaaDoor
