/- JT2, JT3, JT4, JT5, JT6 in one text (a claim holds at most 60 files). -/
import Derived.Test.YtcaiibkgajhohaaGreatDoorYOwn0s
import Derived.Test.YtcaiibkgajhohaaGreatDoorYArena0s
import Derived.Deep.RegionHeld3
import Derived.Deep.AppendLies
import Derived.Deep.RegionLaw
import Derived.BigQuiet
import Derived.Laws.MakeOwn
namespace Go.Proofs.YtcaiibkgajhohaaGreatDoor
section
open Go.RowKit
def JN.val (x : JN) : Value := .agg #[.int .i64 x.kind, .string x.key, .string x.text, .int .i64 x.at_]
def valC : Value → List Value
 | .agg ⟨[a, b, c, d]⟩ => [a, b, c, d]
 | _ => [.int .i64 0, .int .i64 0, .int .i64 0, .int .i64 0]
theorem valC_length (v : Value) : (valC v).length = 4 := by unfold valC; split <;> rfl
def jcells (a : ANode) : List Value := valC a.val ++ [.int .i64 a.up, .int .i64 a.first, .int .i64 a.last, .int .i64 a.next, .int .i64 a.deep, .int .i64 a.count]
theorem jcells_length (a : ANode) : (jcells a).length = 10 := by simp [jcells, valC_length]
theorem jcells_tail (a : ANode) (j : Nat) : (jcells a)[4 + j]? = ([.int .i64 a.up, .int .i64 a.first, .int .i64 a.last, .int .i64 a.next, .int .i64 a.deep, .int .i64 a.count] : List Value)[j]? := by
 unfold jcells
 rw [List.getElem?_append_right (by rw [valC_length]; omega), valC_length, Nat.add_sub_cancel_left]
theorem jcells_set (a b : ANode) (j : Nat) (x : Value) (hv : b.val = a.val) (h : ([.int .i64 b.up, .int .i64 b.first, .int .i64 b.last, .int .i64 b.next, .int .i64 b.deep, .int .i64 b.count] : List Value) = ([.int .i64 a.up, .int .i64 a.first, .int .i64 a.last, .int .i64 a.next, .int .i64 a.deep, .int .i64 a.count] : List Value).set j x) : jcells b = (jcells a).set (4 + j) x := by
 unfold jcells
 rw [hv, List.set_append_right _ _ (by rw [valC_length]; omega), valC_length, Nat.add_sub_cancel_left, h]
/-- A tree lies at block B: its nodes are the slice v. -/
structure TreeAt (w : World) (B : Nat) (v : Value) (ns : List ANode) (most : Int) : Prop where
 box : w.heap[B]? = some (.cells #[v, .int .i64 most] 172 (0, 0))
 own : w.ownsRow (B + 1) 228 10 v ns.length (ns.flatMap jcells)
def TB (B : Nat) (v : Value) : Nat → Prop := fun k => k = B ∨ v.ownBlock = some k
section
variable {w w' : World} {B : Nat} {v : Value} {ns : List ANode} {most : Int}
theorem TreeAt.lt (h : TreeAt w B v ns most) : B < w.heap.size := (Array.getElem?_eq_some_iff.1 h.box).1
theorem TreeAt.cell0 (h : TreeAt w B v ns most) : w.cell? ⟨B, 0, none⟩ = some v := by simp [World.cell?, h.box]
theorem TreeAt.cell1 (h : TreeAt w B v ns most) : w.cell? ⟨B, 1, none⟩ = some (.int .i64 most) := by simp [World.cell?, h.box]
theorem TreeAt.ext (h : TreeAt w B v ns most) (hb : ∀ k, k < w.heap.size → TB B v k → w'.heap[k]? = w.heap[k]?) : TreeAt w' B v ns most :=
 ⟨by rw [hb B h.lt (.inl rfl)]; exact h.box, aown_ext h.own (fun g hg => hb g (h.own.lt g hg).2 (.inr hg)) (Nat.le_refl _)⟩
theorem TreeAt.below (h : TreeAt w B v ns most) (hb : Below w.heap.size w w') : TreeAt w' B v ns most := h.ext (fun k hk _ => hb.block k hk)
theorem TreeAt.form (h : TreeAt w B v ns most) : ∃ ao cap, v = .slice ao ns.length cap ∧ (ns.length = 0 ∧ ao = none ∨ ∃ g, ao = some ⟨g, 0, none⟩ ∧ B < g ∧ g < w.heap.size) := aown_form h.own
theorem TreeAt.form1 (h : TreeAt w B v ns most) (h0 : 0 < ns.length) : ∃ g cap, v = .slice (some ⟨g, 0, none⟩) ns.length cap ∧ B < g ∧ g < w.heap.size := by
 obtain ⟨ao, cap, rfl, ⟨h1, _⟩ | ⟨g, rfl, h1, h2⟩⟩ := h.form
 · omega
 · exact ⟨g, cap, rfl, h1, h2⟩
theorem TreeAt.node {g cap : Nat} (h : TreeAt w B (.slice (some ⟨g, 0, none⟩) ns.length cap) ns most) {i : Nat} {a : ANode} (hi : ns[i]? = some a) : ∀ j, j < 10 → w.cell? ⟨g, i * 10 + j, none⟩ = (jcells a)[j]? :=
 fun _ hj => row_cell jcells_length h.own hi hj
variable {g cap i : Nat} {a : ANode}
theorem TreeAt.n1 (h : TreeAt w B (.slice (some ⟨g, 0, none⟩) ns.length cap) ns most) (hi : ns[i]? = some a) : w.cell? ⟨g, i * 10 + 4, none⟩ = some (.int .i64 a.up) := (h.node hi 4 (by decide)).trans (jcells_tail a 0)
theorem TreeAt.n2 (h : TreeAt w B (.slice (some ⟨g, 0, none⟩) ns.length cap) ns most) (hi : ns[i]? = some a) : w.cell? ⟨g, i * 10 + 5, none⟩ = some (.int .i64 a.first) := (h.node hi 5 (by decide)).trans (jcells_tail a 1)
theorem TreeAt.n3 (h : TreeAt w B (.slice (some ⟨g, 0, none⟩) ns.length cap) ns most) (hi : ns[i]? = some a) : w.cell? ⟨g, i * 10 + 6, none⟩ = some (.int .i64 a.last) := (h.node hi 6 (by decide)).trans (jcells_tail a 2)
theorem TreeAt.n4 (h : TreeAt w B (.slice (some ⟨g, 0, none⟩) ns.length cap) ns most) (hi : ns[i]? = some a) : w.cell? ⟨g, i * 10 + 7, none⟩ = some (.int .i64 a.next) := (h.node hi 7 (by decide)).trans (jcells_tail a 3)
theorem TreeAt.n5 (h : TreeAt w B (.slice (some ⟨g, 0, none⟩) ns.length cap) ns most) (hi : ns[i]? = some a) : w.cell? ⟨g, i * 10 + 8, none⟩ = some (.int .i64 a.deep) := (h.node hi 8 (by decide)).trans (jcells_tail a 4)
theorem TreeAt.n6 (h : TreeAt w B (.slice (some ⟨g, 0, none⟩) ns.length cap) ns most) (hi : ns[i]? = some a) : w.cell? ⟨g, i * 10 + 9, none⟩ = some (.int .i64 a.count) := (h.node hi 9 (by decide)).trans (jcells_tail a 5)
end
theorem has_id (B : Nat) (v : Value) (ns : List ANode) (most : Int) (id : Int) (w : World) (h : TreeAt w B v ns most) :
    Calls Tryz.prog 125 #[.pointer (some ⟨B, 0, none⟩), .int .i64 id] w fun e w' => e = .returned (.bool (decide (0 ≤ id ∧ id < ns.length))) ∧ w = w' := by
 have c0 := h.cell0
 have hl := h.own.1
 obtain ⟨ao, cap, rfl, _⟩ := h.form
 clear h hl
 by_cases h0 : 0 ≤ id
 · by_cases h1 : id < ns.length
   · have e : decide (0 ≤ id ∧ id < (ns.length : Int)) = true := decide_eq_true ⟨h0, h1⟩
     rw [e]; clear e
     go_enter Tryz.func125, Tryz.ntmps125
     go_wp2
     go_ret
     exact ⟨rfl, rfl⟩
   · have e : decide (0 ≤ id ∧ id < (ns.length : Int)) = false := decide_eq_false (fun h => h1 h.2)
     rw [e]; clear e
     go_enter Tryz.func125, Tryz.ntmps125
     go_wp2
     go_ret
     exact ⟨rfl, rfl⟩
 · have e : decide (0 ≤ id ∧ id < (ns.length : Int)) = false := decide_eq_false (fun h => h0 h.1)
   rw [e]; clear e
   go_enter Tryz.func125, Tryz.ntmps125
   go_wp2
   go_ret
   exact ⟨rfl, rfl⟩
end
section
open Go.RowKit
section
variable {w : World} {B g n cap : Nat} {ns : List ANode} {most : Int}
theorem TreeAt.set (h : TreeAt w B (.slice (some ⟨g, 0, none⟩) n cap) ns most) (hn : ns.length = n) {i j : Nat} {a b : ANode} {x : Value} (hi : ns[i]? = some a) (hj : j < 10) (he : jcells b = (jcells a).set j x) :
    TreeAt (w.setCell ⟨g, i * 10 + j, none⟩ x) B (.slice (some ⟨g, 0, none⟩) n cap) (ns.set i b) most := by
 subst hn
 have hl := h.own.lt g rfl
 refine ⟨by rw [Below.heap_setCell _ _ _ _ (show B ≠ g by omega)]; exact h.box, ?_⟩
 rw [List.length_set]
 exact row_store jcells_length h.own hi hj he
theorem TreeAt.nd (h : TreeAt w B (.slice (some ⟨g, 0, none⟩) n cap) ns most) (hn : ns.length = n) {i : Nat} {a : ANode} (hi : ns[i]? = some a) (j : Nat) (hj : j < 10) : w.cell? ⟨g, i * 10 + j, none⟩ = (jcells a)[j]? := by
 subst hn; exact h.node hi j hj
theorem TreeAt.frozen (h : TreeAt w B (.slice (some ⟨g, 0, none⟩) n cap) ns most) (hn : ns.length = n) (j : Nat) : w.frozen? ⟨g, j, none⟩ = false := by
 subst hn; exact h.own.frozenAt j
theorem TreeAt.frozenB {v : Value} (h : TreeAt w B v ns most) (j : Nat) : w.frozen? ⟨B, j, none⟩ = false := frozen_of_row w B j _ _ h.box
end
theorem deep_le {ns : List ANode} {ups : List Nat} (hg : GoodN ns ups) (hw : WfUps ups) : ∀ (i : Nat) (a : ANode), ns[i]? = some a → 0 ≤ a.deep ∧ a.deep ≤ i
 | 0, a, h => by rw [hg.deep0 a h]; simp
 | i + 1, a, h => by
   have hi : i + 1 < ups.length := by rw [← hg.len]; exact (List.getElem?_eq_some_iff.1 h).1
   obtain ⟨u, hu⟩ := get_ex ups (i + 1) hi
   have hlt := hw (i + 1) u (by omega) hu
   obtain ⟨b, hb⟩ := get_ex ns u (by rw [hg.len]; omega)
   have := deep_le hg hw u b hb
   rw [hg.deep (i + 1) u a b (by omega) hu h hb]
   omega
termination_by i => i
theorem kids_le (ups : List Nat) (i : Nat) : (kids ups i).length ≤ ups.length := by
 have := List.length_filter_le (fun j => decide (ups[j]? = some i)) (List.range' 1 (ups.length - 1))
 unfold kids
 simp at this ⊢
 omega
theorem lastI_cases {ups : List Nat} (hw : WfUps ups) (u : Nat) : lastI (kids ups u) = -1 ∨ ∃ l : Nat, lastI (kids ups u) = l ∧ l < ups.length ∧ u < l := by
 by_cases h : kids ups u = []
 · left; rw [h]; rfl
 · right
   obtain ⟨A, k, hk⟩ := last_split h
   refine ⟨k, by rw [hk, lastI_snoc], ?_⟩
   have hm : k ∈ kids ups u := by rw [hk]; simp
   exact ⟨(mem_kids.1 hm).2.1, kids_gt hw hm⟩
theorem modify_set {α : Type} (l : List α) (i : Nat) (f : α → α) (a : α) (h : l[i]? = some a) : l.modify i f = l.set i (f a) := by
 apply List.ext_getElem?
 intro j
 rw [List.getElem?_modify]
 by_cases e : i = j
 · subst e
   rw [h, List.getElem?_set_self (List.getElem?_eq_some_iff.1 h).1]; simp
 · rw [List.getElem?_set_ne e]; simp [e]
theorem addN_first {ns : List ANode} {u : Nat} {v : Value} {a : ANode} (ha : ns[u]? = some a) (hl : a.last = -1) :
    addN ns u v = ((((ns.set u { a with first := ns.length }).set u { a with first := ns.length, last := ns.length }).set u { a with first := ns.length, last := ns.length, count := a.count + 1 }) ++ [⟨v, u, -1, -1, -1, a.deep + 1, 0⟩]) := by
 have hu := (List.getElem?_eq_some_iff.1 ha).1
 simp only [addN, ha]
 rw [if_pos hl, modify_set _ u _ { a with first := ns.length } (List.getElem?_set_self hu)]
 simp
theorem addN_next {ns : List ANode} {u l : Nat} {v : Value} {a b : ANode} (ha : ns[u]? = some a) (hl : a.last = l) (hb : ns[l]? = some b) (hne : u ≠ l) :
    addN ns u v = ((((ns.set l { b with next := ns.length }).set u { a with last := ns.length }).set u { a with last := ns.length, count := a.count + 1 }) ++ [⟨v, u, -1, -1, -1, a.deep + 1, 0⟩]) := by
 simp only [addN, ha, hl]
 rw [if_neg (by omega), Int.toNat_natCast, modify_set _ l _ b hb, modify_set _ u _ a (by rw [List.getElem?_set_ne (fun e => hne e.symm)]; exact ha)]
 simp
end
section
open Go.RowKit
theorem infoNode : (Tryz.prog.info? 228).map (fun i => (i.zero, i.size, i.bytes)) = some (some (.agg #[.int .i64 0, .string ⟨#[]⟩, .string ⟨#[]⟩, .int .i64 0, .int .i64 0, .int .i64 0, .int .i64 0, .int .i64 0, .int .i64 0, .int .i64 0]), 10, 96) := by kernel_rfl
def AddPost (B : Nat) (v : Value) (ns : List ANode) (most : Int) (w : World) (e : Ending) (w' : World) (n : Nat) : Prop :=
 ∃ v', e = .returned (.tuple #[.int .i64 n, .nilIface]) ∧ TreeAt w' B v' ns most ∧ Only (TB B v) w w' ∧ (∀ g, v'.ownBlock = some g → v.ownBlock = some g ∨ w.heap.size ≤ g)
theorem AddPost.up {B : Nat} {v : Value} {ns : List ANode} {most : Int} {w0 w w' : World} {e : Ending} {n : Nat} (hO : Only (TB B v) w0 w) (h : AddPost B v ns most w e w' n) : AddPost B v ns most w0 e w' n := by
 obtain ⟨v', he, ht, ho, hg⟩ := h
 exact ⟨v', he, ht, hO.trans ho, fun g hg' => (hg g hg').imp id (fun h => Nat.le_trans hO.size h)⟩
/-- Behind the append and the store of the new slice. -/
theorem add_fin {w W3 Wx w5 : World} {B g' n cap' : Nat} {v : Value} {ns3 : List ANode} {new : ANode} {most : Int} (h3 : TreeAt W3 B v ns3 most) (o3 : Only (TB B v) w W3) (hn : ns3.length = n)
    (hz : w.heap.size ≤ W3.heap.size) (hx : Below W3.heap.size W3 Wx) (hgrow : Wx.grownBy w5 v.ownBlock)
    (hown5 : w5.ownsRow (B + 1) 228 10 (.slice (some ⟨g', 0, none⟩) (n + 1) cap') (n + 1) (ns3.flatMap jcells ++ jcells new)) (hat : v.ownBlock = some g' ∨ g' = W3.heap.size + 1) :
    AddPost B v (ns3 ++ [new]) most w (.returned (.tuple #[.int .i64 n, .nilIface])) (w5.setCell ⟨B, 0, none⟩ (.slice (some ⟨g', 0, none⟩) (n + 1) cap')) n := by
 subst hn
 have hB3 := h3.lt
 have hg' := (hown5.lt g' rfl).1
 have hbox : w5.heap[B]? = some (.cells #[v, .int .i64 most] 172 (0, 0)) := by
  rw [hgrow.block B (by have := hx.size; omega) (fun e => by have := (h3.own.lt B e.symm).1; omega), hx.block B hB3]; exact h3.box
 refine ⟨.slice (some ⟨g', 0, none⟩) (ns3.length + 1) cap', rfl, ⟨?_, ?_⟩, ?_, ?_⟩
 · rw [heap_setCell_same _ _ _ _ _ _ hbox]; simp
 · have h5 : (w5.setCell ⟨B, 0, none⟩ (.slice (some ⟨g', 0, none⟩) (ns3.length + 1) cap')).ownsRow (B + 1) 228 10 (.slice (some ⟨g', 0, none⟩) (ns3.length + 1) cap') (ns3.length + 1) (ns3.flatMap jcells ++ jcells new) :=
     aown_ext hown5 (fun k hk => by
      have : k = g' := by simpa [Value.ownBlock] using hk.symm
      subst this
      exact Below.heap_setCell _ _ _ _ (show k ≠ B by omega)) (Nat.le_refl _)
   simpa using h5
 · exact ((o3.trans (.of hx)).grown hgrow (fun k hk _ => .inr hk)).set (fun _ => .inl rfl) _
 · intro k hk
   have : k = g' := by simpa [Value.ownBlock] using hk.symm
   subst this
   rcases hat with h | h
   · exact .inl h
   · right; omega
set_option maxRecDepth 100000 in
set_option maxHeartbeats 8000000 in
theorem add_ok (B : Nat) (v : Value) (ns : List ANode) (ups : List Nat) (most : Int) (u : Nat) (x : JN) (w0 : World) (h0_ : TreeAt w0 B v ns most) (hg : GoodN ns ups) (hw : WfUps ups) (hu : u < ups.length) (hmost : ns.length < most) (hm : ns.length ≤ 1100000) :
    Calls Tryz.prog 123 #[.pointer (some ⟨B, 0, none⟩), .int .i64 u, .agg #[.int .i64 x.kind, .string x.key, .string x.text, .int .i64 x.at_]] w0 fun e w' => AddPost B v (addN ns u x.val) most w0 e w' ns.length := by
 obtain ⟨w, hbx⟩ : ∃ W, w0.alloc (.cells #[.int .i64 x.kind, .string x.key, .string x.text, .int .i64 x.at_] 117) = W := ⟨_, rfl⟩
 have h : TreeAt w B v ns most := h0_.below (by rw [← hbx]; exact ext_alloc (Below.refl _ _) _)
 have bx : ∀ o, w.cell? ⟨w0.heap.size, o, none⟩ = (#[.int .i64 x.kind, .string x.key, .string x.text, .int .i64 x.at_] : Array Value)[o]? := fun o => by rw [← hbx]; simp
 have HOB : Hid (Only (TB B v) w0 w) := Lib.hid (by rw [← hbx]; exact (Only.refl _ _).alloc _)
 clear h0_
 have hlen := hg.len
 have HH := Lib.hid (has_id B v ns most u w h)
 obtain ⟨g, cap, rfl, hBg, hgw⟩ := h.form1 (by omega)
 have c0 := h.cell0
 have c1 := h.cell1
 have hBw := h.lt
 obtain ⟨a, ha⟩ := get_ex ns u (by omega)
 have hd := deep_le hg hw u a ha
 have hc := hg.count u a ha
 have hcl := kids_le ups u
 rw [← hlen] at hcl
 have t : decide (0 ≤ (u : Int) ∧ (u : Int) < (ns.length : Int)) = true := decide_eq_true (by omega)
 have t2 : decide (most ≤ (ns.length : Int)) = false := decide_eq_false (by omega)
 have t3 : decide (0 < (ns.length : Int)) = true := decide_eq_true (by omega)
 have n5 := h.n5 ha
 obtain ⟨W0, hW0⟩ : ∃ W, w.alloc (.cells #[.int .i64 x.kind, .string x.key, .string x.text, .int .i64 x.at_, .int .i64 u, .int .i64 (-1), .int .i64 (-1), .int .i64 (-1), .int .i64 (a.deep + 1), .int .i64 0] 228) = W := ⟨_, rfl⟩
 have h0 : TreeAt W0 B (.slice (some ⟨g, 0, none⟩) ns.length cap) ns most := h.below (by rw [← hW0]; exact ext_alloc (Below.refl _ _) _)
 have d0 : ∀ o, W0.cell? ⟨w.heap.size, o, none⟩ = #[.int .i64 x.kind, .string x.key, .string x.text, .int .i64 x.at_, .int .i64 u, .int .i64 (-1), .int .i64 (-1), .int .i64 (-1), .int .i64 (a.deep + 1), .int .i64 0][o]? := fun o => by rw [← hW0]; simp
 have z0 : W0.heap.size = w.heap.size + 1 := by rw [← hW0]; simp
 have o0 : Only (TB B (.slice (some ⟨g, 0, none⟩) ns.length cap)) w W0 := by rw [← hW0]; exact (Only.refl _ _).alloc _
 have k3 := h0.n3 ha
 have e0 := h0.cell0
 have hun := (List.getElem?_eq_some_iff.1 ha).1
 have hne : g ≠ w.heap.size := by omega
 have k0 : ∀ j, TB B (.slice (some ⟨g, 0, none⟩) ns.length cap) (⟨g, j, none⟩ : Addr).block := fun j => .inr rfl
 rcases lastI_cases hw u with hl | ⟨l, hl, hlu, hul⟩
 · rw [← hg.last u a ha] at hl
   rw [hl] at k3
   obtain ⟨W1, hW1⟩ : ∃ W, W0.setCell ⟨g, u * 10 + 5, none⟩ (.int .i64 ns.length) = W := ⟨_, rfl⟩
   obtain ⟨W2, hW2⟩ : ∃ W, W1.setCell ⟨g, u * 10 + 6, none⟩ (.int .i64 ns.length) = W := ⟨_, rfl⟩
   obtain ⟨W3, hW3⟩ : ∃ W, W2.setCell ⟨g, u * 10 + 9, none⟩ (.int .i64 (a.count + 1)) = W := ⟨_, rfl⟩
   have h1 := h0.set rfl (j := 5) (b := { a with first := ns.length }) (x := .int .i64 ns.length) ha (by decide) (jcells_set _ _ 1 _ rfl rfl)
   have u2 : (ns.set u { a with first := ns.length })[u]? = some { a with first := ns.length } := List.getElem?_set_self hun
   rw [hW1] at h1
   have h2 := h1.set (by simp) (j := 6) (b := { a with first := ns.length, last := ns.length }) (x := .int .i64 ns.length) u2 (by decide) (jcells_set _ _ 2 _ rfl rfl)
   have u3 : ((ns.set u { a with first := ns.length }).set u { a with first := ns.length, last := ns.length })[u]? = some { a with first := ns.length, last := ns.length } := List.getElem?_set_self (by simpa using hun)
   rw [hW2] at h2
   have h3 := h2.set (by simp) (j := 9) (b := { a with first := ns.length, last := ns.length, count := a.count + 1 }) (x := .int .i64 (a.count + 1)) u3 (by decide) (jcells_set _ _ 5 _ rfl rfl)
   rw [hW3] at h3
   have q0 : W0.cell? ⟨g, u * 10 + 5, none⟩ = some (.int .i64 a.first) := h0.n2 ha
   have f0 := h0.frozen rfl (u * 10 + 5)
   have q1 : W1.cell? ⟨g, u * 10 + 6, none⟩ = some (.int .i64 a.last) := (h1.nd (by simp) u2 6 (by decide)).trans (jcells_tail _ 2)
   have f1 := h1.frozen (by simp) (u * 10 + 6)
   have q2 : W2.cell? ⟨g, u * 10 + 9, none⟩ = some (.int .i64 a.count) := (h2.nd (by simp) u3 9 (by decide)).trans (jcells_tail _ 5)
   have f2 := h2.frozen (by simp) (u * 10 + 9)
   have e3 := h3.cell0
   have fB := h3.frozenB 0
   have d3 : ∀ o, W3.cell? ⟨w.heap.size, o, none⟩ = #[.int .i64 x.kind, .string x.key, .string x.text, .int .i64 x.at_, .int .i64 u, .int .i64 (-1), .int .i64 (-1), .int .i64 (-1), .int .i64 (a.deep + 1), .int .i64 0][o]? := fun o => by
    rw [← hW3, ← hW2, ← hW1, cell_keep (Below.heap_setCell _ _ _ _ hne.symm), cell_keep (Below.heap_setCell _ _ _ _ hne.symm), cell_keep (Below.heap_setCell _ _ _ _ hne.symm)]
    exact d0 o
   have z3 : W3.heap.size = w.heap.size + 1 := by rw [← hW3, ← hW2, ← hW1]; simpa using z0
   have o3 : Only (TB B (.slice (some ⟨g, 0, none⟩) ns.length cap)) w W3 := by
    rw [← hW3, ← hW2, ← hW1]; exact ((o0.set (fun _ => k0 _) _).set (fun _ => k0 _) _).set (fun _ => k0 _) _
   have ea := addN_first (v := x.val) ha hl
   rw [hc] at q2
   have hW3' := hW3
   rw [hc] at hW3'
   have ho3 := h3.own
   simp only [List.length_set] at ho3
   have HO3 := Lib.hid ho3
   clear ho3
   have y1 : B < W3.heap.size := by omega
   have y2 : g < W3.heap.size := by omega
   have HZ3 := Lib.hid z3; clear z3
   have H3 := Lib.hid h3; have O3 := Lib.hid o3; have EA := Lib.hid ea; have HD0 := Lib.hid d0
   clear h h0 h1 h2 h3 o3 ea d0 o0 hg hw ha u2 u3 hc k0 hW3 hlen
   go_enter Tryz.func123, Tryz.ntmps123
   go_wp2_with fail
   clear hbx
   refine HH.out.mono ?_
   rintro e w1 ⟨rfl, rfl⟩
   rw [t]
   clear t
   go_wp2_with fail
   obtain ⟨i0, hi0, hz0, hz1, hz2⟩ := info_parts infoNode
   go_region_law ((refine step_append_lies _ (by rfl) _ _ _ (by rfl) (B + 1) 228 i0 _ 10 96 Tryz.underlying170 hi0 hz0 hz1 hz2 rfl (by omega) (.slice (some ⟨g, 0, none⟩) ns.length cap) ns.length _ (by rfl) (by first | exact HO3.out.alloc _ | exact (HO3.out.alloc _).drew | exact HO3.out.drew.alloc _) ⟨W3.heap.size, 0, none⟩ 1 1 [.int .i64 x.kind, .string x.key, .string x.text, .int .i64 x.at_, .int .i64 u, .int .i64 (-1), .int .i64 (-1), .int .i64 (-1), .int .i64 (a.deep + 1), .int .i64 0] (by rfl) (by rfl) (World.news_of_block (cs := #[.int .i64 x.kind, .string x.key, .string x.text, .int .i64 x.at_, .int .i64 u, .int .i64 (-1), .int .i64 (-1), .int .i64 (-1), .int .i64 (a.deep + 1), .int .i64 0]) (t := 228) (fr := (0, 0)) (heap_alloc_new W3 _)) (by simp [Value.oneCell']) (by omega) (by simp [maxLen]; omega) (by omega) (by simp; omega) (W3.heap.size + 1) (by simp) ?_; intro g' cap' w5 hown5 hgrow hat hlt; have b5 := hgrow.cell_far (a := ⟨B, 0, none⟩) (by simp; omega) (by simp [Value.ownBlock]; omega); have c5 := hgrow.frozen_far (a := ⟨B, 0, none⟩) (by simp; omega) (by simp [Value.ownBlock]; omega)))
   all_goals go_wp2
   all_goals go_ret2
   all_goals
    rw [EA.out]
    exact AddPost.up HOB.out <| add_fin H3.out O3.out (by simp) (by have := HZ3.out; omega) (by first | exact ext_alloc (Below.refl _ _) _ | exact ⟨rfl, rfl, rfl, by simp, fun k hk => Below.heap_alloc W3 _ k hk⟩) hgrow hown5 hat
 · rw [← hg.last u a ha] at hl
   rw [hl] at k3
   obtain ⟨b, hb⟩ := get_ex ns l (by omega)
   have hlun : l < ns.length := by omega
   have tl : ((l : Int) == -1) = false := beq_eq_false_iff_ne.2 (by omega)
   obtain ⟨W1, hW1⟩ : ∃ W, W0.drew.setCell ⟨g, l * 10 + 7, none⟩ (.int .i64 ns.length) = W := ⟨_, rfl⟩
   obtain ⟨W2, hW2⟩ : ∃ W, W1.setCell ⟨g, u * 10 + 6, none⟩ (.int .i64 ns.length) = W := ⟨_, rfl⟩
   obtain ⟨W3, hW3⟩ : ∃ W, W2.setCell ⟨g, u * 10 + 9, none⟩ (.int .i64 (a.count + 1)) = W := ⟨_, rfl⟩
   have h0' : TreeAt W0.drew B (.slice (some ⟨g, 0, none⟩) ns.length cap) ns most := ⟨h0.box, h0.own.drew⟩
   have h1 := h0'.set rfl (j := 7) (b := { b with next := ns.length }) (x := .int .i64 ns.length) hb (by decide) (jcells_set _ _ 3 _ rfl rfl)
   have u2 : (ns.set l { b with next := ns.length })[u]? = some a := by rw [List.getElem?_set_ne (by omega)]; exact ha
   rw [hW1] at h1
   have h2 := h1.set (by simp) (j := 6) (b := { a with last := ns.length }) (x := .int .i64 ns.length) u2 (by decide) (jcells_set _ _ 2 _ rfl rfl)
   have u3 : ((ns.set l { b with next := ns.length }).set u { a with last := ns.length })[u]? = some { a with last := ns.length } := List.getElem?_set_self (by simpa using hun)
   rw [hW2] at h2
   have h3 := h2.set (by simp) (j := 9) (b := { a with last := ns.length, count := a.count + 1 }) (x := .int .i64 (a.count + 1)) u3 (by decide) (jcells_set _ _ 5 _ rfl rfl)
   rw [hW3] at h3
   have q0 : W0.cell? ⟨g, l * 10 + 7, none⟩ = some (.int .i64 b.next) := h0.n4 hb
   have f0 := h0.frozen rfl (l * 10 + 7)
   have q1 : W1.cell? ⟨g, u * 10 + 6, none⟩ = some (.int .i64 a.last) := (h1.nd (by simp) u2 6 (by decide)).trans (jcells_tail _ 2)
   have f1 := h1.frozen (by simp) (u * 10 + 6)
   have q2 : W2.cell? ⟨g, u * 10 + 9, none⟩ = some (.int .i64 a.count) := (h2.nd (by simp) u3 9 (by decide)).trans (jcells_tail _ 5)
   have f2 := h2.frozen (by simp) (u * 10 + 9)
   have e3 := h3.cell0
   have fB := h3.frozenB 0
   have d3 : ∀ o, W3.cell? ⟨w.heap.size, o, none⟩ = #[.int .i64 x.kind, .string x.key, .string x.text, .int .i64 x.at_, .int .i64 u, .int .i64 (-1), .int .i64 (-1), .int .i64 (-1), .int .i64 (a.deep + 1), .int .i64 0][o]? := fun o => by
    rw [← hW3, ← hW2, ← hW1, cell_keep (Below.heap_setCell _ _ _ _ hne.symm), cell_keep (Below.heap_setCell _ _ _ _ hne.symm), cell_keep (Below.heap_setCell _ _ _ _ hne.symm)]
    exact d0 o
   have z3 : W3.heap.size = w.heap.size + 1 := by rw [← hW3, ← hW2, ← hW1]; simpa using z0
   have o3 : Only (TB B (.slice (some ⟨g, 0, none⟩) ns.length cap)) w W3 := by
    rw [← hW3, ← hW2, ← hW1]; exact (((o0.trans (.of ⟨rfl, rfl, rfl, Nat.le_refl _, fun _ _ => rfl⟩ : Only _ W0 W0.drew)).set (fun _ => k0 _) _).set (fun _ => k0 _) _).set (fun _ => k0 _) _
   have ea := addN_next (v := x.val) ha hl hb (by omega)
   rw [hc] at q2
   have hW3' := hW3
   rw [hc] at hW3'
   have ho3 := h3.own
   simp only [List.length_set] at ho3
   have HO3 := Lib.hid ho3
   clear ho3
   have y1 : B < W3.heap.size := by omega
   have y2 : g < W3.heap.size := by omega
   have HZ3 := Lib.hid z3; clear z3
   have H3 := Lib.hid h3; have O3 := Lib.hid o3; have EA := Lib.hid ea; have HD0 := Lib.hid d0
   clear h h0 h1 h2 h3 o3 ea d0 o0 hg hw ha u2 u3 hc k0 hW3 hlen
   go_enter Tryz.func123, Tryz.ntmps123
   go_wp2_with fail
   clear hbx
   refine HH.out.mono ?_
   rintro e w1 ⟨rfl, rfl⟩
   rw [t]
   clear t
   go_wp2_with fail
   go_region
   go_wp2_with fail
   obtain ⟨i0, hi0, hz0, hz1, hz2⟩ := info_parts infoNode
   go_region_law ((refine step_append_lies _ (by rfl) _ _ _ (by rfl) (B + 1) 228 i0 _ 10 96 Tryz.underlying170 hi0 hz0 hz1 hz2 rfl (by omega) (.slice (some ⟨g, 0, none⟩) ns.length cap) ns.length _ (by rfl) (by first | exact HO3.out.alloc _ | exact (HO3.out.alloc _).drew | exact HO3.out.drew.alloc _) ⟨W3.heap.size, 0, none⟩ 1 1 [.int .i64 x.kind, .string x.key, .string x.text, .int .i64 x.at_, .int .i64 u, .int .i64 (-1), .int .i64 (-1), .int .i64 (-1), .int .i64 (a.deep + 1), .int .i64 0] (by rfl) (by rfl) (World.news_of_block (cs := #[.int .i64 x.kind, .string x.key, .string x.text, .int .i64 x.at_, .int .i64 u, .int .i64 (-1), .int .i64 (-1), .int .i64 (-1), .int .i64 (a.deep + 1), .int .i64 0]) (t := 228) (fr := (0, 0)) (heap_alloc_new W3 _)) (by simp [Value.oneCell']) (by omega) (by simp [maxLen]; omega) (by omega) (by simp; omega) (W3.heap.size + 1) (by simp) ?_; intro g' cap' w5 hown5 hgrow hat hlt; have b5 := hgrow.cell_far (a := ⟨B, 0, none⟩) (by simp; omega) (by simp [Value.ownBlock]; omega); have c5 := hgrow.frozen_far (a := ⟨B, 0, none⟩) (by simp; omega) (by simp [Value.ownBlock]; omega)))
   all_goals go_wp2
   all_goals go_ret2
   all_goals
    rw [EA.out]
    exact AddPost.up HOB.out <| add_fin H3.out O3.out (by simp) (by have := HZ3.out; omega) (by first | exact ext_alloc (Below.refl _ _) _ | exact ⟨rfl, rfl, rfl, by simp, fun k hk => Below.heap_alloc W3 _ k hk⟩) hgrow hown5 hat
end
section
open Go.RowKit
theorem new_any (m : Int) (w : World) : Calls Tryz.prog 48 #[.int .i64 m] w fun e w' => e = .returned (.pointer (some ⟨w.heap.size, 0, none⟩)) ∧ w' = w.alloc (.cells #[.slice none 0 0, .int .i64 m] 172) := by
 go_enter Tryz.func48, Tryz.ntmps48
 go_wp2
 go_ret
 exact ⟨rfl, rfl⟩
theorem TreeAt.new (m : Int) (w : World) : TreeAt (w.alloc (.cells #[.slice none 0 0, .int .i64 m] 172)) w.heap.size (.slice none 0 0) [] m :=
 ⟨heap_alloc_new w _, World.ownsRow_nil _ _ _ _⟩
set_option maxRecDepth 100000 in
set_option maxHeartbeats 8000000 in
theorem add_root (B : Nat) (most : Int) (x : JN) (w0 : World) (h0_ : TreeAt w0 B (.slice none 0 0) [] most) (hmost : 0 < most) :
    Calls Tryz.prog 123 #[.pointer (some ⟨B, 0, none⟩), .int .i64 (-1), .agg #[.int .i64 x.kind, .string x.key, .string x.text, .int .i64 x.at_]] w0 fun e w' => AddPost B (.slice none 0 0) [root x.val] most w0 e w' 0 := by
 obtain ⟨w, hbx⟩ : ∃ W, w0.alloc (.cells #[.int .i64 x.kind, .string x.key, .string x.text, .int .i64 x.at_] 117) = W := ⟨_, rfl⟩
 have h : TreeAt w B (.slice none 0 0) [] most := h0_.below (by rw [← hbx]; exact ext_alloc (Below.refl _ _) _)
 have bx : ∀ o, w.cell? ⟨w0.heap.size, o, none⟩ = (#[.int .i64 x.kind, .string x.key, .string x.text, .int .i64 x.at_] : Array Value)[o]? := fun o => by rw [← hbx]; simp
 have HOB : Hid (Only (TB B (.slice none 0 0)) w0 w) := Lib.hid (by rw [← hbx]; exact (Only.refl _ _).alloc _)
 clear h0_
 have HH := Lib.hid (has_id B _ [] most (-1) w h)
 have c0 := h.cell0
 have c1 := h.cell1
 have hBw := h.lt
 have t2 : decide (most ≤ (0 : Int)) = false := decide_eq_false (by omega)
 obtain ⟨W3, hW3⟩ : ∃ W, w.alloc (.cells #[.int .i64 x.kind, .string x.key, .string x.text, .int .i64 x.at_, .int .i64 (-1), .int .i64 (-1), .int .i64 (-1), .int .i64 (-1), .int .i64 0, .int .i64 0] 228) = W := ⟨_, rfl⟩
 have h3 : TreeAt W3 B (.slice none 0 0) [] most := h.below (by rw [← hW3]; exact ext_alloc (Below.refl _ _) _)
 have d3 : ∀ o, W3.cell? ⟨w.heap.size, o, none⟩ = #[.int .i64 x.kind, .string x.key, .string x.text, .int .i64 x.at_, .int .i64 (-1), .int .i64 (-1), .int .i64 (-1), .int .i64 (-1), .int .i64 0, .int .i64 0][o]? := fun o => by rw [← hW3]; simp
 have z3 : W3.heap.size = w.heap.size + 1 := by rw [← hW3]; simp
 have o3 : Only (TB B (.slice none 0 0)) w W3 := by rw [← hW3]; exact (Only.refl _ _).alloc _
 have e3 := h3.cell0
 have fB := h3.frozenB 0
 have y1 : B < W3.heap.size := by omega
 have HZ3 := Lib.hid z3; clear z3
 have HO3 := Lib.hid h3.own
 have H3 := Lib.hid h3; have O3 := Lib.hid o3
 clear h h3 o3
 subst hW3
 have HD3 := Lib.hid d3
 clear d3
 go_enter Tryz.func123, Tryz.ntmps123
 go_wp2_with fail
 clear hbx
 refine HH.out.mono ?_
 rintro e w1 ⟨rfl, rfl⟩
 rw [show decide ((0 : Int) ≤ -1 ∧ (-1 : Int) < (([] : List ANode).length : Int)) = false from rfl]
 go_wp2_with fail
 generalize (w.alloc (.cells #[.int .i64 x.kind, .string x.key, .string x.text, .int .i64 x.at_, .int .i64 (-1), .int .i64 (-1), .int .i64 (-1), .int .i64 (-1), .int .i64 0, .int .i64 0] 228)) = W3 at *
 have d3 := HD3.out
 obtain ⟨i0, hi0, hz0, hz1, hz2⟩ := info_parts infoNode
 go_region_law ((refine step_append_lies _ (by rfl) _ _ _ (by rfl) (B + 1) 228 i0 _ 10 96 Tryz.underlying170 hi0 hz0 hz1 hz2 rfl (by omega) (.slice none 0 0) 0 _ (by rfl) (by first | exact HO3.out.alloc _ | exact (HO3.out.alloc _).drew | exact HO3.out.drew.alloc _) ⟨W3.heap.size, 0, none⟩ 1 1 [.int .i64 x.kind, .string x.key, .string x.text, .int .i64 x.at_, .int .i64 (-1), .int .i64 (-1), .int .i64 (-1), .int .i64 (-1), .int .i64 0, .int .i64 0] (by rfl) (by rfl) (World.news_of_block (cs := #[.int .i64 x.kind, .string x.key, .string x.text, .int .i64 x.at_, .int .i64 (-1), .int .i64 (-1), .int .i64 (-1), .int .i64 (-1), .int .i64 0, .int .i64 0]) (t := 228) (fr := (0, 0)) (heap_alloc_new W3 _)) (by simp [Value.oneCell']) (by omega) (by simp [maxLen]) (by omega) (by simp; omega) (W3.heap.size + 1) (by simp) ?_; intro g' cap' w5 hown5 hgrow hat hlt; have b5 := hgrow.cell_far (a := ⟨B, 0, none⟩) (by simp; omega) (by simp [Value.ownBlock]); have c5 := hgrow.frozen_far (a := ⟨B, 0, none⟩) (by simp; omega) (by simp [Value.ownBlock])))
 all_goals go_wp2
 all_goals go_ret2
 all_goals exact AddPost.up HOB.out <| add_fin (new := root x.val) H3.out O3.out rfl (by have := HZ3.out; omega) (by first | exact ext_alloc (Below.refl _ _) _ | exact ⟨rfl, rfl, rfl, by simp, fun k hk => Below.heap_alloc W3 _ k hk⟩) hgrow hown5 hat
end
section
open Go.RowKit
def sliceLen : Value → Nat
 | .slice _ n _ => n
 | _ => 0
def KdRel (ups : List Nat) (i : Nat) (W : World) (v k : Value) (wr : World) : Prop := ∃ A l : List Nat, k = .int .i64 (headI l) ∧ wr.ownsRow W.heap.size 3 1 v A.length (intsV A) ∧ kids ups i = A ++ l ∧ Below W.heap.size W wr
set_option maxRecDepth 100000 in
set_option maxHeartbeats 4000000 in
theorem kids_any (B : Nat) (v : Value) (ns : List ANode) (ups : List Nat) (most : Int) (e : Nat) (w : World) (h : TreeAt w B v ns most) (hg : GoodN ns ups) (he : e < ups.length) (hm : ns.length ≤ 1100000) :
    Calls Tryz.prog 92 #[.pointer (some ⟨B, 0, none⟩), .int .i64 e] w fun ev w' => ∃ v', ev = .returned v' ∧ Rd (Fresh w w') w' v' (intsD (kids ups e)) ∧ Below w.heap.size w w' := by
 have hlen := hg.len
 have HH := Lib.hid (has_id B v ns most e w h)
 obtain ⟨g, cap, rfl, hBg, hgw⟩ := h.form1 (by omega)
 have c0 := h.cell0
 have hBw := h.lt
 obtain ⟨a, ha⟩ := get_ex ns e (by omega)
 have n2 := h.n2 ha
 have n6 := h.n6 ha
 rw [hg.first e a ha] at n2
 rw [hg.count e a ha] at n6
 have hkl := kids_le ups e
 have hkl2 : (kids ups e).length ≤ 1100000 := by omega
 have t : decide (0 ≤ (e : Int) ∧ (e : Int) < (ns.length : Int)) = true := decide_eq_true (by omega)
 have hen : e < ns.length := by omega
 obtain ⟨i0, hi0, hz0, hz1, hz2⟩ := info_parts elInt.hi
 obtain ⟨W1, hmk, hown, hgr⟩ := run_make_own (P := Tryz.prog) w w.heap.size 106 3 i0 _ 1 Tryz.underlying106 hi0 hz0 hz1 .i64 .i64 (kids ups e).length (by rw [hz2]; omega) (by simp [maxLen]; omega) (Nat.le_refl _)
 have hb1 : Below w.heap.size w W1 := (Below.refl _ w).grown hgr (Nat.le_refl _) (fun k hk => by cases hk)
 have h1 := h.below hb1
 have e0 := h1.cell0
 have e2 := h1.n2 ha
 rw [hg.first e a ha] at e2
 have R0 : KdRel ups e w (.slice (some ⟨w.heap.size, 0, none⟩) 0 (kids ups e).length) (.int .i64 (headI (kids ups e))) W1 := ⟨[], kids ups e, rfl, hown, rfl, hb1⟩
 have H := Lib.hid h; have HG := Lib.hid hg; have HR0 := Lib.hid R0; have HLEN := Lib.hid hlen
 clear h hg ha hgr hown h1 R0 hlen hz0 hz1 hz2 hi0
 go_enter Tryz.func92, Tryz.ntmps92
 go_wp2_with fail
 refine HH.out.mono ?_
 rintro ev w1 ⟨rfl, rfl⟩
 rw [t]
 clear t
 go_wp2_with fail
 go_loopw [5, 6] (KdRel ups e w) (fun v _ _ => (kids ups e).length - sliceLen v)
 case atStart => exact HR0.out
 case round =>
  obtain ⟨A, l, rfl, ho, hal, hb⟩ := hrel
  have hal' := congrArg List.length hal
  rw [List.length_append] at hal'
  cases l with
  | nil =>
    rw [List.append_nil] at hal
    subst hal
    have hr : Rd (Fresh w wr) wr u5 (intsD (kids ups e)) := rd_owned ho (intsV_rds _) (fun g hg => ho.lt g hg)
    obtain ⟨ao, cap', rfl, _⟩ := aown_form ho
    have HR := Lib.hid hr; have HB := Lib.hid hb
    clear hr hb ho hal' hmk c0 n2 n6 e0 e2
    rw [headI_nil]
    go_wp2
    go_ret
    exact ⟨_, rfl, HR.out, HB.out⟩
  | cons k l =>
    rw [headI_cons]
    have t : ((k : Int) != -1) = true := bne_iff_ne.2 (by omega)
    obtain ⟨ao, cap', rfl, _⟩ := aown_form ho
    rw [List.length_cons] at hal'
    have hq : A.length + 1 ≤ (kids ups e).length := by omega
    have hkm : k ∈ kids ups e := by rw [hal]; simp
    have hkn : k < ns.length := by rw [HLEN.out]; exact (mem_kids.1 hkm).2.1
    have HO := Lib.hid ho; have HB := Lib.hid hb; have HA := Lib.hid hal
    clear ho hb hal hal' hmk c0 n2 n6 e0 e2
    go_wp2_with (at_builtin; refine wpList_app1 wr #[.int .i64 k] _ rfl _ _ 106 rfl w.heap.size elInt _ _ _ rfl HO.out rfl rfl ?c1 ?c2 ?c3 ?c4 ?_)
    case c1 => first | rfl | (intro u hu; simp at hu; subst hu; rfl)
    case c2 => simp [maxLen]; omega
    case c3 => omega
    case c4 => exact HB.out.size
    intro v2 w2 ho2 hg2
    have hb2 : Below w.heap.size w w2 := (ext_alloc HB.out (.cells #[.int .i64 k] 3)).grown hg2 (ext_alloc HB.out (.cells #[.int .i64 k] 3)).size (fun j hj => (HO.out.lt j hj).1)
    have h2 := H.out.below hb2
    obtain ⟨b, hbn⟩ := get_ex ns k hkn
    have c0 := h2.cell0
    have n4 := h2.n4 hbn
    rw [HG.out.next k b hbn, next_kid HA.out] at n4
    have zz : g < w2.heap.size := by have := hb2.size; omega
    obtain ⟨ao2, cap2, rfl, _⟩ := aown_form ho2
    have R : KdRel ups e w (.slice ao2 (A.length + 1) cap2) (.int .i64 (headI l)) w2 := ⟨A ++ [k], l, rfl, by simpa [intsV] using ho2, by rw [HA.out]; simp, hb2⟩
    have HR := Lib.hid R
    clear R h2 hbn hg2 ho2 hb2
    go_wp2
    refine ⟨?_, by simp [sliceLen]; omega⟩
    have R := HR.out
    first | exact R | ((repeat apply Exists.intro); exact ⟨R, rfl⟩)
end
end Go.Proofs.YtcaiibkgajhohaaGreatDoor
