/- A tree in memory; the walks that only read it. -/
import Derived.Test.YtmdalkjhlhkloaaDoorOwn0
import Derived.Test.YtmdalkjhlhkloaaDoorArena1
import Derived.Test.YtmdalkjhlhkloaaDoorProg
import Derived.Deep.RegionHeld3
import Derived.Deep.AppendLies
namespace Go.Proofs.YtmdalkjhlhkloaaDoor.S
open Go.RowKit Go.Proofs.YtmdalkjhlhkloaaDoor
/-- A tree lies at block B: its nodes are the slice v. -/
structure TreeAt (w : World) (B : Nat) (v : Value) (ns : List ANode) (most : Int) : Prop where
  box : w.heap[B]? = some (.cells #[v, .int .i64 most] 179 (0, 0))
  own : w.ownsRow (B + 1) 181 7 v ns.length (ns.flatMap ANode.cells)
def TB (B : Nat) (v : Value) : Nat → Prop := fun k => k = B ∨ v.ownBlock = some k
section
variable {w w' : World} {B : Nat} {v : Value} {ns : List ANode} {most : Int}
theorem TreeAt.lt (h : TreeAt w B v ns most) : B < w.heap.size := (Array.getElem?_eq_some_iff.1 h.box).1
theorem TreeAt.cell0 (h : TreeAt w B v ns most) : w.cell? ⟨B, 0, none⟩ = some v := by simp [World.cell?, h.box]
theorem TreeAt.cell1 (h : TreeAt w B v ns most) : w.cell? ⟨B, 1, none⟩ = some (.int .i64 most) := by simp [World.cell?, h.box]
theorem TreeAt.ext (h : TreeAt w B v ns most) (hb : ∀ k, k < w.heap.size → TB B v k → w'.heap[k]? = w.heap[k]?) : TreeAt w' B v ns most :=
  ⟨by rw [hb B h.lt (.inl rfl)]; exact h.box, aown_ext h.own (fun g hg => hb g (h.own.lt g hg).2 (.inr hg)) (Nat.le_refl _)⟩
theorem TreeAt.below (h : TreeAt w B v ns most) (hb : Below w.heap.size w w') : TreeAt w' B v ns most := h.ext (fun k hk _ => hb.block k hk)
theorem TreeAt.form (h : TreeAt w B v ns most) : ∃ ao cap, v = .slice ao ns.length cap ∧ (ns.length = 0 ∧ ao = none ∨ ∃ g, ao = some ⟨g, 0, none⟩ ∧ B < g ∧ g < w.heap.size) := aown_form h.own
theorem TreeAt.form1 (h : TreeAt w B v ns most) (h0 : 0 < ns.length) : ∃ g cap, v = .slice (some ⟨g, 0, none⟩) ns.length cap ∧ B < g ∧ g < w.heap.size := by
  obtain ⟨ao, cap, rfl, ⟨h1, _⟩ | ⟨g, rfl, h1, h2⟩⟩ := h.form
  · omega
  · exact ⟨g, cap, rfl, h1, h2⟩
theorem TreeAt.node {g cap : Nat} (h : TreeAt w B (.slice (some ⟨g, 0, none⟩) ns.length cap) ns most) {i : Nat} {a : ANode} (hi : ns[i]? = some a) : ∀ j, j < 7 → w.cell? ⟨g, i * 7 + j, none⟩ = a.cells[j]? :=
  fun _ hj => row_cell ANode.cells_length h.own hi hj
variable {g cap i : Nat} {a : ANode}
theorem TreeAt.n0 (h : TreeAt w B (.slice (some ⟨g, 0, none⟩) ns.length cap) ns most) (hi : ns[i]? = some a) : w.cell? ⟨g, i * 7, none⟩ = some a.val := h.node hi 0 (by decide)
theorem TreeAt.n1 (h : TreeAt w B (.slice (some ⟨g, 0, none⟩) ns.length cap) ns most) (hi : ns[i]? = some a) : w.cell? ⟨g, i * 7 + 1, none⟩ = some (.int .i64 a.up) := h.node hi 1 (by decide)
theorem TreeAt.n2 (h : TreeAt w B (.slice (some ⟨g, 0, none⟩) ns.length cap) ns most) (hi : ns[i]? = some a) : w.cell? ⟨g, i * 7 + 2, none⟩ = some (.int .i64 a.first) := h.node hi 2 (by decide)
theorem TreeAt.n3 (h : TreeAt w B (.slice (some ⟨g, 0, none⟩) ns.length cap) ns most) (hi : ns[i]? = some a) : w.cell? ⟨g, i * 7 + 3, none⟩ = some (.int .i64 a.last) := h.node hi 3 (by decide)
theorem TreeAt.n4 (h : TreeAt w B (.slice (some ⟨g, 0, none⟩) ns.length cap) ns most) (hi : ns[i]? = some a) : w.cell? ⟨g, i * 7 + 4, none⟩ = some (.int .i64 a.next) := h.node hi 4 (by decide)
theorem TreeAt.n5 (h : TreeAt w B (.slice (some ⟨g, 0, none⟩) ns.length cap) ns most) (hi : ns[i]? = some a) : w.cell? ⟨g, i * 7 + 5, none⟩ = some (.int .i64 a.deep) := h.node hi 5 (by decide)
theorem TreeAt.n6 (h : TreeAt w B (.slice (some ⟨g, 0, none⟩) ns.length cap) ns most) (hi : ns[i]? = some a) : w.cell? ⟨g, i * 7 + 6, none⟩ = some (.int .i64 a.count) := h.node hi 6 (by decide)
end
theorem has_id (B : Nat) (v : Value) (ns : List ANode) (most : Int) (id : Int) (w : World) (h : TreeAt w B v ns most) :
    Calls Tryd.prog 107 #[.pointer (some ⟨B, 0, none⟩), .int .i64 id] w fun e w' => e = .returned (.bool (decide (0 ≤ id ∧ id < ns.length))) ∧ w = w' := by
  have c0 := h.cell0
  have hl := h.own.1
  obtain ⟨ao, cap, rfl, _⟩ := h.form
  clear h hl
  by_cases h0 : 0 ≤ id
  · by_cases h1 : id < ns.length
    · have e : decide (0 ≤ id ∧ id < (ns.length : Int)) = true := decide_eq_true ⟨h0, h1⟩
      rw [e]; clear e
      go_enter Tryd.func107, Tryd.ntmps107
      go_wp2
      go_ret
      exact ⟨rfl, rfl⟩
    · have e : decide (0 ≤ id ∧ id < (ns.length : Int)) = false := decide_eq_false (fun h => h1 h.2)
      rw [e]; clear e
      go_enter Tryd.func107, Tryd.ntmps107
      go_wp2
      go_ret
      exact ⟨rfl, rfl⟩
  · have e : decide (0 ≤ id ∧ id < (ns.length : Int)) = false := decide_eq_false (fun h => h0 h.1)
    rw [e]; clear e
    go_enter Tryd.func107, Tryd.ntmps107
    go_wp2
    go_ret
    exact ⟨rfl, rfl⟩
theorem headI_ne {l : List Nat} (h : l ≠ []) : (headI l == -1) = false := beq_eq_false_iff_ne.2 (fun e => h (headI_neg.1 e))
def AfRel (ups : List Nat) (e : Nat) (x : Int) (w : World) (k : Value) (wr : World) : Prop := wr = w ∧ ∃ k' : Nat, k = .int .i64 k' ∧ k' < ups.length ∧ Out ups e k' x
set_option maxRecDepth 100000 in
set_option maxHeartbeats 4000000 in
theorem after_any (B : Nat) (v : Value) (ns : List ANode) (ups : List Nat) (most : Int) (k e : Nat) (x : Int) (w : World) (h : TreeAt w B v ns most) (hg : GoodN ns ups) (hw : WfUps ups) (hk : k < ups.length) (hx : After ups e k x) (hm : ns.length ≤ 1000000) :
    Calls Tryd.prog 108 #[.pointer (some ⟨B, 0, none⟩), .int .i64 k, .int .i64 e] w fun ev w' => ev = .returned (.int .i64 x) ∧ w = w' := by
  have hlen := hg.len
  obtain ⟨g, cap, rfl, hBg, hgw⟩ := h.form1 (by omega)
  have c0 := h.cell0
  obtain ⟨a, ha⟩ := get_ex ns k (by omega)
  have n2 := h.n2 ha
  rw [hg.first k a ha] at n2
  have H := Lib.hid h; have HG := Lib.hid hg; have HW := Lib.hid hw
  clear h hg hw ha
  unfold After at hx
  split at hx
  · rename_i hk0
    rw [hk0, headI_nil] at n2
    have HX := Lib.hid hx
    clear hx hk0
    go_enter Tryd.func108, Tryd.ntmps108
    go_wp2_with fail
    go_loopw [1] (AfRel ups e x w) (fun k _ => (intOf k).toNat)
    case atStart => exact ⟨rfl, k, rfl, hk, HX.out⟩
    case round =>
      obtain ⟨rfl, k', rfl, hk', ho⟩ := hrel
      obtain ⟨b, hb⟩ := get_ex ns k' (by omega)
      have m4 := H.out.n4 hb
      have m1 := H.out.n1 hb
      rw [HG.out.next k' b hb] at m4
      cases ho with
      | stop =>
        have t : ((e : Int) != e) = false := by simp
        go_wp2
        go_ret
        exact ⟨rfl, rfl⟩
      | next hne _ hn hx =>
        have t : ((k' : Int) != e) = true := bne_iff_ne.2 (by omega)
        rw [hn] at m4
        have t2 : (x != -1) = true := bne_iff_ne.2 hx
        clear hne hn hx m1 hb
        go_wp2
        go_ret
        exact ⟨rfl, rfl⟩
      | @up _ u _ hne _ h0 hn hu ho =>
        have t : ((k' : Int) != e) = true := bne_iff_ne.2 (by omega)
        rw [hn] at m4
        rw [HG.out.up k' u b h0 hu hb] at m1
        have hlt := HW.out k' u h0 hu
        have R : AfRel ups e x wr (.int .i64 u) wr := ⟨rfl, u, rfl, by omega, ho⟩
        have HR := Lib.hid R
        clear hne hn hu ho hb R
        go_wp2
        refine ⟨?_, by simp [intOf]; omega⟩
        have R := HR.out
        first | exact R | ((repeat apply Exists.intro); exact ⟨R, rfl⟩)
  · rename_i hk0
    subst hx
    have t : (headI (kids ups k) != -1) = true := bne_iff_ne.2 (fun e => hk0 (headI_neg.1 e))
    clear hk0
    go_enter Tryd.func108, Tryd.ntmps108
    go_wp2
    go_ret
    exact ⟨rfl, rfl⟩
theorem elInt : ElemTy Tryd.prog 27 3 1 8 (.int .i64 0) := ⟨Tryd.underlying27, by kernel_rfl, rfl, by decide⟩
abbrev intsD (l : List Nat) : Dat := .list 1 (l.map fun x => Dat.int .i64 (x : Nat))
abbrev intsV (l : List Nat) : List Value := l.map fun x => Value.int .i64 (x : Nat)
theorem ints_rds {S : Nat → Prop} {w : World} (l : List Nat) : Rds S w (intsV l) (l.map fun x => Dat.int .i64 (x : Nat)) :=
  ⟨by simp, fun i u d hu hd => by
    simp at hu hd
    obtain ⟨s, hs, rfl⟩ := hu
    rw [hs] at hd; simp at hd; subst hd; exact .int _ _⟩
def sliceLen : Value → Nat
  | .slice _ n _ => n
  | _ => 0
def WkRel (ups : List Nat) (e : Nat) (W : World) (v k : Value) (wr : World) : Prop := ∃ (A l : List Nat) (x : Int), k = .int .i64 x ∧ wr.ownsRow W.heap.size 3 1 v A.length (intsV A) ∧ Chain ups e x l ∧ A ++ l = pre ups ups.length e ∧ Below W.heap.size W wr
set_option maxRecDepth 100000 in
set_option maxHeartbeats 4000000 in
theorem walk_any (B : Nat) (v : Value) (ns : List ANode) (ups : List Nat) (most : Int) (e : Nat) (w : World) (h : TreeAt w B v ns most) (hg : GoodN ns ups) (hw : WfUps ups) (he : e < ups.length) (hm : ns.length ≤ 1000000) :
    Calls Tryd.prog 53 #[.pointer (some ⟨B, 0, none⟩), .int .i64 e] w fun ev w' => ∃ v', ev = .returned v' ∧ Rd (Fresh w w') w' v' (intsD (pre ups ups.length e)) ∧ Below w.heap.size w w' := by
  have hlen := hg.len
  have HH := Lib.hid (has_id B v ns most e w h)
  obtain ⟨g, cap, rfl, hBg, hgw⟩ := h.form1 (by omega)
  have c0 := h.cell0
  have hBw := h.lt
  obtain ⟨a, ha⟩ := get_ex ns e (by omega)
  have n2 := h.n2 ha
  rw [hg.first e a ha] at n2
  have t : decide (0 ≤ (e : Int) ∧ (e : Int) < (ns.length : Int)) = true := decide_eq_true (by omega)
  have H := Lib.hid h; have HG := Lib.hid hg; have HW := Lib.hid hw
  clear h hg hw ha
  go_enter Tryd.func53, Tryd.ntmps53
  go_wp2_with fail
  refine HH.out.mono ?_
  rintro ev w1 ⟨rfl, rfl⟩
  rw [t]
  clear t
  have i0 : (0 : Int) ≤ (e : Int) := Int.natCast_nonneg _
  have i1 : (e : Int) < (ns.length : Int) := by omega
  go_wp2_with fail
  go_region_held3 (fun w' => w'.cell? ⟨B, 0, none⟩ = some (.slice (some ⟨g, 0, none⟩) ns.length cap) ∧ w'.cell? ⟨g, e * 7 + 2, none⟩ = some (.int .i64 (headI (kids ups e)))) (go_keep) (fail)
  have hbW : Below w.heap.size w (w.alloc (.cells #[.int .i64 e] 3)).drew := ⟨rfl, rfl, rfl, by simp, fun k hk => Below.heap_alloc w _ k hk⟩
  have hoW : (w.alloc (.cells #[.int .i64 e] 3)).drew.ownsRow w.heap.size 3 1 (.slice (some ⟨w.heap.size, 0, none⟩) 1 1) 1 [.int .i64 e] := (World.ownsRow_lit w #[.int .i64 e] 1 (Nat.le_refl _) (by decide) rfl).drew
  obtain ⟨l0, hl0, hch⟩ := chain_top HW.out e he
  have hpl := pre_length HW.out ups.length e he
  have R0 : WkRel ups e w (.slice (some ⟨w.heap.size, 0, none⟩) 1 1) (.int .i64 (headI (kids ups e))) (w.alloc (.cells #[.int .i64 e] 3)).drew := ⟨[e], l0, _, rfl, hoW, hch, by rw [hl0]; rfl, hbW⟩
  have HR0 := Lib.hid R0; have HC0 := Lib.hid c0
  clear R0 hbW hoW hl0 hch c0 n2 i0 i1 HH
  go_wp2_with fail
  go_loopw [5, 6] (WkRel ups e w) (fun v _ _ => ups.length - sliceLen v)
  case atStart => exact HR0.out
  case round =>
    obtain ⟨A, l, x, rfl, ho, hc, hal, hb⟩ := hrel
    have hal' := congrArg List.length hal
    rw [List.length_append] at hal'
    cases hc with
    | nil =>
      rw [List.append_nil] at hal
      subst hal
      have hr : Rd (Fresh w wr) wr u5 (intsD (pre ups ups.length e)) := rd_owned ho (ints_rds _) (fun g hg => ho.lt g hg)
      obtain ⟨ao, cap', rfl, _⟩ := aown_form ho
      have HR := Lib.hid hr; have HB := Lib.hid hb
      clear hr hb ho hal'
      go_wp2
      go_ret
      exact ⟨_, rfl, HR.out, HB.out⟩
    | @cons k x' l hk ha hc =>
      have t : ((k : Int) != -1) = true := bne_iff_ne.2 (by omega)
      obtain ⟨ao, cap', rfl, _⟩ := aown_form ho
      rw [List.length_cons] at hal'
      have HO := Lib.hid ho; have HB := Lib.hid hb; have HA := Lib.hid hal; have HAF := Lib.hid ha; have HCH := Lib.hid hc
      clear ho hb hal ha hc
      go_wp2_with (at_builtin; refine wpList_app1 wr #[.int .i64 k] _ rfl _ _ 27 rfl w.heap.size elInt _ _ _ rfl HO.out rfl rfl ?c1 ?c2 ?c3 ?c4 ?_)
      case c1 => first | rfl | (intro u hu; simp at hu; subst hu; rfl)
      case c2 => simp [maxLen]; omega
      case c3 => omega
      case c4 => exact HB.out.size
      intro v2 w2 ho2 hg2
      have hb2 : Below w.heap.size w w2 := (ext_alloc HB.out (.cells #[.int .i64 k] 3)).grown hg2 (ext_alloc HB.out (.cells #[.int .i64 k] 3)).size (fun j hj => (HO.out.lt j hj).1)
      have AF := after_any B _ ns ups most k e x' w2 (H.out.below hb2) HG.out HW.out hk HAF.out hm
      obtain ⟨ao2, cap2, rfl, _⟩ := aown_form ho2
      have R : WkRel ups e w (.slice ao2 (A.length + 1) cap2) (.int .i64 x') w2 := ⟨A ++ [k], l, x', rfl, by simpa using ho2, HCH.out, by rw [← HA.out]; simp, hb2⟩
      have HR := Lib.hid R; have HAF2 := Lib.hid AF
      clear R AF hg2 ho2 hb2
      go_wp2_with fail
      refine HAF2.out.mono ?_
      rintro ev w3 ⟨rfl, rfl⟩
      go_wp2
      refine ⟨?_, by simp [sliceLen]; omega⟩
      have R := HR.out
      first | exact R | ((repeat apply Exists.intro); exact ⟨R, rfl⟩)
end Go.Proofs.YtmdalkjhlhkloaaDoor.S
