/- The numbers beneath one; the law's own comparison of lists. -/
import Derived.Test.YtmhfbdeeebbloaaDoorJT5
import Derived.Laws.MakeOwn
namespace Go.Proofs.YtmhfbdeeebbloaaDoor
open Go.RowKit
def sliceLen : Value → Nat
  | .slice _ n _ => n
  | _ => 0
def KdRel (ups : List Nat) (i : Nat) (W : World) (v k : Value) (wr : World) : Prop := ∃ A l : List Nat, k = .int .i64 (headI l) ∧ wr.ownsRow W.heap.size 3 1 v A.length (intsV A) ∧ kids ups i = A ++ l ∧ Below W.heap.size W wr
set_option maxRecDepth 100000 in
set_option maxHeartbeats 4000000 in
theorem kids_any (B : Nat) (v : Value) (ns : List ANode) (ups : List Nat) (most : Int) (e : Nat) (w : World) (h : TreeAt w B v ns most) (hg : GoodN ns ups) (he : e < ups.length) (hm : ns.length ≤ 1000000) :
    Calls Tryd.prog 92 #[.pointer (some ⟨B, 0, none⟩), .int .i64 e] w fun ev w' => ∃ v', ev = .returned v' ∧ Rd (Fresh w w') w' v' (intsD (kids ups e)) ∧ Below w.heap.size w w' := by
  have hlen := hg.len
  have HH := Lib.hid (has_id B v ns most e w h)
  obtain ⟨g, cap, rfl, hBg, hgw⟩ := h.form1 (by omega)
  have c0 := h.cell0
  have hBw := h.lt
  obtain ⟨a, ha⟩ := get_ex ns e (by omega)
  have n2 := h.n2 ha
  have n6 := h.n6 ha
  rw [hg.first e a ha] at n2
  rw [hg.count e a ha] at n6
  have hkl := kids_le ups e
  have hkl2 : (kids ups e).length ≤ 1000000 := by omega
  have t : decide (0 ≤ (e : Int) ∧ (e : Int) < (ns.length : Int)) = true := decide_eq_true (by omega)
  have hen : e < ns.length := by omega
  obtain ⟨i0, hi0, hz0, hz1, hz2⟩ := info_parts elInt.hi
  obtain ⟨W1, hmk, hown, hgr⟩ := run_make_own (P := Tryd.prog) w w.heap.size 37 3 i0 _ 1 Tryd.underlying37 hi0 hz0 hz1 .i64 .i64 (kids ups e).length (by rw [hz2]; omega) (by simp [maxLen]; omega) (Nat.le_refl _)
  have hb1 : Below w.heap.size w W1 := (Below.refl _ w).grown hgr (Nat.le_refl _) (fun k hk => by cases hk)
  have h1 := h.below hb1
  have e0 := h1.cell0
  have e2 := h1.n2 ha
  rw [hg.first e a ha] at e2
  have R0 : KdRel ups e w (.slice (some ⟨w.heap.size, 0, none⟩) 0 (kids ups e).length) (.int .i64 (headI (kids ups e))) W1 := ⟨[], kids ups e, rfl, hown, rfl, hb1⟩
  have H := Lib.hid h; have HG := Lib.hid hg; have HR0 := Lib.hid R0; have HLEN := Lib.hid hlen
  clear h hg ha hgr hown h1 R0 hlen hz0 hz1 hz2 hi0
  go_enter Tryd.func92, Tryd.ntmps92
  go_wp2_with fail
  refine HH.out.mono ?_
  rintro ev w1 ⟨rfl, rfl⟩
  rw [t]
  clear t
  go_wp2_with fail
  go_loopw [5, 6] (KdRel ups e w) (fun v _ _ => (kids ups e).length - sliceLen v)
  case atStart => exact HR0.out
  case round =>
    obtain ⟨A, l, rfl, ho, hal, hb⟩ := hrel
    have hal' := congrArg List.length hal
    rw [List.length_append] at hal'
    cases l with
    | nil =>
      rw [List.append_nil] at hal
      subst hal
      have hr : Rd (Fresh w wr) wr u5 (intsD (kids ups e)) := rd_owned ho (intsV_rds _) (fun g hg => ho.lt g hg)
      obtain ⟨ao, cap', rfl, _⟩ := aown_form ho
      have HR := Lib.hid hr; have HB := Lib.hid hb
      clear hr hb ho hal' hmk c0 n2 n6 e0 e2
      rw [headI_nil]
      go_wp2
      go_ret
      exact ⟨_, rfl, HR.out, HB.out⟩
    | cons k l =>
      rw [headI_cons]
      have t : ((k : Int) != -1) = true := bne_iff_ne.2 (by omega)
      obtain ⟨ao, cap', rfl, _⟩ := aown_form ho
      rw [List.length_cons] at hal'
      have hq : A.length + 1 ≤ (kids ups e).length := by omega
      have hkm : k ∈ kids ups e := by rw [hal]; simp
      have hkn : k < ns.length := by rw [HLEN.out]; exact (mem_kids.1 hkm).2.1
      have HO := Lib.hid ho; have HB := Lib.hid hb; have HA := Lib.hid hal
      clear ho hb hal hal' hmk c0 n2 n6 e0 e2
      go_wp2_with (at_builtin; refine wpList_app1 wr #[.int .i64 k] _ rfl _ _ 37 rfl w.heap.size elInt _ _ _ rfl HO.out rfl rfl ?c1 ?c2 ?c3 ?c4 ?_)
      case c1 => first | rfl | (intro u hu; simp at hu; subst hu; rfl)
      case c2 => simp [maxLen]; omega
      case c3 => omega
      case c4 => exact HB.out.size
      intro v2 w2 ho2 hg2
      have hb2 : Below w.heap.size w w2 := (ext_alloc HB.out (.cells #[.int .i64 k] 3)).grown hg2 (ext_alloc HB.out (.cells #[.int .i64 k] 3)).size (fun j hj => (HO.out.lt j hj).1)
      have h2 := H.out.below hb2
      obtain ⟨b, hbn⟩ := get_ex ns k hkn
      have c0 := h2.cell0
      have n4 := h2.n4 hbn
      rw [HG.out.next k b hbn, next_kid HA.out] at n4
      have zz : g < w2.heap.size := by have := hb2.size; omega
      obtain ⟨ao2, cap2, rfl, _⟩ := aown_form ho2
      have R : KdRel ups e w (.slice ao2 (A.length + 1) cap2) (.int .i64 (headI l)) w2 := ⟨A ++ [k], l, rfl, by simpa [intsV] using ho2, by rw [HA.out]; simp, hb2⟩
      have HR := Lib.hid R
      clear R h2 hbn hg2 ho2 hb2
      go_wp2
      refine ⟨?_, by simp [sliceLen]; omega⟩
      have R := HR.out
      first | exact R | ((repeat apply Exists.intro); exact ⟨R, rfl⟩)
end Go.Proofs.YtmhfbdeeebbloaaDoor
