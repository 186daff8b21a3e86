/- scan.All: the walk. -/
import Derived.Test.YtmhfbdeeebbloaaDoorScan7
import Derived.Test.YtmhfbdeeebbloaaDoorScanAll0
import Derived.Test.YtmhfbdeeebbloaaDoorOwn0
import Derived.Deep.AppendLies
namespace Go.Proofs.YtmhfbdeeebbloaaDoor
open Go.RowKit
theorem elTok : ElemTy Tryd.prog 41 47 3 24 (.agg #[.int .i64 0, .int .i64 0, .int .i64 0]) := ⟨Tryd.underlying41, by kernel_rfl, rfl, by decide⟩
theorem next_at (v : Value) (B : ByteArray) (i : Nat) (w : World) (h : Rd (Own w) w v (bytesDB B)) (he : ScEnv w) (hm : B.size ≤ 1000000) (hi : i ≤ B.size) :
    Calls Tryd.prog 53 #[v, .int .i64 i] w (NxPost w (nextS B i)) := by
  have := next_any v B i w h he hm
  unfold nextI at this
  rwa [if_neg (by omega), Int.toNat_natCast] at this
theorem Failed.alloc {w w' : World} {k : Nat} {i : Int} {u : Value} (h : Failed w k i u w') (o : Obj) : Failed w k i u (w'.alloc o) :=
  ⟨(h.1.alloc (fun b hb => hb.2) o).wide (fun b hb => ⟨hb.1, by have := hb.2; simp; omega⟩), ext_alloc h.2 o⟩
def AllPost (w : World) (r : Sc (List Tok)) (e : Ending) (w' : World) : Prop := match r with
  | .ok l => ∃ v, e = .returned (.tuple #[v, .nilIface]) ∧ Rd (Fresh w w') w' v (toksD l) ∧ Below w.heap.size w w'
  | .no k i => ∃ u, e = .returned (.tuple #[.slice none 0 0, .iface 119 (.pointer (some u))]) ∧ Failed w k i (.iface 119 (.pointer (some u))) w'
def AlRel (B : ByteArray) (R : Sc (List Tok)) (w : World) (v k : Value) (wr : World) : Prop := ∃ (j : Nat) (A : List Tok), k = .int .i64 j ∧ j ≤ B.size ∧ A.length ≤ j ∧ wr.ownsRow w.heap.size 47 3 v A.length (A.flatMap tokCells) ∧ Below w.heap.size w wr ∧ allRest A (allS B j) = R
set_option maxRecDepth 100000 in
set_option maxHeartbeats 16000000 in
theorem all_any (v : Value) (B : ByteArray) (w : World) (h : Rd (Own w) w v (bytesDB B)) (he : ScEnv w) (hm : B.size ≤ 1000000) :
    Calls Tryd.prog 20 #[v] w (AllPost w (allS B 0)) := by
  have HH := Lib.hid h; have HE := Lib.hid he
  obtain ⟨R, hR⟩ : ∃ R, allS B 0 = R := ⟨_, rfl⟩
  rw [hR]
  have HR := Lib.hid hR
  clear h he hR
  go_enter Tryd.func20, Tryd.ntmps20
  go_wp2_with fail
  go_loopw [2, 4] (AlRel B R w) (fun _ k _ => B.size - (intOf k).toNat)
  case atStart => exact ⟨0, [], rfl, Nat.zero_le _, Nat.zero_le _, World.ownsRow_nil _ _ _ _, Below.refl _ _, by rw [allRest_nil]; exact HR.out⟩
  case round =>
    obtain ⟨j, A, rfl, hj, hA, ho, hb, hr⟩ := hrel
    rw [allS_step hj] at hr
    have CN := Lib.hid (next_at v B j wr (HH.out.ext hb) (HE.out.ext hb) hm hj)
    obtain ⟨ao, cap, rfl, _⟩ := aown_form ho
    have HO := Lib.hid ho; have HB := Lib.hid hb; have HRR := Lib.hid hr
    clear ho hb hr
    go_wp2_with fail
    refine CN.out.mono ?_
    intro e w1 hsc
    cases hx : nextS B j with
    | no k p =>
      rw [hx] at hsc
      obtain ⟨u, rfl, hf⟩ := hsc
      have HQ := HRR.out
      rw [hx, Sc.bind_no, allRest_no] at HQ
      have HQ := Lib.hid HQ
      have HF := Lib.hid (hf.after HB.out)
      clear hf hx HRR
      go_wp2
      go_ret2
      rw [← HQ.out]
      exact ⟨_, rfl, HF.out.alloc _⟩
    | ok t =>
      rw [hx] at hsc
      obtain ⟨k, f, e2, rfl, q1, q2, q3, q4⟩ := nextS_ok hj hx
      obtain ⟨rfl, hb1⟩ := hsc
      have hr := HRR.out
      rw [hx, Sc.bind_ok] at hr
      obtain ⟨W2, hW2⟩ : ∃ W, w1.alloc (.cells #[.int .i64 k, .int .i64 f, .int .i64 e2] 47) = W := ⟨_, rfl⟩
      have hown : W2.ownsRow w.heap.size 47 3 (.slice ao A.length cap) A.length (A.flatMap tokCells) := by
        rw [← hW2]; exact (aown_ext HO.out (fun g hg => hb1.block g (HO.out.lt g hg).2) (Nat.le_refl _)).alloc _
      have hbb : Below w.heap.size w W2 := by rw [← hW2]; exact ext_alloc (ext_trans HB.out hb1) _
      have hc2 : ∀ o, W2.cell? ⟨w1.heap.size, o, none⟩ = #[Value.int .i64 k, .int .i64 f, .int .i64 e2][o]? := fun o => by rw [← hW2]; simp
      have hz2 : w1.heap.size < W2.heap.size := by rw [← hW2]; simp
      have hzw : w.heap.size ≤ w1.heap.size := Nat.le_trans HB.out.size hb1.size
      have hne : ∀ g, (Value.slice ao A.length cap).ownBlock = some g → g < w1.heap.size := fun g hg => Nat.lt_of_lt_of_le (HO.out.lt g hg).2 hb1.size
      have HNE := Lib.hid hne
      have HO2 := Lib.hid hown; have HB2 := Lib.hid hbb; have HRR := Lib.hid hr
      unfold tokV
      clear hown hbb hr hx hb1 HO hne
      go_wp2_with (at_builtin; refine wpList_app1 W2 #[.int .i64 k, .int .i64 f, .int .i64 e2] _ rfl _ _ 41 rfl w.heap.size elTok _ _ _ rfl HO2.out rfl rfl ?c1 ?c2 ?c3 ?c4 ?_)
      case c1 => exact ⟨rfl, rfl, rfl⟩
      case c2 => simp [maxLen]; omega
      case c3 => omega
      case c4 => exact HB2.out.size
      intro v2 w2 ho2 hg2
      have hcb : ∀ o, w2.cell? ⟨w1.heap.size, o, none⟩ = W2.cell? ⟨w1.heap.size, o, none⟩ := fun o => by
        rw [hg2.cell_far ⟨w1.heap.size, o, none⟩ (by simp; omega) (fun e => by have := HNE.out _ e.symm; simp at this)]
        exact World.cell?_of_block (Below.heap_alloc W2 _ _ hz2)
      have hb2 : Below w.heap.size w w2 := (ext_alloc HB2.out (.cells #[.int .i64 k, .int .i64 f, .int .i64 e2] 47)).grown hg2 (ext_alloc HB2.out (.cells #[.int .i64 k, .int .i64 f, .int .i64 e2] 47)).size (fun m hm => (HO2.out.lt m hm).1)
      have hz3 : w1.heap.size < w2.heap.size := by have := hg2.size; simp at this; omega
      obtain ⟨ao2, cap2, rfl, _⟩ := aown_form ho2
      have ho3 : w2.ownsRow w.heap.size 47 3 (.slice ao2 (A.length + 1) cap2) (A ++ [(⟨k, f, e2⟩ : Tok)]).length ((A ++ [(⟨k, f, e2⟩ : Tok)]).flatMap tokCells) := by
        simpa [tokCells] using ho2
      have HO3 := Lib.hid ho3; have HB3 := Lib.hid hb2
      clear ho2 hg2 hb2 ho3
      by_cases hk : k = 0
      · subst hk
        have hr := HRR.out
        rw [if_pos (by rfl), allRest_ok] at hr
        have HQ := Lib.hid hr
        clear hr HRR
        go_wp2
        go_ret2
        rw [← HQ.out]
        exact ⟨_, rfl, rd_owned HO3.out (toks_rds _) (fun g hg => HO3.out.lt g hg), HB3.out⟩
      · have hr := HRR.out
        rw [if_neg (by omega), Int.toNat_natCast, allRest_cons] at hr
        have := q4 hk
        have R : AlRel B R w (.slice ao2 (A.length + 1) cap2) (.int .i64 e2) w2 := ⟨e2, _, rfl, q3, by simp; omega, HO3.out, HB3.out, hr⟩
        have t1 : ((k : Int) == 0) = false := beq_eq_false_iff_ne.2 (by omega)
        have HR3 := Lib.hid R
        clear hr HRR R hk
        go_wp2
        refine ⟨?_, by simp [intOf] <;> omega⟩
        have R := HR3.out
        first | exact R | ((repeat apply Exists.intro); exact ⟨R, rfl⟩)
end Go.Proofs.YtmhfbdeeebbloaaDoor
