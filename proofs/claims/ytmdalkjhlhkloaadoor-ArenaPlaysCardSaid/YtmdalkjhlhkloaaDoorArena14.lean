/- The document's tree: the numbers beneath one. -/
import Derived.Test.YtmdalkjhlhkloaaDoorArena13
namespace Go.Proofs.YtmdalkjhlhkloaaDoor
open Go.RowKit
def kidsTo (ups : List Nat) (i j : Nat) : List Nat := (List.range' 1 (j - 1)).filter fun m => decide (ups[m]? = some i)
theorem kidsTo_all (ups : List Nat) (i : Nat) : kidsTo ups i ups.length = kids ups i := rfl
theorem kidsTo_succ (ups : List Nat) (i j : Nat) (hj : 1 ≤ j) : kidsTo ups i (j + 1) = kidsTo ups i j ++ if ups[j]? = some i then [j] else [] := by
  have e : List.range' 1 (j + 1 - 1) = List.range' 1 (j - 1) ++ [j] := by
    have : j + 1 - 1 = (j - 1) + 1 := by omega
    rw [this, List.range'_concat]; congr 2; omega
  rw [kidsTo, e, List.filter_append, kidsTo]
  congr 1
  by_cases h : ups[j]? = some i <;> simp [h]
theorem kidsTo_le (ups : List Nat) (i j : Nat) : (kidsTo ups i j).length ≤ j := by
  have := List.length_filter_le (fun m => decide (ups[m]? = some i)) (List.range' 1 (j - 1))
  unfold kidsTo
  simp at this ⊢
  omega
def RkRel (ups : List Nat) (i : Nat) (W : World) (v k : Value) (wr : World) : Prop := ∃ j : Nat, k = .int .i64 j ∧ 1 ≤ j ∧ j ≤ ups.length ∧ wr.ownsRow W.heap.size 3 1 v (kidsTo ups i j).length (intsV (kidsTo ups i j)) ∧ Below W.heap.size W wr
set_option maxRecDepth 100000 in
set_option maxHeartbeats 4000000 in
theorem rkids_in (B : Nat) (vV vU : Value) (vs us : List Int) (most : Int) (ups : List Nat) (i : Nat) (w : World) (h : RTreeAt w B vV vU vs us most) (hvl : vs.length = ups.length) (hr : RUps us ups) (hi : i < ups.length) (hm : ups.length ≤ 1000000) :
    Calls Tryd.prog 59 #[.pointer (some ⟨B, 0, none⟩), .int .i64 i] w fun e w' => ∃ v', e = .returned v' ∧ Rd (Fresh w w') w' v' (intsD (kids ups i)) ∧ Below w.heap.size w w' := by
  have H := Lib.hid h; have HR := Lib.hid hr; have HVL := Lib.hid hvl
  have c0w := h.cell0
  obtain ⟨aV, capV, rfl, _⟩ := aown_form h.ownV
  obtain ⟨ao, cap, rfl, hf⟩ := aown_form h.ownU
  obtain ⟨g, rfl, hBg, hgw⟩ : ∃ g, ao = some ⟨g, 0, none⟩ ∧ B + 1 ≤ g ∧ g < w.heap.size := by
    rcases hf with ⟨h0, _⟩ | h0
    · have := hr.len; omega
    · exact h0
  have hBw := h.lt
  have hul : us.length = ups.length := hr.len
  have HUL := Lib.hid hul
  have hvm : vs.length ≤ 1000000 := by omega
  clear h hr hf hvl c0w hul
  go_enter Tryd.func59, Tryd.ntmps59
  go_wp2_with fail
  go_loopw [5, 6] (RkRel ups i w) (fun _ k _ => ups.length - (intOf k).toNat)
  case atStart =>
    refine ⟨1, rfl, Nat.le_refl _, by omega, ?_, ext_alloc (Below.refl _ _) _⟩
    have := World.ownsRow_lit (base := w.heap.size) (e := 3) (size := 1) w #[] 0 (Nat.le_refl _) (by decide) rfl
    simpa [kidsTo] using this
  case round =>
    obtain ⟨j, rfl, hj1, hj, ho, hb⟩ := hrel
    have hT := H.out.below hb
    have c0 := hT.cell0
    have c1 := hT.cell1
    have hgr : g < wr.heap.size := by have := hb.size; omega
    have hBr : B < wr.heap.size := by have := hb.size; omega
    by_cases hlt : j < ups.length
    · obtain ⟨u, hu⟩ := get_ex ups j hlt
      have x0 := hT.upCell rfl (HR.out.up j u (by omega) hu)
      have HH := rhas_any B _ _ vs us most i wr hT
      rw [decide_eq_true (by have := HVL.out; omega : 0 ≤ (i : Int) ∧ (i : Int) < (vs.length : Int))] at HH
      have HHH := Lib.hid HH
      have hs := kidsTo_succ ups i j hj1
      have hle := kidsTo_le ups i j
      have hjv : j < vs.length := by have := HVL.out; omega
      have hju : j < us.length := by have := HUL.out; omega
      have HS := Lib.hid hs; have HO := Lib.hid ho; have HB := Lib.hid hb
      obtain ⟨aA, capA, rfl, _⟩ := aown_form HO.out
      clear hT HH hs ho hb
      by_cases he : u = i
      · have t : ((u : Int) == i) = true := beq_iff_eq.2 (by omega)
        have e1 : (if ups[j]? = some i then [j] else []) = [j] := if_pos (by rw [hu, he])
        have HE := Lib.hid e1
        clear e1 hu he
        go_wp2_with fail
        refine HHH.out.mono ?_
        rintro e w1 ⟨rfl, rfl⟩
        go_wp2_with (at_builtin; refine wpList_app1 wr #[.int .i64 j] _ rfl _ _ 27 rfl w.heap.size elInt _ _ _ rfl HO.out rfl rfl ?c1 ?c2 ?c3 ?c4 ?_)
        case c1 => first | rfl | (intro u hu; simp at hu; subst hu; rfl)
        case c2 => simp [maxLen]; omega
        case c3 => omega
        case c4 => exact HB.out.size
        intro v2 w2 ho2 hg2
        have hb2 : Below w.heap.size w w2 := (ext_alloc HB.out (.cells #[.int .i64 j] 3)).grown hg2 (ext_alloc HB.out (.cells #[.int .i64 j] 3)).size (fun m hm => (HO.out.lt m hm).1)
        have R : RkRel ups i w v2 (.int .i64 (j + 1)) w2 := ⟨j + 1, by go_num, by omega, by omega, by rw [HS.out, HE.out]; simpa using ho2, hb2⟩
        have HRR := Lib.hid R
        clear R ho2 hg2 hb2
        go_wp2
        refine ⟨?_, by simp [intOf]; omega⟩
        have R := HRR.out
        first | exact R | ((repeat apply Exists.intro); exact ⟨R, rfl⟩)
      · have t : ((u : Int) == i) = false := beq_eq_false_iff_ne.2 (by omega)
        have e1 : (if ups[j]? = some i then [j] else []) = [] := if_neg (by rw [hu]; simpa using he)
        have R : RkRel ups i w (.slice aA (kidsTo ups i j).length capA) (.int .i64 (j + 1)) wr := ⟨j + 1, by go_num, by omega, by omega, by rw [HS.out, e1, List.append_nil]; exact HO.out, HB.out⟩
        have HRR := Lib.hid R
        clear R e1 hu he
        go_wp2_with fail
        refine HHH.out.mono ?_
        rintro e w1 ⟨rfl, rfl⟩
        go_wp2
        refine ⟨?_, by simp [intOf]; omega⟩
        have R := HRR.out
        first | exact R | ((repeat apply Exists.intro); exact ⟨R, rfl⟩)
    · obtain rfl : j = ups.length := by omega
      have hjv : vs.length = ups.length := HVL.out
      have hrd : Rd (Fresh w wr) wr u5 (intsD (kidsTo ups i ups.length)) := rd_owned ho (ints_rds _) (fun m hm => ho.lt m hm)
      obtain ⟨aA, capA, rfl, _⟩ := aown_form ho
      have HRD := Lib.hid hrd; have HB := Lib.hid hb
      clear hrd hb ho hT
      go_wp2
      go_ret
      exact ⟨_, rfl, HRD.out, HB.out⟩
end Go.Proofs.YtmdalkjhlhkloaaDoor
