/- Cnx0, Cnx1 in one text (a claim holds at most 60 files). -/
import Derived.Test.YtheoaijheijojaaGreatDoorZCnw9
import Derived.Test.YtheoaijheijojaaGreatDoorZCnw4s
import Derived.Test.YtheoaijheijojaaGreatDoorZJrM5
namespace Go.Proofs.YtheoaijheijojaaGreatDoor
section
open Go.RowKit
structure CE (w : World) : Prop where
  sc : ScEnv w
  mx : MaxT w
theorem CE.ext {w w' : World} (h : CE w) (hb : Below w.heap.size w w') : CE w' := ⟨h.sc.ext hb, h.mx.ext hb⟩
theorem parse_wf {B : ByteArray} {m : Bd} {s : PS} (h : parseS B m = .ok s) : WfUps s.ups ∧ s.ups.length = s.js.length := by
  unfold parseS at h
  split at h
  · cases h
  · have R := runs_ok B m _ _ _ _ bi0 h
    exact ⟨R.bi.wf, R.bi.len⟩
theorem fenv_of {B : ByteArray} {m : Bd} {s : PS} (h : parseS B m = .ok s) (hB : B.size ≤ 100000) : FEnv s B.size :=
  ⟨(parse_wf h).1, (parse_wf h).2, parse_nodes2 h, hB, Nat.le_trans (parse_len h) hB, Nat.le_trans (parse_wt h).1 hB⟩
theorem pview_of {w : World} {base D T : Nat} {B : ByteArray} {m : Bd} {s : PS} {nodes : Int} {tv : Value} {ns : List ANode} (hd : DocAt w base D s nodes T tv ns) (h : parseS B m = .ok s) (hB : B.size ≤ 100000) : PView w base D T s nodes tv ns :=
  ⟨hd, Nat.le_trans (parse_len h) hB, fun k => by
    unfold keyA
    split
    · rename_i x hx
      have := (parse_nodes2 h x (List.mem_of_getElem? hx)).ks
      simp [maxLen]; omega
    · exact Nat.zero_le _⟩
set_option maxRecDepth 100000 in
set_option maxHeartbeats 4000000 in
theorem told8_any (w : World) (u : Value) (k a : Int) (hg : Glob w) (h : ErrIs w u (k, a)) :
    Calls Tryz.prog 21 #[u, .int .i64 k, .int .i64 a] w fun e w' => e = .returned (.bool true) ∧ Below w.heap.size w w' := by
  rcases h with ⟨h0, rfl⟩ | ⟨h0, h⟩
  · simp only at h0
    subst h0
    have KN := Lib.hid (kind_any .nilIface [] w hg (by simp only [errD]; exact .nilI))
    clear hg
    go_enter Tryz.func21, Tryz.ntmps21
    go_wp2_with fail
    refine KN.out.mono ?_
    rintro e w2 ⟨rfl, hb⟩
    have HB := Lib.hid hb
    clear hb
    simp only [kindI]
    go_wp2
    go_ret
    exact ⟨rfl, HB.out⟩
  · have KN := Lib.hid (kind_any u [(k, a)] w hg h)
    have AT := Lib.hid (fun W (hW : Below w.heap.size w W) => at_any u [(k, a)] W (hg.ext hW) (h.ext hW))
    obtain ⟨b, off, uu, rfl, _⟩ := fault_inv h
    have tk : (k == k) = true := beq_self_eq_true k
    have ta : (a == a) = true := beq_self_eq_true a
    clear hg h h0
    go_enter Tryz.func21, Tryz.ntmps21
    go_wp2_with fail
    refine KN.out.mono ?_
    rintro e w2 ⟨rfl, hb⟩
    have HB := Lib.hid hb
    clear hb
    simp only [kindI]
    go_wp2_with fail
    refine (AT.out _ HB.out).mono ?_
    rintro e w3 ⟨rfl, hb⟩
    have HB3 := Lib.hid (ext_trans HB.out hb)
    clear hb
    simp only [atI]
    go_wp2
    go_ret
    exact ⟨rfl, HB3.out⟩
set_option maxRecDepth 100000 in
set_option maxHeartbeats 8000000 in
theorem speaks08 (w : World) (he : CE w) : Calls Tryz.prog 9 #[] w fun e w' => e = .returned (.bool true) ∧ Below w.heap.size w w' := by
  obtain ⟨W0, hW0⟩ : ∃ W, w.alloc (.cells #[.int .u8 123, .int .u8 34, .int .u8 98, .int .u8 34, .int .u8 58, .int .u8 91, .int .u8 49, .int .u8 44, .int .u8 32, .int .u8 50, .int .u8 93, .int .u8 44, .int .u8 34, .int .u8 97, .int .u8 34, .int .u8 58, .int .u8 34, .int .u8 120, .int .u8 34, .int .u8 125] 5 (20, 21)) = W := ⟨_, rfl⟩
  have cv := Go.Joins.run_convert_bytes_const_at (P := Tryz.prog) w 22 5 #[.int .u8 123, .int .u8 34, .int .u8 98, .int .u8 34, .int .u8 58, .int .u8 91, .int .u8 49, .int .u8 44, .int .u8 32, .int .u8 50, .int .u8 93, .int .u8 44, .int .u8 34, .int .u8 97, .int .u8 34, .int .u8 58, .int .u8 34, .int .u8 120, .int .u8 34, .int .u8 125] 20 20 w.heap.size rfl Tryz.underlying22 Tryz.underlying5
  rw [show (w.alloc (.cells #[.int .u8 123, .int .u8 34, .int .u8 98, .int .u8 34, .int .u8 58, .int .u8 91, .int .u8 49, .int .u8 44, .int .u8 32, .int .u8 50, .int .u8 93, .int .u8 44, .int .u8 34, .int .u8 97, .int .u8 34, .int .u8 58, .int .u8 34, .int .u8 120, .int .u8 34, .int .u8 125] 5 ((#[.int .u8 123, .int .u8 34, .int .u8 98, .int .u8 34, .int .u8 58, .int .u8 91, .int .u8 49, .int .u8 44, .int .u8 32, .int .u8 50, .int .u8 93, .int .u8 44, .int .u8 34, .int .u8 97, .int .u8 34, .int .u8 58, .int .u8 34, .int .u8 120, .int .u8 34, .int .u8 125] : Array Value).size, (#[.int .u8 123, .int .u8 34, .int .u8 98, .int .u8 34, .int .u8 58, .int .u8 91, .int .u8 49, .int .u8 44, .int .u8 32, .int .u8 50, .int .u8 93, .int .u8 44, .int .u8 34, .int .u8 97, .int .u8 34, .int .u8 58, .int .u8 34, .int .u8 120, .int .u8 34, .int .u8 125] : Array Value).size + 1))) = W0 from hW0] at cv
  have hb0 : Below w.heap.size w W0 := by rw [← hW0]; exact ext_alloc (Below.refl _ _) _
  have hz0 : w.heap.size < W0.heap.size := by rw [← hW0]; simp
  have harr : (#[.int .u8 123, .int .u8 34, .int .u8 98, .int .u8 34, .int .u8 58, .int .u8 91, .int .u8 49, .int .u8 44, .int .u8 32, .int .u8 50, .int .u8 93, .int .u8 44, .int .u8 34, .int .u8 97, .int .u8 34, .int .u8 58, .int .u8 34, .int .u8 120, .int .u8 34, .int .u8 125] : Array Value) = s8B.data.map (fun x => Value.int .u8 (x.toNat : Nat)) := by kernel_rfl
  have L : Rd (Own W0) W0 (.slice (some ⟨w.heap.size, 0, none⟩) 20 20) (bytesDB s8B) := by
    refine rd_of_cells (B := s8B) hz0 (Nat.le_refl _) (fun i hi => ?_)
    have hi' : i < s8B.data.size := hi
    rw [← hW0, World.cell?_alloc_mark, harr, Array.getElem?_map, Array.getElem?_eq_getElem hi']
    unfold byteAt
    rw [Array.getElem?_eq_getElem hi']; rfl
  have PS0 := Lib.hid (fun W (hW : Below W0.heap.size W0 W) => by
    have := parse_any W _ s8B ⟨1048576, 64, 5000⟩ (L.ext hW) ((he.sc.ext hb0).ext hW) (by decide)
    rw [s8_parse] at this
    exact this)
  have WD := Lib.hid (wide_any W0)
  have HB0 := Lib.hid hb0
  have HE := Lib.hid he
  clear L hb0 he hW0 harr
  go_enter Tryz.func9, Tryz.ntmps9
  go_wp2_with fail
  refine WD.out.mono ?_
  rintro e w1 ⟨rfl, hb1⟩
  have HB1 := Lib.hid (ext_trans HB0.out hb1)
  have PS1 := Lib.hid (PS0.out _ hb1)
  clear hb1 PS0
  go_wp2_with fail
  refine PS1.out.mono ?_
  rintro e w2 ⟨D, T, tv, ns, rfl, hd, hb2⟩
  have HB2 := Lib.hid (ext_trans HB1.out hb2)
  have HV := Lib.hid (pview_of hd s8_parse (by decide))
  have F8 := Lib.hid (fenv_of s8_parse (by decide))
  have WR := Lib.hid (write_any _ D T s8S 5000 tv ns s8B.size F8.out 0 w2 (HE.out.ext HB2.out).sc HV.out)
  clear hd hb2 PS1 WD
  go_wp2_with fail
  refine WR.out.mono ?_
  intro e w3 hp
  have hp' : e = .returned (.tuple #[.string s8F, .nilIface]) ∧ Below w2.heap.size w2 w3 := by
    rcases hp with ⟨_, h, hb⟩ | ⟨h, _⟩
    · rw [show formA s8S 0 = s8F from s8_form] at h; exact ⟨h, hb⟩
    · cases h
  obtain ⟨rfl, hb3⟩ := hp'
  have HB3 := Lib.hid (ext_trans HB2.out hb3)
  have PA := Lib.hid (by
    have := path_any8 _ D T s8S 5000 tv ns 0 s8P w3 (HV.out.below hb3) (HE.out.ext HB3.out).mx (by decide)
    rw [s8_path] at this
    exact this)
  obtain ⟨P, hP⟩ : ∃ P, s8P = P := ⟨_, rfl⟩
  rw [hP] at PA
  have hP2 : (⟨#[47, 98, 47, 49]⟩ : ByteArray) = P := hP
  obtain ⟨Z, hZ⟩ : ∃ Z, s8F = Z := ⟨_, rfl⟩
  have hZ2 : (⟨#[123, 34, 97, 34, 58, 34, 120, 34, 44, 34, 98, 34, 58, 91, 49, 44, 50, 93, 125]⟩ : ByteArray) = Z := hZ
  rw [hZ]
  clear hp hb3 WR hZ
  go_wp2_with fail
  refine PA.out.mono ?_
  rintro e w4 ⟨u, rfl, hu, hb4⟩
  obtain rfl := hu.nil rfl
  have HB4 := Lib.hid (ext_trans HB3.out hb4)
  clear hu hb4 PA hP hP2
  go_wp2
  go_ret
  exact ⟨rfl, HB4.out⟩
end
section
open Go.RowKit
theorem inS_zero {B : ByteArray} {m : Bd} {s : PS} (h : parseS B m = .ok s) : inS s 0 = true := decide_eq_true (by have := parse_some h; omega)
theorem sameB_refl {s : PS} {i : Int} (h : inS s i = true) : sameB s i s i = true := by unfold sameB; rw [h]; simp
theorem sameB_comm (s s' : PS) (i k : Int) : sameB s' k s i = sameB s i s' k := by
  unfold sameB
  cases inS s i <;> cases inS s' k <;> simp [eq_comm]
theorem rform_at (D gn cn gu cu : Nat) (s : PS) (K : Nat) (F : FEnv s K) (id : Int) (hi : inS s id = true) (W : World) (hv : RView W D s gn cn gu cu) :
    Calls Tryz.prog 14 #[ptrV D, .int .i64 id] W fun e w' => e = .returned (.string (formA s id)) ∧ Below W.heap.size W w' := by
  have h := of_decide_eq_true hi
  have := rform_any D gn cn gu cu s K F s.ups.length id.toNat W hv (by omega) (by rw [F.ul]; omega)
  rw [Int.toNat_of_nonneg h.1] at this
  unfold formA
  rw [if_pos hi]
  exact this
set_option maxRecDepth 100000 in
set_option maxHeartbeats 64000000 in
theorem canonSame_any (va vb : Value) (A B : ByteArray) (i k : Int) (w : World) (he : CE w) (ha : Rd (Own w) w va (bytesDB A)) (hb : Rd (Own w) w vb (bytesDB B)) :
    Calls Tryz.prog 3 #[va, vb, .int .i64 i, .int .i64 k] w fun e w' => e = .returned (.bool true) ∧ Below w.heap.size w w' := by
  obtain ⟨a1, c1, rfl, _, _, _⟩ := ha.by_inv
  obtain ⟨a2, c2, rfl, _, _, _⟩ := hb.by_inv
  have SP := Lib.hid (speaks08 w he)
  have HE := Lib.hid he; have HA := Lib.hid ha; have HBB := Lib.hid hb
  clear he ha hb
  by_cases b1 : 1000 < A.size
  · have t1 : decide ((1000 : Int) < (A.size : Int)) = true := decide_eq_true (by omega)
    clear b1
    go_enter Tryz.func3, Tryz.ntmps3
    go_wp2_with fail
    refine SP.out.mono ?_
    rintro e w1 ⟨rfl, hb⟩
    have HB := Lib.hid hb; clear hb
    go_wp2
    go_ret
    exact ⟨rfl, HB.out⟩
  have t1 : decide ((1000 : Int) < (A.size : Int)) = false := decide_eq_false (by omega)
  by_cases b2 : 1000 < B.size
  · have t2 : decide ((1000 : Int) < (B.size : Int)) = true := decide_eq_true (by omega)
    clear b1 b2
    go_enter Tryz.func3, Tryz.ntmps3
    go_wp2_with fail
    refine SP.out.mono ?_
    rintro e w1 ⟨rfl, hb⟩
    have HB := Lib.hid hb; clear hb
    go_wp2
    go_ret
    exact ⟨rfl, HB.out⟩
  have t2 : decide ((1000 : Int) < (B.size : Int)) = false := decide_eq_false (by omega)
  have zA : A.size ≤ 1000 := by omega
  have zB : B.size ≤ 1000 := by omega
  have PA := Lib.hid (fun W (hW : Below w.heap.size w W) => parse_any W _ A ⟨1048576, 64, 5000⟩ (HA.out.ext hW) (HE.out.ext hW).sc (by omega))
  have PB := Lib.hid (fun W (hW : Below w.heap.size w W) => parse_any W _ B ⟨1048576, 64, 5000⟩ (HBB.out.ext hW) (HE.out.ext hW).sc (by omega))
  have RA := Lib.hid (fun W (hW : Below w.heap.size w W) => rparse_any W _ A ⟨1048576, 64, 5000⟩ (HA.out.ext hW) (HE.out.ext hW).sc (by omega))
  have RB := Lib.hid (fun W (hW : Below w.heap.size w W) => rparse_any W _ B ⟨1048576, 64, 5000⟩ (HBB.out.ext hW) (HE.out.ext hW).sc (by omega))
  clear b1 b2
  go_enter Tryz.func3, Tryz.ntmps3
  go_wp2_with fail
  refine SP.out.mono ?_
  rintro e w1 ⟨rfl, hb⟩
  have HB1 := Lib.hid hb; clear hb
  go_wp2_with fail
  refine (wide_any _).mono ?_
  rintro e w2 ⟨rfl, hb⟩
  have HB2 := Lib.hid (ext_trans HB1.out hb); clear hb
  go_wp2_with fail
  refine (PA.out _ HB2.out).mono ?_
  intro e w3 hpa
  have HPA := Lib.hid hpa
  obtain ⟨xa, ea, rfl, hb3⟩ : ∃ xa ea, e = .returned (.tuple #[xa, ea]) ∧ Below w2.heap.size w2 w3 := by
    cases hx : parseS A ⟨1048576, 64, 5000⟩ with
    | no q p => rw [hx] at hpa; obtain ⟨u, rfl, hf⟩ := hpa; exact ⟨_, _, rfl, hf.2⟩
    | ok s => rw [hx] at hpa; obtain ⟨D, T, tv, ns, rfl, _, hb⟩ := hpa; exact ⟨_, _, rfl, hb⟩
  have HB3 := Lib.hid (ext_trans HB2.out hb3)
  clear hb3 hpa
  go_wp2_with fail
  refine (wide_any _).mono ?_
  rintro e w4 ⟨rfl, hb4⟩
  have HB34 := Lib.hid hb4
  have HB4 := Lib.hid (ext_trans HB3.out hb4); clear hb4
  go_wp2_with fail
  refine (PB.out _ HB4.out).mono ?_
  intro e w5 hpb
  have HPB := Lib.hid hpb
  obtain ⟨xb, eb, rfl, hb5⟩ : ∃ xb eb, e = .returned (.tuple #[xb, eb]) ∧ Below w4.heap.size w4 w5 := by
    cases hx : parseS B ⟨1048576, 64, 5000⟩ with
    | no q p => rw [hx] at hpb; obtain ⟨u, rfl, hf⟩ := hpb; exact ⟨_, _, rfl, hf.2⟩
    | ok s => rw [hx] at hpb; obtain ⟨D, T, tv, ns, rfl, _, hb⟩ := hpb; exact ⟨_, _, rfl, hb⟩
  have HB45 := Lib.hid hb5
  have HB5 := Lib.hid (ext_trans HB4.out hb5)
  clear hb5 hpb
  cases hx : parseS A ⟨1048576, 64, 5000⟩ with
  | no q p =>
    have h := HPA.out
    rw [hx] at h
    obtain ⟨u, he, _⟩ := h
    simp only [Ending.returned.injEq, Value.tuple.injEq, Array.mk.injEq, List.cons.injEq, and_true] at he
    obtain ⟨rfl, rfl⟩ := he
    clear hx
    go_wp2
    go_ret
    exact ⟨rfl, HB5.out⟩
  | ok sA =>
    have h := HPA.out
    rw [hx] at h
    obtain ⟨DA, TA, tvA, nsA, he, hdA, _⟩ := h
    simp only [Ending.returned.injEq, Value.tuple.injEq, Array.mk.injEq, List.cons.injEq, and_true] at he
    obtain ⟨rfl, rfl⟩ := he
    have HXA := Lib.hid hx
    have HVA := Lib.hid ((pview_of hdA hx (by omega)).below (HB34.out.trans (HB45.out.mono HB34.out.size)))
    clear hx hdA HPA
    cases hx : parseS B ⟨1048576, 64, 5000⟩ with
    | no q p =>
      have h := HPB.out
      rw [hx] at h
      obtain ⟨u, he, _⟩ := h
      simp only [Ending.returned.injEq, Value.tuple.injEq, Array.mk.injEq, List.cons.injEq, and_true] at he
      obtain ⟨rfl, rfl⟩ := he
      clear hx
      go_wp2
      go_ret
      exact ⟨rfl, HB5.out⟩
    | ok sB =>
      have h := HPB.out
      rw [hx] at h
      obtain ⟨DB, TB, tvB, nsB, he, hdB, _⟩ := h
      simp only [Ending.returned.injEq, Value.tuple.injEq, Array.mk.injEq, List.cons.injEq, and_true] at he
      obtain ⟨rfl, rfl⟩ := he
      have HXB := Lib.hid hx
      have HVB := Lib.hid (pview_of hdB hx (by omega))
      have FA := Lib.hid (fenv_of HXA.out (by omega))
      have FB := Lib.hid (fenv_of hx (by omega))
      clear hx hdB HPB
      go_wp2_with fail
      refine (wide_any _).mono ?_
      rintro e w6 ⟨rfl, hb6⟩
      have HC6 := Lib.hid hb6; clear hb6
      go_wp2_with fail
      have RX := RA.out _ (ext_trans HB5.out HC6.out)
      rw [HXA.out] at RX
      refine RX.mono ?_
      rintro e w7 ⟨ra, gna, cna, gua, cua, rfl, hva, hb7⟩
      have HC7 := Lib.hid (ext_trans HC6.out hb7)
      have HRA := Lib.hid hva
      clear hb7 hva RX
      go_wp2_with fail
      refine (wide_any _).mono ?_
      rintro e w8 ⟨rfl, hb8⟩
      have HRA8 := Lib.hid (HRA.out.below hb8)
      have HC8 := Lib.hid (ext_trans HC7.out hb8); clear hb8
      go_wp2_with fail
      have RX := RB.out _ (ext_trans HB5.out HC8.out)
      rw [HXB.out] at RX
      refine RX.mono ?_
      rintro e w9 ⟨rb, gnb, cnb, gub, cub, rfl, hvb, hb9⟩
      have HC9 := Lib.hid (ext_trans HC8.out hb9)
      have HRB9 := Lib.hid hvb
      have HRA9 := Lib.hid (HRA8.out.below hb9)
      clear hb9 hvb RX
      have hs1 : inS sA 0 = true := inS_zero HXA.out
      have S1 := Lib.hid (fun W (hW : Below w5.heap.size w5 W) => csame_any W _ DA TA sA 5000 tvA nsA A.size FA.out _ DB TB sB 5000 tvB nsB B.size FB.out i k (HE.out.ext (ext_trans HB5.out hW)).sc (HVA.out.below hW) (HVB.out.below hW))
      have S2 := fun W (hW : Below w5.heap.size w5 W) => csame_any W _ DA TA sA 5000 tvA nsA A.size FA.out _ DA TA sA 5000 tvA nsA A.size FA.out 0 0 (HE.out.ext (ext_trans HB5.out hW)).sc (HVA.out.below hW) (HVA.out.below hW)
      rw [sameB_refl hs1] at S2
      have S2 := Lib.hid S2
      have S3 := fun W (hW : Below w5.heap.size w5 W) => csame_any W _ DB TB sB 5000 tvB nsB B.size FB.out _ DA TA sA 5000 tvA nsA A.size FA.out k i (HE.out.ext (ext_trans HB5.out hW)).sc (HVB.out.below hW) (HVA.out.below hW)
      rw [sameB_comm] at S3
      have S3 := Lib.hid S3
      have HHA := rhas7_any w9 ra gna cna gua cua sA i HRA9.out
      have HHB := rhas7_any w9 rb gnb cnb gub cub sB k HRB9.out
      have GA := Lib.hid (fun (h : inS sA i = true) W (hW : Below w9.heap.size w9 W) => rform_at ra gna cna gua cua sA A.size FA.out i h W (HRA9.out.below hW))
      have GB := Lib.hid (fun (h : inS sB k = true) W (hW : Below w9.heap.size w9 W) => rform_at rb gnb cnb gub cub sB B.size FB.out k h W (HRB9.out.below hW))
      rw [show decide (0 ≤ i ∧ i < (sA.js.length : Int)) = inS sA i from rfl] at HHA
      rw [show decide (0 ≤ k ∧ k < (sB.js.length : Int)) = inS sB k from rfl] at HHB
      obtain ⟨Q, hQ⟩ : ∃ Q, sameB sA i sB k = Q := ⟨_, rfl⟩
      rw [hQ] at S1 S3
      unfold sameB at hQ
      clear hs1
      cases hia : inS sA i with
      | false =>
        rw [hia] at HHA hQ
        obtain rfl : false = Q := hQ
        have HHA := Lib.hid HHA
        clear hia HHB
        go_wp2_with fail
        go_at_call 13
        refine HHA.out.mono ?_
        rintro e y0 ⟨rfl, rfl⟩
        go_wp2_with fail
        go_at_call 15
        refine (S1.out _ HC9.out).mono ?_
        rintro e y1 ⟨rfl, hb⟩
        have HY1 := Lib.hid (ext_trans HC9.out hb); clear hb
        go_wp2_with fail
        go_at_call 15
        refine (S2.out _ HY1.out).mono ?_
        rintro e y2 ⟨rfl, hb⟩
        have HY2 := Lib.hid (ext_trans HY1.out hb); clear hb
        go_wp2_with fail
        go_at_call 15
        refine (S3.out _ HY2.out).mono ?_
        rintro e y3 ⟨rfl, hb⟩
        have HY3 := Lib.hid (ext_trans HB5.out (ext_trans HY2.out hb)); clear hb
        go_wp2
        go_ret
        exact ⟨rfl, HY3.out⟩
      | true =>
        rw [hia] at HHA hQ
        have HHA := Lib.hid HHA
        have HIA := Lib.hid hia
        clear hia
        cases hkb : inS sB k with
        | false =>
          rw [hkb] at HHB hQ
          obtain rfl : false = Q := hQ
          have HHB := Lib.hid HHB
          clear hkb
          go_wp2_with fail
          go_at_call 13
          refine HHA.out.mono ?_
          rintro e y0 ⟨rfl, rfl⟩
          go_wp2_with fail
          go_at_call 13
          refine HHB.out.mono ?_
          rintro e y0 ⟨rfl, rfl⟩
          go_wp2_with fail
          go_at_call 15
          refine (S1.out _ HC9.out).mono ?_
          rintro e y1 ⟨rfl, hb⟩
          have HY1 := Lib.hid (ext_trans HC9.out hb); clear hb
          go_wp2_with fail
          go_at_call 15
          refine (S2.out _ HY1.out).mono ?_
          rintro e y2 ⟨rfl, hb⟩
          have HY2 := Lib.hid (ext_trans HY1.out hb); clear hb
          go_wp2_with fail
          go_at_call 15
          refine (S3.out _ HY2.out).mono ?_
          rintro e y3 ⟨rfl, hb⟩
          have HY3 := Lib.hid (ext_trans HB5.out (ext_trans HY2.out hb)); clear hb
          go_wp2
          go_ret
          exact ⟨rfl, HY3.out⟩
        | true =>
          rw [hkb] at HHB hQ
          have HHB := Lib.hid HHB
          have G1 := Lib.hid (GA.out HIA.out)
          have G2 := Lib.hid (GB.out hkb)
          clear hkb GA GB
          generalize formA sA i = x at *
          generalize formA sB k = y at *
          have hQ2 : decide (x = y) = Q := hQ
          clear hQ
          by_cases hxy : x = y
          · have tx := beqS_t hxy
            rw [decide_eq_true hxy] at hQ2
            subst hQ2
            clear hxy
            go_wp2_with fail
            go_at_call 13
            refine HHA.out.mono ?_
            rintro e y0 ⟨rfl, rfl⟩
            go_wp2_with fail
            go_at_call 13
            refine HHB.out.mono ?_
            rintro e y0 ⟨rfl, rfl⟩
            go_wp2_with fail
            go_at_call 14
            refine (G1.out _ (Below.refl _ _)).mono ?_
            rintro e z1 ⟨rfl, hb⟩
            have HZ1 := Lib.hid hb; clear hb
            go_wp2_with fail
            go_at_call 14
            refine (G2.out _ HZ1.out).mono ?_
            rintro e z2 ⟨rfl, hb⟩
            have HZ2 := Lib.hid (ext_trans HC9.out (ext_trans HZ1.out hb)); clear hb
            go_wp2_with fail
            go_at_call 15
            refine (S1.out _ HZ2.out).mono ?_
            rintro e y1 ⟨rfl, hb⟩
            have HY1 := Lib.hid (ext_trans HZ2.out hb); clear hb
            go_wp2_with fail
            go_at_call 15
            refine (S2.out _ HY1.out).mono ?_
            rintro e y2 ⟨rfl, hb⟩
            have HY2 := Lib.hid (ext_trans HY1.out hb); clear hb
            go_wp2_with fail
            go_at_call 15
            refine (S3.out _ HY2.out).mono ?_
            rintro e y3 ⟨rfl, hb⟩
            have HY3 := Lib.hid (ext_trans HB5.out (ext_trans HY2.out hb)); clear hb
            go_wp2
            go_ret
            exact ⟨rfl, HY3.out⟩
          · have tx := beqS_f hxy
            rw [decide_eq_false hxy] at hQ2
            subst hQ2
            clear hxy
            go_wp2_with fail
            go_at_call 13
            refine HHA.out.mono ?_
            rintro e y0 ⟨rfl, rfl⟩
            go_wp2_with fail
            go_at_call 13
            refine HHB.out.mono ?_
            rintro e y0 ⟨rfl, rfl⟩
            go_wp2_with fail
            go_at_call 14
            refine (G1.out _ (Below.refl _ _)).mono ?_
            rintro e z1 ⟨rfl, hb⟩
            have HZ1 := Lib.hid hb; clear hb
            go_wp2_with fail
            go_at_call 14
            refine (G2.out _ HZ1.out).mono ?_
            rintro e z2 ⟨rfl, hb⟩
            have HZ2 := Lib.hid (ext_trans HC9.out (ext_trans HZ1.out hb)); clear hb
            go_wp2_with fail
            go_at_call 15
            refine (S1.out _ HZ2.out).mono ?_
            rintro e y1 ⟨rfl, hb⟩
            have HY1 := Lib.hid (ext_trans HZ2.out hb); clear hb
            go_wp2_with fail
            go_at_call 15
            refine (S2.out _ HY1.out).mono ?_
            rintro e y2 ⟨rfl, hb⟩
            have HY2 := Lib.hid (ext_trans HY1.out hb); clear hb
            go_wp2_with fail
            go_at_call 15
            refine (S3.out _ HY2.out).mono ?_
            rintro e y3 ⟨rfl, hb⟩
            have HY3 := Lib.hid (ext_trans HB5.out (ext_trans HY2.out hb)); clear hb
            go_wp2
            go_ret
            exact ⟨rfl, HY3.out⟩
end
end Go.Proofs.YtheoaijheijojaaGreatDoor
