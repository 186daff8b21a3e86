/- Texts put together. -/
import Derived.Test.YtbeodjipdpcaiaaGreatDoorYLab0s
import Derived.Test.YtbeodjipdpcaiaaGreatDoorYScan4sf
import Derived.Test.YtbeodjipdpcaiaaGreatDoorYQuo3sf
import Derived.Laws.Bits128
import Derived.Test.YtbeodjipdpcaiaaGreatDoorProg
import Derived.WalkKit
set_option maxRecDepth 100000
set_option maxHeartbeats 2000000
namespace Go.Proofs.YtbeodjipdpcaiaaGreatDoor
section
open Go.RowKit
theorem bytesN_getD {s : ByteArray} {i : Nat} (h : i < s.size) : (bytesN s).drop i = byteAt s i :: (bytesN s).drop (i + 1) := by
 have hl : i < (bytesN s).length := by rw [bytesN_len]; exact h
 rw [List.drop_eq_getElem_cons hl]
 have h1 := bytesN_get h
 rw [List.getElem?_eq_getElem hl] at h1
 rw [Option.some.inj h1]
theorem bytesN_end {s : ByteArray} {i : Nat} (h : s.size ≤ i) : (bytesN s).drop i = [] := List.drop_eq_nil_of_le (by rw [bytesN_len]; exact h)
theorem bytesN_extract (s : ByteArray) (i j : Nat) : bytesN (s.extract i j) = ((bytesN s).drop i).take (j - i) := by
 unfold bytesN
 rw [ByteArray.data_extract, Array.toList_extract, List.extract_eq_drop_take', List.map_drop, List.map_take, List.drop_take]
theorem extract_bytesL (s : ByteArray) (i j : Nat) : s.extract i j = bytesL (((bytesN s).drop i).take (j - i)) := by
 rw [← bytesN_extract, bytesL_bytesN]
theorem byteAt_bytesN (s : ByteArray) (i : Nat) : byteAt s i = (bytesN s)[i]?.getD 0 := by
 by_cases h : i < s.size
 · rw [bytesN_get h]; rfl
 · rw [byteAt_out s i (by omega), List.getElem?_eq_none (by rw [bytesN_len]; omega)]; rfl
theorem bytesL_byteAt {l : List Nat} (h : ByteL l) (i : Nat) : byteAt (bytesL l) i = l[i]?.getD 0 := by rw [byteAt_bytesN, bytesN_bytesL h]
theorem sl_both (S : ByteArray) (i j : Nat) (h : i ≤ j) (hj : j ≤ S.size) (x : ByteArray) (hx : S.extract i j = x) (W : World) : (Instr.slice 9 (.string S) (some (.int .i64 (i : Int))) (some (.int .i64 (j : Int))) none).run Tryz.prog W = .ok (.string x) W := by
 have e2 : (0 : Int) ≤ (j : Int) := by omega
 have e3 : (j : Int) ≤ (S.size : Int) := by omega
 have e4 : (i : Int) ≤ (j : Int) := by omega
 have e5 : (0 : Int) ≤ (i : Int) := by omega
 simp [Instr.slice, run_underlying Tryz.underlying9, Instr.sliceBounds, run_sliceBound, h, hj, hx]
theorem sl_from (S : ByteArray) (i : Nat) (h : i ≤ S.size) (x : ByteArray) (hx : S.extract i S.size = x) (W : World) : (Instr.slice 9 (.string S) (some (.int .i64 (i : Int))) none none).run Tryz.prog W = .ok (.string x) W := by
 simp [Instr.slice, run_underlying Tryz.underlying9, Instr.sliceBounds, run_sliceBound, h, hx]
theorem sl_to (S : ByteArray) (j : Nat) (h : j ≤ S.size) (x : ByteArray) (hx : S.extract 0 j = x) (W : World) : (Instr.slice 9 (.string S) none (some (.int .i64 (j : Int))) none).run Tryz.prog W = .ok (.string x) W := by
 simp [Instr.slice, run_underlying Tryz.underlying9, Instr.sliceBounds, run_sliceBound, h, hx]
theorem or20 : ∀ c : Fin 26, bits .or .u8 (65 + (c.val : Int)) 32 = 65 + (c.val : Int) + 32 := by decide
theorem low_or {c : Nat} (h1 : 65 ≤ c) (h2 : c ≤ 90) : bits .or .u8 (c : Int) 32 = (lowN c : Nat) := by
 have := or20 ⟨c - 65, by omega⟩
 have e : (65 : Int) + ((⟨c - 65, by omega⟩ : Fin 26).val : Int) = (c : Int) := by simp; omega
 rw [e] at this
 rw [this]
 unfold lowN
 rw [if_pos ⟨h1, h2⟩]; rfl
def lwA (s : ByteArray) (j i : Nat) : Nat := if i < j then lowN (byteAt s i) else byteAt s i
structure LwAt (s : ByteArray) (w : World) (X j : Nat) (wr : World) : Prop where
 below : Below w.heap.size w wr
 cell : ∀ i, i < s.size → wr.cell? ⟨X, i, none⟩ = some (.int .u8 (lwA s j i : Nat))
 fz : ∀ i, i < s.size → wr.frozen? ⟨X, i, none⟩ = false
 lt : X < wr.heap.size
 ge : w.heap.size ≤ X
def LwRel (s : ByteArray) (w : World) (X : Nat) (iv : Value) (wr : World) : Prop := ∃ j : Nat, iv = .int .i64 j ∧ j ≤ s.size ∧ LwAt s w X j wr
theorem LwAt.keep {s : ByteArray} {w wr : World} {X j : Nat} (h : LwAt s w X j wr) (hj : ¬ (65 ≤ byteAt s j ∧ byteAt s j ≤ 90)) : LwAt s w X (j + 1) wr := by
 refine ⟨h.below, fun i hi => ?_, h.fz, h.lt, h.ge⟩
 rw [h.cell i hi]
 unfold lwA
 by_cases h1 : i < j
 · rw [if_pos h1, if_pos (by omega)]
 · by_cases h2 : i = j
   · subst h2
     rw [if_neg h1, if_pos (by omega)]
     unfold lowN
     rw [if_neg hj]
   · rw [if_neg h1, if_neg (by omega)]
theorem LwAt.put {s : ByteArray} {w wr : World} {X j : Nat} (h : LwAt s w X j wr) (hj : j < s.size) : LwAt s w X (j + 1) (wr.setCell ⟨X, j, none⟩ (.int .u8 (lowN (byteAt s j) : Nat))) := by
 refine ⟨h.below.setCell h.ge _, fun i hi => ?_, fun i hi => ?_, by simp [World.setCell]; exact h.lt, h.ge⟩
 · by_cases h2 : i = j
   · subst h2
     rw [World.cell?_setCell_same _ _ _ (h.cell i hi)]
     unfold lwA; rw [if_pos (by omega)]
   · have hne : (⟨X, j, none⟩ : Addr) ≠ ⟨X, i, none⟩ := fun e => h2 (by injection e with _ h _; exact h.symm)
     rw [World.cell?_setCell_other _ _ _ _ hne, h.cell i hi]
     unfold lwA
     by_cases h1 : i < j
     · rw [if_pos h1, if_pos (by omega)]
     · rw [if_neg h1, if_neg (by omega)]
 · rw [World.frozen?_setCell]; exact h.fz i hi
theorem byteL_lowB (s : ByteArray) : ByteL ((bytesN s).map lowN) := byteL_low (bytesN_lt s)
theorem lower_any (s : ByteArray) (w : World) (hm : s.size ≤ 1000000) : Calls Tryz.prog 89 #[.string s] w fun e w' => e = .returned (.string (bytesL ((bytesN s).map lowN))) ∧ Below w.heap.size w w' := by
 have hcv := run_bytes_of_string (P := Tryz.prog) w 9 29 5 s Tryz.underlying9 Tryz.underlying29 Tryz.underlying5
 have hcap := grownCap_ge w s.size 0 5
 generalize grownCap w s.size 0 5 = cap at hcv hcap
 obtain ⟨W0, hW0⟩ : ∃ W, w.drew.alloc (.cells (bytesRow s cap) 5 ((bytesRow s cap).size, (bytesRow s cap).size + 1)) = W := ⟨_, rfl⟩
 rw [hW0] at hcv
 have hx : W0.heap[w.heap.size]? = some (.cells (bytesRow s cap) 5 ((bytesRow s cap).size, (bytesRow s cap).size + 1)) := by rw [← hW0]; exact heap_alloc_new w.drew _
 have hsz : s.size ≤ (bytesRow s cap).size := by
  refine Nat.le_of_not_lt (fun hlt => ?_)
  have := bytesRow_at s cap (bytesRow s cap).size hlt
  simp at this
 have L0 : LwAt s w w.heap.size 0 W0 := ⟨by rw [← hW0]; exact ⟨rfl, rfl, rfl, by simp, fun k hk => Below.heap_alloc w.drew _ k hk⟩, fun i hi => by
     have hi' : i < s.data.size := hi
     have := bytesRow_at s cap i hi'
     rw [cell_of_row _ w.heap.size i _ _ _ hx]
     unfold lwA byteAt
     rw [if_neg (by omega), Array.getElem?_eq_getElem hi']
     simpa using this, fun i hi => by
     unfold World.frozen?
     rw [hx]
     simp; omega, by rw [← hW0]; simp, Nat.le_refl _⟩
 have HL0 := hid L0
 obtain ⟨Z, hZ⟩ : ∃ Z, bytesL ((bytesN s).map lowN) = Z := ⟨_, rfl⟩
 rw [hZ]
 have HZ := hid hZ
 clear L0 hx hsz hW0 hZ
 go_enter Tryz.func89, Tryz.ntmps89
 go_wp2_with fail
 go_loopw [10] (LwRel s w w.heap.size) (fun i _ => s.size - (intOf i).toNat)
 case atStart => exact ⟨0, rfl, Nat.zero_le _, HL0.out⟩
 case round =>
  obtain ⟨j, rfl, hj, hA⟩ := hrel
  have HA := hid hA
  by_cases hlt : j < s.size
  · obtain ⟨t1, t1'⟩ := ltT j s.size hlt
    have q1 := inc j (by omega)
    have c0 := hA.cell j hlt
    have f0 := hA.fz j hlt
    have e0 : lwA s j j = byteAt s j := by unfold lwA; rw [if_neg (by omega)]
    rw [e0] at c0
    have hp := hA.put hlt
    have hk := hA.keep
    have hlo : 65 ≤ byteAt s j → byteAt s j ≤ 90 → bits .or .u8 ((byteAt s j : Nat) : Int) 32 = (lowN (byteAt s j) : Nat) := low_or
    generalize byteAt s j = c at *
    by_cases h1 : 65 ≤ c
    · have t2 : decide ((65 : Int) ≤ (c : Int)) = true := dcT (by omega)
      by_cases h2 : c ≤ 90
      · have t3 : decide ((c : Int) ≤ 90) = true := dcT (by omega)
        have b1 := hlo h1 h2
        have R : LwRel s w w.heap.size (.int .i64 ((j : Int) + 1)) (wr.setCell ⟨w.heap.size, j, none⟩ (.int .u8 (lowN c : Nat))) := ⟨j + 1, by go_num, hlt, hp⟩
        have HR := hid R
        clear R hp hk hA hlo h1 h2
        go_wp2
        refine ⟨?_, by simp [intOf]; omega⟩
        first | exact HR.out | ((repeat apply Exists.intro); exact ⟨HR.out, rfl⟩)
      · have t3 : decide ((c : Int) ≤ 90) = false := dcF (by omega)
        have R : LwRel s w w.heap.size (.int .i64 ((j : Int) + 1)) wr := ⟨j + 1, by go_num, hlt, hk (by omega)⟩
        have HR := hid R
        clear R hp hk hA hlo h1 h2
        go_wp2
        refine ⟨?_, by simp [intOf]; omega⟩
        first | exact HR.out | ((repeat apply Exists.intro); exact ⟨HR.out, rfl⟩)
    · have t2 : decide ((65 : Int) ≤ (c : Int)) = false := dcF (by omega)
      have R : LwRel s w w.heap.size (.int .i64 ((j : Int) + 1)) wr := ⟨j + 1, by go_num, hlt, hk (by omega)⟩
      have HR := hid R
      clear R hp hk hA hlo h1
      go_wp2
      refine ⟨?_, by simp [intOf]; omega⟩
      first | exact HR.out | ((repeat apply Exists.intro); exact ⟨HR.out, rfl⟩)
  · obtain ⟨t1, t1'⟩ := ltF j s.size hlt
    obtain rfl : j = s.size := by omega
    have hzl : (bytesL ((bytesN s).map lowN)).size = s.size := by rw [bytesL_size, List.length_map, bytesN_len]
    have cv := bytes_back wr w.heap.size 0 s.size cap (bytesL ((bytesN s).map lowN)) hzl (fun i hi => by
     rw [Nat.zero_add, hA.cell i hi, bytesL_byteAt (byteL_lowB s), List.getElem?_map, bytesN_get hi]
     unfold lwA
     rw [if_pos hi]; rfl)
    have HB := hid hA.below
    rw [HZ.out] at cv
    clear hA hlt hzl
    go_wp2
    go_ret
    exact ⟨rfl, HB.out⟩
end
section
open Go.RowKit
theorem elStr8 : ElemTy Tryz.prog 63 9 1 16 (.string ⟨#[]⟩) := ⟨Tryz.underlying63, by kernel_rfl, rfl, by decide⟩
def strV (l : List ByteArray) : List Value := l.map Value.string
end
section
open Go.RowKit
abbrev Er (w : World) (u : Value) (c : List (Int × Int)) : Prop := Rd (Own w) w u (errD 119 c)
theorem Er.nil {w : World} : Er w .nilIface [] := by
 show Rd _ _ _ (errD _ [])
 simp only [errD]; exact .nilI
theorem Er.of_nil {w : World} {u : Value} (h : Er w u []) : u = .nilIface := by
 have h : Rd _ _ _ (errD _ []) := h
 simp only [errD] at h
 exact h.nilI_inv
theorem failed_er {w w' : World} {k : Nat} {i : Int} {u : Value} (h : Failed w k i u w') : Er w' u [((k : Int), i)] ∧ Below w.heap.size w w' := ⟨h.1.wide (fun _b hb => hb.2), h.2⟩
def FdPost (w : World) (R : Sc (List (List Nat))) (e : Ending) (w' : World) : Prop := Below w.heap.size w w' ∧ match R with
 | .ok ps => ∃ v, e = .returned (.tuple #[v, .nilIface]) ∧ w'.ownsRow w.heap.size 9 1 v ps.length (strV (ps.map bytesL))
 | .no k i => ∃ u, e = .returned (.tuple #[.slice none 0 0, u]) ∧ Er w' u [((k : Int), i)]
theorem ownsRow_down {w : World} {b b' : Nat} {e : TypeId} {sz n : Nat} {v : Value} {l : List Value} (h : w.ownsRow b e sz v n l) (hb : b' ≤ b) : w.ownsRow b' e sz v n l :=
 aown_ext h (fun _ _ => rfl) hb
def FdRel (m most : Nat) (s : ByteArray) (R : Sc (List (List Nat))) (W : World) (_X : Nat) (lv fv iv : Value) (wr : World) : Prop := ∃ (j fr : Nat) (acc : List (List Nat)), iv = .int .i64 j ∧ fv = .int .i64 fr ∧ fr ≤ j ∧ j ≤ s.size ∧ acc.length ≤ j ∧ wr.ownsRow W.heap.size 9 1 lv acc.length (strV (acc.map bytesL)) ∧ Below W.heap.size W wr ∧ fldF m most ((bytesN s).drop j) j (((bytesN s).drop fr).take (j - fr)) acc = R
theorem take_one_more {α : Type} (l : List α) (i : Nat) (x : α) (h : l[i]? = some x) : l.take (i + 1) = l.take i ++ [x] := by
 rw [List.take_add_one, h]; rfl
theorem cur_next {s : ByteArray} {fr j : Nat} (h : fr ≤ j) (hj : j < s.size) : ((bytesN s).drop fr).take (j + 1 - fr) = ((bytesN s).drop fr).take (j - fr) ++ [byteAt s j] := by
 rw [show j + 1 - fr = (j - fr) + 1 by omega, take_one_more _ _ (byteAt s j)]
 rw [List.getElem?_drop, show fr + (j - fr) = j by omega, bytesN_get hj]
theorem fields_any (s : ByteArray) (m most : Nat) (w : World) (hs : s.size ≤ 1000000) (hm : m < 256) (h1 : 1 ≤ most) (hmo : most ≤ 1000000) : Calls Tryz.prog 102 #[.string s, .int .u8 m, .int .i64 most] w (FdPost w (fieldsL m most (bytesN s))) := by
 obtain ⟨W0, cap, hcv, hcap, hb0, hz0, hcell⟩ := bytes_of_string s w
 obtain ⟨R, hR⟩ : ∃ R, fieldsL m most (bytesN s) = R := ⟨_, rfl⟩
 rw [hR]
 have HR0 : Hid (FdRel m most s R W0 w.heap.size (.slice none 0 0) (.int .i64 0) (.int .i64 0) W0) := hid ⟨0, 0, [], rfl, rfl, Nat.le_refl _, Nat.zero_le _, Nat.le_refl _, World.ownsRow_nil _ _ _ _, Below.refl _ _, by rw [← hR]; rfl⟩
 have HC := hid hcell; have HB0 := hid hb0
 have t0 : decide ((most : Int) < 1) = false := dcF (by omega)
 have hwz : w.heap.size ≤ W0.heap.size := hb0.size
 clear hcell hb0 hR hcap
 obtain ⟨X, hX⟩ : ∃ X, w.heap.size = X := ⟨_, rfl⟩
 have HX := hid hX
 rw [hX] at hcv HC HR0 hz0
 clear hX
 go_enter Tryz.func102, Tryz.ntmps102
 go_wp2_with fail
 go_loopw [8, 9, 18] (FdRel m most s R W0 X) (fun _ _ i _ => s.size - (intOf i).toNat)
 case atStart => exact HR0.out
 case round =>
  obtain ⟨j, fr, acc, rfl, rfl, hfj, hj, hA, ho, hb, hr⟩ := hrel
  obtain ⟨ao, lcap, rfl, _⟩ := aown_form ho
  have HO := hid ho; have HB := hid hb
  have hzW := hb.size
  clear hcv
  by_cases hlt : j < s.size
  · obtain ⟨t1, t1'⟩ := ltT j s.size hlt
    have q1 := inc j (by omega)
    have c0 : wr.cell? ⟨X, j, none⟩ = some (.int .u8 (byteAt s j)) := (bcell1 hb hz0 _).trans (HC.out j hlt)
    have HCN := hid (cur_next hfj hlt)
    have hext := extract_bytesL s fr j
    rw [bytesN_getD hlt, fldF] at hr
    generalize byteAt s j = c at *
    by_cases hc : c = m
    · subst hc
      rw [if_pos rfl] at hr
      have t2 : ((c : Int) != (c : Int)) = false := by simp
      obtain ⟨P, hP⟩ : ∃ P, s.extract fr j = P := ⟨_, rfl⟩
      have HP : Hid (bytesL (((bytesN s).drop fr).take (j - fr)) = P) := hid (by rw [← hext, hP])
      have sl := sl_both s fr j hfj hj P hP
      have HRR := hid hr
      have hzA : acc.length + 1 ≤ 1000000 := by omega
      clear ho hb hr hext hP
      go_wp2_with (at_builtin; refine wpList_app1 wr #[.string P] 9 rfl _ _ 63 rfl W0.heap.size elStr8 _ _ _ rfl HO.out rfl rfl ?c1 ?c2 ?c3 ?c4 ?_)
      case c1 => first | rfl | (intro u hu; simp at hu; subst hu; rfl)
      case c2 => unfold maxLen; omega
      case c3 => omega
      case c4 => exact HB.out.size
      intro v2 w2 ho2 hg2
      have hb2 : Below W0.heap.size W0 w2 := (ext_alloc HB.out _).grown hg2 (ext_alloc HB.out _).size (fun k hk => (HO.out.lt k hk).1)
      have e2 : strV (acc.map bytesL) ++ (#[Value.string P] : Array Value).toList = strV ((acc ++ [((bytesN s).drop fr).take (j - fr)]).map bytesL) := by
       rw [← HP.out]; simp [strV]
      rw [e2] at ho2
      have hl2 : acc.length + 1 = (acc ++ [((bytesN s).drop fr).take (j - fr)]).length := by simp
      rw [hl2] at ho2
      have HO2 := hid ho2; have HB2 := hid hb2
      obtain ⟨a2, c2, rfl, _⟩ := aown_form ho2
      rw [← hl2]
      by_cases hmo2 : most ≤ acc.length + 1
      · rw [if_pos hmo2] at HRR
        have t5 : decide ((most : Int) ≤ ((acc.length + 1 : Nat) : Int)) = true := dcT (by omega)
        have t5' : decide ((most : Int) ≤ (acc.length : Int) + 1) = true := dcT (by omega)
        clear ho2 hg2 hb2 e2 hl2 hmo2
        go_wp2_with fail
        go_at_call 44
        refine (fail_any _ _ _).mono ?_
        rintro e w3 ⟨rfl, rfl⟩
        have HF := hid (failed_er (failed_of (w := w) (w0 := w2) (k := 15) (i := j) (HB0.out.trans (HB2.out.mono hwz)) rfl))
        go_wp2
        go_ret2
        rw [← HRR.out]
        exact ⟨HF.out.2, _, rfl, HF.out.1⟩
      · rw [if_neg hmo2] at HRR
        have t5 : decide ((most : Int) ≤ ((acc.length + 1 : Nat) : Int)) = false := dcF (by omega)
        have t5' : decide ((most : Int) ≤ (acc.length : Int) + 1) = false := dcF (by omega)
        have R' : FdRel c most s R W0 X (.slice a2 (acc.length + 1) c2) (.int .i64 ((j : Int) + 1)) (.int .i64 ((j : Int) + 1)) w2 := ⟨j + 1, j + 1, acc ++ [((bytesN s).drop fr).take (j - fr)], by go_num, by go_num, Nat.le_refl _, hlt, by simp; omega, by
         rw [← hl2] at ho2 ⊢; exact ho2, hb2, by rw [Nat.sub_self, List.take_zero]; exact HRR.out⟩
        have HRL := hid R'
        clear R' ho2 hg2 hb2 e2 hl2 hmo2
        go_wp2
        refine ⟨?_, by simp [intOf]; omega⟩
        first | exact HRL.out | ((repeat apply Exists.intro); exact ⟨HRL.out, rfl⟩)
    · rw [if_neg hc] at hr
      have t2 : ((c : Int) != (m : Int)) = true := by simp; omega
      have R' : FdRel m most s R W0 X (.slice ao acc.length lcap) (.int .i64 fr) (.int .i64 ((j : Int) + 1)) wr := ⟨j + 1, fr, acc, by go_num, rfl, by omega, hlt, by omega, HO.out, HB.out, by rw [HCN.out]; exact hr⟩
      have HRL := hid R'
      clear R' ho hb hr hext
      go_wp2
      refine ⟨?_, by simp [intOf]; omega⟩
      first | exact HRL.out | ((repeat apply Exists.intro); exact ⟨HRL.out, rfl⟩)
  · obtain ⟨t1, t1'⟩ := ltF j s.size hlt
    obtain rfl : j = s.size := by omega
    rw [bytesN_end (Nat.le_refl _), fldF] at hr
    have HRR := hid hr
    have hext := extract_bytesL s fr s.size
    obtain ⟨P, hP⟩ : ∃ P, s.extract fr s.size = P := ⟨_, rfl⟩
    have HP : Hid (bytesL (((bytesN s).drop fr).take (s.size - fr)) = P) := hid (by rw [← hext, hP])
    have sl := sl_from s fr hfj P hP
    have hzA : acc.length + 1 ≤ 1000001 := by omega
    clear ho hb hr hext hlt hP
    go_wp2_with (at_builtin; refine wpList_app1 wr #[.string P] 9 rfl _ _ 63 rfl W0.heap.size elStr8 _ _ _ rfl HO.out rfl rfl ?c1 ?c2 ?c3 ?c4 ?_)
    case c1 => first | rfl | (intro u hu; simp at hu; subst hu; rfl)
    case c2 => unfold maxLen; omega
    case c3 => omega
    case c4 => exact HB.out.size
    intro v2 w2 ho2 hg2
    have hb2 : Below W0.heap.size W0 w2 := (ext_alloc HB.out _).grown hg2 (ext_alloc HB.out _).size (fun k hk => (HO.out.lt k hk).1)
    have e2 : strV (acc.map bytesL) ++ (#[Value.string P] : Array Value).toList = strV ((acc ++ [((bytesN s).drop fr).take (s.size - fr)]).map bytesL) := by
     rw [← HP.out]; simp [strV]
    rw [e2] at ho2
    have HF : Hid (Below w.heap.size w w2 ∧ w2.ownsRow w.heap.size 9 1 v2 (acc ++ [((bytesN s).drop fr).take (s.size - fr)]).length (strV ((acc ++ [((bytesN s).drop fr).take (s.size - fr)]).map bytesL))) := hid ⟨HB0.out.trans (hb2.mono hwz), ownsRow_down (by simpa using ho2) hwz⟩
    clear ho2 hg2 hb2 e2
    go_wp2
    go_ret2
    rw [← HRR.out]
    exact ⟨HF.out.1, _, rfl, HF.out.2⟩
def AllRel (s : ByteArray) (p : Nat → Bool) (W : World) (iv : Value) (wr : World) : Prop := ∃ j : Nat, iv = .int .i64 j ∧ j ≤ s.size ∧ wr = W ∧ ((bytesN s).all p) = ((bytesN s).drop j).all p
theorem allOf_any (s t : ByteArray) (p : Nat → Bool) (hp : ∀ c, c < 256 → (bytesN t).contains c = p c) (w : World) (hs : s.size ≤ 1000000) : Calls Tryz.prog 108 #[.string s, .string t] w fun e w' => e = .returned (.bool ((bytesN s).all p)) ∧ Below w.heap.size w w' := by
 obtain ⟨W0, cap, hcv, hcap, hb0, hz0, hcell⟩ := bytes_of_string s w
 have HC := hid hcell; have HB0 := hid hb0
 have IB := hid (fun c (hc : c < 256) W => ib_any t (bytesN t) rfl c hc W)
 have HPP := hid hp
 clear hcell hb0 hcap hp
 obtain ⟨X, hX⟩ : ∃ X, w.heap.size = X := ⟨_, rfl⟩
 rw [hX] at hcv HC hz0
 have HX := hid hX
 clear hX
 go_enter Tryz.func108, Tryz.ntmps108
 go_wp2_with fail
 go_loopw [10] (AllRel s p W0) (fun i _ => s.size - (intOf i).toNat)
 case atStart => exact ⟨0, rfl, Nat.zero_le _, rfl, by rw [List.drop_zero]⟩
 case round =>
  obtain ⟨j, rfl, hj, rfl, hr⟩ := hrel
  clear hcv
  by_cases hlt : j < s.size
  · obtain ⟨t1, t1'⟩ := ltT j s.size hlt
    have q1 := inc j (by omega)
    have c0 := HC.out j hlt
    rw [bytesN_getD hlt, List.all_cons] at hr
    have hc256 := byteAt_lt s j
    have IC := IB.out (byteAt s j) hc256 wr
    have hx := ibV_in (l := bytesN t) (c := byteAt s j)
    rw [HPP.out _ hc256] at hx
    generalize byteAt s j = c at *
    generalize ibV (bytesN t) c = x at *
    have HIC := hid IC
    clear IC
    cases hpc : p c with
    | false =>
      rw [hpc] at hx hr
      have HRR := hid hr
      have hx' : decide (x < 0) = true := by rw [decide_eq_false_iff_not] at hx; exact dcT (by omega)
      clear hr hx hpc hc256
      go_wp2_with fail
      refine HIC.out.mono ?_
      rintro e w1 ⟨rfl, rfl⟩
      go_wp2
      go_ret
      exact ⟨by rw [HRR.out]; rfl, HB0.out⟩
    | true =>
      rw [hpc, Bool.true_and] at hr
      rw [hpc] at hx
      have hx' : decide (x < 0) = false := by rw [decide_eq_true_eq] at hx; exact dcF (by omega)
      have R : AllRel s p wr (.int .i64 ((j : Int) + 1)) wr := ⟨j + 1, by go_num, hlt, rfl, hr⟩
      have HRR := hid R
      clear hr hx hpc hc256 R
      go_wp2_with fail
      refine HIC.out.mono ?_
      rintro e w1 ⟨rfl, rfl⟩
      go_wp2
      refine ⟨?_, by simp [intOf]; omega⟩
      first | exact HRR.out | ((repeat apply Exists.intro); exact ⟨HRR.out, rfl⟩)
  · obtain ⟨t1, t1'⟩ := ltF j s.size hlt
    rw [bytesN_end (by omega)] at hr
    have HRR := hid hr
    clear hr
    go_wp2
    go_ret
    exact ⟨by rw [HRR.out]; rfl, HB0.out⟩
end
end Go.Proofs.YtbeodjipdpcaiaaGreatDoor
