/- Texts put together. -/
import Derived.Test.YtcaiibkgajhohaaGreatDoorYAsI2
namespace Go.Proofs.YtcaiibkgajhohaaGreatDoor
open Go.RowKit
attribute [local go_sem] Oper.semAt_some
def stepAp (l : List AppA) (st : RdSt) (_ : Nat) (t : ByteArray) : Bool × List AppA × RdSt := bif (appA st t l).2.bad then (false, [], (appA st t l).2) else (true, (appA st t l).1, (appA st t l).2)
def apAns (R : Bool × List AppA × RdSt) : Option (List AppA) × RdSt := (bif R.1 then some R.2.1 else none, R.2.2)
theorem apps_steps (js : List JN) : ∀ (ks : List Nat) (l : List AppA) (s : RdSt), apAns (stepsF js stepAp ks l s) = appsF js ks s l
 | [], _, _ => rfl
 | k :: ks, l, s => by
   rw [stepsF, appsF]
   by_cases h : (txtA js s k).2.bad = true
   · rw [if_pos h, if_pos h]; rfl
   · rw [if_neg h, if_neg h]
     unfold stepAp
     cases hb : (appA (txtA js s k).2 (txtA js s k).1 l).2.bad with
     | true => rfl
     | false =>
       rw [cond_false, cond_true, if_neg (by decide)]
       exact apps_steps js ks _ _
theorem apps_stepsA (js : List JN) (ups : List Nat) (s : RdSt) (id k : Nat) (l : List AppA) (h : memA js ups s id kIds = some k) : appsL js ups s id l = apAns (stepsA js ups stepAp l s k) := by
 unfold appsL stepsA
 rw [h]
 dsimp only
 split
 · exact (apps_steps js _ _ _).symm
 · rfl
theorem appsF_len (js : List JN) : ∀ (ks : List Nat) (s : RdSt) (acc r : List AppA), (appsF js ks s acc).1 = some r → r.length ≤ acc.length + ks.length
 | [], _, _, _, h => by cases h; exact Nat.le_refl _
 | k :: ks, s, acc, r, h => by
   rw [appsF] at h
   split at h
   · cases h; exact Nat.le_add_right _ _
   · split at h
     · cases h
     · have := appsF_len js ks _ _ r h
       simp only [appA, List.length_append, List.length_cons, List.length_nil] at this ⊢
       omega
theorem appsL_len {js : List JN} {ups : List Nat} {s s2 : RdSt} {id : Nat} {l l2 : List AppA} {n : Nat} (hk : ∀ k, (kids ups k).length ≤ n) (h : appsL js ups s id l = (some l2, s2)) : l2.length ≤ l.length + n := by
 unfold appsL at h
 split at h
 · cases h; exact Nat.le_add_right _ _
 · split at h
   · have := appsF_len js _ _ _ l2 (by rw [h])
     exact Nat.le_trans this (Nat.add_le_add_left (hk _) _)
   · cases h; exact Nat.le_add_right _ _
theorem stepAp_len (b : List AppA) (st : RdSt) (k : Nat) (t : ByteArray) : (stepAp b st k t).2.1.length ≤ b.length + 1 := by
 unfold stepAp
 cases (appA st t b).2.bad with
 | true => exact Nat.zero_le _
 | false => simp [appA]
theorem rds_apps {S : Nat → Prop} {w : World} : ∀ (l : List AppA) (cells : List Value), Rds S w cells (l.flatMap appD) → cells = l.flatMap appC
 | [], cells, h => List.eq_nil_of_length_eq_zero h.1
 | a :: l, cells, h => by
   rw [List.flatMap_cons] at h
   obtain ⟨x, c1, rfl, hx, h1⟩ := Rds.uncons h
   obtain ⟨y, c2, rfl, hy, h2⟩ := Rds.uncons h1
   rw [rds_apps l c2 h2, hx.str_inv, hy.str_inv]; rfl
theorem appC_rds {S : Nat → Prop} {w : World} : ∀ l : List AppA, Rds S w (l.flatMap appC) (l.flatMap appD)
 | [] => Rds.nil
 | a :: l => by
   rw [List.flatMap_cons, List.flatMap_cons]
   exact Rds.append (.cons (.str _) (.cons (.str _) .nil)) (appC_rds l)
abbrev RowFA (B : Nat) (w : World) (v : Value) (l : List AppA) : Prop := RowF B 37 2 w v l.length (l.flatMap appD)
theorem RowF.apps {B : Nat} {w : World} {v : Value} {l : List AppA} (h : RowFA B w v l) : RowA B w v l := by
 obtain ⟨cells, h1, h2⟩ := h
 rw [rds_apps l cells h2] at h1
 exact h1
theorem RowA.flat {B : Nat} {w : World} {v : Value} {l : List AppA} (h : RowA B w v l) : RowFA B w v l := ⟨_, h, appC_rds l⟩
section
variable {W0 Wv : World} {vv : Value} {base D T : Nat} {s : PS} {nodes : Int} {tv : Value} {ns : List ANode}
abbrev ASt (W0 Wv : World) (vv : Value) (D : Nat) (w : World) (M : Option Nat) (st : RdSt) (v : Value) (l : List AppA) (wr : World) : Prop :=
 GSt W0 Wv vv D w w.heap.size (w.heap.size + 1) (w.heap.size + 2) 32 37 2 M st v l.length (l.flatMap appD) wr ∧ RowFA (w.heap.size + 2) wr v l
theorem ASt.call {w wr w' : World} {M : Option Nat} {st st' : RdSt} {v : Value} {l : List AppA} (h : ASt W0 Wv vv D w M st v l wr) (hp : RePost W0 Wv vv wr D st' w') : ASt W0 Wv vv D w M st' v l w' :=
 ⟨h.1.call hp, h.2.turn hp.only (fun g hg e => by have := (h.2.rowD.lt g hg).1; have := h.1.w0; omega)⟩
theorem ASt.app {w wr w' : World} {M : Option Nat} {st : RdSt} {v v2 : Value} {l : List AppA} {r : List AppA × RdSt} (h : ASt W0 Wv vv D w M st v l wr) (hr : RowA (w.heap.size + 2) w' v2 r.1) (he : ReA W0 Wv vv w' D r.2) (hg : Grew W0 wr w' v v2) : ASt W0 Wv vv D w M r.2 v2 r.1 (w'.setCell ⟨w.heap.size + 1, 0, none⟩ v2) :=
 ⟨h.1.put he hg.only hr.flat.rowD, hr.flat.turn ((Only.refl (fun b => b = w.heap.size + 1) w').set (p := ⟨w.heap.size + 1, 0, none⟩) (fun _ => rfl) v2) (fun g hg e => by have := (hr.lt g hg).1; omega)⟩
def ApJ (W0 Wv : World) (vv : Value) (D : Nat) (w : World) (Z : Nat → Prop) (l : List AppA) (st : RdSt) (W : World) : Prop := GJ W0 Wv vv D w w.heap.size (w.heap.size + 1) (w.heap.size + 2) 32 37 2 l.length (l.flatMap appD) Z st W
theorem ApJ.tells (w : World) : Tells W0 Wv vv D (ApJ W0 Wv vv D w) := ⟨fun h => by obtain ⟨v, ⟨hg, _⟩, _⟩ := h; exact hg.re, fun h hp => GJ.keep h hp, fun h k hk => by obtain ⟨v, _, hz⟩ := h; exact ⟨(hz k hk).1, (hz k hk).2.1⟩⟩
set_option maxRecDepth 100000 in
set_option maxHeartbeats 16000000 in
/-- aasa.reader.apps -/
theorem rapps_any (hV : PView W0 base D T s nodes tv ns) (hT : ∀ id, (txtA0 s.js id).size ≤ 1100000) (st : RdSt) (id : Nat) (key : ByteArray) (keyed : Bool) (w : World) (h : ReA W0 Wv vv w D st) (hk : key.size ≤ 1100000) :
    Calls Tryz.prog 99 #[ptrV W0.heap.size, .int .i64 id, .string key, .bool keyed] w (GaPost W0 Wv vv w D 2 ((appsA s.js s.ups st id key keyed).1.flatMap appD) (appsA s.js s.ups st id key keyed).2) := by
 have BX := boxesN w #[ptrV W0.heap.size] #[.slice none 0 0] 67 32
 have hvl := h.only.size
 have h0l := h.vars.lt
 obtain ⟨Wa, hWa⟩ : ∃ Wa, ((w.alloc (.cells #[ptrV W0.heap.size] 67)).alloc (.cells #[.slice none 0 0] 32)) = Wa := ⟨_, rfl⟩
 rw [hWa] at BX
 have S0 : ASt W0 Wv vv D w none st (.slice none 0 0) [] Wa := ⟨⟨h.ext BX.2.2, Only.of BX.2.2, BX.1, BX.2.1, RowD.nil, hvl, Nat.le_refl _, by omega, by omega, by omega, by omega, fun m hm => by cases hm⟩, RowF.nil⟩
 refine callsIn_wide.1 (callsIn_of_wp_marks (n := 3) Tryz.func99 rfl trivial ?_ rfl)
 simp only [Tryz.ntmps99, List.size_toArray, List.length_cons, List.length_nil, Nat.reduceAdd, Nat.reduceSub, Array.replicate_succ, Array.replicate_zero, List.push_toArray, List.append_toArray, List.nil_append, List.cons_append]
 refine wpIn_wide.2 ?_
 obtain ⟨RR, hRR⟩ : ∃ RR, appsA s.js s.ups st id key keyed = RR := ⟨_, rfl⟩
 rw [hRR]
 unfold appsA at hRR
 obtain ⟨r, hr⟩ : ∃ r : List AppA × RdSt, (if keyed = true then appA st key [] else ([], st)) = r := ⟨_, rfl⟩
 dsimp only at hRR
 rw [hr] at hRR
 have hrl : r.1.length ≤ 1 := by rw [← hr]; split <;> simp [appA]
 have AP := Lib.hid (fun st k t l v W (hR : ReA W0 Wv vv W D st) (ht : t.size ≤ 1100000) (hr : RowA (w.heap.size + 2) W v l) (hl : l.length ≤ 1100000) (hB : w.heap.size + 2 ≤ W.heap.size) => rapp_any hV st k t l v (w.heap.size + 2) W hR ht hr hl (by omega) hB)
 have TX := Lib.hid (fun st k W (hR : ReA W0 Wv vv W D st) => rtextA_any hV st k W hR)
 have TZ := Lib.hid (fun st k => txtA_size hT st k)
 have ME := Lib.hid (fun st key W (hR : ReA W0 Wv vv W D st) => rmember_any hV st id key W hR)
 have HKL := Lib.hid (fun k => hV.kids_len k)
 have HS := Lib.hid S0
 have HRR := Lib.hid hRR
 cases keyed
 case' false =>
  rw [if_neg (by decide)] at hr
  obtain ⟨v0, hS⟩ : ∃ v0, ASt W0 Wv vv D w none r.2 v0 r.1 Wa := ⟨_, by rw [← hr]; exact S0⟩
  have HS := Lib.hid hS
  have c4 := hS.1.rcell; have c8 := hS.1.cell.1
  clear hS S0 BX
  go_wp2_with fail
  clear hWa
 case' true =>
  rw [if_pos rfl] at hr
  have APk := AP.out st id key [] (.slice none 0 0) Wa S0.1.re hk S0.2.apps (by simp) (by rw [← hWa]; simp)
  rw [hr] at APk
  have APk := Lib.hid APk
  have c4 := S0.1.rcell; have c8 := S0.1.cell.1; have f8 := S0.1.cell.2
  clear S0 BX
  go_wp2_with fail
  clear hWa
  refine APk.out.mono ?_
  rintro e w2 ⟨v2, rfl, hr2, he2, hg2⟩
  obtain ⟨ao2, cap2, rfl, _⟩ := aown_form hr2
  have hS := HS.out.app hr2 he2 hg2
  have hx2 := oblock hg2.only HS.out.1.box (by rintro (t | t); omega; cases t)
  have c8 := Lib.cell_of_heap hx2 0; have f8 := Go.Joins.unfrozen_of_block hx2 0
  have HS := Lib.hid hS
  obtain ⟨W2, hW2⟩ : ∃ W2, w2.setCell ⟨w.heap.size + 1, 0, none⟩ (.slice ao2 r.1.length cap2) = W2 := ⟨_, rfl⟩
  rw [hW2] at HS
  have c4 := HS.out.1.rcell
  clear hr2 he2 hg2 hS hx2
  go_wp2_with fail
  clear hW2
 all_goals (
  obtain ⟨me, hme⟩ : ∃ me, memA s.js s.ups r.2 id kIds = me := ⟨_, rfl⟩
  have MEc := ME.out r.2 kIds _ HS.out.1.re
  rw [hme] at MEc
  refine MEc.mono ?_
  rintro e w3 ⟨rfl, hb3⟩
  have HS := Lib.hid (HS.out.call (RePost.of HS.out.1.re hb3))
  have c4 := HS.out.1.rcell
  have HME := Lib.hid hme
  clear hb3 MEc hme c8
  cases me
  case' none =>
   obtain ⟨l2, hl2⟩ : ∃ l2, r.1 = l2 := ⟨_, rfl⟩
   obtain ⟨s2, hs2⟩ : ∃ s2, r.2 = s2 := ⟨_, rfl⟩
   have HL : Hid (appsL s.js s.ups r.2 id r.1 = (some l2, s2)) := Lib.hid (by unfold appsL; rw [HME.out, hl2, hs2])
   rw [hl2, hs2] at HS
   unfold memV
   go_wp2_with fail
  case' some k =>
   unfold memV
   go_wp2_with fail
   refine (rtexts_any W0.heap.size k w3).mono ?_
   rintro e w4 ⟨rfl, rfl⟩
   have BT := boxesN w3 #[ptrV W0.heap.size] #[.int .i64 k] 67 3
   obtain ⟨W4, hW4⟩ : ∃ W4, ((w3.alloc (.cells #[ptrV W0.heap.size] 67)).alloc (.cells #[.int .i64 k] 3)) = W4 := ⟨_, rfl⟩
   rw [hW4] at BT
   obtain ⟨qb, hqb⟩ : ∃ qb, w3.heap.size = qb := ⟨_, rfl⟩
   obtain ⟨qb1, hqb1⟩ : ∃ qb1, qb + 1 = qb1 := ⟨_, rfl⟩
   have H0 := Lib.hid (show ApJ W0 Wv vv D w (fun j => j = qb ∨ j = qb1) r.1 r.2 W4 from GJ.at0 HS.out.1 HS.out.2 (by omega) BT.2.2 (by have := heap_lt BT.2.1; omega))
   rw [hqb, hqb1] at BT
   have TT := Lib.hid (texts1_any (vv := vv) (Wv := Wv) (n := 2) List.length stepAp hV hT stepAp_len r.1 r.2 k qb qb1 W4 BT.1 BT.2.1)
   obtain ⟨R, hR⟩ : ∃ R, stepsA s.js s.ups stepAp r.1 r.2 k = R := ⟨_, rfl⟩
   have HA : Hid (appsL s.js s.ups r.2 id r.1 = apAns R) := Lib.hid (by rw [← hR]; exact apps_stepsA _ _ _ _ _ _ HME.out)
   rw [hR] at TT
   have BL := Lib.hid BT.2.2
   have h4 : w.heap.size + 2 ≤ W4.heap.size := by have := heap_lt HS.out.1.box; have := BT.2.2.size; have := heap_lt BT.2.1; omega
   have HW4 := Lib.hid hW4
   clear BT hR
   go_wp2_with fail
   refine (wpIn_wide (n := 3)).1 ?_
   refine range_texts (W0 := W0) (Wv := Wv) (vv := vv) (D := D) (gf := 95) (lb := #[.pointer (some ⟨qb, 0, none⟩), .pointer (some ⟨qb1, 0, none⟩)]) (own := fun j => j = qb ∨ j = qb1) (cnt := List.length) (step := stepAp) (b0 := r.1) (st0 := r.2) (R := R) (J := ApJ W0 Wv vv D w) (Jx := fun Z _ st W => ApJ W0 Wv vv D w Z [] st W) (Z0 := fun j => j = qb ∨ j = qb1) rfl rfl (enters_of Tryz.func95 (by kernel_rfl) rfl) rfl TT.out (ApJ.tells w)
    (fun Z b st W l o h hz hl => GJ.put o h hz (by omega)) (fun Z b st W l o h hz hl => GJ.put o h hz (by omega)) (fun _ h => h) H0.out ?_ ?_ ?_
   · intro lr k2 t W
     gi_wp2
     refine ⟨trivial, fun Z b st W2 hJ hb ht hcn => ?_⟩
     obtain ⟨vb, ⟨hg, hf⟩, hz⟩ := hJ
     have c4 := hg.rcell; have c8 := hg.cell.1
     obtain ⟨aob, capb, rfl, _⟩ := aown_form hf.apps
     have APk := AP.out st k2 t b _ W2 hg.re ht hf.apps (by omega) (heap_lt hg.box)
     have HSB := Lib.hid (And.intro (And.intro hg hf) hz)
     obtain ⟨A, hA⟩ : ∃ A, appA st t b = A := ⟨_, rfl⟩
     rw [hA] at APk
     have APk := Lib.hid APk
     have hst : stepAp b st k2 t = bif A.2.bad then (false, [], A.2) else (true, A.1, A.2) := by unfold stepAp; rw [hA]
     rw [hst]
     clear hg hf hz hst hA hb ht hcn
     gi_wp2_with fail
     refine ⟨trivial, (CallsIn.inRound lr (callsIn_wide.2 APk.out)).mono ?_⟩
     rintro e w5 ⟨v5, rfl, hr5, he5, hg5⟩
     obtain ⟨ao5, cap5, rfl, _⟩ := aown_form hr5
     have hS := ASt.app HSB.out.1 hr5 he5 hg5
     have hv := HSB.out.1.2.apps.lt
     have hx5 := oblock hg5.only HSB.out.1.1.box (by rintro (t | t); omega; have := (hv _ t).1; omega)
     have c8 := Lib.cell_of_heap hx5 0; have f8 := Go.Joins.unfrozen_of_block hx5 0
     have hkz : KeepZ Z W2 (w5.setCell ⟨w.heap.size + 1, 0, none⟩ (.slice ao5 A.1.length cap5)) := (KeepZ.only hg5.only (fun j hj => ⟨(HSB.out.2 j hj).1, by rintro (t | t); exact (HSB.out.2 j hj).2.1 t; exact (HSB.out.2 j hj).2.2.2 t⟩)).trans ⟨by simp, fun j hj => Below.heap_setCell _ _ _ _ (HSB.out.2 j hj).2.2.1⟩
     have HKZ := Lib.hid hkz
     obtain ⟨W5, hW5⟩ : ∃ W5, w5.setCell ⟨w.heap.size + 1, 0, none⟩ (.slice ao5 A.1.length cap5) = W5 := ⟨_, rfl⟩
     rw [hW5] at hS HKZ
     have HZ : Hid (∀ j, Z j → j < W5.heap.size ∧ j ≠ W0.heap.size ∧ j ≠ w.heap.size + 1 ∧ (Value.slice ao5 A.1.length cap5).ownBlock ≠ some j) := Lib.hid (fun j hj => by
      obtain ⟨z1, z2, z3, z4⟩ := HSB.out.2 j hj
      refine ⟨Nat.lt_of_lt_of_le z1 HKZ.out.1, z2, z3, fun e => ?_⟩
      rcases hg5.at_ with t | t
      · rw [← t] at e; exact z4 e
      · have := t j e; omega)
     have c4 := hS.1.rcell
     obtain ⟨ev, e0, e1, e2, _, hev⟩ := hS.1.re.cells
     have x8 := hS.1.cell
     have x8c := x8.1; have x8f := x8.2
     have HS5 := Lib.hid hS
     clear hr5 he5 hg5 hS hv hx5 hkz x8
     rcases hev with ⟨hbd, rfl⟩ | ⟨hbd, bf, rfl⟩
     · have HQ := Lib.hid (show KeepZ Z W2 W5 ∧ (bif A.2.bad then ((false, [], A.2) : Bool × List AppA × RdSt) else (true, A.1, A.2)).1 = true ∧ ApJ W0 Wv vv D w Z (bif A.2.bad then ((false, [], A.2) : Bool × List AppA × RdSt) else (true, A.1, A.2)).2.1 (bif A.2.bad then ((false, [], A.2) : Bool × List AppA × RdSt) else (true, A.1, A.2)).2.2 W5 from by
         rw [hbd]; exact ⟨HKZ.out, rfl, _, HS5.out, HZ.out⟩)
       clear hbd
       gi_wp2
       exact HQ.out
     · have hS6 : ASt W0 Wv vv D w none A.2 (.slice none 0 0) [] (W5.setCell ⟨w.heap.size + 1, 0, none⟩ (.slice none 0 0)) := ⟨HS5.out.1.none_, RowF.nil⟩
       have HQ := Lib.hid (show KeepZ Z W2 (W5.setCell ⟨w.heap.size + 1, 0, none⟩ (.slice none 0 0)) ∧ (bif A.2.bad then ((false, [], A.2) : Bool × List AppA × RdSt) else (true, A.1, A.2)).1 = false ∧ ApJ W0 Wv vv D w Z [] (bif A.2.bad then ((false, [], A.2) : Bool × List AppA × RdSt) else (true, A.1, A.2)).2.2 (W5.setCell ⟨w.heap.size + 1, 0, none⟩ (.slice none 0 0)) from by
        rw [hbd]; exact ⟨HKZ.out.trans ⟨by simp, fun j hj => Below.heap_setCell _ _ _ _ (HSB.out.2 j hj).2.2.1⟩, rfl, _, hS6, fun j hj => by have := HZ.out j hj; exact ⟨by simpa using this.1, this.2.1, this.2.2.1, nofun⟩⟩)
       clear hbd hS6
       gi_wp2
       exact HQ.out
   rotate_left
   · intro m Z W hm hR1 hJ hd
     obtain ⟨vb, ⟨hg, hf⟩, _⟩ := hJ
     have hS := show ASt W0 Wv vv D w (some m) R.2.2 vb [] W from ⟨hg.marked (by omega) hd, hf⟩
     have hl2 := HA.out
     unfold apAns at hl2
     rw [hR1, cond_false] at hl2
     have hRR := HRR.out
     rw [hl2] at hRR
     subst hRR
     obtain ⟨ao6, cap6, hv6, _⟩ := aown_form hf.apps
     subst hv6
     have x8 := hS.1.cell
     obtain ⟨W', hw, hc, hm2, hp⟩ := hS.1.end0 (.inr hS.2)
     have x8c := x8.1; have x8f := x8.2
     have HP := Lib.hid (And.intro hw (And.intro hm2 hp))
     clear hg hf hm hR1 hd hl2 hS x8 hw hm2 hp
     refine wpIn_wide.2 ?_
     go_wp2
     exact postM (some m) rfl HP.out.2.1 HP.out.1 (by simp [results, Tryz.results99, go_sem, hc]) HP.out.2.2
   intro m Z W hm hR1 hJ hd
   obtain ⟨vb, ⟨hg, hf⟩, _⟩ := hJ
   have HS := Lib.hid (show ASt W0 Wv vv D w (some m) R.2.2 vb R.2.1 W from ⟨hg.marked (by omega) hd, hf⟩)
   have hl2 := HA.out
   unfold apAns at hl2
   rw [hR1, cond_true] at hl2
   obtain ⟨l2, e2⟩ : ∃ l2, R.2.1 = l2 := ⟨_, rfl⟩
   obtain ⟨s2, e3⟩ : ∃ s2, R.2.2 = s2 := ⟨_, rfl⟩
   rw [e2, e3] at hl2 HS
   have HL := Lib.hid hl2
   have c4 := HS.out.1.rcell
   clear hg hf hm hR1 hd hl2 e2 e3
   go_wp2_with fail)
 all_goals (
  obtain ⟨me2, hme2⟩ : ∃ me2, memA s.js s.ups s2 id kId = me2 := ⟨_, rfl⟩
  have MEc := ME.out s2 kId _ HS.out.1.re
  rw [hme2] at MEc
  refine MEc.mono ?_
  rintro e w6 ⟨rfl, hb6⟩
  have HS := Lib.hid (ASt.call HS.out (RePost.of HS.out.1.re hb6))
  have c4 := HS.out.1.rcell
  have HME2 := Lib.hid hme2
  clear hb6 MEc hme2
  cases me2
  case' none =>
   obtain ⟨l3, hl3⟩ : ∃ l3, l2 = l3 := ⟨_, rfl⟩
   obtain ⟨s3, hs3⟩ : ∃ s3, s2 = s3 := ⟨_, rfl⟩
   have HL3 : Hid (appsO s.js s.ups s2 id l2 = (l3, s3)) := Lib.hid (by unfold appsO; rw [HME2.out, hl3, hs3])
   rw [hl3, hs3] at HS
   have HS3 := HS
   clear hl3 hs3
   unfold memV
  case' some k2 =>
   have TXk := TX.out s2 k2 _ HS.out.1.re
   have tz := TZ.out s2 k2
   obtain ⟨tx, htx⟩ : ∃ tx, txtA s.js s2 k2 = tx := ⟨_, rfl⟩
   rw [htx] at TXk tz
   have TXk := Lib.hid TXk
   have HTX := Lib.hid htx
   clear htx
   unfold memV
   go_wp2_with fail
   refine TXk.out.mono ?_
   rintro e w7 ⟨rfl, hp7⟩
   have HS := Lib.hid (ASt.call HS.out hp7)
   have c4 := HS.out.1.rcell; have x8 := HS.out.1.cell
   have x8c := x8.1; have x8f := x8.2
   obtain ⟨ev, e0, e1, e2, _, hev⟩ := HS.out.1.re.cells
   clear hp7 x8
   rcases hev with ⟨hbd, rfl⟩ | ⟨hbd, bf, rfl⟩
   case' inr =>
    obtain ⟨l3, hl3⟩ : ∃ l3, l2 = l3 := ⟨_, rfl⟩
    obtain ⟨s3, hs3⟩ : ∃ s3, tx.2 = s3 := ⟨_, rfl⟩
    have HL3 : Hid (appsO s.js s.ups s2 id l2 = (l3, s3)) := Lib.hid (by unfold appsO; rw [HME2.out]; dsimp only; rw [HTX.out, if_pos hbd, hl3, hs3])
    rw [hl3, hs3] at HS
    have HS3 := HS
    have HBAD : Hid (s3.bad = false → False) := Lib.hid (fun e => by rw [hs3, e] at hbd; cases hbd)
    clear hl3 hs3 e0 e1 e2 x8c x8f hbd
   case' inl =>
    have hfl := HS.out.2.apps
    have APk := AP.out tx.2 k2 tx.1 l2 _ w7 HS.out.1.re tz hfl (by have := appsL_len HKL.out HL.out; omega) (heap_lt HS.out.1.box)
    obtain ⟨A, hA⟩ : ∃ A, appA tx.2 tx.1 l2 = A := ⟨_, rfl⟩
    rw [hA] at APk
    have APk := Lib.hid APk
    obtain ⟨ao7, cap7, hv7, _⟩ := aown_form hfl
    (first | subst hv7 | clear hv7)
    have HL3 : Hid (appsO s.js s.ups s2 id l2 = (A.1, A.2)) := Lib.hid (by unfold appsO; rw [HME2.out]; dsimp only; rw [HTX.out, if_neg (by rw [hbd]; decide), hA])
    clear hfl hA hbd
    go_wp2_with fail
    refine APk.out.mono ?_
    rintro e w8 ⟨v8, rfl, hr8, he8, hg8⟩
    obtain ⟨ao8, cap8, rfl, _⟩ := aown_form hr8
    have hS := ASt.app HS.out hr8 he8 hg8
    have hv := HS.out.2.apps.lt
    have hx8 := oblock hg8.only HS.out.1.box (by rintro (t | t); omega; have := (hv _ t).1; omega)
    have x8c := Lib.cell_of_heap hx8 0; have x8f := Go.Joins.unfrozen_of_block hx8 0
    obtain ⟨W8, hW8⟩ : ∃ W8, w8.setCell ⟨w.heap.size + 1, 0, none⟩ (.slice ao8 A.1.length cap8) = W8 := ⟨_, rfl⟩
    rw [hW8] at hS
    obtain ⟨l3, hl3⟩ : ∃ l3, A.1 = l3 := ⟨_, rfl⟩
    obtain ⟨s3, hs3⟩ : ∃ s3, A.2 = s3 := ⟨_, rfl⟩
    rw [hl3, hs3] at HL3
    rw [hl3, hs3] at hS
    rw [hl3] at hW8 ⊢
    have HS3 := Lib.hid hS
    clear hr8 he8 hg8 hS hv hx8 e0 e1 e2 hl3 hs3)
 all_goals (
  obtain ⟨ao9, cap9, hv9, _⟩ := aown_form HS3.out.2.apps
  (first | subst hv9 | clear hv9)
  have k4 := HS3.out.1.rcell; have k8 := HS3.out.1.cell
  have k8c := k8.1; have k8f := k8.2
  obtain ⟨ev, k0, k1, k2, _, hev⟩ := HS3.out.1.re.cells
  have hR3 := HRR.out
  rw [HL.out] at hR3
  dsimp only at hR3
  rw [HL3.out] at hR3
  dsimp only at hR3
  have WRc := Lib.hid (rwrong_any hV s3 id 30 _ HS3.out.1.re)
  clear k8
  rcases hev with ⟨hbd, rfl⟩ | ⟨hbd, bf, rfl⟩
  · first
    | (exact (HBAD.out hbd).elim)
    | (by_cases h3 : l3 = []
       · have t3 : ((l3.length : Int) == 0) = true := by rw [h3]; rfl
         have t4 : (l3.length = 0) = True := eq_true (by rw [h3]; rfl)
         have HRX : Hid (RR = (l3, s3.fail)) := Lib.hid (by rw [← hR3, h3]; simp [RdSt.fail])
         have H3 := Lib.hid h3
         clear hR3 hbd h3
         go_wp2_with fail
         refine WRc.out.mono ?_
         rintro e w9 ⟨rfl, hp9⟩
         have hS9 := ASt.call HS3.out hp9
         obtain ⟨W', hw, hc, hm, hpp⟩ := hS9.1.end_ (.inr hS9.2)
         obtain ⟨vq, hpp, hc⟩ : ∃ vq, GaPost W0 Wv vv w D 2 (RR.1.flatMap appD) RR.2 (.returned vq) W' ∧ W'.cell? ⟨w.heap.size + 1, 0, none⟩ = some vq := ⟨_, by rw [HRX.out]; exact hpp, hc⟩
         have y8 := hS9.1.cell
         have y8c := y8.1; have y8f := y8.2
         have HP := Lib.hid (And.intro hm (And.intro hw hpp))
         clear hp9 hS9 hw hm hpp y8 k8c k8f t3 t4
         go_wp2
         first
          | exact postM none rfl HP.out.1 HP.out.2.1 (by simp [results, Tryz.results99, go_sem, hc]) HP.out.2.2
          | exact postM (some _) rfl HP.out.1 HP.out.2.1 (by simp [results, Tryz.results99, go_sem, hc]) HP.out.2.2
       · have h5 : l3.length ≠ 0 := fun e => h3 (List.eq_nil_of_length_eq_zero e)
         have t3 : ((l3.length : Int) == 0) = false := by simpa using h3
         have t4 : (l3.length = 0) = False := eq_false h5
         have t5 : (l3 = []) = False := eq_false h3
         have HRX : Hid (RR = (l3, s3)) := Lib.hid (by
          rw [← hR3, hbd]
          have : l3.isEmpty = false := by cases l3 with | nil => exact absurd rfl h3 | cons _ _ => rfl
          rw [this]; cases s3; cases hbd; rfl)
         obtain ⟨W', hw, hc, hm, hpp⟩ := HS3.out.1.end_ (.inr HS3.out.2)
         obtain ⟨vq, hpp, hc⟩ : ∃ vq, GaPost W0 Wv vv w D 2 (RR.1.flatMap appD) RR.2 (.returned vq) W' ∧ W'.cell? ⟨w.heap.size + 1, 0, none⟩ = some vq := ⟨_, by rw [HRX.out]; exact hpp, hc⟩
         have HP := Lib.hid (And.intro hm (And.intro hw hpp))
         clear hR3 hbd h3 h5 hw hm hpp
         go_wp2
         first
          | exact postM none rfl HP.out.1 HP.out.2.1 (by simp [results, Tryz.results99, go_sem, hc]) HP.out.2.2
          | exact postM (some _) rfl HP.out.1 HP.out.2.1 (by simp [results, Tryz.results99, go_sem, hc]) HP.out.2.2)
  · have HRX : Hid (RR = (l3, s3)) := Lib.hid (by rw [← hR3, hbd]; cases s3; cases hbd; rfl)
    obtain ⟨W', hw, hc, hm, hpp⟩ := HS3.out.1.end_ (.inr HS3.out.2)
    obtain ⟨vq, hpp, hc⟩ : ∃ vq, GaPost W0 Wv vv w D 2 (RR.1.flatMap appD) RR.2 (.returned vq) W' ∧ W'.cell? ⟨w.heap.size + 1, 0, none⟩ = some vq := ⟨_, by rw [HRX.out]; exact hpp, hc⟩
    have HP := Lib.hid (And.intro hm (And.intro hw hpp))
    clear hR3 hbd hw hm hpp
    go_wp2
    first
     | exact postM none rfl HP.out.1 HP.out.2.1 (by simp [results, Tryz.results99, go_sem, hc]) HP.out.2.2
     | exact postM (some _) rfl HP.out.1 HP.out.2.1 (by simp [results, Tryz.results99, go_sem, hc]) HP.out.2.2)
end
end Go.Proofs.YtcaiibkgajhohaaGreatDoor
