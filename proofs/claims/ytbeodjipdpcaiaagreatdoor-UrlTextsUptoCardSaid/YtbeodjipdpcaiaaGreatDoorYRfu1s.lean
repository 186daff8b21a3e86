/- Texts put together. -/
import Derived.Test.YtbeodjipdpcaiaaGreatDoorYMore14
import Derived.Test.YtbeodjipdpcaiaaGreatDoorYUrw6
import Derived.Test.YtbeodjipdpcaiaaGreatDoorYRfw1f
import Derived.Test.YtbeodjipdpcaiaaGreatDoorYDec4f
import Derived.Test.YtbeodjipdpcaiaaGreatDoorYQb1s
import Derived.Test.YtbeodjipdpcaiaaGreatDoorYUrx1s
import Derived.Test.YtbeodjipdpcaiaaGreatDoorYUrw9s
namespace Go.Proofs.YtbeodjipdpcaiaaGreatDoor
section
open Go.RowKit
set_option maxRecDepth 100000 in
set_option maxHeartbeats 2000000 in
/-- ref14.Web -/
theorem rweb14_any (s : ByteArray) (w : World) : Calls Tryz.prog 35 #[.string s] w fun e w' => e = .returned (.bool (webL (bytesN s))) ∧ w' = w := by
 have t1 := http_eq s
 have t2 := https_eq s
 unfold webL
 obtain ⟨b1, h1⟩ : ∃ b, decide (bytesN s = httpL) = b := ⟨_, rfl⟩
 obtain ⟨b2, h2⟩ : ∃ b, decide (bytesN s = httpsL) = b := ⟨_, rfl⟩
 rw [h1] at t1
 rw [h2] at t2
 rw [h1, h2]
 clear h1 h2
 cases b1 <;> cases b2
 all_goals
  go_enter Tryz.func35, Tryz.ntmps35
  go_wp2
  go_ret
  exact ⟨rfl, rfl⟩
set_option maxRecDepth 100000 in
set_option maxHeartbeats 2000000 in
/-- ref14.own -/
theorem rown14_any (s : ByteArray) (w : World) : Calls Tryz.prog 81 #[.string s] w fun e w' => e = .returned (.int .i64 (ownP (bytesN s))) ∧ w' = w := by
 have t1 := http_eq s
 have t2 := https_eq s
 unfold ownP
 by_cases h1 : bytesN s = httpL
 · rw [decide_eq_true h1] at t1
   rw [if_pos h1]
   clear h1 t2
   go_enter Tryz.func81, Tryz.ntmps81
   go_wp2
   go_ret
   exact ⟨rfl, rfl⟩
 · rw [decide_eq_false h1] at t1
   rw [if_neg h1]
   by_cases h2 : bytesN s = httpsL
   · rw [decide_eq_true h2] at t2
     rw [if_pos h2]
     clear h1 h2
     go_enter Tryz.func81, Tryz.ntmps81
     go_wp2
     go_ret
     exact ⟨rfl, rfl⟩
   · rw [decide_eq_false h2] at t2
     rw [if_neg h2]
     clear h1 h2
     go_enter Tryz.func81, Tryz.ntmps81
     go_wp2
     go_ret
     exact ⟨rfl, rfl⟩
set_option maxRecDepth 100000 in
set_option maxHeartbeats 8000000 in
/-- waybillref14.where -/
theorem r14where_any (s : ByteArray) (k : Int) (t : ByteArray) (p : Int) (pa q f : ByteArray) (hq hf : Bool) (w : World) (ht : t.size ≤ 100000) (hp : -9223372036854775808 ≤ p ∧ p < 9223372036854775808) : Calls Tryz.prog 93 #[.agg (urlA s k t p pa q f hq hf)] w fun e w' => e = .returned (.string (whereB s k t p)) ∧ Below w.heap.size w w' := by
 obtain ⟨W1, hW1⟩ : ∃ W, w.alloc (.cells (urlA s k t p pa q f hq hf) 50) = W := ⟨_, rfl⟩
 have hb1 : Below w.heap.size w W1 := by rw [← hW1]; exact ext_alloc (Below.refl _ _) _
 have hx1 : W1.heap[w.heap.size]? = some (.cells (urlA s k t p pa q f hq hf) 50 (0, 0)) := by rw [← hW1]; exact heap_alloc_new w _
 have c1 : W1.cell? ⟨w.heap.size, 1, none⟩ = some (.int .i64 k) := Lib.cell_of_heap hx1 1
 have c2 : W1.cell? ⟨w.heap.size, 2, none⟩ = some (.string t) := Lib.cell_of_heap hx1 2
 have TX := fun W => rtextOf_any k t W (by omega)
 have hTz := hostT_size k t
 have hWB : whereB s k t p = if wherePortB s p = true then hostT k t ++ (colonB ++ decB p.toNat) else hostT k t := rfl
 obtain ⟨T, hT⟩ : ∃ T, hostT k t = T := ⟨_, rfl⟩
 rw [hT] at TX hTz hWB
 have HTX := Lib.hid TX; have HX1 := Lib.hid hx1; have HB1 := Lib.hid hb1; have HWB := Lib.hid hWB
 have OW := fun W => rown14_any s W
 have HOW : Hid (∀ W, Calls Tryz.prog 81 #[.string s] W fun e w' => e = .returned (.int .i64 (ownB s)) ∧ W = w') := Lib.hid (fun W => (OW W).mono (by rintro e w' ⟨rfl, h⟩; exact ⟨rfl, h.symm⟩))
 unfold wherePortB at hWB
 obtain ⟨ow, how⟩ : ∃ o, ownB s = o := ⟨_, rfl⟩
 obtain ⟨b1, hb1'⟩ : ∃ b, decide (0 ≤ p) = b := ⟨_, rfl⟩
 obtain ⟨b2, hb2'⟩ : ∃ b, decide (p ≠ ow) = b := ⟨_, rfl⟩
 rw [how] at HOW hWB
 rw [hb1', hb2'] at hWB
 have t2 : (p != ow) = b2 := by rw [← hb2', Bool.eq_iff_iff, bne_iff_ne, decide_eq_true_eq]
 have HWB := Lib.hid hWB
 unfold urlA at hW1
 clear hb1 hx1 TX OW hT how hb2' hWB
 cases b1 with
 | false =>
   have hfin : whereB s k t p = T := by rw [HWB.out]; rfl
   rw [hfin]
   clear hfin ht
   go_enter Tryz.func93, Tryz.ntmps93
   unfold urlA
   go_wp2_with fail
   refine (HTX.out _).mono ?_
   rintro e w2 ⟨rfl, hb2⟩
   have c3 : w2.cell? ⟨w.heap.size, 3, none⟩ = some (.int .i64 p) := Lib.cell_of_heap ((hb2.block _ (heap_lt HX1.out)).trans HX1.out) 3
   have HB2 := Lib.hid (ext_trans HB1.out hb2)
   clear hb2 hW1 c1 c2
   go_wp2_with fail
   go_quiet (fail)
   go_wp2
   go_ret
   exact ⟨rfl, ext_drewN _ HB2.out⟩
 | true =>
   have hp0 := of_decide_eq_true hb1'
   obtain ⟨n, hn⟩ : ∃ n : Nat, p = (n : Int) := ⟨p.toNat, by omega⟩
   cases b2 with
   | false =>
     have hfin : whereB s k t p = T := by rw [HWB.out]; rfl
     rw [hfin]
     clear hfin ht hn
     go_enter Tryz.func93, Tryz.ntmps93
     unfold urlA
     go_wp2_with fail
     refine (HTX.out _).mono ?_
     rintro e w2 ⟨rfl, hb2⟩
     have hx2 := (hb2.block _ (heap_lt HX1.out)).trans HX1.out
     have c3 : w2.cell? ⟨w.heap.size, 3, none⟩ = some (.int .i64 p) := Lib.cell_of_heap hx2 3
     have c0 : w2.cell? ⟨w.heap.size, 0, none⟩ = some (.string s) := Lib.cell_of_heap hx2 0
     have HB2 := Lib.hid (ext_trans HB1.out hb2)
     clear hb2 hW1 c1 c2 hx2
     go_wp2_with fail
     go_quiet ((go_at_call 81; exact quiet_eq (HOW.out _)))
     go_wp2
     go_ret
     exact ⟨rfl, ext_drewN _ HB2.out⟩
   | true =>
     have hfin : whereB s k t p = T ++ (colonB ++ decB n) := by rw [HWB.out, hn]; rfl
     rw [hfin]
     have DG := fun W => rwritten10_any n W (by omega)
     have hDz : (decB n).size ≤ 20 := decB_size (by omega)
     obtain ⟨D, hD⟩ : ∃ D, decB n = D := ⟨_, rfl⟩
     rw [hD] at DG hDz ⊢
     unfold colonB
     obtain ⟨D1, hD1⟩ : ∃ D1, (⟨#[58]⟩ : ByteArray) ++ D = D1 := ⟨_, rfl⟩
     have hD1z : D1.size ≤ 21 := by rw [← hD1, bapp_size]; have : (⟨#[58]⟩ : ByteArray).size = 1 := rfl; omega
     rw [hD1]
     obtain ⟨Z, hZ⟩ : ∃ Z, T ++ D1 = Z := ⟨_, rfl⟩
     rw [hZ]
     have hTz2 : T.size ≤ 100002 := by omega
     have q1 : IntKind.u64.wrap (n : Int) = (n : Int) := IntWalk.u64_in _ (by omega)
     have HDG := Lib.hid DG
     subst hn
     clear hfin ht hTz DG hD hp
     go_enter Tryz.func93, Tryz.ntmps93
     unfold urlA
     go_wp2_with fail
     refine (HTX.out _).mono ?_
     rintro e w2 ⟨rfl, hb2⟩
     have hx2 := (hb2.block _ (heap_lt HX1.out)).trans HX1.out
     have c3 : w2.cell? ⟨w.heap.size, 3, none⟩ = some (.int .i64 (n : Int)) := Lib.cell_of_heap hx2 3
     have c0 : w2.cell? ⟨w.heap.size, 0, none⟩ = some (.string s) := Lib.cell_of_heap hx2 0
     have HB2 := Lib.hid (ext_trans HB1.out hb2)
     clear hb2 hW1 c1 c2 hx2
     go_wp2_with fail
     go_quiet ((go_at_call 81; exact quiet_eq (HOW.out _)))
     go_wp2_with fail
     refine (HDG.out _).mono ?_
     rintro e w3 ⟨rfl, hb3⟩
     have HB3 := Lib.hid (ext_trans HB2.out (ext_trans (ext_drewN _ (Below.refl _ _)) hb3))
     clear hb3
     go_wp2
     go_ret
     exact ⟨rfl, HB3.out⟩
set_option maxRecDepth 100000 in
set_option maxHeartbeats 16000000 in
/-- waybillref14.Text -/
theorem r14text_any (s : ByteArray) (k : Int) (t : ByteArray) (p : Int) (pa q f : ByteArray) (hq hf : Bool) (w : World) (hs : s.size ≤ 100000) (ht : t.size ≤ 100000) (hpa : pa.size ≤ 100000) (hqz : q.size ≤ 100000) (hfz : f.size ≤ 100000) (hp : -9223372036854775808 ≤ p ∧ p < 9223372036854775808) : Calls Tryz.prog 39 #[.agg (urlA s k t p pa q f hq hf)] w fun e w' => e = .returned (.string (textB s k t p pa q f hq hf)) ∧ Below w.heap.size w w' := by
 obtain ⟨W1, hW1⟩ : ∃ W, w.alloc (.cells (urlA s k t p pa q f hq hf) 50) = W := ⟨_, rfl⟩
 have hb1 : Below w.heap.size w W1 := by rw [← hW1]; exact ext_alloc (Below.refl _ _) _
 have hx1 : W1.heap[w.heap.size]? = some (.cells (urlA s k t p pa q f hq hf) 50 (0, 0)) := by rw [← hW1]; exact heap_alloc_new w _
 have hld : (loadVar 50 ⟨w.heap.size, 0, none⟩).run Tryz.prog W1 = .ok (.agg #[.string s, .int .i64 k, .string t, .int .i64 p, .string pa, .string q, .string f, .bool hq, .bool hf]) W1 := ur_load s k t p pa q f hq hf _ _ hx1
 have WH : ∀ W, Calls Tryz.prog 93 #[.agg #[.string s, .int .i64 k, .string t, .int .i64 p, .string pa, .string q, .string f, .bool hq, .bool hf]] W fun e w' => e = .returned (.string (whereB s k t p)) ∧ Below W.heap.size W w' := fun W => r14where_any s k t p pa q f hq hf W ht hp
 have hVz := whereB_size s k t p hp.2
 have WE := fun W => rweb14_any s W
 have hTB : textB s k t p pa q f hq hf = textB3 (textB2 (textB1 s k t p ++ pa) q hq) f hf := rfl
 have hT1 : textB1 s k t p = if hostedB s k t = true then (s ++ colonB) ++ (slashesB ++ whereB s k t p) else s ++ colonB := rfl
 obtain ⟨R, hR⟩ : ∃ R, textB s k t p pa q f hq hf = R := ⟨_, rfl⟩
 obtain ⟨X, hX⟩ : ∃ X, textB1 s k t p = X := ⟨_, rfl⟩
 rw [hR, hX] at hTB
 rw [hX] at hT1
 rw [hR]
 obtain ⟨V, hV⟩ : ∃ V, whereB s k t p = V := ⟨_, rfl⟩
 rw [hV] at WH hT1 hVz
 unfold textB2 textB3 askB hashB at hTB
 unfold colonB slashesB at hT1
 have hh : hostedB s k t = (!(decide (k = 0) && decide (t = ⟨#[]⟩)) || webL (bytesN s)) := rfl
 obtain ⟨bw, hbw⟩ : ∃ b, webL (bytesN s) = b := ⟨_, rfl⟩
 rw [hbw] at hh WE
 rw [hh] at hT1
 have tk : ∃ b, decide (k = 0) = b ∧ (k == 0) = b ∧ (k != 0) = !b := ⟨decide (k = 0), rfl, by rw [Bool.eq_iff_iff]; simp, by rw [Bool.eq_iff_iff]; simp⟩
 have tt : ∃ b, decide (t = ⟨#[]⟩) = b ∧ (t.toList == []) = b ∧ t.toList.isEmpty = b := ⟨decide (t = ⟨#[]⟩), rfl, by
  by_cases h : t = ⟨#[]⟩
  · rw [decide_eq_true h, h, ByteArray.toList_eq]; rfl
  · rw [decide_eq_false h]; have h2 := beqS_f h; rw [show (⟨#[]⟩ : ByteArray).toList = [] by rw [ByteArray.toList_eq]] at h2; exact h2, by
  by_cases h : t = ⟨#[]⟩
  · rw [decide_eq_true h, h, ByteArray.toList_eq]; rfl
  · rw [decide_eq_false h]; exact str_ne (fun e => h (empty_of e))⟩
 obtain ⟨bk, ek, tk1, tk2⟩ := tk
 obtain ⟨bt, et, tt1, tt2⟩ := tt
 rw [ek, et] at hT1
 obtain ⟨A, hA⟩ : ∃ A, s ++ (⟨#[58]⟩ : ByteArray) = A := ⟨_, rfl⟩
 obtain ⟨B, hB⟩ : ∃ B, (⟨#[47, 47]⟩ : ByteArray) ++ V = B := ⟨_, rfl⟩
 obtain ⟨C, hC⟩ : ∃ C, A ++ B = C := ⟨_, rfl⟩
 rw [hA, hB, hC] at hT1
 obtain ⟨D, hD⟩ : ∃ D, X ++ pa = D := ⟨_, rfl⟩
 obtain ⟨E, hE⟩ : ∃ E, (⟨#[63]⟩ : ByteArray) ++ q = E := ⟨_, rfl⟩
 obtain ⟨F, hF⟩ : ∃ F, D ++ E = F := ⟨_, rfl⟩
 obtain ⟨G, hG⟩ : ∃ G, (⟨#[35]⟩ : ByteArray) ++ f = G := ⟨_, rfl⟩
 obtain ⟨H0, hH0⟩ : ∃ H, D ++ G = H := ⟨_, rfl⟩
 obtain ⟨H1, hH1⟩ : ∃ H, F ++ G = H := ⟨_, rfl⟩
 rw [hD, hE, hF, hG] at hTB
 have z1 : (⟨#[58]⟩ : ByteArray).size = 1 := rfl
 have z2 : (⟨#[47, 47]⟩ : ByteArray).size = 2 := rfl
 have z3 : (⟨#[63]⟩ : ByteArray).size = 1 := rfl
 have z4 : (⟨#[35]⟩ : ByteArray).size = 1 := rfl
 have hAz : A.size ≤ 100001 := by rw [← hA, bapp_size]; omega
 have hVz2 : V.size ≤ 100100 := by omega
 have hBz : B.size ≤ 100200 := by rw [← hB, bapp_size]; omega
 have hCz : C.size ≤ 300000 := by rw [← hC, bapp_size]; omega
 have hXz : X.size ≤ 300000 := by rw [hT1]; split <;> omega
 have hDz : D.size ≤ 400000 := by rw [← hD, bapp_size]; omega
 have hEz : E.size ≤ 100001 := by rw [← hE, bapp_size]; omega
 have hFz : F.size ≤ 500100 := by rw [← hF, bapp_size]; omega
 have hGz : G.size ≤ 100001 := by rw [← hG, bapp_size]; omega
 have HTB := Lib.hid hTB; have HWH := Lib.hid WH; have HWE := Lib.hid WE; have HX1 := Lib.hid hx1; have HB1 := Lib.hid hb1
 have c0 : W1.cell? ⟨w.heap.size, 0, none⟩ = some (.string s) := Lib.cell_of_heap hx1 0
 have c1 : W1.cell? ⟨w.heap.size, 1, none⟩ = some (.int .i64 k) := Lib.cell_of_heap hx1 1
 have c2 : W1.cell? ⟨w.heap.size, 2, none⟩ = some (.string t) := Lib.cell_of_heap hx1 2
 have CE : Hid (∀ W, Below W1.heap.size W1 W → W.cell? ⟨w.heap.size, 4, none⟩ = some (.string pa) ∧ W.cell? ⟨w.heap.size, 5, none⟩ = some (.string q) ∧ W.cell? ⟨w.heap.size, 6, none⟩ = some (.string f) ∧ W.cell? ⟨w.heap.size, 7, none⟩ = some (.bool hq) ∧ W.cell? ⟨w.heap.size, 8, none⟩ = some (.bool hf)) := Lib.hid (fun W h => by
  have hx := (h.block _ (heap_lt HX1.out)).trans HX1.out
  exact ⟨Lib.cell_of_heap hx 4, Lib.cell_of_heap hx 5, Lib.cell_of_heap hx 6, Lib.cell_of_heap hx 7, Lib.cell_of_heap hx 8⟩)
 unfold urlA at hW1
 clear hb1 hx1 WH WE hTB hR hX hV hh hbw ek et z1 z2 z3 z4 hVz ht hp
 have KEY : ∀ (tb : Bool), tb = (!(bk && bt) || bw) → (tb = true → X = C) ∧ (tb = false → X = A) := fun tb h => ⟨fun h2 => by rw [hT1, ← h, h2]; rfl, fun h2 => by rw [hT1, ← h, h2]; rfl⟩
 have HKEY := Lib.hid KEY
 clear KEY hT1
 cases bw with
 | true =>
   have hXX := (HKEY.out true (by cases bk <;> cases bt <;> rfl)).1 rfl
   subst hXX
   clear HKEY
   cases hq <;> cases hf
   all_goals
    go_enter Tryz.func39, Tryz.ntmps39
    unfold urlA
    go_wp2_with fail
    refine (HWE.out _).mono ?_
    rintro e v1 ⟨rfl, hv⟩
    have hv' := hv.symm
    subst hv'
    clear hv
    go_wp2_with ((with_reducible show wpList _ _ _ (_ :: _) _ _); refine ld_arr 50 w.heap.size _ hld _ rfl rfl rfl ?_)
    clear hW1 c0 c1 c2 hld
    refine (HWH.out _).mono ?_
    rintro e w2 ⟨rfl, hb2⟩
    obtain ⟨c4, c5, c6, c7, c8⟩ := CE.out w2 hb2
    have HB2 := Lib.hid (ext_trans HB1.out hb2)
    clear hb2
    go_wp2
    go_ret
    exact ⟨by rw [HTB.out]; first | rfl | (rw [← hH0]; rfl) | (rw [← hH1]; rfl), HB2.out⟩
 | false =>
   cases bk with
   | false =>
     have hXX := (HKEY.out true (by cases bt <;> rfl)).1 rfl
     subst hXX
     clear HKEY
     cases hq <;> cases hf
     all_goals
      go_enter Tryz.func39, Tryz.ntmps39
      unfold urlA
      go_wp2_with fail
      refine (HWE.out _).mono ?_
      rintro e v1 ⟨rfl, hv⟩
      have hv' := hv.symm
      subst hv'
      clear hv
      go_wp2_with ((with_reducible show wpList _ _ _ (_ :: _) _ _); refine ld_arr 50 w.heap.size _ hld _ rfl rfl rfl ?_)
      clear hW1 c0 c1 c2 hld
      refine (HWH.out _).mono ?_
      rintro e w2 ⟨rfl, hb2⟩
      obtain ⟨c4, c5, c6, c7, c8⟩ := CE.out w2 hb2
      have HB2 := Lib.hid (ext_trans HB1.out hb2)
      clear hb2
      go_wp2
      go_ret
      exact ⟨by rw [HTB.out]; first | rfl | (rw [← hH0]; rfl) | (rw [← hH1]; rfl), HB2.out⟩
   | true =>
     cases bt with
     | false =>
       have hXX := (HKEY.out true (by first | decide | (cases bw <;> rfl))).1 rfl
       subst hXX
       clear HKEY
       cases hq <;> cases hf
       all_goals
        go_enter Tryz.func39, Tryz.ntmps39
        unfold urlA
        go_wp2_with fail
        refine (HWE.out _).mono ?_
        rintro e v1 ⟨rfl, hv⟩
        have hv' := hv.symm
        subst hv'
        clear hv
        go_wp2_with ((with_reducible show wpList _ _ _ (_ :: _) _ _); refine ld_arr 50 w.heap.size _ hld _ rfl rfl rfl ?_)
        clear hW1 c0 c1 c2 hld
        refine (HWH.out _).mono ?_
        rintro e w2 ⟨rfl, hb2⟩
        obtain ⟨c4, c5, c6, c7, c8⟩ := CE.out w2 hb2
        have HB2 := Lib.hid (ext_trans HB1.out hb2)
        clear hb2
        go_wp2
        go_ret
        exact ⟨by rw [HTB.out]; first | rfl | (rw [← hH0]; rfl) | (rw [← hH1]; rfl), HB2.out⟩
     | true =>
       have hXX := (HKEY.out false (by first | decide | (cases bw <;> rfl))).2 rfl
       subst hXX
       clear HKEY
       cases hq <;> cases hf
       all_goals
        go_enter Tryz.func39, Tryz.ntmps39
        unfold urlA
        go_wp2_with fail
        refine (HWE.out _).mono ?_
        rintro e v1 ⟨rfl, hv⟩
        have hv' := hv.symm
        subst hv'
        clear hv
        obtain ⟨c4, c5, c6, c7, c8⟩ := CE.out W1 (Below.refl _ _)
        have HB2 := HB1
        go_wp2
        go_ret
        exact ⟨by rw [HTB.out]; first | rfl | (rw [← hH0]; rfl) | (rw [← hH1]; rfl), HB2.out⟩
set_option maxRecDepth 100000 in
set_option maxHeartbeats 8000000 in
/-- waybillref14.Origin -/
theorem r14origin_any (s : ByteArray) (k : Int) (t : ByteArray) (p : Int) (pa q f : ByteArray) (hq hf : Bool) (w : World) (hs : s.size ≤ 100000) (ht : t.size ≤ 100000) (hp : -9223372036854775808 ≤ p ∧ p < 9223372036854775808) : Calls Tryz.prog 41 #[.agg (urlA s k t p pa q f hq hf)] w fun e w' => e = .returned (.string (originB s k t p)) ∧ Below w.heap.size w w' := by
 obtain ⟨W1, hW1⟩ : ∃ W, w.alloc (.cells (urlA s k t p pa q f hq hf) 50) = W := ⟨_, rfl⟩
 have hb1 : Below w.heap.size w W1 := by rw [← hW1]; exact ext_alloc (Below.refl _ _) _
 have hx1 : W1.heap[w.heap.size]? = some (.cells (urlA s k t p pa q f hq hf) 50 (0, 0)) := by rw [← hW1]; exact heap_alloc_new w _
 have WH : ∀ W, Calls Tryz.prog 93 #[.agg #[.string s, .int .i64 k, .string t, .int .i64 p, .string pa, .string q, .string f, .bool hq, .bool hf]] W fun e w' => e = .returned (.string (whereB s k t p)) ∧ Below W.heap.size W w' := fun W => r14where_any s k t p pa q f hq hf W ht hp
 have hVz := whereB_size s k t p hp.2
 have WE := fun W => rweb14_any s W
 have hO : originB s k t p = if webL (bytesN s) = true then ((s ++ colonB) ++ slashesB) ++ whereB s k t p else ⟨#[]⟩ := rfl
 obtain ⟨R, hR⟩ : ∃ R, originB s k t p = R := ⟨_, rfl⟩
 rw [hR] at hO ⊢
 obtain ⟨V, hV⟩ : ∃ V, whereB s k t p = V := ⟨_, rfl⟩
 rw [hV] at WH hO hVz
 obtain ⟨bw, hbw⟩ : ∃ b, webL (bytesN s) = b := ⟨_, rfl⟩
 rw [hbw] at hO WE
 have HWH := Lib.hid WH; have HWE := Lib.hid WE; have HX1 := Lib.hid hx1; have HB1 := Lib.hid hb1
 have c0 : W1.cell? ⟨w.heap.size, 0, none⟩ = some (.string s) := Lib.cell_of_heap hx1 0
 unfold urlA at hW1
 clear hx1 hb1 WH WE hR hV hbw
 cases bw with
 | false =>
   have hO2 : R = ⟨#[]⟩ := by rw [hO]; rfl
   rw [hO2]
   clear hO hO2 hVz hs ht hp
   go_enter Tryz.func41, Tryz.ntmps41
   unfold urlA
   go_wp2_with fail
   refine (HWE.out _).mono ?_
   rintro e v1 ⟨rfl, hv⟩
   have hv' := hv.symm
   subst hv'
   clear hv
   go_wp2
   go_ret
   exact ⟨rfl, HB1.out⟩
 | true =>
   have hO2 : R = ((s ++ colonB) ++ slashesB) ++ V := by rw [hO]; rfl
   have h3 : (s ++ colonB) ++ slashesB = s ++ (⟨#[58, 47, 47]⟩ : ByteArray) := toList_inj (by rw [ByteArray.toList_eq, ByteArray.toList_eq]; simp [ByteArray.data_append, colonB, slashesB])
   obtain ⟨B, hB⟩ : ∃ B, s ++ (⟨#[58, 47, 47]⟩ : ByteArray) = B := ⟨_, rfl⟩
   rw [h3, hB] at hO2
   rw [hO2]
   have hBz : B.size ≤ 100003 := by rw [← hB, bapp_size]; have : (⟨#[58, 47, 47]⟩ : ByteArray).size = 3 := rfl; omega
   have hVz2 : V.size ≤ 100100 := by omega
   obtain ⟨C, hC⟩ : ∃ C, B ++ V = C := ⟨_, rfl⟩
   rw [hC]
   obtain ⟨b0, hb0⟩ : ∃ b, w.heap.size = b := ⟨_, rfl⟩
   rw [hb0] at c0
   have k0 : ∀ m : BW W1.heap.size W1, m.w.cell? ⟨b0, 0, none⟩ = some (.string s) := fun m => by rw [← hb0]; exact Lib.cell_of_heap ((m.below.block _ (heap_lt HX1.out)).trans HX1.out) 0
   have hq1 : ∀ w', (∃ n : BW W1.heap.size W1, w' = n.w) → (loadVar 50 ⟨b0, 0, none⟩).run Tryz.prog w' = .ok (.agg #[.string s, .int .i64 k, .string t, .int .i64 p, .string pa, .string q, .string f, .bool hq, .bool hf]) w' := fun w' h => by
    obtain ⟨m, rfl⟩ := h
    rw [← hb0]
    exact ur_load s k t p pa q f hq hf _ _ ((m.below.block _ (heap_lt HX1.out)).trans HX1.out)
   clear hO hO2 hVz ht hp
   go_enter Tryz.func41, Tryz.ntmps41
   unfold urlA
   go_wp2_with fail
   refine (HWE.out _).mono ?_
   rintro e v1 ⟨rfl, hv⟩
   have hv' := hv.symm
   subst hv'
   clear hv hW1
   go_wp2_with fail
   clear c0 hb0
   refine wp_region_quietB W1.heap.size (by kernel_rfl) (by kernel_rfl) ?_
   repeat (first | (go_big_quiet_want; refine quiet_ldRow 50 _ _ hq1 _ rfl rfl ?_; go_big_quiet_on; simp only [Act.put, List.setIfInBounds_toArray, List.set_cons_zero, List.set_cons_succ]) | go_big_quiet_step ((go_at_call 93; exact quiet_callB (HWH.out _) (Nat.le_refl _))))
   refine wpQuiet_nil ?_
   intro _ hw'
   obtain ⟨nb, hw4⟩ := hw'
   subst hw4
   have HB6 := Lib.hid (ext_trans HB1.out nb.below)
   clear k0 hq1
   generalize nb.w = W6 at *
   go_wp2
   go_ret
   exact ⟨rfl, HB6.out⟩
end
section
open Go.RowKit
set_option maxRecDepth 100000 in
set_option maxHeartbeats 8000000 in
/-- waybilllaw14.UrlTexts -/
theorem urlTexts_any (s : ByteArray) (k : Int) (t : ByteArray) (p : Int) (pa q f : ByteArray) (hq hf : Bool) (w : World) (hp : -9223372036854775808 ≤ p ∧ p < 9223372036854775808) (hz : pa.size ≤ 140737488355328 ∧ q.size ≤ 140737488355328) (hEn : HEnv w) : Calls Tryz.prog 12 #[.agg (urlA s k t p pa q f hq hf)] w fun e w' => e = .returned (.bool true) ∧ Below w.heap.size w w' := by
 obtain ⟨W1, hW1⟩ : ∃ W, w.alloc (.cells (urlA s k t p pa q f hq hf) 50) = W := ⟨_, rfl⟩
 have hb1 : Below w.heap.size w W1 := by rw [← hW1]; exact ext_alloc (Below.refl _ _) _
 have hx1 : W1.heap[w.heap.size]? = some (.cells (urlA s k t p pa q f hq hf) 50 (0, 0)) := by rw [← hW1]; exact heap_alloc_new w _
 have SPK := Lib.hid (speaks14 W1 (hEn.ext hb1))
 have HB1 := Lib.hid hb1; have HX1 := Lib.hid hx1
 obtain ⟨b0, hb0⟩ : ∃ b, w.heap.size = b := ⟨_, rfl⟩
 have HCE : Hid (∀ W, Below W1.heap.size W1 W → W.cell? ⟨b0, 0, none⟩ = some (.string s) ∧ W.cell? ⟨b0, 2, none⟩ = some (.string t) ∧ W.cell? ⟨b0, 4, none⟩ = some (.string pa) ∧ W.cell? ⟨b0, 5, none⟩ = some (.string q) ∧ W.cell? ⟨b0, 6, none⟩ = some (.string f)) := Lib.hid (fun W h => by
  have hx := (h.block _ (heap_lt HX1.out)).trans HX1.out
  rw [hb0] at hx
  exact ⟨Lib.cell_of_heap hx 0, Lib.cell_of_heap hx 2, Lib.cell_of_heap hx 4, Lib.cell_of_heap hx 5, Lib.cell_of_heap hx 6⟩)
 have q0 : IntKind.i64.wrap ((pa.size : Int) + (q.size : Int)) = (pa.size : Int) + (q.size : Int) := IntWalk.i64_in _ (by omega)
 have key : ∀ (x1 x2 x3 x4 : Bool), decide (6000 < pa.size + q.size) = x1 → decide (3000 < f.size) = x2 → decide (300 < s.size) = x3 → decide (3000 < t.size) = x4 → Calls Tryz.prog 12 #[.agg (urlA s k t p pa q f hq hf)] w fun e w' => e = .returned (.bool true) ∧ Below w.heap.size w w' := by
  intro x1 x2 x3 x4 h1 h2 h3 h4
  have u1 : decide ((6000 : Int) < (pa.size : Int) + (q.size : Int)) = x1 := by rw [← h1]; exact decide_eq_decide.2 (by omega)
  have u2 : decide ((3000 : Int) < (f.size : Int)) = x2 := by rw [← h2]; exact decide_eq_decide.2 (by omega)
  have u3 : decide ((300 : Int) < (s.size : Int)) = x3 := by rw [← h3]; exact decide_eq_decide.2 (by omega)
  have u4 : decide ((3000 : Int) < (t.size : Int)) = x4 := by rw [← h4]; exact decide_eq_decide.2 (by omega)
  by_cases hall : x1 = false ∧ x2 = false ∧ x3 = false ∧ x4 = false
  · obtain ⟨rfl, rfl, rfl, rfl⟩ := hall
    have l1 := of_decide_eq_false h1; have l2 := of_decide_eq_false h2; have l3 := of_decide_eq_false h3; have l4 := of_decide_eq_false h4
    have T1 : ∀ W, Calls Tryz.prog 38 #[.agg #[.string s, .int .i64 k, .string t, .int .i64 p, .string pa, .string q, .string f, .bool hq, .bool hf]] W fun e w' => e = .returned (.string (textB s k t p pa q f hq hf)) ∧ Below W.heap.size W w' := fun W => urltext_any s k t p pa q f hq hf W (by omega) (by omega) (by omega) (by omega) (by omega) hp
    have T2 : ∀ W, Calls Tryz.prog 39 #[.agg #[.string s, .int .i64 k, .string t, .int .i64 p, .string pa, .string q, .string f, .bool hq, .bool hf]] W fun e w' => e = .returned (.string (textB s k t p pa q f hq hf)) ∧ Below W.heap.size W w' := fun W => r14text_any s k t p pa q f hq hf W (by omega) (by omega) (by omega) (by omega) (by omega) hp
    have O1 : ∀ W, Calls Tryz.prog 40 #[.agg #[.string s, .int .i64 k, .string t, .int .i64 p, .string pa, .string q, .string f, .bool hq, .bool hf]] W fun e w' => e = .returned (.string (originB s k t p)) ∧ Below W.heap.size W w' := fun W => urlorigin_any s k t p pa q f hq hf W (by omega) (by omega) hp
    have O2 : ∀ W, Calls Tryz.prog 41 #[.agg #[.string s, .int .i64 k, .string t, .int .i64 p, .string pa, .string q, .string f, .bool hq, .bool hf]] W fun e w' => e = .returned (.string (originB s k t p)) ∧ Below W.heap.size W w' := fun W => r14origin_any s k t p pa q f hq hf W (by omega) (by omega) hp
    obtain ⟨A, hA⟩ : ∃ A, textB s k t p pa q f hq hf = A := ⟨_, rfl⟩
    obtain ⟨B, hB⟩ : ∃ B, originB s k t p = B := ⟨_, rfl⟩
    rw [hA] at T1 T2
    rw [hB] at O1 O2
    have HT1 := Lib.hid T1; have HT2 := Lib.hid T2; have HO1 := Lib.hid O1; have HO2 := Lib.hid O2
    have eA : (A.toList == A.toList) = true := beqS_t rfl
    have eB : (B.toList == B.toList) = true := beqS_t rfl
    have HLD : Hid (∀ W, Below W1.heap.size W1 W → (loadVar 50 ⟨b0, 0, none⟩).run Tryz.prog W = .ok (.agg #[.string s, .int .i64 k, .string t, .int .i64 p, .string pa, .string q, .string f, .bool hq, .bool hf]) W) := Lib.hid (fun W h => by
     have hx := (h.block _ (heap_lt HX1.out)).trans HX1.out
     rw [hb0] at hx
     exact ur_load s k t p pa q f hq hf _ _ hx)
    unfold urlA at hW1
    clear T1 T2 O1 O2 hA hB h1 h2 h3 h4 l1 l2 l3 l4 hb1 hx1 hEn hz hp
    go_enter Tryz.func12, Tryz.ntmps12
    unfold urlA
    go_wp2_with fail
    refine SPK.out.mono ?_
    rintro e w2 ⟨rfl, hb2⟩
    obtain ⟨c0, c2, c4, c5, c6⟩ := HCE.out w2 hb2
    have hz2 : b0 < w2.heap.size := by have := heap_lt HX1.out; have := hb2.size; omega
    have hq1 : ∀ w', (∃ n : BW w2.heap.size w2, w' = n.w) → (loadVar 50 ⟨b0, 0, none⟩).run Tryz.prog w' = .ok (.agg #[.string s, .int .i64 k, .string t, .int .i64 p, .string pa, .string q, .string f, .bool hq, .bool hf]) w' := fun w' h => by
     obtain ⟨m, rfl⟩ := h
     exact HLD.out _ (ext_trans hb2 m.below)
    have HB2 := Lib.hid (ext_trans HB1.out hb2)
    clear hb2 hW1 hz2
    go_wp2_with fail
    clear hb0 c0 c2 c4 c5 c6
    refine wp_region_quietB w2.heap.size (by kernel_rfl) (by kernel_rfl) ?_
    repeat (first | (go_big_quiet_want; refine quiet_ldRow 50 _ _ hq1 _ rfl rfl ?_; go_big_quiet_on; simp only [Act.put, List.setIfInBounds_toArray, List.set_cons_zero, List.set_cons_succ]) | go_big_quiet_step (first | (go_at_call 38; exact quiet_callB (HT1.out _) (Nat.le_refl _)) | (go_at_call 39; exact quiet_callB (HT2.out _) (Nat.le_refl _)) | (go_at_call 40; exact quiet_callB (HO1.out _) (Nat.le_refl _)) | (go_at_call 41; exact quiet_callB (HO2.out _) (Nat.le_refl _))))
    refine wpQuiet_nil ?_
    intro _ hw'
    obtain ⟨nb, hw4⟩ := hw'
    subst hw4
    have HB6 := Lib.hid (ext_trans HB2.out nb.below)
    clear hq1
    generalize nb.w = W6 at *
    go_wp2
    go_ret
    exact ⟨rfl, HB6.out⟩
  · clear h1 h2 h3 h4
    unfold urlA at hW1
    clear hb1 hx1 hEn hz hp
    cases x1 <;> cases x2 <;> cases x3 <;> cases x4
    all_goals first
     | (exfalso; exact hall ⟨rfl, rfl, rfl, rfl⟩)
     | (clear hall
        go_enter Tryz.func12, Tryz.ntmps12
        unfold urlA
        go_wp2_with fail
        refine SPK.out.mono ?_
        rintro e w2 ⟨rfl, hb2⟩
        obtain ⟨c0, c2, c4, c5, c6⟩ := HCE.out w2 hb2
        have HB2 := Lib.hid (ext_trans HB1.out hb2)
        clear hb2 hW1
        go_wp2
        go_ret
        exact ⟨rfl, HB2.out⟩)
 exact key _ _ _ _ rfl rfl rfl rfl
end
end Go.Proofs.YtbeodjipdpcaiaaGreatDoor
