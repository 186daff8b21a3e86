/- Texts put together. -/
import Derived.Test.YtbeodjipdpcaiaaGreatDoorYUrw6
import Derived.Test.YtbeodjipdpcaiaaGreatDoorYDec3s
import Derived.Test.YtbeodjipdpcaiaaGreatDoorYDec4f
import Derived.Test.YtbeodjipdpcaiaaGreatDoorYQb1s
import Derived.Test.YtbeodjipdpcaiaaGreatDoorYUrw8
import Derived.Test.YtbeodjipdpcaiaaGreatDoorYHsw4sf
namespace Go.Proofs.YtbeodjipdpcaiaaGreatDoor
section
open Go.RowKit
set_option maxRecDepth 100000 in
set_option maxHeartbeats 8000000 in
/-- url.where -/
theorem urlwhere_any (s : ByteArray) (k : Int) (t : ByteArray) (p : Int) (pa q f : ByteArray) (hq hf : Bool) (w : World) (ht : t.size ≤ 100000) (hp : -9223372036854775808 ≤ p ∧ p < 9223372036854775808) : Calls Tryz.prog 92 #[.agg (urlA s k t p pa q f hq hf)] w fun e w' => e = .returned (.string (whereB s k t p)) ∧ Below w.heap.size w w' := by
 obtain ⟨W1, hW1⟩ : ∃ W, w.alloc (.cells (urlA s k t p pa q f hq hf) 50) = W := ⟨_, rfl⟩
 have hb1 : Below w.heap.size w W1 := by rw [← hW1]; exact ext_alloc (Below.refl _ _) _
 have hx1 : W1.heap[w.heap.size]? = some (.cells (urlA s k t p pa q f hq hf) 50 (0, 0)) := by rw [← hW1]; exact heap_alloc_new w _
 have c1 : W1.cell? ⟨w.heap.size, 1, none⟩ = some (.int .i64 k) := Lib.cell_of_heap hx1 1
 have c2 : W1.cell? ⟨w.heap.size, 2, none⟩ = some (.string t) := Lib.cell_of_heap hx1 2
 have TX := fun W => htextOf_any k t W (by omega)
 have hTz := hostT_size k t
 have hWB : whereB s k t p = if wherePortB s p = true then hostT k t ++ (colonB ++ decB p.toNat) else hostT k t := rfl
 obtain ⟨T, hT⟩ : ∃ T, hostT k t = T := ⟨_, rfl⟩
 rw [hT] at TX hTz hWB
 have HTX := Lib.hid TX; have HX1 := Lib.hid hx1; have HB1 := Lib.hid hb1; have HWB := Lib.hid hWB
 have OW := fun W => uown_any s W
 have HOW : Hid (∀ W, Calls Tryz.prog 77 #[.string s] W fun e w' => e = .returned (.int .i64 (ownB s)) ∧ W = w') := Lib.hid (fun W => (OW W).mono (by rintro e w' ⟨rfl, h⟩; exact ⟨rfl, h.symm⟩))
 unfold wherePortB at hWB
 obtain ⟨ow, how⟩ : ∃ o, ownB s = o := ⟨_, rfl⟩
 obtain ⟨b1, hb1'⟩ : ∃ b, decide (0 ≤ p) = b := ⟨_, rfl⟩
 obtain ⟨b2, hb2'⟩ : ∃ b, decide (p ≠ ow) = b := ⟨_, rfl⟩
 rw [how] at HOW hWB
 rw [hb1', hb2'] at hWB
 have t2 : (p != ow) = b2 := by rw [← hb2', Bool.eq_iff_iff, bne_iff_ne, decide_eq_true_eq]
 have HWB := Lib.hid hWB
 unfold urlA at hW1
 clear hb1 hx1 TX OW hT how hb2' hWB
 cases b1 with
 | false =>
   have hfin : whereB s k t p = T := by rw [HWB.out]; rfl
   rw [hfin]
   clear hfin ht
   go_enter Tryz.func92, Tryz.ntmps92
   unfold urlA
   go_wp2_with fail
   refine (HTX.out _).mono ?_
   rintro e w2 ⟨rfl, hb2⟩
   have c3 : w2.cell? ⟨w.heap.size, 3, none⟩ = some (.int .i64 p) := Lib.cell_of_heap ((hb2.block _ (heap_lt HX1.out)).trans HX1.out) 3
   have HB2 := Lib.hid (ext_trans HB1.out hb2)
   clear hb2 hW1 c1 c2
   go_wp2_with fail
   go_quiet (fail)
   go_wp2
   go_ret
   exact ⟨rfl, ext_drewN _ HB2.out⟩
 | true =>
   have hp0 := of_decide_eq_true hb1'
   obtain ⟨n, hn⟩ : ∃ n : Nat, p = (n : Int) := ⟨p.toNat, by omega⟩
   cases b2 with
   | false =>
     have hfin : whereB s k t p = T := by rw [HWB.out]; rfl
     rw [hfin]
     clear hfin ht hn
     go_enter Tryz.func92, Tryz.ntmps92
     unfold urlA
     go_wp2_with fail
     refine (HTX.out _).mono ?_
     rintro e w2 ⟨rfl, hb2⟩
     have hx2 := (hb2.block _ (heap_lt HX1.out)).trans HX1.out
     have c3 : w2.cell? ⟨w.heap.size, 3, none⟩ = some (.int .i64 p) := Lib.cell_of_heap hx2 3
     have c0 : w2.cell? ⟨w.heap.size, 0, none⟩ = some (.string s) := Lib.cell_of_heap hx2 0
     have HB2 := Lib.hid (ext_trans HB1.out hb2)
     clear hb2 hW1 c1 c2 hx2
     go_wp2_with fail
     go_quiet ((go_at_call 77; exact quiet_eq (HOW.out _)))
     go_wp2
     go_ret
     exact ⟨rfl, ext_drewN _ HB2.out⟩
   | true =>
     have hfin : whereB s k t p = T ++ (colonB ++ decB n) := by rw [HWB.out, hn]; rfl
     rw [hfin]
     have DG := fun W => digits_dec n W (by omega)
     have hDz : (decB n).size ≤ 20 := decB_size (by omega)
     obtain ⟨D, hD⟩ : ∃ D, decB n = D := ⟨_, rfl⟩
     rw [hD] at DG hDz ⊢
     unfold colonB
     obtain ⟨D1, hD1⟩ : ∃ D1, (⟨#[58]⟩ : ByteArray) ++ D = D1 := ⟨_, rfl⟩
     have hD1z : D1.size ≤ 21 := by rw [← hD1, bapp_size]; have : (⟨#[58]⟩ : ByteArray).size = 1 := rfl; omega
     rw [hD1]
     obtain ⟨Z, hZ⟩ : ∃ Z, T ++ D1 = Z := ⟨_, rfl⟩
     rw [hZ]
     have hTz2 : T.size ≤ 100002 := by omega
     have q1 : IntKind.u64.wrap (n : Int) = (n : Int) := IntWalk.u64_in _ (by omega)
     have HDG := Lib.hid DG
     subst hn
     clear hfin ht hTz DG hD hp
     go_enter Tryz.func92, Tryz.ntmps92
     unfold urlA
     go_wp2_with fail
     refine (HTX.out _).mono ?_
     rintro e w2 ⟨rfl, hb2⟩
     have hx2 := (hb2.block _ (heap_lt HX1.out)).trans HX1.out
     have c3 : w2.cell? ⟨w.heap.size, 3, none⟩ = some (.int .i64 (n : Int)) := Lib.cell_of_heap hx2 3
     have c0 : w2.cell? ⟨w.heap.size, 0, none⟩ = some (.string s) := Lib.cell_of_heap hx2 0
     have HB2 := Lib.hid (ext_trans HB1.out hb2)
     clear hb2 hW1 c1 c2 hx2
     go_wp2_with fail
     go_quiet ((go_at_call 77; exact quiet_eq (HOW.out _)))
     go_wp2_with fail
     refine (HDG.out _).mono ?_
     rintro e w3 ⟨rfl, hb3⟩
     have HB3 := Lib.hid (ext_trans HB2.out (ext_trans (ext_drewN _ (Below.refl _ _)) hb3))
     clear hb3
     go_wp2
     go_ret
     exact ⟨rfl, HB3.out⟩
set_option maxRecDepth 100000 in
set_option maxHeartbeats 16000000 in
/-- url.Text -/
theorem urltext_any (s : ByteArray) (k : Int) (t : ByteArray) (p : Int) (pa q f : ByteArray) (hq hf : Bool) (w : World) (hs : s.size ≤ 100000) (ht : t.size ≤ 100000) (hpa : pa.size ≤ 100000) (hqz : q.size ≤ 100000) (hfz : f.size ≤ 100000) (hp : -9223372036854775808 ≤ p ∧ p < 9223372036854775808) : Calls Tryz.prog 38 #[.agg (urlA s k t p pa q f hq hf)] w fun e w' => e = .returned (.string (textB s k t p pa q f hq hf)) ∧ Below w.heap.size w w' := by
 obtain ⟨W1, hW1⟩ : ∃ W, w.alloc (.cells (urlA s k t p pa q f hq hf) 50) = W := ⟨_, rfl⟩
 have hb1 : Below w.heap.size w W1 := by rw [← hW1]; exact ext_alloc (Below.refl _ _) _
 have hx1 : W1.heap[w.heap.size]? = some (.cells (urlA s k t p pa q f hq hf) 50 (0, 0)) := by rw [← hW1]; exact heap_alloc_new w _
 have hld : (loadVar 50 ⟨w.heap.size, 0, none⟩).run Tryz.prog W1 = .ok (.agg #[.string s, .int .i64 k, .string t, .int .i64 p, .string pa, .string q, .string f, .bool hq, .bool hf]) W1 := ur_load s k t p pa q f hq hf _ _ hx1
 have WH : ∀ W, Calls Tryz.prog 92 #[.agg #[.string s, .int .i64 k, .string t, .int .i64 p, .string pa, .string q, .string f, .bool hq, .bool hf]] W fun e w' => e = .returned (.string (whereB s k t p)) ∧ Below W.heap.size W w' := fun W => urlwhere_any s k t p pa q f hq hf W ht hp
 have hVz := whereB_size s k t p hp.2
 have WE := fun W => uweb_any s W
 have hTB : textB s k t p pa q f hq hf = textB3 (textB2 (textB1 s k t p ++ pa) q hq) f hf := rfl
 have hT1 : textB1 s k t p = if hostedB s k t = true then (s ++ colonB) ++ (slashesB ++ whereB s k t p) else s ++ colonB := rfl
 obtain ⟨R, hR⟩ : ∃ R, textB s k t p pa q f hq hf = R := ⟨_, rfl⟩
 obtain ⟨X, hX⟩ : ∃ X, textB1 s k t p = X := ⟨_, rfl⟩
 rw [hR, hX] at hTB
 rw [hX] at hT1
 rw [hR]
 obtain ⟨V, hV⟩ : ∃ V, whereB s k t p = V := ⟨_, rfl⟩
 rw [hV] at WH hT1 hVz
 unfold textB2 textB3 askB hashB at hTB
 unfold colonB slashesB at hT1
 have hh : hostedB s k t = (!(decide (k = 0) && decide (t = ⟨#[]⟩)) || webL (bytesN s)) := rfl
 obtain ⟨bw, hbw⟩ : ∃ b, webL (bytesN s) = b := ⟨_, rfl⟩
 rw [hbw] at hh WE
 rw [hh] at hT1
 have tk : ∃ b, decide (k = 0) = b ∧ (k == 0) = b ∧ (k != 0) = !b := ⟨decide (k = 0), rfl, by rw [Bool.eq_iff_iff]; simp, by rw [Bool.eq_iff_iff]; simp⟩
 have tt : ∃ b, decide (t = ⟨#[]⟩) = b ∧ (t.toList == []) = b ∧ t.toList.isEmpty = b := ⟨decide (t = ⟨#[]⟩), rfl, by
  by_cases h : t = ⟨#[]⟩
  · rw [decide_eq_true h, h, ByteArray.toList_eq]; rfl
  · rw [decide_eq_false h]; have h2 := beqS_f h; rw [show (⟨#[]⟩ : ByteArray).toList = [] by rw [ByteArray.toList_eq]] at h2; exact h2, by
  by_cases h : t = ⟨#[]⟩
  · rw [decide_eq_true h, h, ByteArray.toList_eq]; rfl
  · rw [decide_eq_false h]; exact str_ne (fun e => h (empty_of e))⟩
 obtain ⟨bk, ek, tk1, tk2⟩ := tk
 obtain ⟨bt, et, tt1, tt2⟩ := tt
 rw [ek, et] at hT1
 obtain ⟨A, hA⟩ : ∃ A, s ++ (⟨#[58]⟩ : ByteArray) = A := ⟨_, rfl⟩
 obtain ⟨B, hB⟩ : ∃ B, (⟨#[47, 47]⟩ : ByteArray) ++ V = B := ⟨_, rfl⟩
 obtain ⟨C, hC⟩ : ∃ C, A ++ B = C := ⟨_, rfl⟩
 rw [hA, hB, hC] at hT1
 obtain ⟨D, hD⟩ : ∃ D, X ++ pa = D := ⟨_, rfl⟩
 obtain ⟨E, hE⟩ : ∃ E, (⟨#[63]⟩ : ByteArray) ++ q = E := ⟨_, rfl⟩
 obtain ⟨F, hF⟩ : ∃ F, D ++ E = F := ⟨_, rfl⟩
 obtain ⟨G, hG⟩ : ∃ G, (⟨#[35]⟩ : ByteArray) ++ f = G := ⟨_, rfl⟩
 obtain ⟨H0, hH0⟩ : ∃ H, D ++ G = H := ⟨_, rfl⟩
 obtain ⟨H1, hH1⟩ : ∃ H, F ++ G = H := ⟨_, rfl⟩
 rw [hD, hE, hF, hG] at hTB
 have z1 : (⟨#[58]⟩ : ByteArray).size = 1 := rfl
 have z2 : (⟨#[47, 47]⟩ : ByteArray).size = 2 := rfl
 have z3 : (⟨#[63]⟩ : ByteArray).size = 1 := rfl
 have z4 : (⟨#[35]⟩ : ByteArray).size = 1 := rfl
 have hAz : A.size ≤ 100001 := by rw [← hA, bapp_size]; omega
 have hVz2 : V.size ≤ 100100 := by omega
 have hBz : B.size ≤ 100200 := by rw [← hB, bapp_size]; omega
 have hCz : C.size ≤ 300000 := by rw [← hC, bapp_size]; omega
 have hXz : X.size ≤ 300000 := by rw [hT1]; split <;> omega
 have hDz : D.size ≤ 400000 := by rw [← hD, bapp_size]; omega
 have hEz : E.size ≤ 100001 := by rw [← hE, bapp_size]; omega
 have hFz : F.size ≤ 500100 := by rw [← hF, bapp_size]; omega
 have hGz : G.size ≤ 100001 := by rw [← hG, bapp_size]; omega
 have HTB := Lib.hid hTB; have HWH := Lib.hid WH; have HWE := Lib.hid WE; have HX1 := Lib.hid hx1; have HB1 := Lib.hid hb1
 have c0 : W1.cell? ⟨w.heap.size, 0, none⟩ = some (.string s) := Lib.cell_of_heap hx1 0
 have c1 : W1.cell? ⟨w.heap.size, 1, none⟩ = some (.int .i64 k) := Lib.cell_of_heap hx1 1
 have c2 : W1.cell? ⟨w.heap.size, 2, none⟩ = some (.string t) := Lib.cell_of_heap hx1 2
 have CE : Hid (∀ W, Below W1.heap.size W1 W → W.cell? ⟨w.heap.size, 4, none⟩ = some (.string pa) ∧ W.cell? ⟨w.heap.size, 5, none⟩ = some (.string q) ∧ W.cell? ⟨w.heap.size, 6, none⟩ = some (.string f) ∧ W.cell? ⟨w.heap.size, 7, none⟩ = some (.bool hq) ∧ W.cell? ⟨w.heap.size, 8, none⟩ = some (.bool hf)) := Lib.hid (fun W h => by
  have hx := (h.block _ (heap_lt HX1.out)).trans HX1.out
  exact ⟨Lib.cell_of_heap hx 4, Lib.cell_of_heap hx 5, Lib.cell_of_heap hx 6, Lib.cell_of_heap hx 7, Lib.cell_of_heap hx 8⟩)
 unfold urlA at hW1
 clear hb1 hx1 WH WE hTB hR hX hV hh hbw ek et z1 z2 z3 z4 hVz ht hp
 have KEY : ∀ (tb : Bool), tb = (!(bk && bt) || bw) → (tb = true → X = C) ∧ (tb = false → X = A) := fun tb h => ⟨fun h2 => by rw [hT1, ← h, h2]; rfl, fun h2 => by rw [hT1, ← h, h2]; rfl⟩
 have HKEY := Lib.hid KEY
 clear KEY hT1
 cases bk with
 | false =>
   cases bt with
   | false =>
     have hXX := (HKEY.out true (by first | decide | (cases bw <;> rfl))).1 rfl
     subst hXX
     clear HKEY
     cases hq <;> cases hf
     all_goals
      go_enter Tryz.func38, Tryz.ntmps38
      unfold urlA
      go_wp2_with ((with_reducible show wpList _ _ _ (_ :: _) _ _); refine ld_arr 50 w.heap.size _ hld _ rfl rfl rfl ?_)
      clear hW1 c0 c1 c2 hld
      refine (HWH.out _).mono ?_
      rintro e w2 ⟨rfl, hb2⟩
      obtain ⟨c4, c5, c6, c7, c8⟩ := CE.out w2 hb2
      have HB2 := Lib.hid (ext_trans HB1.out hb2)
      clear hb2
      go_wp2
      go_ret
      exact ⟨by rw [HTB.out]; first | rfl | (rw [← hH0]; rfl) | (rw [← hH1]; rfl), HB2.out⟩
   | true =>
     have hXX := (HKEY.out true (by first | decide | (cases bw <;> rfl))).1 rfl
     subst hXX
     clear HKEY
     cases hq <;> cases hf
     all_goals
      go_enter Tryz.func38, Tryz.ntmps38
      unfold urlA
      go_wp2_with ((with_reducible show wpList _ _ _ (_ :: _) _ _); refine ld_arr 50 w.heap.size _ hld _ rfl rfl rfl ?_)
      clear hW1 c0 c1 c2 hld
      refine (HWH.out _).mono ?_
      rintro e w2 ⟨rfl, hb2⟩
      obtain ⟨c4, c5, c6, c7, c8⟩ := CE.out w2 hb2
      have HB2 := Lib.hid (ext_trans HB1.out hb2)
      clear hb2
      go_wp2
      go_ret
      exact ⟨by rw [HTB.out]; first | rfl | (rw [← hH0]; rfl) | (rw [← hH1]; rfl), HB2.out⟩
 | true =>
   cases bt with
   | false =>
     have hXX := (HKEY.out true (by first | decide | (cases bw <;> rfl))).1 rfl
     subst hXX
     clear HKEY
     cases hq <;> cases hf
     all_goals
      go_enter Tryz.func38, Tryz.ntmps38
      unfold urlA
      go_wp2_with ((with_reducible show wpList _ _ _ (_ :: _) _ _); refine ld_arr 50 w.heap.size _ hld _ rfl rfl rfl ?_)
      clear hW1 c0 c1 c2 hld
      refine (HWH.out _).mono ?_
      rintro e w2 ⟨rfl, hb2⟩
      obtain ⟨c4, c5, c6, c7, c8⟩ := CE.out w2 hb2
      have HB2 := Lib.hid (ext_trans HB1.out hb2)
      clear hb2
      go_wp2
      go_ret
      exact ⟨by rw [HTB.out]; first | rfl | (rw [← hH0]; rfl) | (rw [← hH1]; rfl), HB2.out⟩
   | true =>
     cases bw with
     | true =>
       have hXX := (HKEY.out true (by first | decide | (cases bw <;> rfl))).1 rfl
       subst hXX
       clear HKEY
       cases hq <;> cases hf
       all_goals
        go_enter Tryz.func38, Tryz.ntmps38
        unfold urlA
        go_wp2_with fail
        refine (HWE.out _).mono ?_
        rintro e v1 ⟨rfl, hv⟩
        have hv' := hv.symm
        subst hv'
        clear hv
        go_wp2_with ((with_reducible show wpList _ _ _ (_ :: _) _ _); refine ld_arr 50 w.heap.size _ hld _ rfl rfl rfl ?_)
        clear hW1 c0 c1 c2 hld
        refine (HWH.out _).mono ?_
        rintro e w2 ⟨rfl, hb2⟩
        obtain ⟨c4, c5, c6, c7, c8⟩ := CE.out w2 hb2
        have HB2 := Lib.hid (ext_trans HB1.out hb2)
        clear hb2
        go_wp2
        go_ret
        exact ⟨by rw [HTB.out]; first | rfl | (rw [← hH0]; rfl) | (rw [← hH1]; rfl), HB2.out⟩
     | false =>
       have hXX := (HKEY.out false (by first | decide | (cases bw <;> rfl))).2 rfl
       subst hXX
       clear HKEY
       cases hq <;> cases hf
       all_goals
        go_enter Tryz.func38, Tryz.ntmps38
        unfold urlA
        go_wp2_with fail
        refine (HWE.out _).mono ?_
        rintro e v1 ⟨rfl, hv⟩
        have hv' := hv.symm
        subst hv'
        clear hv
        obtain ⟨c4, c5, c6, c7, c8⟩ := CE.out W1 (Below.refl _ _)
        have HB2 := HB1
        go_wp2
        go_ret
        exact ⟨by rw [HTB.out]; first | rfl | (rw [← hH0]; rfl) | (rw [← hH1]; rfl), HB2.out⟩
end
section
open Go.RowKit
theorem normal_le {p : List Nat} {at_ : Nat} {r : List Nat} (hb : ByteL p) (h : normalL p at_ = .ok r) : r.length ≤ 3 * p.length := by
 unfold normalL at h
 split at h
 · cases h
 · rename_i ev hev
   injection h with h
   have h1 := normL_len ev
   have h2 := (pct_ev hb hev).2
   rw [← h]; omega
theorem ownP_in (s : List Nat) : -1 ≤ ownP s ∧ ownP s ≤ 65535 := by
 unfold ownP
 split
 · omega
 · split <;> omega
theorem hostU_in {sch : List Nat} {p : UParts} {at_ : Nat} {x : (Nat × List Nat) × Int} (h : hostU sch p at_ = .ok x) : x.1.2.length ≤ 1000 ∧ ByteL x.1.2 ∧ -1 ≤ x.2 ∧ x.2 ≤ 65535 := by
 have ho := ownP_in sch
 unfold hostU at h
 split at h
 · unfold authL at h
   split at h
   · cases h
   · split at h
     · cases h
     · rename_i k t hc
       have hkt : t.length ≤ 1000 ∧ ByteL t := by
        split at hc
        · exact canon_len hc
        · injection hc with h1 h2
          rw [← h2]; exact ⟨Nat.zero_le _, fun c hc => by cases hc⟩
       split at h
       · injection h with h; rw [← h]; exact ⟨hkt.1, hkt.2, ho⟩
       · split at h
         · cases h
         · rename_i n hn
           injection h with h
           have := portL_le hn
           rw [← h]; exact ⟨hkt.1, hkt.2, by show -1 ≤ (n : Int); omega, by show (n : Int) ≤ 65535; omega⟩
 · split at h
   · cases h
   · injection h with h; rw [← h]; exact ⟨Nat.zero_le _, fun c hc => (by cases hc), ho⟩
structure UrlIn (u : UrlP) : Prop where
 sch : u.scheme.length ≤ 8192
 schB : ByteL u.scheme
 ht : u.ht.length ≤ 1000
 htB : ByteL u.ht
 port : -1 ≤ u.port ∧ u.port ≤ 65535
 path : u.path.length ≤ 24600
 query : u.query.length ≤ 24600
 frag : u.frag.length ≤ 24600
theorem url_in {b : List Nat} {u : UrlP} (hb : ByteL b) (h : urlL b = .ok u) : UrlIn u := by
 have hok := url_ok hb h
 unfold urlL at h
 split at h
 · cases h
 · rename_i hck
   have hl : b.length ≤ 8192 := (good_checks hb hck).1
   split at h
   · cases h
   · rename_i sch hsch
     obtain ⟨hat, _, hsb, hsl⟩ := scheme_ok hsch
     split at h
     · cases h
     · rename_i x hx
       obtain ⟨x1, x2, x3, x4⟩ := hostU_in hx
       have hpb := parts_byte (b := b) (a := (untilA [58] b).length + 1) hb
       have hpl := parts_len (b := b) (a := (untilA [58] b).length + 1) hat
       unfold finishU at h
       split at h
       · cases h
       · rename_i pa hpa
         split at h
         · cases h
         · rename_i q hq
           split at h
           · cases h
           · rename_i f hf
             injection h with h
             have l1 := normal_le hpb.2.1 hpa
             have l2 := normal_le hpb.2.2.1 hq
             have l3 := normal_le hpb.2.2.2 hf
             have l4 : (pathOf sch pa).length ≤ pa.length + 1 := by unfold pathOf; split <;> simp
             rw [← h]
             exact ⟨by show sch.length ≤ _; omega, hsb, x1, x2, ⟨x3, x4⟩, by show (pathOf sch pa).length ≤ _; omega, by show q.length ≤ _; omega, by show f.length ≤ _; omega⟩
theorem byteL_app {a b : List Nat} (ha : ByteL a) (hb : ByteL b) : ByteL (a ++ b) := fun c hc => by
 rcases List.mem_append.1 hc with h | h
 · exact ha c h
 · exact hb c h
theorem byteL_cons {c : Nat} {b : List Nat} (ha : c < 256) (hb : ByteL b) : ByteL (c :: b) := fun d hd => by
 rcases List.mem_cons.1 hd with h | h
 · rw [h]; exact ha
 · exact hb d h
theorem byteL_nil : ByteL [] := fun c hc => by cases hc
theorem textH_byte {k : Nat} {t : List Nat} (h : ByteL t) : ByteL (textH k t) := by
 unfold textH
 split
 · exact byteL_app (byteL_cons (by omega) h) (byteL_cons (by omega) byteL_nil)
 · exact h
theorem whereL_byte {u : UrlP} (h : ByteL u.ht) : ByteL (whereL u) := by
 unfold whereL
 refine byteL_app (textH_byte h) ?_
 split
 · exact byteL_cons (by omega) (fun c hc => by have := (decN_bytes u.port.toNat).2 c hc; omega)
 · exact byteL_nil
theorem textU_byte {u : UrlP} (h : UrlIn u) (hu : UrlOk u) : ByteL (textU u) := by
 unfold textU
 refine byteL_app h.schB (byteL_cons (by omega) (byteL_app (byteL_app (byteL_app ?_ hu.path.good.byte) ?_) ?_))
 · split
   · exact byteL_cons (by omega) (byteL_cons (by omega) (whereL_byte h.htB))
   · exact byteL_nil
 · split
   · exact byteL_cons (by omega) hu.query.good.byte
   · exact byteL_nil
 · split
   · exact byteL_cons (by omega) hu.frag.good.byte
   · exact byteL_nil
end
end Go.Proofs.YtbeodjipdpcaiaaGreatDoor
