/- Texts put together. -/
import Derived.Test.YtbeodjipdpcaiaaGreatDoorYMoreR
import Derived.Test.YtbeodjipdpcaiaaGreatDoorYRfz3
import Derived.Test.YtbeodjipdpcaiaaGreatDoorYRfw1s
set_option maxRecDepth 100000
set_option maxHeartbeats 16000000
namespace Go.Proofs.YtbeodjipdpcaiaaGreatDoor
open Go.RowKit
def patV (r : PR) : Value := match r with
 | .ok b t => .tuple #[.agg #[.bool b, .string (bytesL t)], .int .i64 0, .int .i64 0]
 | .er l => .tuple #[.agg #[.bool false, .string ⟨#[]⟩], .int .i64 (kindI l), .int .i64 (fromI l)]
theorem resP {w W1 : World} (hW1 : w.alloc (.cells #[.bool false, .string ⟨#[]⟩] 33) = W1) (k : Bool) (t : ByteArray) (W : World) (hW : Below W1.heap.size W1 W) : ∃ W9, (storeVar 33 ⟨w.heap.size, 0, none⟩ (.agg #[.bool k, .string t])).run Tryz.prog W = .ok () W9 ∧ (loadVar 33 ⟨w.heap.size, 0, none⟩).run Tryz.prog W9 = .ok (.agg #[.bool k, .string t]) W9 ∧ Below w.heap.size w W9 := by
 have hb1 : Below w.heap.size w W1 := by rw [← hW1]; exact ext_alloc (Below.refl _ _) _
 have hx1 : W1.heap[w.heap.size]? = some (.cells (patC false ⟨#[]⟩) 33 (0, 0)) := by rw [← hW1]; exact heap_alloc_new w _
 have h0 := (hW.block _ (heap_lt hx1)).trans hx1
 exact ⟨_, pa_store k false t ⟨#[]⟩ _ W h0, pa_load k t _ _ (setRow_heap h0), setRow_below (xT hb1 hW) (Nat.le_refl _)⟩
theorem canon_kind {b : List Nat} {l : List (Int × Int)} (h : canonL b = .er l) : (kindI l = 10 ∨ kindI l = 22) ∧ l ≠ [] := by
 have hname : ∀ r, nameH r = .er l → (kindI l = 10 ∨ kindI l = 22) ∧ l ≠ [] := fun r h => by
  unfold nameH at h
  split at h
  · cases h; exact ⟨.inr rfl, by simp⟩
  · split at h
    · split at h
      · cases h; exact ⟨.inr rfl, by simp⟩
      · cases h
    · cases h
 unfold canonL at h
 split at h
 · cases h; exact ⟨.inl rfl, by simp⟩
 · split at h
   · unfold literalL at h
     split at h
     · split at h
       · cases h; exact ⟨.inr rfl, by simp⟩
       · cases h
     · cases h; exact ⟨.inr rfl, by simp⟩
   · split at h
     · cases h; exact ⟨.inr rfl, by simp⟩
     · exact hname _ h
theorem pattern_case (s : ByteArray) (hs : s.size ≤ 90000) (h : s ≠ ⟨#[42]⟩) : ∃ (X : ByteArray) (wild : Bool), patL (bytesN s) = patH wild (canonL (bytesN X)) ∧ X.size ≤ 90000 ∧
    ((decide ((1 : Int) < (s.size : Int)) = false ∧ decide (1 < s.size) = false ∧ wild = false ∧ s = X) ∨
      (decide ((1 : Int) < (s.size : Int)) = true ∧ decide (1 < s.size) = true ∧ ∃ P : ByteArray, (∀ W, (Instr.slice 9 (.string s) none (some (.int .i64 2)) none).run Tryz.prog W = .ok (.string P) W) ∧ (P.toList == [42, 46]) = false ∧ wild = false ∧ s = X) ∨
      (decide ((1 : Int) < (s.size : Int)) = true ∧ decide (1 < s.size) = true ∧ ∃ P : ByteArray, (∀ W, (Instr.slice 9 (.string s) none (some (.int .i64 2)) none).run Tryz.prog W = .ok (.string P) W) ∧ (P.toList == [42, 46]) = true ∧ wild = true ∧ ∀ W, (Instr.slice 9 (.string s) (some (.int .i64 2)) none none).run Tryz.prog W = .ok (.string X) W)) := by
 have hb : bytesN s ≠ [42] := fun e => h (by rw [← bytesL_bytesN s, e]; rfl)
 have hL : patL (bytesN s) = if starD (bytesN s) = true then patH true (canonL ((bytesN s).drop 2)) else patH false (canonL (bytesN s)) := by unfold patL; rw [if_neg hb]
 have e42 : (⟨#[42, 46]⟩ : ByteArray).toList = [42, 46] := by rw [ByteArray.toList_eq]
 by_cases h1 : 1 < s.size
 · have d1 : decide ((1 : Int) < (s.size : Int)) = true := dcT (by omega)
   have hP : bytesN (s.extract 0 2) = (bytesN s).take 2 := by rw [bytesN_extract]; rfl
   by_cases hst : starD (bytesN s) = true
   · refine ⟨bytesL ((bytesN s).drop 2), true, ?_, ?_, .inr (.inr ⟨d1, dcT h1, s.extract 0 2, fun W => sl_to s 2 (by omega) _ rfl W, ?_, rfl, fun W => sl_from s 2 (by omega) _ (extract_drop s 2) W⟩)⟩
     · rw [hL, if_pos hst, bytesN_bytesL (fun c hc => bytesN_lt s c (List.mem_of_mem_drop hc))]
     · rw [bytesL_size, List.length_drop, bytesN_len]; omega
     · have := of_decide_eq_true hst
       rw [← hP] at this
       rw [← e42]
       exact beqS_t (by rw [← bytesL_bytesN (s.extract 0 2), this]; rfl)
   · refine ⟨s, false, by rw [hL, if_neg hst], hs, .inr (.inl ⟨d1, dcT h1, s.extract 0 2, fun W => sl_to s 2 (by omega) _ rfl W, ?_, rfl, rfl⟩)⟩
     rw [← e42]
     refine beqS_f (fun e => hst ?_)
     unfold starD
     rw [← hP, e]; rfl
 · refine ⟨s, false, ?_, hs, .inl ⟨dcF (by omega), dcF h1, rfl, rfl⟩⟩
   rw [hL, if_neg (fun hst => ?_)]
   have := congrArg List.length (of_decide_eq_true hst)
   rw [List.length_take, bytesN_len] at this
   simp at this
   omega
theorem rpattern_any (s : ByteArray) (w : World) (hs : s.size ≤ 90000) : Calls Tryz.prog 25 #[.string s] w fun e w' => e = .returned (patV (patL (bytesN s))) ∧ Below w.heap.size w w' := by
 obtain ⟨R, hR⟩ : ∃ R, patL (bytesN s) = R := ⟨_, rfl⟩
 rw [hR]
 obtain ⟨Q, hQ⟩ : ∃ Q : Ending → World → Prop, (fun e w' => e = .returned (patV R) ∧ Below w.heap.size w w') = Q := ⟨_, rfl⟩
 have HQ : Hid (∀ r W, R = r → Below w.heap.size w W → Q (.returned (patV r)) W) := hid (fun r W h hb => by rw [← hQ, h]; exact ⟨rfl, hb⟩)
 rw [hQ]
 obtain ⟨W1, hW1⟩ : ∃ W, w.alloc (.cells #[.bool false, .string ⟨#[]⟩] 33) = W := ⟨_, rfl⟩
 have RP := hid (fun k t W h => resP hW1 k t W h)
 clear hQ
 have e1 : (⟨#[42]⟩ : ByteArray).toList = [42] := by rw [ByteArray.toList_eq]
 by_cases h42 : s = ⟨#[42]⟩
 · have t0 : (s.toList == [42]) = true := by rw [← e1]; exact beqS_t h42
   have hR2 : R = .ok true [] := by rw [← hR, h42]; rfl
   obtain ⟨W9, hst9, hld9, hb9⟩ := RP.out true ⟨#[]⟩ W1 (Below.refl _ _)
   have hF := HQ.out (.ok true []) W9 hR2 hb9
   unfold patV at hF
   have HF : Hid (Q (.returned (.tuple #[.agg #[.bool true, .string ⟨#[]⟩], .int .i64 0, .int .i64 0])) W9) := hid hF
   clear hF hb9 hR hR2 h42 e1 hs
   go_enter Tryz.func25, Tryz.ntmps25
   go_wp2_with ((with_reducible show wpList _ _ _ (_ :: _) _ _); first | (refine st_arr 33 w.heap.size _ hst9 _ _ rfl rfl rfl rfl ?_))
   (try simp only [Exit.inBlock, Exit.then])
   exact bodyPost_ret (by simp [results, Tryz.results25, asAddr, Result.andThen, hld9]) rfl HF.out
 · have t0 : (s.toList == [42]) = false := by rw [← e1]; exact beqS_f h42
   obtain ⟨X, wild, hX, hXz, hca⟩ := pattern_case s hs h42
   rw [hR] at hX
   have CA := rcanon_any X W1 hXz
   have HX := hid hX
   clear hX hR h42 e1 hs hXz
   cases hc : canonL (bytesN X) with
   | er l =>
     have hk := canon_kind hc
     have hX := HX.out
     rw [hc] at CA hX
     unfold canV at CA
     dsimp only at CA
     unfold patH at hX
     dsimp only at hX
     have t3 : (kindI l == 0) = false := bneI.2 (by omega)
     have t3' : (kindI l = 0) = False := eq_false (by omega)
     have hfrom : fromI ((22, 0) :: l) = kindI l := by
      cases l with
      | nil => exact absurd rfl hk.2
      | cons x r => rfl
     have hF0 := fun W => HQ.out _ W hX
     unfold patV at hF0
     dsimp only [kindI] at hF0
     rw [hfrom] at hF0
     obtain ⟨kk, hkk⟩ : ∃ k, kindI l = k := ⟨_, rfl⟩
     obtain ⟨aa, haa⟩ : ∃ k, atI l = k := ⟨_, rfl⟩
     obtain ⟨ff, hff⟩ : ∃ k, fromI l = k := ⟨_, rfl⟩
     have hF0 := hF0
     rw [hkk] at t3 t3' CA
     rw [haa, hff] at CA
     have HF0 : Hid (∀ W, Below w.heap.size w W → Q (.returned (.tuple #[.agg #[.bool false, .string ⟨#[]⟩], .int .i64 22, .int .i64 kk])) W) := hid (fun W h => by rw [← hkk]; exact hF0 W h)
     have CA := hid CA
     clear hX hfrom hk hkk haa hff hc HX hF0
     rcases hca with ⟨d1, d2, rfl, rfl⟩ | ⟨d1, d2, P, sl, tP, rfl, rfl⟩ | ⟨d1, d2, P, sl, tP, rfl, sl2⟩
     all_goals
      go_enter Tryz.func25, Tryz.ntmps25
      go_wp2_with fail
      refine CA.out.mono ?_
      rintro e w2 ⟨rfl, hb2⟩
      clear hW1
      obtain ⟨w3, hW3⟩ : ∃ W, w2.alloc (.cells #[.int .i64 0, .string ⟨#[]⟩] 24) = W := ⟨_, rfl⟩
      have hb3 : Below w2.heap.size w2 w3 := by rw [← hW3]; exact ext_alloc (Below.refl _ _) _
      have hx3 : w3.heap[w2.heap.size]? = some (.cells (hostC 0 ⟨#[]⟩) 24 (0, 0)) := by rw [← hW3]; exact heap_alloc_new w2 _
      have hsta := ho_store 0 0 ⟨#[]⟩ ⟨#[]⟩ _ w3 hx3
      rw [row_same hx3] at hsta
      unfold hostC at hsta
      obtain ⟨W9, hst9, hld9, hb9⟩ := RP.out false ⟨#[]⟩ w3 (xT hb2 hb3)
      have HF := hid (HF0.out W9 hb9)
      clear hb9 hb2 hb3 hx3
      go_wp2_with ((with_reducible show wpList _ _ _ (_ :: _) _ _); first | (refine st_arr 33 w.heap.size _ hst9 _ _ rfl rfl rfl rfl ?_) | (refine st_arr 24 w2.heap.size _ hsta _ _ rfl rfl rfl rfl ?_))
      (try simp only [Exit.inBlock, Exit.then])
      exact bodyPost_ret (by simp [results, Tryz.results25, asAddr, Result.andThen, hld9]) rfl HF.out
   | ok k t =>
     have hln := canon_len hc
     have hX := HX.out
     rw [hc] at CA hX
     unfold canV at CA
     dsimp only at CA
     unfold patH at hX
     dsimp only at hX
     have TX := fun W => rtextOf_any (k : Int) (bytesL t) W (by rw [bytesL_size]; omega)
     rw [hostT_bytes] at TX
     obtain ⟨N, hN⟩ : ∃ N, bytesL t = N := ⟨_, rfl⟩
     obtain ⟨Z, hZ⟩ : ∃ Z, bytesL (textH k t) = Z := ⟨_, rfl⟩
     rw [hN] at CA TX
     rw [hZ] at TX
     have HZ := hid hZ
     have CA := hid CA; have TX := hid TX; have HXX := hid hX
     clear hX hc HX hN hZ hln
     rcases hca with ⟨d1, d2, rfl, rfl⟩ | ⟨d1, d2, P, sl, tP, rfl, rfl⟩ | ⟨d1, d2, P, sl, tP, rfl, sl2⟩
     · have HF0 : Hid (∀ W, Below w.heap.size w W → Q (.returned (.tuple #[.agg #[.bool false, .string Z], .int .i64 0, .int .i64 0])) W) := hid (fun W h => by
         have hr := HXX.out
         rw [if_neg (fun h => Bool.false_ne_true h.1)] at hr
         have := HQ.out _ W hr h
         unfold patV at this
         dsimp only at this
         rw [HZ.out] at this
         exact this)
       go_enter Tryz.func25, Tryz.ntmps25
       go_wp2_with fail
       refine CA.out.mono ?_
       rintro e w2 ⟨rfl, hb2⟩
       clear hW1
       obtain ⟨w3, hW3⟩ : ∃ W, w2.alloc (.cells #[.int .i64 0, .string ⟨#[]⟩] 24) = W := ⟨_, rfl⟩
       have hb3 : Below w2.heap.size w2 w3 := by rw [← hW3]; exact ext_alloc (Below.refl _ _) _
       have hx3 : w3.heap[w2.heap.size]? = some (.cells (hostC 0 ⟨#[]⟩) 24 (0, 0)) := by rw [← hW3]; exact heap_alloc_new w2 _
       have hsta : (storeVar 24 ⟨w2.heap.size, 0, none⟩ (.agg #[.int .i64 (k : Int), .string N])).run Tryz.prog w3 = .ok () (w3.setRow w2.heap.size #[.int .i64 (k : Int), .string N]) := ho_store (k : Int) 0 N ⟨#[]⟩ _ w3 hx3
       have hx4 := setRow_heap (c := #[.int .i64 (k : Int), .string N]) hx3
       have hb4 : Below w2.heap.size w2 (w3.setRow w2.heap.size #[.int .i64 (k : Int), .string N]) := setRow_below hb3 (Nat.le_refl _)
       obtain ⟨w4, hW4⟩ : ∃ W, w3.setRow w2.heap.size #[.int .i64 (k : Int), .string N] = W := ⟨_, rfl⟩
       rw [hW4] at hsta hx4 hb4
       have hld : (loadVar 24 ⟨w2.heap.size, 0, none⟩).run Tryz.prog w4 = .ok (.agg #[.int .i64 (k : Int), .string N]) w4 := ho_load (k : Int) N _ w4 hx4
       have c0 := Lib.cell_of_heap hx4 0
       have c0' : w4.cell? ⟨w2.heap.size, 0, none⟩ = some (.int .i64 (k : Int)) := c0
       have HB4 := hid (xT hb2 hb4)
       clear hb2 hb3 hx3 hx4 hb4 hW4 c0
       go_wp2_with ((with_reducible show wpList _ _ _ (_ :: _) _ _); first | (refine st_arr 24 w2.heap.size _ hsta _ _ rfl rfl rfl rfl ?_) | (refine ld_arr 24 w2.heap.size _ hld _ rfl rfl rfl ?_))
       clear hsta hW3 hld c0'
       refine (TX.out _).mono ?_
       rintro e w5 ⟨rfl, hb5⟩
       obtain ⟨W9, hst9, hld9, hb9⟩ := RP.out false Z w5 (xT HB4.out hb5)
       have HF := hid (HF0.out W9 hb9)
       clear hb9 hb5
       go_wp2_with ((with_reducible show wpList _ _ _ (_ :: _) _ _); first | (refine st_arr 33 w.heap.size _ hst9 _ _ rfl rfl rfl rfl ?_))
       (try simp only [Exit.inBlock, Exit.then])
       exact bodyPost_ret (by simp [results, Tryz.results25, asAddr, Result.andThen, hld9]) rfl HF.out
     · have HF0 : Hid (∀ W, Below w.heap.size w W → Q (.returned (.tuple #[.agg #[.bool false, .string Z], .int .i64 0, .int .i64 0])) W) := hid (fun W h => by
         have hr := HXX.out
         rw [if_neg (fun h => Bool.false_ne_true h.1)] at hr
         have := HQ.out _ W hr h
         unfold patV at this
         dsimp only at this
         rw [HZ.out] at this
         exact this)
       go_enter Tryz.func25, Tryz.ntmps25
       go_wp2_with fail
       refine CA.out.mono ?_
       rintro e w2 ⟨rfl, hb2⟩
       clear hW1
       obtain ⟨w3, hW3⟩ : ∃ W, w2.alloc (.cells #[.int .i64 0, .string ⟨#[]⟩] 24) = W := ⟨_, rfl⟩
       have hb3 : Below w2.heap.size w2 w3 := by rw [← hW3]; exact ext_alloc (Below.refl _ _) _
       have hx3 : w3.heap[w2.heap.size]? = some (.cells (hostC 0 ⟨#[]⟩) 24 (0, 0)) := by rw [← hW3]; exact heap_alloc_new w2 _
       have hsta : (storeVar 24 ⟨w2.heap.size, 0, none⟩ (.agg #[.int .i64 (k : Int), .string N])).run Tryz.prog w3 = .ok () (w3.setRow w2.heap.size #[.int .i64 (k : Int), .string N]) := ho_store (k : Int) 0 N ⟨#[]⟩ _ w3 hx3
       have hx4 := setRow_heap (c := #[.int .i64 (k : Int), .string N]) hx3
       have hb4 : Below w2.heap.size w2 (w3.setRow w2.heap.size #[.int .i64 (k : Int), .string N]) := setRow_below hb3 (Nat.le_refl _)
       obtain ⟨w4, hW4⟩ : ∃ W, w3.setRow w2.heap.size #[.int .i64 (k : Int), .string N] = W := ⟨_, rfl⟩
       rw [hW4] at hsta hx4 hb4
       have hld : (loadVar 24 ⟨w2.heap.size, 0, none⟩).run Tryz.prog w4 = .ok (.agg #[.int .i64 (k : Int), .string N]) w4 := ho_load (k : Int) N _ w4 hx4
       have c0 := Lib.cell_of_heap hx4 0
       have c0' : w4.cell? ⟨w2.heap.size, 0, none⟩ = some (.int .i64 (k : Int)) := c0
       have HB4 := hid (xT hb2 hb4)
       clear hb2 hb3 hx3 hx4 hb4 hW4 c0
       go_wp2_with ((with_reducible show wpList _ _ _ (_ :: _) _ _); first | (refine st_arr 24 w2.heap.size _ hsta _ _ rfl rfl rfl rfl ?_) | (refine ld_arr 24 w2.heap.size _ hld _ rfl rfl rfl ?_))
       clear hsta hW3 hld c0'
       refine (TX.out _).mono ?_
       rintro e w5 ⟨rfl, hb5⟩
       obtain ⟨W9, hst9, hld9, hb9⟩ := RP.out false Z w5 (xT HB4.out hb5)
       have HF := hid (HF0.out W9 hb9)
       clear hb9 hb5
       go_wp2_with ((with_reducible show wpList _ _ _ (_ :: _) _ _); first | (refine st_arr 33 w.heap.size _ hst9 _ _ rfl rfl rfl rfl ?_))
       (try simp only [Exit.inBlock, Exit.then])
       exact bodyPost_ret (by simp [results, Tryz.results25, asAddr, Result.andThen, hld9]) rfl HF.out
     · by_cases hk1 : k = 1
       · have u1 : ((k : Int) == 1) = true := beq_iff_eq.2 (by omega)
         have u1' : (k = 1) = True := eq_true hk1
         have HF0 : Hid (∀ W, Below w.heap.size w W → Q (.returned (.tuple #[.agg #[.bool true, .string Z], .int .i64 0, .int .i64 0])) W) := hid (fun W h => by
          have hr := HXX.out
          rw [if_neg (fun h => h.2 hk1)] at hr
          have := HQ.out _ W hr h
          unfold patV at this
          dsimp only at this
          rw [HZ.out] at this
          exact this)
         clear hk1
         go_enter Tryz.func25, Tryz.ntmps25
         go_wp2_with fail
         refine CA.out.mono ?_
         rintro e w2 ⟨rfl, hb2⟩
         clear hW1
         obtain ⟨w3, hW3⟩ : ∃ W, w2.alloc (.cells #[.int .i64 0, .string ⟨#[]⟩] 24) = W := ⟨_, rfl⟩
         have hb3 : Below w2.heap.size w2 w3 := by rw [← hW3]; exact ext_alloc (Below.refl _ _) _
         have hx3 : w3.heap[w2.heap.size]? = some (.cells (hostC 0 ⟨#[]⟩) 24 (0, 0)) := by rw [← hW3]; exact heap_alloc_new w2 _
         have hsta : (storeVar 24 ⟨w2.heap.size, 0, none⟩ (.agg #[.int .i64 (k : Int), .string N])).run Tryz.prog w3 = .ok () (w3.setRow w2.heap.size #[.int .i64 (k : Int), .string N]) := ho_store (k : Int) 0 N ⟨#[]⟩ _ w3 hx3
         have hx4 := setRow_heap (c := #[.int .i64 (k : Int), .string N]) hx3
         have hb4 : Below w2.heap.size w2 (w3.setRow w2.heap.size #[.int .i64 (k : Int), .string N]) := setRow_below hb3 (Nat.le_refl _)
         obtain ⟨w4, hW4⟩ : ∃ W, w3.setRow w2.heap.size #[.int .i64 (k : Int), .string N] = W := ⟨_, rfl⟩
         rw [hW4] at hsta hx4 hb4
         have hld : (loadVar 24 ⟨w2.heap.size, 0, none⟩).run Tryz.prog w4 = .ok (.agg #[.int .i64 (k : Int), .string N]) w4 := ho_load (k : Int) N _ w4 hx4
         have c0 := Lib.cell_of_heap hx4 0
         have c0' : w4.cell? ⟨w2.heap.size, 0, none⟩ = some (.int .i64 (k : Int)) := c0
         have HB4 := hid (xT hb2 hb4)
         clear hb2 hb3 hx3 hx4 hb4 hW4 c0
         go_wp2_with ((with_reducible show wpList _ _ _ (_ :: _) _ _); first | (refine st_arr 24 w2.heap.size _ hsta _ _ rfl rfl rfl rfl ?_) | (refine ld_arr 24 w2.heap.size _ hld _ rfl rfl rfl ?_))
         clear hsta hW3 hld c0'
         refine (TX.out _).mono ?_
         rintro e w5 ⟨rfl, hb5⟩
         obtain ⟨W9, hst9, hld9, hb9⟩ := RP.out true Z w5 (xT HB4.out hb5)
         have HF := hid (HF0.out W9 hb9)
         clear hb9 hb5
         go_wp2_with ((with_reducible show wpList _ _ _ (_ :: _) _ _); first | (refine st_arr 33 w.heap.size _ hst9 _ _ rfl rfl rfl rfl ?_))
         (try simp only [Exit.inBlock, Exit.then])
         exact bodyPost_ret (by simp [results, Tryz.results25, asAddr, Result.andThen, hld9]) rfl HF.out
       · have u1 : ((k : Int) == 1) = false := bneI.2 (by omega)
         have u1' : (k = 1) = False := eq_false hk1
         have HF0 : Hid (∀ W, Below w.heap.size w W → Q (.returned (.tuple #[.agg #[.bool false, .string ⟨#[]⟩], .int .i64 22, .int .i64 0])) W) := hid (fun W h => by
          have hr := HXX.out
          rw [if_pos ⟨rfl, hk1⟩] at hr
          exact HQ.out _ W hr h)
         go_enter Tryz.func25, Tryz.ntmps25
         go_wp2_with fail
         refine CA.out.mono ?_
         rintro e w2 ⟨rfl, hb2⟩
         clear hW1
         obtain ⟨w3, hW3⟩ : ∃ W, w2.alloc (.cells #[.int .i64 0, .string ⟨#[]⟩] 24) = W := ⟨_, rfl⟩
         have hb3 : Below w2.heap.size w2 w3 := by rw [← hW3]; exact ext_alloc (Below.refl _ _) _
         have hx3 : w3.heap[w2.heap.size]? = some (.cells (hostC 0 ⟨#[]⟩) 24 (0, 0)) := by rw [← hW3]; exact heap_alloc_new w2 _
         have hsta : (storeVar 24 ⟨w2.heap.size, 0, none⟩ (.agg #[.int .i64 (k : Int), .string N])).run Tryz.prog w3 = .ok () (w3.setRow w2.heap.size #[.int .i64 (k : Int), .string N]) := ho_store (k : Int) 0 N ⟨#[]⟩ _ w3 hx3
         have hx4 := setRow_heap (c := #[.int .i64 (k : Int), .string N]) hx3
         have hb4 : Below w2.heap.size w2 (w3.setRow w2.heap.size #[.int .i64 (k : Int), .string N]) := setRow_below hb3 (Nat.le_refl _)
         obtain ⟨w4, hW4⟩ : ∃ W, w3.setRow w2.heap.size #[.int .i64 (k : Int), .string N] = W := ⟨_, rfl⟩
         rw [hW4] at hsta hx4 hb4
         have c0 := Lib.cell_of_heap hx4 0
         have c0' : w4.cell? ⟨w2.heap.size, 0, none⟩ = some (.int .i64 (k : Int)) := c0
         obtain ⟨W9, hst9, hld9, hb9⟩ := RP.out false ⟨#[]⟩ w4 (xT hb2 hb4)
         have HF := hid (HF0.out W9 hb9)
         clear hb9 hb2 hb3 hx3 hx4 hb4 hW4 c0
         go_wp2_with ((with_reducible show wpList _ _ _ (_ :: _) _ _); first | (refine st_arr 33 w.heap.size _ hst9 _ _ rfl rfl rfl rfl ?_) | (refine st_arr 24 w2.heap.size _ hsta _ _ rfl rfl rfl rfl ?_))
         (try simp only [Exit.inBlock, Exit.then])
         exact bodyPost_ret (by simp [results, Tryz.results25, asAddr, Result.andThen, hld9]) rfl HF.out
end Go.Proofs.YtbeodjipdpcaiaaGreatDoor
