/- Texts put together. -/
import Derived.Test.YtbeodjipdpcaiaaGreatDoorYMoreR
import Derived.Test.YtbeodjipdpcaiaaGreatDoorYDec1f
import Derived.Test.YtbeodjipdpcaiaaGreatDoorYDig1sf
import Derived.Test.YtbeodjipdpcaiaaGreatDoorYRfz4
set_option maxRecDepth 100000
set_option maxHeartbeats 8000000
namespace Go.Proofs.YtbeodjipdpcaiaaGreatDoor
open Go.RowKit
theorem pat_at {b : List Nat} {l : List (Int × Int)} (h : patL b = .er l) : kindI l = 22 ∧ atI l = 0 ∧ l ≠ [] := by
 have key : ∀ (w : Bool) (r : HR), patH w r = .er l → kindI l = 22 ∧ atI l = 0 ∧ l ≠ [] := fun w r h => by
  unfold patH at h
  split at h
  · cases h; exact ⟨rfl, rfl, by simp⟩
  · split at h
    · cases h; exact ⟨rfl, rfl, by simp⟩
    · cases h
 unfold patL at h
 split at h
 · cases h
 · split at h
   · exact key _ _ h
   · exact key _ _ h
theorem patText_small (k : Bool) {t : List Nat} (h : t.length ≤ 1002 ∧ ByteL t) : (patText k t).length ≤ 1004 ∧ ByteL (patText k t) := by
 unfold patText
 split
 · split
   · exact ⟨by decide, fun c hc => by rw [List.mem_singleton.1 hc]; decide⟩
   · refine ⟨by rw [List.length_cons, List.length_cons]; omega, fun c hc => ?_⟩
     rcases List.mem_cons.1 hc with rfl | hc
     · decide
     · rcases List.mem_cons.1 hc with rfl | hc
       · decide
       · exact h.2 c hc
 · exact ⟨by omega, h.2⟩
theorem hostPatterns_any (s : ByteArray) (qb : Bool) (qn : ByteArray) (w : World) (hEn : HEnv w) : Calls Tryz.prog 7 #[.string s, .agg #[.bool qb, .string qn]] w fun e w' => e = .returned (.bool true) ∧ Below w.heap.size w w' := by
 obtain ⟨W1, hW1⟩ : ∃ W, w.alloc (.cells #[.bool qb, .string qn] 33) = W := ⟨_, rfl⟩
 have hb1 : Below w.heap.size w W1 := by rw [← hW1]; exact ext_alloc (Below.refl _ _) _
 have hx1 : W1.heap[w.heap.size]? = some (.cells (patC qb qn) 33 (0, 0)) := by rw [← hW1]; exact heap_alloc_new w _
 have SPK := hid (speaks13 W1 (hEn.ext hb1))
 have HB1 := hid hb1; have HX1 := hid hx1; have HEN := hid (hEn.ext hb1)
 have HCE : Hid (∀ W, Below W1.heap.size W1 W → W.cell? ⟨w.heap.size, 1, none⟩ = some (.string qn)) := hid (fun W h => Lib.cell_of_heap ((h.block _ (heap_lt HX1.out)).trans HX1.out) 1)
 clear hb1 hx1 hEn
 by_cases h2 : 1500 < s.size
 · have u2 : decide ((1500 : Int) < (s.size : Int)) = true := dcT (by omega)
   have u2' : decide (1500 < s.size) = true := dcT h2
   clear h2
   go_enter Tryz.func7, Tryz.ntmps7
   go_wp2_with fail
   refine SPK.out.mono ?_
   rintro e w2 ⟨rfl, hb2⟩
   have c1 := HCE.out w2 hb2
   have HB2 := hid hb2
   clear hb2 hW1
   have HB3 := hid (xT HB1.out HB2.out)
   go_wp2
   go_ret
   exact ⟨rfl, HB3.out⟩
 have u2 : decide ((1500 : Int) < (s.size : Int)) = false := dcF (by omega)
 have u2' : decide (1500 < s.size) = false := dcF h2
 by_cases h3 : 1500 < qn.size
 · have u3 : decide ((1500 : Int) < (qn.size : Int)) = true := dcT (by omega)
   have u3' : decide (1500 < qn.size) = true := dcT h3
   clear h2 h3
   go_enter Tryz.func7, Tryz.ntmps7
   go_wp2_with fail
   refine SPK.out.mono ?_
   rintro e w2 ⟨rfl, hb2⟩
   have c1 := HCE.out w2 hb2
   have HB2 := hid hb2
   clear hb2 hW1
   have HB3 := hid (xT HB1.out HB2.out)
   go_wp2
   go_ret
   exact ⟨rfl, HB3.out⟩
 have u3 : decide ((1500 : Int) < (qn.size : Int)) = false := dcF (by omega)
 have u3' : decide (1500 < qn.size) = false := dcF h3
 have hs : s.size ≤ 1500 := by omega
 have RC := fun W => rpattern_any s W (by omega)
 have T1 := fun W => hptext_any qb qn W (by omega)
 have T2 := fun W => rptext_any qb qn W (by omega)
 obtain ⟨B, hB⟩ : ∃ B, bytesL (patText qb (bytesN qn)) = B := ⟨_, rfl⟩
 rw [hB] at T1 T2
 have T1 := hid T1; have T2 := hid T2
 have tB : (B.toList == B.toList) = true := beqS_t rfl
 clear h2 h3 hB
 cases hr : patL (bytesN s) with
 | er l =>
   have CA := hid (fun W hE => (hpattern_any s W (by omega) hE))
   rw [hr] at CA RC
   unfold patV at RC
   dsimp only at RC
   obtain ⟨hk, ha, hne⟩ := pat_at hr
   have CM := fun b off W hG h => came_err b off l (fromI l) W hG h (from_is l)
   obtain ⟨ff, hff⟩ : ∃ k, fromI l = k := ⟨_, rfl⟩
   rw [hk, ha, hff] at CM
   rw [hk, hff] at RC
   have RC := hid RC; have HNE := hid hne; have CM := hid CM
   have eE : ((⟨#[]⟩ : ByteArray).toList == (⟨#[]⟩ : ByteArray).toList) = true := by simp
   clear hr hk ha hff hne
   go_enter Tryz.func7, Tryz.ntmps7
   go_wp2_with fail
   refine SPK.out.mono ?_
   rintro e w2 ⟨rfl, hb2⟩
   have c1 := HCE.out w2 hb2
   have HB2 := hid hb2
   clear hb2 hW1
   go_wp2_with fail
   clear c1
   refine (CA.out w2 (HEN.out.ext HB2.out)).mono ?_
   rintro e v7 ⟨hb7, u, he, hE⟩
   obtain ⟨b1, o1, rfl⟩ := fault_form hE HNE.out
   subst he
   obtain ⟨a7, hA7⟩ : ∃ W, v7.alloc (.cells #[.bool false, .string ⟨#[]⟩] 33) = W := ⟨_, rfl⟩
   have hba7 : Below v7.heap.size v7 a7 := by rw [← hA7]; exact ext_alloc (Below.refl _ _) _
   have hxa7 : a7.heap[v7.heap.size]? = some (.cells (patC false ⟨#[]⟩) 33 (0, 0)) := by rw [← hA7]; exact heap_alloc_new v7 _
   have hst7 : (storeVar 33 ⟨v7.heap.size, 0, none⟩ (.agg #[.bool false, .string ⟨#[]⟩])).run Tryz.prog a7 = .ok () (a7.setRow v7.heap.size #[.bool false, .string ⟨#[]⟩]) := pa_store false false ⟨#[]⟩ ⟨#[]⟩ _ a7 hxa7
   have hxb7 := setRow_heap (c := #[.bool false, .string ⟨#[]⟩]) hxa7
   have hbb7 : Below v7.heap.size v7 (a7.setRow v7.heap.size #[.bool false, .string ⟨#[]⟩]) := setRow_below hba7 (Nat.le_refl _)
   obtain ⟨x7, hW7⟩ : ∃ W, a7.setRow v7.heap.size #[.bool false, .string ⟨#[]⟩] = W := ⟨_, rfl⟩
   rw [hW7] at hst7 hxb7 hbb7
   have HX7 := hid hxb7
   clear hba7 hxa7 hxb7 hW7
   have HB7 := hid (xT HB2.out (xT hb7 hbb7)); have HER := hid (hE.ext hbb7)
   clear hb7 hbb7 hE
   go_wp2_with ((with_reducible show wpList _ _ _ (_ :: _) _ _); first | (refine st_arr 33 v7.heap.size _ hst7 _ _ rfl rfl rfl rfl ?_))
   clear hst7 hA7
   refine (RC.out x7).mono ?_
   rintro e v8 ⟨rfl, hb8⟩
   obtain ⟨a8, hA8⟩ : ∃ W, v8.alloc (.cells #[.bool false, .string ⟨#[]⟩] 33) = W := ⟨_, rfl⟩
   have hba8 : Below v8.heap.size v8 a8 := by rw [← hA8]; exact ext_alloc (Below.refl _ _) _
   have hxa8 : a8.heap[v8.heap.size]? = some (.cells (patC false ⟨#[]⟩) 33 (0, 0)) := by rw [← hA8]; exact heap_alloc_new v8 _
   have hst8 : (storeVar 33 ⟨v8.heap.size, 0, none⟩ (.agg #[.bool false, .string ⟨#[]⟩])).run Tryz.prog a8 = .ok () (a8.setRow v8.heap.size #[.bool false, .string ⟨#[]⟩]) := pa_store false false ⟨#[]⟩ ⟨#[]⟩ _ a8 hxa8
   have hxb8 := setRow_heap (c := #[.bool false, .string ⟨#[]⟩]) hxa8
   have hbb8 : Below v8.heap.size v8 (a8.setRow v8.heap.size #[.bool false, .string ⟨#[]⟩]) := setRow_below hba8 (Nat.le_refl _)
   obtain ⟨x8, hW8⟩ : ∃ W, a8.setRow v8.heap.size #[.bool false, .string ⟨#[]⟩] = W := ⟨_, rfl⟩
   rw [hW8] at hst8 hxb8 hbb8
   have HX8 := hid hxb8
   clear hba8 hxa8 hxb8 hW8
   have HB8 := hid (xT HB7.out (xT hb8 hbb8)); have HS8 := hid (xT hb8 hbb8)
   clear hb8 hbb8
   have HY0 := hid ((HB8.out.block _ (heap_lt HX1.out)).trans HX1.out)
   have HY7 := hid ((HS8.out.block _ (heap_lt HX7.out)).trans HX7.out)
   have hq0 : ∀ w', (∃ n : BW x8.heap.size x8, w' = n.w) → (loadVar 33 ⟨w.heap.size, 0, none⟩).run Tryz.prog w' = .ok (.agg #[.bool qb, .string qn]) w' := fun w' h => by
    obtain ⟨m, rfl⟩ := h
    exact pa_load qb qn _ _ ((m.below.block _ (heap_lt HY0.out)).trans HY0.out)
   have hq7 : ∀ w', (∃ n : BW x8.heap.size x8, w' = n.w) → (loadVar 33 ⟨v7.heap.size, 0, none⟩).run Tryz.prog w' = .ok (.agg #[.bool false, .string ⟨#[]⟩]) w' := fun w' h => by
    obtain ⟨m, rfl⟩ := h
    exact pa_load false ⟨#[]⟩ _ _ ((m.below.block _ (heap_lt HY7.out)).trans HY7.out)
   have hq8 : ∀ w', (∃ n : BW x8.heap.size x8, w' = n.w) → (loadVar 33 ⟨v8.heap.size, 0, none⟩).run Tryz.prog w' = .ok (.agg #[.bool false, .string ⟨#[]⟩]) w' := fun w' h => by
    obtain ⟨m, rfl⟩ := h
    exact pa_load false ⟨#[]⟩ _ _ ((m.below.block _ (heap_lt HX8.out)).trans HX8.out)
   have CM8 := hid (fun m : BW x8.heap.size x8 => CM.out b1 o1 m.w ((HEN.out.ext HB8.out).ext m.below).glob ((HER.out.ext HS8.out).ext m.below))
   go_wp2_with ((with_reducible show wpList _ _ _ (_ :: _) _ _); first | (refine st_arr 33 v8.heap.size _ hst8 _ _ rfl rfl rfl rfl ?_))
   clear hst8 hA8
   refine wp_region_quietB x8.heap.size (by kernel_rfl) (by kernel_rfl) ?_
   repeat (first | (go_big_quiet_want; refine quiet_ldRow 33 _ _ hq0 _ rfl rfl ?_; go_big_quiet_on; simp only [Act.put, List.setIfInBounds_toArray, List.set_cons_zero, List.set_cons_succ]) | (go_big_quiet_want; refine quiet_ldRow 33 _ _ hq7 _ rfl rfl ?_; go_big_quiet_on; simp only [Act.put, List.setIfInBounds_toArray, List.set_cons_zero, List.set_cons_succ]) | (go_big_quiet_want; refine quiet_ldRow 33 _ _ hq8 _ rfl rfl ?_; go_big_quiet_on; simp only [Act.put, List.setIfInBounds_toArray, List.set_cons_zero, List.set_cons_succ]) | go_big_quiet_step (first | (go_at_call 24; exact quiet_callB (CM8.out _) (Nat.le_refl _)) | (go_at_call 26; exact quiet_callB (T1.out _) (Nat.le_refl _)) | (go_at_call 27; exact quiet_callB (T2.out _) (Nat.le_refl _))))
   refine wpQuiet_nil ?_
   intro _ hw'
   obtain ⟨nb, hw9⟩ := hw'
   subst hw9
   have HB9 := hid (xT HB1.out (xT HB8.out nb.below))
   clear hq0 hq7 hq8
   generalize nb.w = W9 at *
   go_wp2
   go_ret
   exact ⟨rfl, HB9.out⟩
 | ok k t =>
   have CA := hid (fun W hE => (pat_okc s W (by omega) hE hr))
   rw [hr] at RC
   unfold patV at RC
   dsimp only at RC
   have hln := pat_len hr
   have hbk := pat_back (pat_ok hr)
   obtain ⟨N, hN⟩ : ∃ N, bytesL t = N := ⟨_, rfl⟩
   have hNz : N.size ≤ 1002 := by rw [← hN, bytesL_size]; exact hln.1
   have hNN : bytesN N = t := by rw [← hN]; exact bytesN_bytesL hln.2
   obtain ⟨Z, hZ⟩ : ∃ Z, bytesL (patText k t) = Z := ⟨_, rfl⟩
   have hpt := patText_small k hln
   have hZz : Z.size ≤ 1004 := by rw [← hZ, bytesL_size]; exact hpt.1
   have hZN : bytesN Z = patText k t := by rw [← hZ]; exact bytesN_bytesL hpt.2
   have TX := fun W => hptext_any k N W (by omega)
   have CB := hid (fun W hE => pat_okc Z W (by omega) hE (by rw [hZN]; exact hbk))
   rw [hNN, hZ] at TX
   rw [hN] at CA RC CB
   have TX := hid TX; have RC := hid RC
   have CM := hid (fun W hG => came_nil 0 W hG)
   have tN : (N.toList == N.toList) = true := beqS_t rfl
   have tK : (k == k) = true := by simp
   clear hr hln hbk hN hZ hZN hNN hpt
   go_enter Tryz.func7, Tryz.ntmps7
   go_wp2_with fail
   refine SPK.out.mono ?_
   rintro e w2 ⟨rfl, hb2⟩
   have c1 := HCE.out w2 hb2
   have HB2 := hid hb2
   clear hb2 hW1
   go_wp2_with fail
   clear c1
   refine (CA.out w2 (HEN.out.ext HB2.out)).mono ?_
   rintro e v7 ⟨hb7, rfl⟩
   obtain ⟨a7, hA7⟩ : ∃ W, v7.alloc (.cells #[.bool false, .string ⟨#[]⟩] 33) = W := ⟨_, rfl⟩
   have hba7 : Below v7.heap.size v7 a7 := by rw [← hA7]; exact ext_alloc (Below.refl _ _) _
   have hxa7 : a7.heap[v7.heap.size]? = some (.cells (patC false ⟨#[]⟩) 33 (0, 0)) := by rw [← hA7]; exact heap_alloc_new v7 _
   have hst7 : (storeVar 33 ⟨v7.heap.size, 0, none⟩ (.agg #[.bool k, .string N])).run Tryz.prog a7 = .ok () (a7.setRow v7.heap.size #[.bool k, .string N]) := pa_store k false N ⟨#[]⟩ _ a7 hxa7
   have hxb7 := setRow_heap (c := #[.bool k, .string N]) hxa7
   have hbb7 : Below v7.heap.size v7 (a7.setRow v7.heap.size #[.bool k, .string N]) := setRow_below hba7 (Nat.le_refl _)
   obtain ⟨x7, hW7⟩ : ∃ W, a7.setRow v7.heap.size #[.bool k, .string N] = W := ⟨_, rfl⟩
   rw [hW7] at hst7 hxb7 hbb7
   have HX7 := hid hxb7
   clear hba7 hxa7 hxb7 hW7
   have HB7 := hid (xT HB2.out (xT hb7 hbb7))
   clear hb7 hbb7
   go_wp2_with ((with_reducible show wpList _ _ _ (_ :: _) _ _); first | (refine st_arr 33 v7.heap.size _ hst7 _ _ rfl rfl rfl rfl ?_))
   clear hst7 hA7
   refine (RC.out x7).mono ?_
   rintro e v8 ⟨rfl, hb8⟩
   obtain ⟨a8, hA8⟩ : ∃ W, v8.alloc (.cells #[.bool false, .string ⟨#[]⟩] 33) = W := ⟨_, rfl⟩
   have hba8 : Below v8.heap.size v8 a8 := by rw [← hA8]; exact ext_alloc (Below.refl _ _) _
   have hxa8 : a8.heap[v8.heap.size]? = some (.cells (patC false ⟨#[]⟩) 33 (0, 0)) := by rw [← hA8]; exact heap_alloc_new v8 _
   have hst8 : (storeVar 33 ⟨v8.heap.size, 0, none⟩ (.agg #[.bool k, .string N])).run Tryz.prog a8 = .ok () (a8.setRow v8.heap.size #[.bool k, .string N]) := pa_store k false N ⟨#[]⟩ _ a8 hxa8
   have hxb8 := setRow_heap (c := #[.bool k, .string N]) hxa8
   have hbb8 : Below v8.heap.size v8 (a8.setRow v8.heap.size #[.bool k, .string N]) := setRow_below hba8 (Nat.le_refl _)
   obtain ⟨x8, hW8⟩ : ∃ W, a8.setRow v8.heap.size #[.bool k, .string N] = W := ⟨_, rfl⟩
   rw [hW8] at hst8 hxb8 hbb8
   have HX8 := hid hxb8
   clear hba8 hxa8 hxb8 hW8
   have HB8 := hid (xT HB7.out (xT hb8 hbb8)); have HS8 := hid (xT hb8 hbb8)
   clear hb8 hbb8
   have HY0 := hid ((HB8.out.block _ (heap_lt HX1.out)).trans HX1.out)
   have HY7 := hid ((HS8.out.block _ (heap_lt HX7.out)).trans HX7.out)
   have hq0 : ∀ w', (∃ n : BW x8.heap.size x8, w' = n.w) → (loadVar 33 ⟨w.heap.size, 0, none⟩).run Tryz.prog w' = .ok (.agg #[.bool qb, .string qn]) w' := fun w' h => by
    obtain ⟨m, rfl⟩ := h
    exact pa_load qb qn _ _ ((m.below.block _ (heap_lt HY0.out)).trans HY0.out)
   have hq7 : ∀ w', (∃ n : BW x8.heap.size x8, w' = n.w) → (loadVar 33 ⟨v7.heap.size, 0, none⟩).run Tryz.prog w' = .ok (.agg #[.bool k, .string N]) w' := fun w' h => by
    obtain ⟨m, rfl⟩ := h
    exact pa_load k N _ _ ((m.below.block _ (heap_lt HY7.out)).trans HY7.out)
   have hq8 : ∀ w', (∃ n : BW x8.heap.size x8, w' = n.w) → (loadVar 33 ⟨v8.heap.size, 0, none⟩).run Tryz.prog w' = .ok (.agg #[.bool k, .string N]) w' := fun w' h => by
    obtain ⟨m, rfl⟩ := h
    exact pa_load k N _ _ ((m.below.block _ (heap_lt HX8.out)).trans HX8.out)
   have CM8 := hid (fun m : BW x8.heap.size x8 => CM.out m.w ((HEN.out.ext HB8.out).ext m.below).glob)
   go_wp2_with ((with_reducible show wpList _ _ _ (_ :: _) _ _); first | (refine st_arr 33 v8.heap.size _ hst8 _ _ rfl rfl rfl rfl ?_))
   clear hst8 hA8
   refine wp_region_quietB x8.heap.size (by kernel_rfl) (by kernel_rfl) ?_
   repeat (first | (go_big_quiet_want; refine quiet_ldRow 33 _ _ hq0 _ rfl rfl ?_; go_big_quiet_on; simp only [Act.put, List.setIfInBounds_toArray, List.set_cons_zero, List.set_cons_succ]) | (go_big_quiet_want; refine quiet_ldRow 33 _ _ hq7 _ rfl rfl ?_; go_big_quiet_on; simp only [Act.put, List.setIfInBounds_toArray, List.set_cons_zero, List.set_cons_succ]) | (go_big_quiet_want; refine quiet_ldRow 33 _ _ hq8 _ rfl rfl ?_; go_big_quiet_on; simp only [Act.put, List.setIfInBounds_toArray, List.set_cons_zero, List.set_cons_succ]) | go_big_quiet_step (first | (go_at_call 24; exact quiet_callB (CM8.out _) (Nat.le_refl _)) | (go_at_call 26; exact quiet_callB (T1.out _) (Nat.le_refl _)) | (go_at_call 27; exact quiet_callB (T2.out _) (Nat.le_refl _))))
   refine wpQuiet_nil ?_
   intro _ hw'
   obtain ⟨nb, hw9⟩ := hw'
   subst hw9
   have HB9 := hid (xT HB8.out nb.below)
   have HX9 : Hid (nb.w.heap[v7.heap.size]? = some (.cells (patC k N) 33 (0, 0))) := hid ((nb.below.block _ (heap_lt HY7.out)).trans HY7.out)
   clear hq0 hq7 hq8
   generalize nb.w = v9 at *
   have l9 : (loadVar 33 ⟨v7.heap.size, 0, none⟩).run Tryz.prog v9 = .ok (.agg #[.bool k, .string N]) v9 := pa_load k N _ v9 HX9.out
   go_wp2_with ((with_reducible show wpList _ _ _ (_ :: _) _ _); first | (refine ld_arr 33 v7.heap.size _ l9 _ rfl rfl rfl ?_) | (refine ld_arrG 33 v7.heap.size _ l9 _ rfl rfl rfl ?_))
   clear l9
   refine (TX.out v9).mono ?_
   rintro e v10 ⟨rfl, hb10⟩
   have HB10 := hid (xT HB9.out hb10)
   have HX10 : Hid (v10.heap[v7.heap.size]? = some (.cells (patC k N) 33 (0, 0))) := hid ((hb10.block _ (heap_lt HX9.out)).trans HX9.out)
   clear hb10
   go_wp2_with fail
   refine (CB.out v10 (HEN.out.ext HB10.out)).mono ?_
   rintro e v11 ⟨hb11, rfl⟩
   obtain ⟨a11, hA11⟩ : ∃ W, v11.alloc (.cells #[.bool false, .string ⟨#[]⟩] 33) = W := ⟨_, rfl⟩
   have hba11 : Below v11.heap.size v11 a11 := by rw [← hA11]; exact ext_alloc (Below.refl _ _) _
   have hxa11 : a11.heap[v11.heap.size]? = some (.cells (patC false ⟨#[]⟩) 33 (0, 0)) := by rw [← hA11]; exact heap_alloc_new v11 _
   have hst11 : (storeVar 33 ⟨v11.heap.size, 0, none⟩ (.agg #[.bool k, .string N])).run Tryz.prog a11 = .ok () (a11.setRow v11.heap.size #[.bool k, .string N]) := pa_store k false N ⟨#[]⟩ _ a11 hxa11
   have hxb11 := setRow_heap (c := #[.bool k, .string N]) hxa11
   have hbb11 : Below v11.heap.size v11 (a11.setRow v11.heap.size #[.bool k, .string N]) := setRow_below hba11 (Nat.le_refl _)
   obtain ⟨x11, hW11⟩ : ∃ W, a11.setRow v11.heap.size #[.bool k, .string N] = W := ⟨_, rfl⟩
   rw [hW11] at hst11 hxb11 hbb11
   have HX11 := hid hxb11
   clear hba11 hxa11 hxb11 hW11
   have HB11 := hid (xT HB1.out (xT HB10.out (xT hb11 hbb11)))
   have l7 : (loadVar 33 ⟨v7.heap.size, 0, none⟩).run Tryz.prog x11 = .ok (.agg #[.bool k, .string N]) x11 := pa_load k N _ x11 (((xT hb11 hbb11).block _ (heap_lt HX10.out)).trans HX10.out)
   have l11 : (loadVar 33 ⟨v11.heap.size, 0, none⟩).run Tryz.prog x11 = .ok (.agg #[.bool k, .string N]) x11 := pa_load k N _ x11 HX11.out
   clear hb11 hbb11
   go_wp2_with ((with_reducible show wpList _ _ _ (_ :: _) _ _); first | (refine st_arr 33 v11.heap.size _ hst11 _ _ rfl rfl rfl rfl ?_) | (refine ld_arr 33 v7.heap.size _ l7 _ rfl rfl rfl ?_) | (refine ld_arrG 33 v7.heap.size _ l7 _ rfl rfl rfl ?_) | (refine ld_arr 33 v11.heap.size _ l11 _ rfl rfl rfl ?_) | (refine ld_arrG 33 v11.heap.size _ l11 _ rfl rfl rfl ?_))
   go_ret
   exact ⟨rfl, HB11.out⟩
end Go.Proofs.YtbeodjipdpcaiaaGreatDoor
