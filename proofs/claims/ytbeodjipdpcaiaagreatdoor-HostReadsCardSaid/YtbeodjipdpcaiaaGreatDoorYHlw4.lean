/- Texts put together. -/
import Derived.Test.YtbeodjipdpcaiaaGreatDoorYMoreR
import Derived.Test.YtbeodjipdpcaiaaGreatDoorYDec1f
import Derived.Test.YtbeodjipdpcaiaaGreatDoorYRfz3
import Derived.Test.YtbeodjipdpcaiaaGreatDoorYDig1sf
set_option maxRecDepth 100000
set_option maxHeartbeats 8000000
namespace Go.Proofs.YtbeodjipdpcaiaaGreatDoor
open Go.RowKit
theorem hostReads_any (s : ByteArray) (w : World) (hEn : HEnv w) : Calls Tryz.prog 6 #[.string s] w fun e w' => e = .returned (.bool true) ∧ Below w.heap.size w w' := by
 have SPK := hid (speaks13 w hEn)
 have HEN := hid hEn
 clear hEn
 by_cases h2 : 1500 < s.size
 · have u2 : decide ((1500 : Int) < (s.size : Int)) = true := dcT (by omega)
   have u2' : decide (1500 < s.size) = true := dcT h2
   clear h2
   go_enter Tryz.func6, Tryz.ntmps6
   go_wp2_with fail
   refine SPK.out.mono ?_
   rintro e w2 ⟨rfl, hb2⟩
   have HB2 := hid hb2
   clear hb2
   go_wp2
   go_ret
   exact ⟨rfl, HB2.out⟩
 have u2 : decide ((1500 : Int) < (s.size : Int)) = false := dcF (by omega)
 have u2' : decide (1500 < s.size) = false := dcF h2
 have hs : s.size ≤ 1500 := by omega
 have RC := fun W => rcanon_any s W (by omega)
 clear h2
 cases hr : canonL (bytesN s) with
 | er l =>
   have CA := hid (fun W hE => (hcanon_any s W (by omega) hE))
   rw [hr] at CA RC
   unfold canV at RC
   dsimp only at RC
   have hne := canonE_ne hr
   have CM := hid (fun b off W hG h => came_err b off l (fromI l) W hG h (from_is l))
   obtain ⟨kk, hkk⟩ : ∃ k, kindI l = k := ⟨_, rfl⟩
   obtain ⟨aa, haa⟩ : ∃ k, atI l = k := ⟨_, rfl⟩
   obtain ⟨ff, hff⟩ : ∃ k, fromI l = k := ⟨_, rfl⟩
   rw [hkk, haa, hff] at CM RC
   have RC := hid RC; have HNE := hid hne
   have eE : ((⟨#[]⟩ : ByteArray).toList == (⟨#[]⟩ : ByteArray).toList) = true := by simp
   clear hr hkk haa hff hne
   go_enter Tryz.func6, Tryz.ntmps6
   go_wp2_with fail
   refine SPK.out.mono ?_
   rintro e w2 ⟨rfl, hb2⟩
   have HB2 := hid hb2
   clear hb2
   go_wp2_with fail
   refine (CA.out w2 (HEN.out.ext HB2.out)).mono ?_
   rintro e v7 ⟨hb7, u, he, hE⟩
   obtain ⟨b1, o1, rfl⟩ := fault_form hE HNE.out
   subst he
   obtain ⟨a7, hA7⟩ : ∃ W, v7.alloc (.cells #[.int .i64 0, .string ⟨#[]⟩] 24) = W := ⟨_, rfl⟩
   have hba7 : Below v7.heap.size v7 a7 := by rw [← hA7]; exact ext_alloc (Below.refl _ _) _
   have hxa7 : a7.heap[v7.heap.size]? = some (.cells (hostC 0 ⟨#[]⟩) 24 (0, 0)) := by rw [← hA7]; exact heap_alloc_new v7 _
   have hst7 : (storeVar 24 ⟨v7.heap.size, 0, none⟩ (.agg #[.int .i64 0, .string ⟨#[]⟩])).run Tryz.prog a7 = .ok () (a7.setRow v7.heap.size #[.int .i64 0, .string ⟨#[]⟩]) := ho_store 0 0 ⟨#[]⟩ ⟨#[]⟩ _ a7 hxa7
   have hxb7 := setRow_heap (c := #[.int .i64 0, .string ⟨#[]⟩]) hxa7
   have hbb7 : Below v7.heap.size v7 (a7.setRow v7.heap.size #[.int .i64 0, .string ⟨#[]⟩]) := setRow_below hba7 (Nat.le_refl _)
   obtain ⟨x7, hW7⟩ : ∃ W, a7.setRow v7.heap.size #[.int .i64 0, .string ⟨#[]⟩] = W := ⟨_, rfl⟩
   rw [hW7] at hst7 hxb7 hbb7
   have HX7 := hid hxb7
   clear hba7 hxa7 hxb7 hW7
   have HB7 := hid (xT HB2.out (xT hb7 hbb7)); have HS7 := hid hbb7; have HER := hid (hE.ext hbb7)
   clear hb7 hbb7 hE
   go_wp2_with ((with_reducible show wpList _ _ _ (_ :: _) _ _); first | (refine st_arr 24 v7.heap.size _ hst7 _ _ rfl rfl rfl rfl ?_))
   clear hst7 hA7
   refine (RC.out x7).mono ?_
   rintro e v8 ⟨rfl, hb8⟩
   obtain ⟨a8, hA8⟩ : ∃ W, v8.alloc (.cells #[.int .i64 0, .string ⟨#[]⟩] 24) = W := ⟨_, rfl⟩
   have hba8 : Below v8.heap.size v8 a8 := by rw [← hA8]; exact ext_alloc (Below.refl _ _) _
   have hxa8 : a8.heap[v8.heap.size]? = some (.cells (hostC 0 ⟨#[]⟩) 24 (0, 0)) := by rw [← hA8]; exact heap_alloc_new v8 _
   have hst8 : (storeVar 24 ⟨v8.heap.size, 0, none⟩ (.agg #[.int .i64 0, .string ⟨#[]⟩])).run Tryz.prog a8 = .ok () (a8.setRow v8.heap.size #[.int .i64 0, .string ⟨#[]⟩]) := ho_store 0 0 ⟨#[]⟩ ⟨#[]⟩ _ a8 hxa8
   have hxb8 := setRow_heap (c := #[.int .i64 0, .string ⟨#[]⟩]) hxa8
   have hbb8 : Below v8.heap.size v8 (a8.setRow v8.heap.size #[.int .i64 0, .string ⟨#[]⟩]) := setRow_below hba8 (Nat.le_refl _)
   obtain ⟨x8, hW8⟩ : ∃ W, a8.setRow v8.heap.size #[.int .i64 0, .string ⟨#[]⟩] = W := ⟨_, rfl⟩
   rw [hW8] at hst8 hxb8 hbb8
   have HX8 := hid hxb8
   clear hba8 hxa8 hxb8 hW8
   have HB8 := hid (xT HB7.out (xT hb8 hbb8)); have HS8 := hid (xT hb8 hbb8)
   clear hb8 hbb8
   have l7 : (loadVar 24 ⟨v7.heap.size, 0, none⟩).run Tryz.prog x8 = .ok (.agg #[.int .i64 0, .string ⟨#[]⟩]) x8 := ho_load 0 ⟨#[]⟩ _ x8 ((HS8.out.block _ (heap_lt HX7.out)).trans HX7.out)
   have l8 : (loadVar 24 ⟨v8.heap.size, 0, none⟩).run Tryz.prog x8 = .ok (.agg #[.int .i64 0, .string ⟨#[]⟩]) x8 := ho_load 0 ⟨#[]⟩ _ x8 HX8.out
   have CM8 := hid (CM.out b1 o1 x8 (HEN.out.ext HB8.out).glob (HER.out.ext HS8.out))
   go_wp2_with ((with_reducible show wpList _ _ _ (_ :: _) _ _); first | (refine st_arr 24 v8.heap.size _ hst8 _ _ rfl rfl rfl rfl ?_) | (refine ld_arr 24 v7.heap.size _ l7 _ rfl rfl rfl ?_) | (refine ld_arrG 24 v7.heap.size _ l7 _ rfl rfl rfl ?_) | (refine ld_arr 24 v8.heap.size _ l8 _ rfl rfl rfl ?_) | (refine ld_arrG 24 v8.heap.size _ l8 _ rfl rfl rfl ?_))
   clear hst8 hA8 l7 l8
   refine CM8.out.mono ?_
   rintro e v9 ⟨rfl, hb9⟩
   have HB9 := hid (xT HB8.out hb9)
   clear hb9
   go_wp2
   go_ret
   exact ⟨rfl, HB9.out⟩
 | ok k t =>
   have CA := hid (fun W hE => (canon_okc s W (by omega) hE hr))
   rw [hr] at RC
   unfold canV at RC
   dsimp only at RC
   have hk := canon_ok hr
   have hln := canon_len hr
   have htx := text_host hk
   have hbk := canon_back hk
   obtain ⟨N, hN⟩ : ∃ N, bytesL t = N := ⟨_, rfl⟩
   have hNz : N.size ≤ 1000 := by rw [← hN, bytesL_size]; exact hln.1
   obtain ⟨Z, hZ⟩ : ∃ Z, bytesL (textH k t) = Z := ⟨_, rfl⟩
   have hZz : Z.size ≤ 1002 := by rw [← hZ, bytesL_size]; exact htx.1
   have hZN : bytesN Z = textH k t := by rw [← hZ]; exact bytesN_bytesL htx.2
   have hHT : hostT (k : Int) N = Z := by rw [← hN, hostT_bytes, hZ]
   have TX := fun W => htextOf_any (k : Int) N W (by omega)
   have RTX := fun W => rtextOf_any (k : Int) N W (by omega)
   have CB := hid (fun W hE => canon_okc Z W (by omega) hE (by rw [hZN]; exact hbk))
   rw [hHT] at TX RTX
   rw [hN] at CA RC CB
   have TX := hid TX; have RTX := hid RTX; have RC := hid RC
   have CM := hid (fun W hG => came_nil 0 W hG)
   have tN : (N.toList == N.toList) = true := beqS_t rfl
   have tZ : (Z.toList == Z.toList) = true := beqS_t rfl
   clear hr hk hln htx hbk hN hZ hZN hHT
   go_enter Tryz.func6, Tryz.ntmps6
   go_wp2_with fail
   refine SPK.out.mono ?_
   rintro e w2 ⟨rfl, hb2⟩
   have HB2 := hid hb2
   clear hb2
   go_wp2_with fail
   refine (CA.out w2 (HEN.out.ext HB2.out)).mono ?_
   rintro e v7 ⟨hb7, rfl⟩
   obtain ⟨a7, hA7⟩ : ∃ W, v7.alloc (.cells #[.int .i64 0, .string ⟨#[]⟩] 24) = W := ⟨_, rfl⟩
   have hba7 : Below v7.heap.size v7 a7 := by rw [← hA7]; exact ext_alloc (Below.refl _ _) _
   have hxa7 : a7.heap[v7.heap.size]? = some (.cells (hostC 0 ⟨#[]⟩) 24 (0, 0)) := by rw [← hA7]; exact heap_alloc_new v7 _
   have hst7 : (storeVar 24 ⟨v7.heap.size, 0, none⟩ (.agg #[.int .i64 (k : Int), .string N])).run Tryz.prog a7 = .ok () (a7.setRow v7.heap.size #[.int .i64 (k : Int), .string N]) := ho_store (k : Int) 0 N ⟨#[]⟩ _ a7 hxa7
   have hxb7 := setRow_heap (c := #[.int .i64 (k : Int), .string N]) hxa7
   have hbb7 : Below v7.heap.size v7 (a7.setRow v7.heap.size #[.int .i64 (k : Int), .string N]) := setRow_below hba7 (Nat.le_refl _)
   obtain ⟨x7, hW7⟩ : ∃ W, a7.setRow v7.heap.size #[.int .i64 (k : Int), .string N] = W := ⟨_, rfl⟩
   rw [hW7] at hst7 hxb7 hbb7
   have HX7 := hid hxb7
   clear hba7 hxa7 hxb7 hW7
   have HB7 := hid (xT HB2.out (xT hb7 hbb7))
   clear hb7 hbb7
   go_wp2_with ((with_reducible show wpList _ _ _ (_ :: _) _ _); first | (refine st_arr 24 v7.heap.size _ hst7 _ _ rfl rfl rfl rfl ?_))
   clear hst7 hA7
   refine (RC.out x7).mono ?_
   rintro e v8 ⟨rfl, hb8⟩
   obtain ⟨a8, hA8⟩ : ∃ W, v8.alloc (.cells #[.int .i64 0, .string ⟨#[]⟩] 24) = W := ⟨_, rfl⟩
   have hba8 : Below v8.heap.size v8 a8 := by rw [← hA8]; exact ext_alloc (Below.refl _ _) _
   have hxa8 : a8.heap[v8.heap.size]? = some (.cells (hostC 0 ⟨#[]⟩) 24 (0, 0)) := by rw [← hA8]; exact heap_alloc_new v8 _
   have hst8 : (storeVar 24 ⟨v8.heap.size, 0, none⟩ (.agg #[.int .i64 (k : Int), .string N])).run Tryz.prog a8 = .ok () (a8.setRow v8.heap.size #[.int .i64 (k : Int), .string N]) := ho_store (k : Int) 0 N ⟨#[]⟩ _ a8 hxa8
   have hxb8 := setRow_heap (c := #[.int .i64 (k : Int), .string N]) hxa8
   have hbb8 : Below v8.heap.size v8 (a8.setRow v8.heap.size #[.int .i64 (k : Int), .string N]) := setRow_below hba8 (Nat.le_refl _)
   obtain ⟨x8, hW8⟩ : ∃ W, a8.setRow v8.heap.size #[.int .i64 (k : Int), .string N] = W := ⟨_, rfl⟩
   rw [hW8] at hst8 hxb8 hbb8
   have HX8 := hid hxb8
   clear hba8 hxa8 hxb8 hW8
   have HB8 := hid (xT HB7.out (xT hb8 hbb8)); have HS8 := hid (xT hb8 hbb8)
   clear hb8 hbb8
   have l7 : (loadVar 24 ⟨v7.heap.size, 0, none⟩).run Tryz.prog x8 = .ok (.agg #[.int .i64 (k : Int), .string N]) x8 := ho_load (k : Int) N _ x8 ((HS8.out.block _ (heap_lt HX7.out)).trans HX7.out)
   have l8 : (loadVar 24 ⟨v8.heap.size, 0, none⟩).run Tryz.prog x8 = .ok (.agg #[.int .i64 (k : Int), .string N]) x8 := ho_load (k : Int) N _ x8 HX8.out
   have CM8 := hid (CM.out x8 (HEN.out.ext HB8.out).glob)
   go_wp2_with ((with_reducible show wpList _ _ _ (_ :: _) _ _); first | (refine st_arr 24 v8.heap.size _ hst8 _ _ rfl rfl rfl rfl ?_) | (refine ld_arr 24 v7.heap.size _ l7 _ rfl rfl rfl ?_) | (refine ld_arrG 24 v7.heap.size _ l7 _ rfl rfl rfl ?_) | (refine ld_arr 24 v8.heap.size _ l8 _ rfl rfl rfl ?_) | (refine ld_arrG 24 v8.heap.size _ l8 _ rfl rfl rfl ?_))
   clear hst8 hA8 l7 l8
   refine CM8.out.mono ?_
   rintro e v9 ⟨rfl, hb9⟩
   have HB9 := hid (xT HB8.out hb9)
   have HX9 : Hid (v9.heap[v7.heap.size]? = some (.cells (hostC k N) 24 (0, 0))) := hid (((xT HS8.out hb9).block _ (heap_lt HX7.out)).trans HX7.out)
   have l9 : (loadVar 24 ⟨v7.heap.size, 0, none⟩).run Tryz.prog v9 = .ok (.agg #[.int .i64 (k : Int), .string N]) v9 := ho_load (k : Int) N _ v9 HX9.out
   clear hb9
   go_wp2_with ((with_reducible show wpList _ _ _ (_ :: _) _ _); first | (refine ld_arr 24 v7.heap.size _ l9 _ rfl rfl rfl ?_) | (refine ld_arrG 24 v7.heap.size _ l9 _ rfl rfl rfl ?_))
   clear l9
   refine (TX.out v9).mono ?_
   rintro e v10 ⟨rfl, hb10⟩
   have HB10 := hid (xT HB9.out hb10)
   have HX10 : Hid (v10.heap[v7.heap.size]? = some (.cells (hostC k N) 24 (0, 0))) := hid ((hb10.block _ (heap_lt HX9.out)).trans HX9.out)
   clear hb10
   go_wp2_with fail
   refine (CB.out v10 (HEN.out.ext HB10.out)).mono ?_
   rintro e v11 ⟨hb11, rfl⟩
   obtain ⟨a11, hA11⟩ : ∃ W, v11.alloc (.cells #[.int .i64 0, .string ⟨#[]⟩] 24) = W := ⟨_, rfl⟩
   have hba11 : Below v11.heap.size v11 a11 := by rw [← hA11]; exact ext_alloc (Below.refl _ _) _
   have hxa11 : a11.heap[v11.heap.size]? = some (.cells (hostC 0 ⟨#[]⟩) 24 (0, 0)) := by rw [← hA11]; exact heap_alloc_new v11 _
   have hst11 : (storeVar 24 ⟨v11.heap.size, 0, none⟩ (.agg #[.int .i64 (k : Int), .string N])).run Tryz.prog a11 = .ok () (a11.setRow v11.heap.size #[.int .i64 (k : Int), .string N]) := ho_store (k : Int) 0 N ⟨#[]⟩ _ a11 hxa11
   have hxb11 := setRow_heap (c := #[.int .i64 (k : Int), .string N]) hxa11
   have hbb11 : Below v11.heap.size v11 (a11.setRow v11.heap.size #[.int .i64 (k : Int), .string N]) := setRow_below hba11 (Nat.le_refl _)
   obtain ⟨x11, hW11⟩ : ∃ W, a11.setRow v11.heap.size #[.int .i64 (k : Int), .string N] = W := ⟨_, rfl⟩
   rw [hW11] at hst11 hxb11 hbb11
   have HX11 := hid hxb11
   clear hba11 hxa11 hxb11 hW11
   have HB11 := hid (xT HB10.out (xT hb11 hbb11))
   have HY11 : Hid (x11.heap[v7.heap.size]? = some (.cells (hostC k N) 24 (0, 0))) := hid (((xT hb11 hbb11).block _ (heap_lt HX10.out)).trans HX10.out)
   clear hb11 hbb11
   have hq1 : ∀ w', (∃ n : BW x11.heap.size x11, w' = n.w) → (loadVar 24 ⟨v7.heap.size, 0, none⟩).run Tryz.prog w' = .ok (.agg #[.int .i64 (k : Int), .string N]) w' := fun w' h => by
    obtain ⟨m, rfl⟩ := h
    exact ho_load (k : Int) N _ _ ((m.below.block _ (heap_lt HY11.out)).trans HY11.out)
   have hq2 : ∀ w', (∃ n : BW x11.heap.size x11, w' = n.w) → (loadVar 24 ⟨v11.heap.size, 0, none⟩).run Tryz.prog w' = .ok (.agg #[.int .i64 (k : Int), .string N]) w' := fun w' h => by
    obtain ⟨m, rfl⟩ := h
    exact ho_load (k : Int) N _ _ ((m.below.block _ (heap_lt HX11.out)).trans HX11.out)
   go_wp2_with ((with_reducible show wpList _ _ _ (_ :: _) _ _); first | (refine st_arr 24 v11.heap.size _ hst11 _ _ rfl rfl rfl rfl ?_))
   clear hst11 hA11
   refine wp_region_quietB x11.heap.size (by kernel_rfl) (by kernel_rfl) ?_
   repeat (first | (go_big_quiet_want; refine quiet_ldRow 24 _ _ hq1 _ rfl rfl ?_; go_big_quiet_on; simp only [Act.put, List.setIfInBounds_toArray, List.set_cons_zero, List.set_cons_succ]) | (go_big_quiet_want; refine quiet_ldRow 24 _ _ hq2 _ rfl rfl ?_; go_big_quiet_on; simp only [Act.put, List.setIfInBounds_toArray, List.set_cons_zero, List.set_cons_succ]) | go_big_quiet_step (first | (go_at_call 19; exact quiet_callB (TX.out _) (Nat.le_refl _)) | (go_at_call 20; exact quiet_callB (RTX.out _) (Nat.le_refl _))))
   refine wpQuiet_nil ?_
   intro _ hw'
   obtain ⟨nb, hw12⟩ := hw'
   subst hw12
   have HB12 := hid (xT HB11.out nb.below)
   clear hq1 hq2
   generalize nb.w = W12 at *
   go_wp2
   go_ret
   exact ⟨rfl, HB12.out⟩
end Go.Proofs.YtbeodjipdpcaiaaGreatDoor
