
/- waybilllaw13.HostShown: the walk. -/
import Derived.Test.YtbeodjipdpcaiaaGreatDoorZMoreS
import Derived.Test.YtbeodjipdpcaiaaGreatDoorZHlw1
import Derived.Test.YtbeodjipdpcaiaaGreatDoorZRfx1s
import Derived.Test.YtbeodjipdpcaiaaGreatDoorZQb1
-- @auto
namespace Go.Proofs.YtbeodjipdpcaiaaGreatDoor
open Go.RowKit
theorem text_host {k : Nat} {t : List Nat} (hk : HostOk k t) : (textH k t).length ≤ 1002 ∧ ByteL (textH k t) := by
  have hl := canon_len (canon_back hk)
  refine ⟨?_, ?_⟩
  · unfold textH
    split
    · simp only [List.length_append, List.length_cons, List.length_nil]; omega
    · omega
  · intro c hc
    unfold textH at hc
    split at hc
    · simp only [List.cons_append, List.mem_cons, List.mem_append, List.not_mem_nil, or_false] at hc
      rcases hc with rfl | hc | rfl
      · decide
      · exact hl.2 c hc
      · decide
    · exact hl.2 c hc
theorem shown_host {k : Nat} {t : List Nat} (hk : HostOk k t) : shownB (k : Int) (bytesL t) = bytesL (shownH k t) ∧ ByteL (shownH k t) ∧ (shownH k t).length ≤ 200000 := by
  have hT := text_host hk
  have hl := canon_len (canon_back hk)
  have he : shownB (k : Int) (bytesL t) = bytesL (shownH k t) := by
    unfold shownB shownH
    by_cases h1 : k = 1
    · rw [if_pos (by omega), if_pos h1, bytesN_bytesL hl.2]
    · rw [if_neg (by omega), if_neg h1, hostT_bytes]
  refine ⟨he, ?_⟩
  cases hk with
  | name n ts h hn =>
    unfold shownH
    rw [if_pos rfl, h.split]
    constructor
    · intro c hc
      rcases joinN_mem hc with rfl | ⟨p, hp, hc⟩
      · decide
      · obtain ⟨q, hq, rfl⟩ := List.mem_map.1 hp
        have hr := h.right q hq
        unfold shownP at hc
        rw [if_pos hr] at hc
        exact (ascii_shown hr).2.2.2 c hc
    · have := join_small 46 1024 (ps := ts.map shownP) (fun q hq => by
        obtain ⟨p, hp, rfl⟩ := List.mem_map.1 hq
        have := (rightL_zero (h.right p hp)).2.1
        exact shownP_len p 1024 (by omega) (by decide))
      rw [List.length_map] at this
      have := h.len
      omega
  | four a h => unfold shownH; rw [if_neg (by decide)]; exact ⟨hT.2, by omega⟩
  | six g h8 h => unfold shownH; rw [if_neg (by decide)]; exact ⟨hT.2, by omega⟩
set_option maxRecDepth 100000 in
set_option maxHeartbeats 8000000 in
/-- waybilllaw13.HostShown -/
theorem hostShown_any (k : Int) (t s : ByteArray) (w : World) (hEn : HEnv w) : Calls Tryz.prog 5 #[.agg #[.int .i64 k, .string t], .string s] w fun e w' => e = .returned (.bool true) ∧ Below w.heap.size w w' := by
  obtain ⟨W1, hW1⟩ : ∃ W, w.alloc (.cells #[.int .i64 k, .string t] 24) = W := ⟨_, rfl⟩
  have hb1 : Below w.heap.size w W1 := by rw [← hW1]; exact ext_alloc (Below.refl _ _) _
  have hx1 : W1.heap[w.heap.size]? = some (.cells (hostC k t) 24 (0, 0)) := by rw [← hW1]; exact heap_alloc_new w _
  have SPK := Lib.hid (speaks13 W1 (hEn.ext hb1))
  have HB1 := Lib.hid hb1; have HX1 := Lib.hid hx1; have HEN := Lib.hid hEn
  obtain ⟨b0, hb0⟩ : ∃ b, w.heap.size = b := ⟨_, rfl⟩
  have HCE : Hid (∀ W, Below W1.heap.size W1 W → W.cell? ⟨b0, 1, none⟩ = some (.string t)) := Lib.hid (fun W h => by
    have hx := (h.block _ (heap_lt HX1.out)).trans HX1.out
    rw [hb0] at hx
    exact Lib.cell_of_heap hx 1)
  have HLD : Hid (∀ W, Below W1.heap.size W1 W → (loadVar 24 ⟨b0, 0, none⟩).run Tryz.prog W = .ok (.agg #[.int .i64 k, .string t]) W) := Lib.hid (fun W h => by
    have hx := (h.block _ (heap_lt HX1.out)).trans HX1.out
    rw [hb0] at hx
    exact ho_load k t _ _ hx)
  by_cases h1 : 1500 < t.size
  · have u1 : decide ((1500 : Int) < (t.size : Int)) = true := decide_eq_true (by omega)
    have u1' : decide (1500 < t.size) = true := decide_eq_true h1
    clear hb1 hx1 hEn h1 HLD
    go_enter Tryz.func5, Tryz.ntmps5
    go_wp2_with fail
    refine SPK.out.mono ?_
    rintro e w2 ⟨rfl, hb2⟩
    have c1 := HCE.out w2 hb2
    have HB2 := Lib.hid (ext_trans HB1.out hb2)
    clear hb2 hW1
    go_wp2
    go_ret
    exact ⟨rfl, HB2.out⟩
  have u1 : decide ((1500 : Int) < (t.size : Int)) = false := decide_eq_false (by omega)
  have u1' : decide (1500 < t.size) = false := decide_eq_false h1
  by_cases h2 : 1500 < s.size
  · have u2 : decide ((1500 : Int) < (s.size : Int)) = true := decide_eq_true (by omega)
    have u2' : decide (1500 < s.size) = true := decide_eq_true h2
    clear hb1 hx1 hEn h1 h2 HLD
    go_enter Tryz.func5, Tryz.ntmps5
    go_wp2_with fail
    refine SPK.out.mono ?_
    rintro e w2 ⟨rfl, hb2⟩
    have c1 := HCE.out w2 hb2
    have HB2 := Lib.hid (ext_trans HB1.out hb2)
    clear hb2 hW1
    go_wp2
    go_ret
    exact ⟨rfl, HB2.out⟩
  · have u2 : decide ((1500 : Int) < (s.size : Int)) = false := decide_eq_false (by omega)
    have u2' : decide (1500 < s.size) = false := decide_eq_false h2
    have T1 := fun W => htextOf_any k t W (by omega)
    have T2 := fun W => rtextOf_any k t W (by omega)
    have O1 := fun W (h : HEnv W) => hshown_any k t W (by omega) h
    have O2 := fun W => rshown13_any k t W (by omega)
    obtain ⟨A, hA⟩ : ∃ A, hostT k t = A := ⟨_, rfl⟩
    obtain ⟨B, hB⟩ : ∃ B, shownB k t = B := ⟨_, rfl⟩
    rw [hA] at T1 T2
    rw [hB] at O1 O2
    have HT1 := Lib.hid T1; have HT2 := Lib.hid T2; have HO1 := Lib.hid O1; have HO2 := Lib.hid O2
    have eA : (A.toList == A.toList) = true := beqS_t rfl
    have eB : (B.toList == B.toList) = true := beqS_t rfl
    have hs : s.size ≤ 1500 := by omega
    clear T1 T2 O1 O2 hA hB h1 h2 hb1 hx1 hEn
    go_enter Tryz.func5, Tryz.ntmps5
    go_wp2_with fail
    refine SPK.out.mono ?_
    rintro e w2 ⟨rfl, hb2⟩
    have c1 := HCE.out w2 hb2
    have hz2 : b0 < w2.heap.size := by have := heap_lt HX1.out; have := hb2.size; omega
    have HB2 := Lib.hid (ext_trans HB1.out hb2)
    have hq1 : ∀ w', (∃ n : BW w2.heap.size w2, w' = n.w) → (loadVar 24 ⟨b0, 0, none⟩).run Tryz.prog w' = .ok (.agg #[.int .i64 k, .string t]) w' := fun w' h => by
      obtain ⟨m, rfl⟩ := h
      exact HLD.out _ (ext_trans hb2 m.below)
    have HO3 : Hid (∀ m : BW w2.heap.size w2, Calls Tryz.prog 21 #[.agg #[.int .i64 k, .string t]] m.w fun e w' => e = .returned (.string B) ∧ Below m.w.heap.size m.w w') := Lib.hid (fun m => HO1.out _ (HEN.out.ext (ext_trans HB2.out m.below)))
    clear hb2 hW1 hz2
    go_wp2_with fail
    clear hb0 c1
    refine wp_region_quietB w2.heap.size (by kernel_rfl) (by kernel_rfl) ?_
    repeat (first | (go_big_quiet_want; refine quiet_ldRow 24 _ _ hq1 _ rfl rfl ?_; go_big_quiet_on; simp only [Act.put, List.setIfInBounds_toArray, List.set_cons_zero, List.set_cons_succ]) | go_big_quiet_step (first | (go_at_call 19; exact quiet_callB (HT1.out _) (Nat.le_refl _)) | (go_at_call 20; exact quiet_callB (HT2.out _) (Nat.le_refl _)) | (go_at_call 21; exact quiet_callB (HO3.out _) (Nat.le_refl _)) | (go_at_call 22; exact quiet_callB (HO2.out _) (Nat.le_refl _))))
    refine wpQuiet_nil ?_
    intro _ hw'
    obtain ⟨nb, hw4⟩ := hw'
    subst hw4
    have HB6 := Lib.hid (ext_trans HB2.out nb.below)
    clear hq1 HO3
    generalize nb.w = W6 at *
    cases hr : canonL (bytesN s) with
    | er l =>
      have CA := Lib.hid (canon_er s W6 (by omega) (HEN.out.ext HB6.out) hr)
      clear hr
      go_wp2_with fail
      refine CA.out.mono ?_
      rintro e v7 ⟨hb7, b1, o1, rfl⟩
      obtain ⟨a7, hA7⟩ : ∃ W, v7.alloc (.cells #[.int .i64 0, .string ⟨#[]⟩] 24) = W := ⟨_, rfl⟩
      have hba7 : Below v7.heap.size v7 a7 := by rw [← hA7]; exact ext_alloc (Below.refl _ _) _
      have hxa7 : a7.heap[v7.heap.size]? = some (.cells (hostC 0 ⟨#[]⟩) 24 (0, 0)) := by rw [← hA7]; exact heap_alloc_new v7 _
      have hst7 : (storeVar 24 ⟨v7.heap.size, 0, none⟩ (.agg #[.int .i64 0, .string ⟨#[]⟩])).run Tryz.prog a7 = .ok () (a7.setRow v7.heap.size #[.int .i64 0, .string ⟨#[]⟩]) := ho_store 0 0 ⟨#[]⟩ ⟨#[]⟩ _ a7 hxa7
      have hxb7 := setRow_heap (c := #[.int .i64 0, .string ⟨#[]⟩]) hxa7
      have hbb7 : Below v7.heap.size v7 (a7.setRow v7.heap.size #[.int .i64 0, .string ⟨#[]⟩]) := setRow_below hba7 (Nat.le_refl _)
      obtain ⟨x7, hW7⟩ : ∃ W, a7.setRow v7.heap.size #[.int .i64 0, .string ⟨#[]⟩] = W := ⟨_, rfl⟩
      rw [hW7] at hst7 hxb7 hbb7
      have HB7 := Lib.hid (ext_trans HB6.out (ext_trans hb7 hbb7)); have HX7 := Lib.hid hxb7
      have HS7 := Lib.hid (ext_trans hb7 hbb7)
      clear hb7 hba7 hxa7 hbb7 hxb7 hW7
      have HF := Lib.hid HB7.out
      go_wp2_with ((with_reducible show wpList _ _ _ (_ :: _) _ _); refine st_arr 24 v7.heap.size _ hst7 _ _ rfl rfl rfl rfl ?_)
      go_ret
      exact ⟨rfl, HF.out⟩
    | ok k2 t2 =>
      have CA := Lib.hid (canon_okc s W6 (by omega) (HEN.out.ext HB6.out) hr)
      have hk := canon_ok hr
      have hsh := shown_host hk
      have hln := canon_len hr
      have hbk := shown_back hk
      obtain ⟨N, hN⟩ : ∃ N, bytesL t2 = N := ⟨_, rfl⟩
      have hNz : N.size ≤ 1000 := by rw [← hN, bytesL_size]; exact hln.1
      obtain ⟨Z, hZ⟩ : ∃ Z, shownB (k2 : Int) N = Z := ⟨_, rfl⟩
      have hZe : Z = bytesL (shownH k2 t2) := by rw [← hZ, ← hN]; exact hsh.1
      have hZz : Z.size ≤ 200000 := by rw [hZe, bytesL_size]; exact hsh.2.2
      have SH := Lib.hid (fun W h => hshown_any (k2 : Int) N W (by omega) h)
      have CB := Lib.hid (fun W h => canon_okc Z W (by omega) h (by rw [hZe, bytesN_bytesL hsh.2.1]; exact hbk))
      rw [hN] at CA CB
      rw [hZ] at SH
      have tT : (N.toList == N.toList) = true := beqS_t rfl
      have HTT := Lib.hid tT
      clear hr hk hsh hln hbk hN hZ hZe tT
      go_wp2_with fail
      refine CA.out.mono ?_
      rintro e v7 ⟨hb7, rfl⟩
      obtain ⟨a7, hA7⟩ : ∃ W, v7.alloc (.cells #[.int .i64 0, .string ⟨#[]⟩] 24) = W := ⟨_, rfl⟩
      have hba7 : Below v7.heap.size v7 a7 := by rw [← hA7]; exact ext_alloc (Below.refl _ _) _
      have hxa7 : a7.heap[v7.heap.size]? = some (.cells (hostC 0 ⟨#[]⟩) 24 (0, 0)) := by rw [← hA7]; exact heap_alloc_new v7 _
      have hst7 : (storeVar 24 ⟨v7.heap.size, 0, none⟩ (.agg #[.int .i64 k2, .string N])).run Tryz.prog a7 = .ok () (a7.setRow v7.heap.size #[.int .i64 k2, .string N]) := ho_store k2 0 N ⟨#[]⟩ _ a7 hxa7
      have hxb7 := setRow_heap (c := #[.int .i64 k2, .string N]) hxa7
      have hbb7 : Below v7.heap.size v7 (a7.setRow v7.heap.size #[.int .i64 k2, .string N]) := setRow_below hba7 (Nat.le_refl _)
      obtain ⟨x7, hW7⟩ : ∃ W, a7.setRow v7.heap.size #[.int .i64 k2, .string N] = W := ⟨_, rfl⟩
      rw [hW7] at hst7 hxb7 hbb7
      have HB7 := Lib.hid (ext_trans HB6.out (ext_trans hb7 hbb7)); have HX7 := Lib.hid hxb7
      have HS7 := Lib.hid (ext_trans hb7 hbb7)
      clear hb7 hba7 hxa7 hbb7 hxb7 hW7
      have l1 : (loadVar 24 ⟨v7.heap.size, 0, none⟩).run Tryz.prog x7 = .ok (.agg #[.int .i64 k2, .string N]) x7 := ho_load k2 N v7.heap.size x7 HX7.out
      go_wp2_with ((with_reducible show wpList _ _ _ (_ :: _) _ _); first | (refine st_arr 24 v7.heap.size _ hst7 _ _ rfl rfl rfl rfl ?_) | (refine ld_arr 24 v7.heap.size _ l1 _ rfl rfl rfl ?_))
      clear hst7 hA7
      refine (SH.out x7 (HEN.out.ext HB7.out)).mono ?_
      rintro e v8 ⟨rfl, hb8⟩
      have HB8 := Lib.hid (ext_trans HB7.out hb8)
      have HX8 : Hid (v8.heap[v7.heap.size]? = some (.cells (hostC k2 N) 24 (0, 0))) := Lib.hid ((hb8.block _ (heap_lt HX7.out)).trans HX7.out)
      clear hb8 l1
      go_wp2_with fail
      refine (CB.out v8 (HEN.out.ext HB8.out)).mono ?_
      rintro e v9 ⟨hb9, rfl⟩
      obtain ⟨a9, hA9⟩ : ∃ W, v9.alloc (.cells #[.int .i64 0, .string ⟨#[]⟩] 24) = W := ⟨_, rfl⟩
      have hba9 : Below v9.heap.size v9 a9 := by rw [← hA9]; exact ext_alloc (Below.refl _ _) _
      have hxa9 : a9.heap[v9.heap.size]? = some (.cells (hostC 0 ⟨#[]⟩) 24 (0, 0)) := by rw [← hA9]; exact heap_alloc_new v9 _
      have hst9 : (storeVar 24 ⟨v9.heap.size, 0, none⟩ (.agg #[.int .i64 k2, .string N])).run Tryz.prog a9 = .ok () (a9.setRow v9.heap.size #[.int .i64 k2, .string N]) := ho_store k2 0 N ⟨#[]⟩ _ a9 hxa9
      have hxb9 := setRow_heap (c := #[.int .i64 k2, .string N]) hxa9
      have hbb9 : Below v9.heap.size v9 (a9.setRow v9.heap.size #[.int .i64 k2, .string N]) := setRow_below hba9 (Nat.le_refl _)
      obtain ⟨x9, hW9⟩ : ∃ W, a9.setRow v9.heap.size #[.int .i64 k2, .string N] = W := ⟨_, rfl⟩
      rw [hW9] at hst9 hxb9 hbb9
      have HB9 := Lib.hid (ext_trans HB8.out (ext_trans hb9 hbb9)); have HX9 := Lib.hid hxb9
      have HS9 := Lib.hid (ext_trans hb9 hbb9)
      clear hb9 hba9 hxa9 hbb9 hxb9 hW9
      have l1 : (loadVar 24 ⟨v7.heap.size, 0, none⟩).run Tryz.prog x9 = .ok (.agg #[.int .i64 k2, .string N]) x9 := ho_load k2 N v7.heap.size x9 ((HS9.out.block _ (heap_lt HX8.out)).trans HX8.out)
      have l2 : (loadVar 24 ⟨v9.heap.size, 0, none⟩).run Tryz.prog x9 = .ok (.agg #[.int .i64 k2, .string N]) x9 := ho_load k2 N v9.heap.size x9 HX9.out
      have HF := Lib.hid HB9.out
      have tT := HTT.out
      go_wp2_with ((with_reducible show wpList _ _ _ (_ :: _) _ _); first | (refine st_arr 24 v9.heap.size _ hst9 _ _ rfl rfl rfl rfl ?_) | (refine ld_arr 24 v7.heap.size _ l1 _ rfl rfl rfl ?_) | (refine ld_arr 24 v9.heap.size _ l2 _ rfl rfl rfl ?_) | (refine ld_arrG 24 v7.heap.size _ l1 _ rfl rfl rfl ?_) | (refine ld_arrG 24 v9.heap.size _ l2 _ rfl rfl rfl ?_))
      go_ret
      exact ⟨rfl, HF.out⟩
end Go.Proofs.YtbeodjipdpcaiaaGreatDoor
