
/- waybilllaw13.speaks: the walk. -/
import Derived.Test.YtbeodjipdpcaiaaGreatDoorZHsw4s
-- @auto
namespace Go.Proofs.YtbeodjipdpcaiaaGreatDoor
open Go.RowKit
theorem sp_a : canonL [69, 88, 37, 52, 49, 109, 112, 108, 101, 46, 99, 111, 109, 46] = .ok 1 [101, 120, 97, 109, 112, 108, 101, 46, 99, 111, 109] := by kernel_rfl
theorem sp_b : canonL [48, 120, 55, 102, 46, 49] = .ok 2 [49, 50, 55, 46, 48, 46, 48, 46, 49] := by kernel_rfl
theorem sp_p : patL [42, 46, 101, 120, 97, 109, 112, 108, 101, 46, 99, 111, 109] = .ok true [101, 120, 97, 109, 112, 108, 101, 46, 99, 111, 109] := by kernel_rfl
theorem sp_c : canonL [119, 119, 119, 46, 101, 120, 97, 109, 112, 108, 101, 46, 99, 111, 109] = .ok 1 [119, 119, 119, 46, 101, 120, 97, 109, 112, 108, 101, 46, 99, 111, 109] := by kernel_rfl
theorem sp_m1 : matchL true [101, 120, 97, 109, 112, 108, 101, 46, 99, 111, 109] 1 [119, 119, 119, 46, 101, 120, 97, 109, 112, 108, 101, 46, 99, 111, 109] = true := by kernel_rfl
theorem sp_m2 : matchL true [101, 120, 97, 109, 112, 108, 101, 46, 99, 111, 109] 1 [101, 120, 97, 109, 112, 108, 101, 46, 99, 111, 109] = false := by kernel_rfl
theorem sp_call (s : ByteArray) (l : List Nat) (hl : bytesN s = l) (hs : s.size ≤ 1000000) (k : Nat) (t : List Nat) (h : canonL l = .ok k t) (T : ByteArray) (hT : bytesL t = T) (W : World) (hE : HEnv W) : Calls Tryz.prog 15 #[.string s] W fun e w' => Below W.heap.size W w' ∧ e = .returned (.tuple #[.agg #[.int .i64 k, .string T], .nilIface]) := by
  have := hcanon_any s W hs hE
  rw [hl, h] at this
  rw [← hT]
  exact this
theorem sp_pat (s : ByteArray) (l : List Nat) (hl : bytesN s = l) (hs : s.size ≤ 1000000) (k : Bool) (t : List Nat) (h : patL l = .ok k t) (T : ByteArray) (hT : bytesL t = T) (W : World) (hE : HEnv W) : Calls Tryz.prog 16 #[.string s] W fun e w' => Below W.heap.size W w' ∧ e = .returned (.tuple #[.agg #[.bool k, .string T], .nilIface]) := by
  have := hpattern_any s W hs hE
  rw [hl, h] at this
  rw [← hT]
  exact this
set_option maxRecDepth 100000 in
set_option maxHeartbeats 8000000 in
/-- waybilllaw13.speaks -/
theorem speaks13 (w : World) (hE : HEnv w) : Calls Tryz.prog 14 #[] w fun e w' => e = .returned (.bool true) ∧ Below w.heap.size w w' := by
  have HE := Lib.hid hE
  have C1 := Lib.hid (fun W h => sp_call (⟨#[69, 88, 37, 52, 49, 109, 112, 108, 101, 46, 99, 111, 109, 46]⟩ : ByteArray) [69, 88, 37, 52, 49, 109, 112, 108, 101, 46, 99, 111, 109, 46] rfl (by decide) 1 _ sp_a (⟨#[101, 120, 97, 109, 112, 108, 101, 46, 99, 111, 109]⟩ : ByteArray) rfl W h)
  have C2 := Lib.hid (fun W h => sp_call (⟨#[48, 120, 55, 102, 46, 49]⟩ : ByteArray) [48, 120, 55, 102, 46, 49] rfl (by decide) 2 _ sp_b (⟨#[49, 50, 55, 46, 48, 46, 48, 46, 49]⟩ : ByteArray) rfl W h)
  have C3 := Lib.hid (fun W h => sp_pat (⟨#[42, 46, 101, 120, 97, 109, 112, 108, 101, 46, 99, 111, 109]⟩ : ByteArray) [42, 46, 101, 120, 97, 109, 112, 108, 101, 46, 99, 111, 109] rfl (by decide) true _ sp_p (⟨#[101, 120, 97, 109, 112, 108, 101, 46, 99, 111, 109]⟩ : ByteArray) rfl W h)
  have C4 := Lib.hid (fun W h => sp_call (⟨#[119, 119, 119, 46, 101, 120, 97, 109, 112, 108, 101, 46, 99, 111, 109]⟩ : ByteArray) [119, 119, 119, 46, 101, 120, 97, 109, 112, 108, 101, 46, 99, 111, 109] rfl (by decide) 1 _ sp_c (⟨#[119, 119, 119, 46, 101, 120, 97, 109, 112, 108, 101, 46, 99, 111, 109]⟩ : ByteArray) rfl W h)
  have M1 := fun W => hmatch_any true (⟨#[101, 120, 97, 109, 112, 108, 101, 46, 99, 111, 109]⟩ : ByteArray) 1 (⟨#[119, 119, 119, 46, 101, 120, 97, 109, 112, 108, 101, 46, 99, 111, 109]⟩ : ByteArray) W (by decide) (by decide)
  have M2 := fun W => hmatch_any true (⟨#[101, 120, 97, 109, 112, 108, 101, 46, 99, 111, 109]⟩ : ByteArray) 1 (⟨#[101, 120, 97, 109, 112, 108, 101, 46, 99, 111, 109]⟩ : ByteArray) W (by decide) (by decide)
  rw [show bytesN (⟨#[101, 120, 97, 109, 112, 108, 101, 46, 99, 111, 109]⟩ : ByteArray) = [101, 120, 97, 109, 112, 108, 101, 46, 99, 111, 109] from rfl, show bytesN (⟨#[119, 119, 119, 46, 101, 120, 97, 109, 112, 108, 101, 46, 99, 111, 109]⟩ : ByteArray) = [119, 119, 119, 46, 101, 120, 97, 109, 112, 108, 101, 46, 99, 111, 109] from rfl, sp_m1] at M1
  rw [show bytesN (⟨#[101, 120, 97, 109, 112, 108, 101, 46, 99, 111, 109]⟩ : ByteArray) = [101, 120, 97, 109, 112, 108, 101, 46, 99, 111, 109] from rfl, sp_m2] at M2
  obtain ⟨S1, hS1⟩ : ∃ x, (⟨#[69, 88, 37, 52, 49, 109, 112, 108, 101, 46, 99, 111, 109, 46]⟩ : ByteArray) = x := ⟨_, rfl⟩
  obtain ⟨S2, hS2⟩ : ∃ x, (⟨#[48, 120, 55, 102, 46, 49]⟩ : ByteArray) = x := ⟨_, rfl⟩
  obtain ⟨S3, hS3⟩ : ∃ x, (⟨#[42, 46, 101, 120, 97, 109, 112, 108, 101, 46, 99, 111, 109]⟩ : ByteArray) = x := ⟨_, rfl⟩
  obtain ⟨A, hA⟩ : ∃ x, (⟨#[101, 120, 97, 109, 112, 108, 101, 46, 99, 111, 109]⟩ : ByteArray) = x := ⟨_, rfl⟩
  obtain ⟨B, hB⟩ : ∃ x, (⟨#[49, 50, 55, 46, 48, 46, 48, 46, 49]⟩ : ByteArray) = x := ⟨_, rfl⟩
  obtain ⟨S4, hS4⟩ : ∃ x, (⟨#[119, 119, 119, 46, 101, 120, 97, 109, 112, 108, 101, 46, 99, 111, 109]⟩ : ByteArray) = x := ⟨_, rfl⟩
  rw [hS1, hA] at C1
  rw [hS2, hB] at C2
  rw [hS3, hA] at C3
  rw [hS4] at C4
  rw [hA, hS4] at M1
  rw [hA] at M2
  have M1 := Lib.hid M1; have M2 := Lib.hid M2
  have hHB0 : Below w.heap.size w w := Below.refl _ _
  have HB0 := Lib.hid hHB0
  clear hE hHB0
  go_enter Tryz.func14, Tryz.ntmps14
  go_wp2_with fail
  refine (C1.out _ (HE.out.ext HB0.out)).mono ?_
  rintro e v1 ⟨hb1, rfl⟩
  obtain ⟨a1, hA1⟩ : ∃ W, v1.alloc (.cells #[.int .i64 0, .string ⟨#[]⟩] 24) = W := ⟨_, rfl⟩
  have hba1 : Below v1.heap.size v1 a1 := by rw [← hA1]; exact ext_alloc (Below.refl _ _) _
  have hxa1 : a1.heap[v1.heap.size]? = some (.cells (hostC 0 ⟨#[]⟩) 24 (0, 0)) := by rw [← hA1]; exact heap_alloc_new v1 _
  have hst1 : (storeVar 24 ⟨v1.heap.size, 0, none⟩ (.agg #[.int .i64 1, .string A])).run Tryz.prog a1 = .ok () (a1.setRow v1.heap.size #[.int .i64 1, .string A]) := ho_store 1 0 A ⟨#[]⟩ _ a1 hxa1
  have hxb1 := setRow_heap (c := #[.int .i64 1, .string A]) hxa1
  have hbb1 : Below v1.heap.size v1 (a1.setRow v1.heap.size #[.int .i64 1, .string A]) := setRow_below hba1 (Nat.le_refl _)
  obtain ⟨w1, hW1⟩ : ∃ W, a1.setRow v1.heap.size #[.int .i64 1, .string A] = W := ⟨_, rfl⟩
  rw [hW1] at hst1 hxb1 hbb1
  have HB1 := Lib.hid (ext_trans HB0.out (ext_trans hb1 hbb1)); have HX1 := Lib.hid hxb1
  have HS1 := Lib.hid (ext_trans hb1 hbb1)
  clear hb1 hba1 hxa1 hbb1 hxb1 hW1
  go_wp2_with ((with_reducible show wpList _ _ _ (_ :: _) _ _); refine st_arr 24 v1.heap.size _ hst1 _ _ rfl rfl rfl rfl ?_)
  clear hst1 hA1
  refine (C2.out _ (HE.out.ext HB1.out)).mono ?_
  rintro e v2 ⟨hb2, rfl⟩
  obtain ⟨a2, hA2⟩ : ∃ W, v2.alloc (.cells #[.int .i64 0, .string ⟨#[]⟩] 24) = W := ⟨_, rfl⟩
  have hba2 : Below v2.heap.size v2 a2 := by rw [← hA2]; exact ext_alloc (Below.refl _ _) _
  have hxa2 : a2.heap[v2.heap.size]? = some (.cells (hostC 0 ⟨#[]⟩) 24 (0, 0)) := by rw [← hA2]; exact heap_alloc_new v2 _
  have hst2 : (storeVar 24 ⟨v2.heap.size, 0, none⟩ (.agg #[.int .i64 2, .string B])).run Tryz.prog a2 = .ok () (a2.setRow v2.heap.size #[.int .i64 2, .string B]) := ho_store 2 0 B ⟨#[]⟩ _ a2 hxa2
  have hxb2 := setRow_heap (c := #[.int .i64 2, .string B]) hxa2
  have hbb2 : Below v2.heap.size v2 (a2.setRow v2.heap.size #[.int .i64 2, .string B]) := setRow_below hba2 (Nat.le_refl _)
  obtain ⟨w2, hW2⟩ : ∃ W, a2.setRow v2.heap.size #[.int .i64 2, .string B] = W := ⟨_, rfl⟩
  rw [hW2] at hst2 hxb2 hbb2
  have HB2 := Lib.hid (ext_trans HB1.out (ext_trans hb2 hbb2)); have HX2 := Lib.hid hxb2
  have HS2 := Lib.hid (ext_trans hb2 hbb2)
  clear hb2 hba2 hxa2 hbb2 hxb2 hW2
  go_wp2_with ((with_reducible show wpList _ _ _ (_ :: _) _ _); refine st_arr 24 v2.heap.size _ hst2 _ _ rfl rfl rfl rfl ?_)
  clear hst2 hA2
  refine (C3.out _ (HE.out.ext HB2.out)).mono ?_
  rintro e v3 ⟨hb3, rfl⟩
  obtain ⟨a3, hA3⟩ : ∃ W, v3.alloc (.cells #[.bool false, .string ⟨#[]⟩] 33) = W := ⟨_, rfl⟩
  have hba3 : Below v3.heap.size v3 a3 := by rw [← hA3]; exact ext_alloc (Below.refl _ _) _
  have hxa3 : a3.heap[v3.heap.size]? = some (.cells (patC false ⟨#[]⟩) 33 (0, 0)) := by rw [← hA3]; exact heap_alloc_new v3 _
  have hst3 : (storeVar 33 ⟨v3.heap.size, 0, none⟩ (.agg #[.bool true, .string A])).run Tryz.prog a3 = .ok () (a3.setRow v3.heap.size #[.bool true, .string A]) := pa_store true false A ⟨#[]⟩ _ a3 hxa3
  have hxb3 := setRow_heap (c := #[.bool true, .string A]) hxa3
  have hbb3 : Below v3.heap.size v3 (a3.setRow v3.heap.size #[.bool true, .string A]) := setRow_below hba3 (Nat.le_refl _)
  obtain ⟨w3, hW3⟩ : ∃ W, a3.setRow v3.heap.size #[.bool true, .string A] = W := ⟨_, rfl⟩
  rw [hW3] at hst3 hxb3 hbb3
  have HB3 := Lib.hid (ext_trans HB2.out (ext_trans hb3 hbb3)); have HX3 := Lib.hid hxb3
  have HS3 := Lib.hid (ext_trans hb3 hbb3)
  clear hb3 hba3 hxa3 hbb3 hxb3 hW3
  go_wp2_with ((with_reducible show wpList _ _ _ (_ :: _) _ _); refine st_arr 33 v3.heap.size _ hst3 _ _ rfl rfl rfl rfl ?_)
  clear hst3 hA3
  refine (C4.out _ (HE.out.ext HB3.out)).mono ?_
  rintro e v4 ⟨hb4, rfl⟩
  obtain ⟨a4, hA4⟩ : ∃ W, v4.alloc (.cells #[.int .i64 0, .string ⟨#[]⟩] 24) = W := ⟨_, rfl⟩
  have hba4 : Below v4.heap.size v4 a4 := by rw [← hA4]; exact ext_alloc (Below.refl _ _) _
  have hxa4 : a4.heap[v4.heap.size]? = some (.cells (hostC 0 ⟨#[]⟩) 24 (0, 0)) := by rw [← hA4]; exact heap_alloc_new v4 _
  have hst4 : (storeVar 24 ⟨v4.heap.size, 0, none⟩ (.agg #[.int .i64 1, .string S4])).run Tryz.prog a4 = .ok () (a4.setRow v4.heap.size #[.int .i64 1, .string S4]) := ho_store 1 0 S4 ⟨#[]⟩ _ a4 hxa4
  have hxb4 := setRow_heap (c := #[.int .i64 1, .string S4]) hxa4
  have hbb4 : Below v4.heap.size v4 (a4.setRow v4.heap.size #[.int .i64 1, .string S4]) := setRow_below hba4 (Nat.le_refl _)
  obtain ⟨w4, hW4⟩ : ∃ W, a4.setRow v4.heap.size #[.int .i64 1, .string S4] = W := ⟨_, rfl⟩
  rw [hW4] at hst4 hxb4 hbb4
  have HB4 := Lib.hid (ext_trans HB3.out (ext_trans hb4 hbb4)); have HX4 := Lib.hid hxb4
  have HS4 := Lib.hid (ext_trans hb4 hbb4)
  clear hb4 hba4 hxa4 hbb4 hxb4 hW4
  have g34 := HS4.out
  have g23 := ext_trans HS3.out HS4.out
  have g12 := ext_trans HS2.out g23
  have e1 : w4.heap[v1.heap.size]? = some (.cells #[.int .i64 1, .string A] 24 (0, 0)) := (g12.block _ (heap_lt HX1.out)).trans HX1.out
  have e2 : w4.heap[v2.heap.size]? = some (.cells #[.int .i64 2, .string B] 24 (0, 0)) := (g23.block _ (heap_lt HX2.out)).trans HX2.out
  have e3 : w4.heap[v3.heap.size]? = some (.cells #[.bool true, .string A] 33 (0, 0)) := (g34.block _ (heap_lt HX3.out)).trans HX3.out
  have l1 : (loadVar 24 ⟨v1.heap.size, 0, none⟩).run Tryz.prog w4 = .ok (.agg #[.int .i64 1, .string A]) w4 := ho_load 1 A _ w4 e1
  have l2 : (loadVar 24 ⟨v2.heap.size, 0, none⟩).run Tryz.prog w4 = .ok (.agg #[.int .i64 2, .string B]) w4 := ho_load 2 B _ w4 e2
  have l3 : (loadVar 33 ⟨v3.heap.size, 0, none⟩).run Tryz.prog w4 = .ok (.agg #[.bool true, .string A]) w4 := pa_load true A _ w4 e3
  have l4 : (loadVar 24 ⟨v4.heap.size, 0, none⟩).run Tryz.prog w4 = .ok (.agg #[.int .i64 1, .string S4]) w4 := ho_load 1 S4 _ w4 HX4.out
  have HL : Hid (∀ W, Below w4.heap.size w4 W → (loadVar 33 ⟨v3.heap.size, 0, none⟩).run Tryz.prog W = .ok (.agg #[.bool true, .string A]) W ∧ (loadVar 24 ⟨v1.heap.size, 0, none⟩).run Tryz.prog W = .ok (.agg #[.int .i64 1, .string A]) W) := Lib.hid (fun W hW => ⟨pa_load true A _ W ((hW.block _ (heap_lt e3)).trans e3), ho_load 1 A _ W ((hW.block _ (heap_lt e1)).trans e1)⟩)
  clear g34 g23 g12 e1 e2 e3
  go_wp2_with ((with_reducible show wpList _ _ _ (_ :: _) _ _); first | (refine st_arr 24 v4.heap.size _ hst4 _ _ rfl rfl rfl rfl ?_) | (refine ld_arrG 24 v1.heap.size _ l1 _ rfl rfl rfl ?_) | (refine ld_arrG 24 v2.heap.size _ l2 _ rfl rfl rfl ?_) | (refine ld_arrG 33 v3.heap.size _ l3 _ rfl rfl rfl ?_) | (refine ld_arrG 24 v4.heap.size _ l4 _ rfl rfl rfl ?_))
  clear hst4 hA4 l1 l2 l3 l4
  refine (M1.out _).mono ?_
  rintro e w5 ⟨rfl, hb5⟩
  obtain ⟨l3, l1⟩ := HL.out w5 hb5
  have HB5 := Lib.hid (ext_trans HB4.out hb5)
  clear hb5
  go_wp2_with ((with_reducible show wpList _ _ _ (_ :: _) _ _); first | (refine ld_arrG 33 v3.heap.size _ l3 _ rfl rfl rfl ?_) | (refine ld_arrG 24 v1.heap.size _ l1 _ rfl rfl rfl ?_))
  clear l1 l3
  refine (M2.out _).mono ?_
  rintro e w6 ⟨rfl, hb6⟩
  have HB6 := Lib.hid (ext_trans HB5.out hb6)
  clear hb6
  go_wp2
  go_ret
  exact ⟨rfl, HB6.out⟩
end Go.Proofs.YtbeodjipdpcaiaaGreatDoor
