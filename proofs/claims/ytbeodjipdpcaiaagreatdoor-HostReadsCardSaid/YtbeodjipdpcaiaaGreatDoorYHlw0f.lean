/- Texts put together. -/
import Derived.Test.YtbeodjipdpcaiaaGreatDoorYHsw4s
import Derived.Test.YtbeodjipdpcaiaaGreatDoorYLib0s
import Derived.Test.YtbeodjipdpcaiaaGreatDoorYScan4sf
import Derived.Test.YtbeodjipdpcaiaaGreatDoorYPun0s
import Derived.Test.YtbeodjipdpcaiaaGreatDoorYFold0sf
import Derived.Test.YtbeodjipdpcaiaaGreatDoorYLab0s
import Derived.Test.YtbeodjipdpcaiaaGreatDoorYDec0s
import Derived.Test.YtbeodjipdpcaiaaGreatDoorYQuo3sf
import Derived.WalkKit
import Derived.Lib.Hide
import Derived.Deep.QuietTactic
import Derived.BigQuiet
import Derived.ProofKit
import Derived.OpenShut
import Derived.Lib.LaidTab
import Derived.Lib.Strings
import Derived.Laws.OwnMore
import Derived.Lib.SmallJoins
import Derived.Laws.BytesString
import Derived.Deep.AppendLies
import Derived.Lib.RuneBytes
import Derived.Sort.OwnSorted
import Derived.Lib.RowBridge
import Derived.Test.YtbeodjipdpcaiaaGreatDoorProg
set_option maxRecDepth 100000
set_option maxHeartbeats 8000000
namespace Go.Proofs.YtbeodjipdpcaiaaGreatDoor
open Go.RowKit
theorem sp_a : canonL [69, 88, 37, 52, 49, 109, 112, 108, 101, 46, 99, 111, 109, 46] = .ok 1 [101, 120, 97, 109, 112, 108, 101, 46, 99, 111, 109] := by kernel_rfl
theorem sp_b : canonL [48, 120, 55, 102, 46, 49] = .ok 2 [49, 50, 55, 46, 48, 46, 48, 46, 49] := by kernel_rfl
theorem sp_p : patL [42, 46, 101, 120, 97, 109, 112, 108, 101, 46, 99, 111, 109] = .ok true [101, 120, 97, 109, 112, 108, 101, 46, 99, 111, 109] := by kernel_rfl
theorem sp_c : canonL [119, 119, 119, 46, 101, 120, 97, 109, 112, 108, 101, 46, 99, 111, 109] = .ok 1 [119, 119, 119, 46, 101, 120, 97, 109, 112, 108, 101, 46, 99, 111, 109] := by kernel_rfl
theorem sp_m1 : matchL true [101, 120, 97, 109, 112, 108, 101, 46, 99, 111, 109] 1 [119, 119, 119, 46, 101, 120, 97, 109, 112, 108, 101, 46, 99, 111, 109] = true := by kernel_rfl
theorem sp_m2 : matchL true [101, 120, 97, 109, 112, 108, 101, 46, 99, 111, 109] 1 [101, 120, 97, 109, 112, 108, 101, 46, 99, 111, 109] = false := by kernel_rfl
theorem sp_call (s : ByteArray) (l : List Nat) (hl : bytesN s = l) (hs : s.size ≤ 1000000) (k : Nat) (t : List Nat) (h : canonL l = .ok k t) (T : ByteArray) (hT : bytesL t = T) (W : World) (hE : HEnv W) : Calls Tryz.prog 15 #[.string s] W fun e w' => Below W.heap.size W w' ∧ e = .returned (.tuple #[.agg #[.int .i64 k, .string T], .nilIface]) := by
 have := hcanon_any s W hs hE
 rw [hl, h] at this
 rw [← hT]
 exact this
theorem sp_pat (s : ByteArray) (l : List Nat) (hl : bytesN s = l) (hs : s.size ≤ 1000000) (k : Bool) (t : List Nat) (h : patL l = .ok k t) (T : ByteArray) (hT : bytesL t = T) (W : World) (hE : HEnv W) : Calls Tryz.prog 16 #[.string s] W fun e w' => Below W.heap.size W w' ∧ e = .returned (.tuple #[.agg #[.bool k, .string T], .nilIface]) := by
 have := hpattern_any s W hs hE
 rw [hl, h] at this
 rw [← hT]
 exact this
theorem speaks13 (w : World) (hE : HEnv w) : Calls Tryz.prog 14 #[] w fun e w' => e = .returned (.bool true) ∧ Below w.heap.size w w' := by
 have HE := hid hE
 have C1 := hid (fun W h => sp_call (⟨#[69, 88, 37, 52, 49, 109, 112, 108, 101, 46, 99, 111, 109, 46]⟩ : ByteArray) [69, 88, 37, 52, 49, 109, 112, 108, 101, 46, 99, 111, 109, 46] rfl (by decide) 1 _ sp_a (⟨#[101, 120, 97, 109, 112, 108, 101, 46, 99, 111, 109]⟩ : ByteArray) rfl W h)
 have C2 := hid (fun W h => sp_call (⟨#[48, 120, 55, 102, 46, 49]⟩ : ByteArray) [48, 120, 55, 102, 46, 49] rfl (by decide) 2 _ sp_b (⟨#[49, 50, 55, 46, 48, 46, 48, 46, 49]⟩ : ByteArray) rfl W h)
 have C3 := hid (fun W h => sp_pat (⟨#[42, 46, 101, 120, 97, 109, 112, 108, 101, 46, 99, 111, 109]⟩ : ByteArray) [42, 46, 101, 120, 97, 109, 112, 108, 101, 46, 99, 111, 109] rfl (by decide) true _ sp_p (⟨#[101, 120, 97, 109, 112, 108, 101, 46, 99, 111, 109]⟩ : ByteArray) rfl W h)
 have C4 := hid (fun W h => sp_call (⟨#[119, 119, 119, 46, 101, 120, 97, 109, 112, 108, 101, 46, 99, 111, 109]⟩ : ByteArray) [119, 119, 119, 46, 101, 120, 97, 109, 112, 108, 101, 46, 99, 111, 109] rfl (by decide) 1 _ sp_c (⟨#[119, 119, 119, 46, 101, 120, 97, 109, 112, 108, 101, 46, 99, 111, 109]⟩ : ByteArray) rfl W h)
 have M1 := fun W => hmatch_any true (⟨#[101, 120, 97, 109, 112, 108, 101, 46, 99, 111, 109]⟩ : ByteArray) 1 (⟨#[119, 119, 119, 46, 101, 120, 97, 109, 112, 108, 101, 46, 99, 111, 109]⟩ : ByteArray) W (by decide) (by decide)
 have M2 := fun W => hmatch_any true (⟨#[101, 120, 97, 109, 112, 108, 101, 46, 99, 111, 109]⟩ : ByteArray) 1 (⟨#[101, 120, 97, 109, 112, 108, 101, 46, 99, 111, 109]⟩ : ByteArray) W (by decide) (by decide)
 rw [show bytesN (⟨#[101, 120, 97, 109, 112, 108, 101, 46, 99, 111, 109]⟩ : ByteArray) = [101, 120, 97, 109, 112, 108, 101, 46, 99, 111, 109] from rfl, show bytesN (⟨#[119, 119, 119, 46, 101, 120, 97, 109, 112, 108, 101, 46, 99, 111, 109]⟩ : ByteArray) = [119, 119, 119, 46, 101, 120, 97, 109, 112, 108, 101, 46, 99, 111, 109] from rfl, sp_m1] at M1
 rw [show bytesN (⟨#[101, 120, 97, 109, 112, 108, 101, 46, 99, 111, 109]⟩ : ByteArray) = [101, 120, 97, 109, 112, 108, 101, 46, 99, 111, 109] from rfl, sp_m2] at M2
 obtain ⟨S1, hS1⟩ : ∃ x, (⟨#[69, 88, 37, 52, 49, 109, 112, 108, 101, 46, 99, 111, 109, 46]⟩ : ByteArray) = x := ⟨_, rfl⟩
 obtain ⟨S2, hS2⟩ : ∃ x, (⟨#[48, 120, 55, 102, 46, 49]⟩ : ByteArray) = x := ⟨_, rfl⟩
 obtain ⟨S3, hS3⟩ : ∃ x, (⟨#[42, 46, 101, 120, 97, 109, 112, 108, 101, 46, 99, 111, 109]⟩ : ByteArray) = x := ⟨_, rfl⟩
 obtain ⟨A, hA⟩ : ∃ x, (⟨#[101, 120, 97, 109, 112, 108, 101, 46, 99, 111, 109]⟩ : ByteArray) = x := ⟨_, rfl⟩
 obtain ⟨B, hB⟩ : ∃ x, (⟨#[49, 50, 55, 46, 48, 46, 48, 46, 49]⟩ : ByteArray) = x := ⟨_, rfl⟩
 obtain ⟨S4, hS4⟩ : ∃ x, (⟨#[119, 119, 119, 46, 101, 120, 97, 109, 112, 108, 101, 46, 99, 111, 109]⟩ : ByteArray) = x := ⟨_, rfl⟩
 rw [hS1, hA] at C1
 rw [hS2, hB] at C2
 rw [hS3, hA] at C3
 rw [hS4] at C4
 rw [hA, hS4] at M1
 rw [hA] at M2
 have M1 := hid M1; have M2 := hid M2
 have hHB0 : Below w.heap.size w w := Below.refl _ _
 have HB0 := hid hHB0
 clear hE hHB0
 go_enter Tryz.func14, Tryz.ntmps14
 go_wp2_with fail
 refine (C1.out _ (HE.out.ext HB0.out)).mono ?_
 rintro e v1 ⟨hb1, rfl⟩
 obtain ⟨a1, hA1⟩ : ∃ W, v1.alloc (.cells #[.int .i64 0, .string ⟨#[]⟩] 24) = W := ⟨_, rfl⟩
 have hba1 : Below v1.heap.size v1 a1 := by rw [← hA1]; exact ext_alloc (Below.refl _ _) _
 have hxa1 : a1.heap[v1.heap.size]? = some (.cells (hostC 0 ⟨#[]⟩) 24 (0, 0)) := by rw [← hA1]; exact heap_alloc_new v1 _
 have hst1 : (storeVar 24 ⟨v1.heap.size, 0, none⟩ (.agg #[.int .i64 1, .string A])).run Tryz.prog a1 = .ok () (a1.setRow v1.heap.size #[.int .i64 1, .string A]) := ho_store 1 0 A ⟨#[]⟩ _ a1 hxa1
 have hxb1 := setRow_heap (c := #[.int .i64 1, .string A]) hxa1
 have hbb1 : Below v1.heap.size v1 (a1.setRow v1.heap.size #[.int .i64 1, .string A]) := setRow_below hba1 (Nat.le_refl _)
 obtain ⟨w1, hW1⟩ : ∃ W, a1.setRow v1.heap.size #[.int .i64 1, .string A] = W := ⟨_, rfl⟩
 rw [hW1] at hst1 hxb1 hbb1
 have HB1 := hid (xT HB0.out (xT hb1 hbb1)); have HX1 := hid hxb1
 have HS1 := hid (xT hb1 hbb1)
 clear hb1 hba1 hxa1 hbb1 hxb1 hW1
 go_wp2_with ((with_reducible show wpList _ _ _ (_ :: _) _ _); refine st_arr 24 v1.heap.size _ hst1 _ _ rfl rfl rfl rfl ?_)
 clear hst1 hA1
 refine (C2.out _ (HE.out.ext HB1.out)).mono ?_
 rintro e v2 ⟨hb2, rfl⟩
 obtain ⟨a2, hA2⟩ : ∃ W, v2.alloc (.cells #[.int .i64 0, .string ⟨#[]⟩] 24) = W := ⟨_, rfl⟩
 have hba2 : Below v2.heap.size v2 a2 := by rw [← hA2]; exact ext_alloc (Below.refl _ _) _
 have hxa2 : a2.heap[v2.heap.size]? = some (.cells (hostC 0 ⟨#[]⟩) 24 (0, 0)) := by rw [← hA2]; exact heap_alloc_new v2 _
 have hst2 : (storeVar 24 ⟨v2.heap.size, 0, none⟩ (.agg #[.int .i64 2, .string B])).run Tryz.prog a2 = .ok () (a2.setRow v2.heap.size #[.int .i64 2, .string B]) := ho_store 2 0 B ⟨#[]⟩ _ a2 hxa2
 have hxb2 := setRow_heap (c := #[.int .i64 2, .string B]) hxa2
 have hbb2 : Below v2.heap.size v2 (a2.setRow v2.heap.size #[.int .i64 2, .string B]) := setRow_below hba2 (Nat.le_refl _)
 obtain ⟨w2, hW2⟩ : ∃ W, a2.setRow v2.heap.size #[.int .i64 2, .string B] = W := ⟨_, rfl⟩
 rw [hW2] at hst2 hxb2 hbb2
 have HB2 := hid (xT HB1.out (xT hb2 hbb2)); have HX2 := hid hxb2
 have HS2 := hid (xT hb2 hbb2)
 clear hb2 hba2 hxa2 hbb2 hxb2 hW2
 go_wp2_with ((with_reducible show wpList _ _ _ (_ :: _) _ _); refine st_arr 24 v2.heap.size _ hst2 _ _ rfl rfl rfl rfl ?_)
 clear hst2 hA2
 refine (C3.out _ (HE.out.ext HB2.out)).mono ?_
 rintro e v3 ⟨hb3, rfl⟩
 obtain ⟨a3, hA3⟩ : ∃ W, v3.alloc (.cells #[.bool false, .string ⟨#[]⟩] 33) = W := ⟨_, rfl⟩
 have hba3 : Below v3.heap.size v3 a3 := by rw [← hA3]; exact ext_alloc (Below.refl _ _) _
 have hxa3 : a3.heap[v3.heap.size]? = some (.cells (patC false ⟨#[]⟩) 33 (0, 0)) := by rw [← hA3]; exact heap_alloc_new v3 _
 have hst3 : (storeVar 33 ⟨v3.heap.size, 0, none⟩ (.agg #[.bool true, .string A])).run Tryz.prog a3 = .ok () (a3.setRow v3.heap.size #[.bool true, .string A]) := pa_store true false A ⟨#[]⟩ _ a3 hxa3
 have hxb3 := setRow_heap (c := #[.bool true, .string A]) hxa3
 have hbb3 : Below v3.heap.size v3 (a3.setRow v3.heap.size #[.bool true, .string A]) := setRow_below hba3 (Nat.le_refl _)
 obtain ⟨w3, hW3⟩ : ∃ W, a3.setRow v3.heap.size #[.bool true, .string A] = W := ⟨_, rfl⟩
 rw [hW3] at hst3 hxb3 hbb3
 have HB3 := hid (xT HB2.out (xT hb3 hbb3)); have HX3 := hid hxb3
 have HS3 := hid (xT hb3 hbb3)
 clear hb3 hba3 hxa3 hbb3 hxb3 hW3
 go_wp2_with ((with_reducible show wpList _ _ _ (_ :: _) _ _); refine st_arr 33 v3.heap.size _ hst3 _ _ rfl rfl rfl rfl ?_)
 clear hst3 hA3
 refine (C4.out _ (HE.out.ext HB3.out)).mono ?_
 rintro e v4 ⟨hb4, rfl⟩
 obtain ⟨a4, hA4⟩ : ∃ W, v4.alloc (.cells #[.int .i64 0, .string ⟨#[]⟩] 24) = W := ⟨_, rfl⟩
 have hba4 : Below v4.heap.size v4 a4 := by rw [← hA4]; exact ext_alloc (Below.refl _ _) _
 have hxa4 : a4.heap[v4.heap.size]? = some (.cells (hostC 0 ⟨#[]⟩) 24 (0, 0)) := by rw [← hA4]; exact heap_alloc_new v4 _
 have hst4 : (storeVar 24 ⟨v4.heap.size, 0, none⟩ (.agg #[.int .i64 1, .string S4])).run Tryz.prog a4 = .ok () (a4.setRow v4.heap.size #[.int .i64 1, .string S4]) := ho_store 1 0 S4 ⟨#[]⟩ _ a4 hxa4
 have hxb4 := setRow_heap (c := #[.int .i64 1, .string S4]) hxa4
 have hbb4 : Below v4.heap.size v4 (a4.setRow v4.heap.size #[.int .i64 1, .string S4]) := setRow_below hba4 (Nat.le_refl _)
 obtain ⟨w4, hW4⟩ : ∃ W, a4.setRow v4.heap.size #[.int .i64 1, .string S4] = W := ⟨_, rfl⟩
 rw [hW4] at hst4 hxb4 hbb4
 have HB4 := hid (xT HB3.out (xT hb4 hbb4)); have HX4 := hid hxb4
 have HS4 := hid (xT hb4 hbb4)
 clear hb4 hba4 hxa4 hbb4 hxb4 hW4
 have g34 := HS4.out
 have g23 := xT HS3.out HS4.out
 have g12 := xT HS2.out g23
 have e1 : w4.heap[v1.heap.size]? = some (.cells #[.int .i64 1, .string A] 24 (0, 0)) := (g12.block _ (heap_lt HX1.out)).trans HX1.out
 have e2 : w4.heap[v2.heap.size]? = some (.cells #[.int .i64 2, .string B] 24 (0, 0)) := (g23.block _ (heap_lt HX2.out)).trans HX2.out
 have e3 : w4.heap[v3.heap.size]? = some (.cells #[.bool true, .string A] 33 (0, 0)) := (g34.block _ (heap_lt HX3.out)).trans HX3.out
 have l1 : (loadVar 24 ⟨v1.heap.size, 0, none⟩).run Tryz.prog w4 = .ok (.agg #[.int .i64 1, .string A]) w4 := ho_load 1 A _ w4 e1
 have l2 : (loadVar 24 ⟨v2.heap.size, 0, none⟩).run Tryz.prog w4 = .ok (.agg #[.int .i64 2, .string B]) w4 := ho_load 2 B _ w4 e2
 have l3 : (loadVar 33 ⟨v3.heap.size, 0, none⟩).run Tryz.prog w4 = .ok (.agg #[.bool true, .string A]) w4 := pa_load true A _ w4 e3
 have l4 : (loadVar 24 ⟨v4.heap.size, 0, none⟩).run Tryz.prog w4 = .ok (.agg #[.int .i64 1, .string S4]) w4 := ho_load 1 S4 _ w4 HX4.out
 have HL : Hid (∀ W, Below w4.heap.size w4 W → (loadVar 33 ⟨v3.heap.size, 0, none⟩).run Tryz.prog W = .ok (.agg #[.bool true, .string A]) W ∧ (loadVar 24 ⟨v1.heap.size, 0, none⟩).run Tryz.prog W = .ok (.agg #[.int .i64 1, .string A]) W) := hid (fun W hW => ⟨pa_load true A _ W ((hW.block _ (heap_lt e3)).trans e3), ho_load 1 A _ W ((hW.block _ (heap_lt e1)).trans e1)⟩)
 clear g34 g23 g12 e1 e2 e3
 go_wp2_with ((with_reducible show wpList _ _ _ (_ :: _) _ _); first | (refine st_arr 24 v4.heap.size _ hst4 _ _ rfl rfl rfl rfl ?_) | (refine ld_arrG 24 v1.heap.size _ l1 _ rfl rfl rfl ?_) | (refine ld_arrG 24 v2.heap.size _ l2 _ rfl rfl rfl ?_) | (refine ld_arrG 33 v3.heap.size _ l3 _ rfl rfl rfl ?_) | (refine ld_arrG 24 v4.heap.size _ l4 _ rfl rfl rfl ?_))
 clear hst4 hA4 l1 l2 l3 l4
 refine (M1.out _).mono ?_
 rintro e w5 ⟨rfl, hb5⟩
 obtain ⟨l3, l1⟩ := HL.out w5 hb5
 have HB5 := hid (xT HB4.out hb5)
 clear hb5
 go_wp2_with ((with_reducible show wpList _ _ _ (_ :: _) _ _); first | (refine ld_arrG 33 v3.heap.size _ l3 _ rfl rfl rfl ?_) | (refine ld_arrG 24 v1.heap.size _ l1 _ rfl rfl rfl ?_))
 clear l1 l3
 refine (M2.out _).mono ?_
 rintro e w6 ⟨rfl, hb6⟩
 have HB6 := hid (xT HB5.out hb6)
 clear hb6
 go_wp2
 go_ret
 exact ⟨rfl, HB6.out⟩
end Go.Proofs.YtbeodjipdpcaiaaGreatDoor
namespace Go.Proofs.YtbeodjipdpcaiaaGreatDoor
open Go.RowKit
theorem pat_okc (s : ByteArray) (w : World) (hs : s.size ≤ 1000000) (hE : HEnv w) {k : Bool} {t : List Nat} (hr : patL (bytesN s) = .ok k t) : Calls Tryz.prog 16 #[.string s] w fun e w' => Below w.heap.size w w' ∧ e = .returned (.tuple #[.agg #[.bool k, .string (bytesL t)], .nilIface]) :=
 (hpattern_any s w hs hE).mono fun e w' h => by rw [hr] at h; exact h
theorem canon_okc (s : ByteArray) (w : World) (hs : s.size ≤ 1000000) (hE : HEnv w) {k : Nat} {t : List Nat} (hr : canonL (bytesN s) = .ok k t) : Calls Tryz.prog 15 #[.string s] w fun e w' => Below w.heap.size w w' ∧ e = .returned (.tuple #[.agg #[.int .i64 k, .string (bytesL t)], .nilIface]) :=
 (hcanon_any s w hs hE).mono fun e w' h => by rw [hr] at h; exact h
theorem pat_len {b : List Nat} {k : Bool} {t : List Nat} (h : patL b = .ok k t) : t.length ≤ 1002 ∧ ByteL t := by
 have hh := pat_ok h
 have key : ∀ (k : Nat) (t : List Nat), HostOk k t → (textH k t).length ≤ 1002 ∧ ByteL (textH k t) := fun k t hk => by
  have hb := canon_back hk
  have hl := canon_len hb
  refine ⟨?_, ?_⟩
  · unfold textH
    split
    · simp only [List.length_append, List.length_cons, List.length_nil]; omega
    · omega
  · intro c hc
    unfold textH at hc
    split at hc
    · simp only [List.cons_append, List.mem_cons, List.mem_append, List.not_mem_nil, or_false] at hc
      rcases hc with rfl | hc | rfl
      · decide
      · exact hl.2 c hc
      · decide
    · exact hl.2 c hc
 cases hh with
 | star => exact ⟨by simp, fun c hc => by cases hc⟩
 | wild n hk => exact key 1 _ hk
 | one k t hk => exact key k t hk
end Go.Proofs.YtbeodjipdpcaiaaGreatDoor
namespace Go.Proofs.YtbeodjipdpcaiaaGreatDoor
section
section
open Go.RowKit

section
variable {S : Nat → Prop} {w : World} {v : Value}
end

end
section
open Go.RowKit Go.ChangeShapes Go.WideShapes
variable {H : Type} {enc : TypeId × Value → H} {P : Program} {W : World} {base : Nat} {sp : Nat → Bool} {held : Bool}

def OpensF (enc : TypeId × Value → H) (P : Program) (W : World) (base : Nat) (sp : Nat → Bool) (held : Bool) (fs : List Field) (off tot : Nat) (α : Type) (cd : α → List Dat) (ok : α → Prop) (bk : α → Nat) : Prop :=
 ∀ (n : Nat) (cs : List Value) (xs : List (DataW H × List MemPlace)), xs.length = fs.length → off + tot ≤ cs.length → (∀ (i : Nat) f, fs[i]? = some f → DataW.trod enc P W base sp held n f.type ((cs.drop f.offset).take (P.cellsOf f.type)) = xs[i]?) →
  ∃ a : α, Rds (Own W) W ((cs.drop off).take tot) (cd a) ∧ ok a ∧ bk a ≤ Rows.uptoBulkAll (xs.map (·.1))
theorem opensF_nil {off : Nat} : OpensF enc P W base sp held [] off 0 Unit (fun _ => []) (fun _ => True) (fun _ => 0) := by
 intro n cs xs hx _ _
 obtain rfl := List.eq_nil_of_length_eq_zero hx
 exact ⟨(), by simpa using Rds.nil, trivial, Nat.zero_le _⟩
theorem opensF_cons {f : Field} {fs : List Field} {off k tot : Nat} {α β : Type} {cd : α → List Dat} {ok : α → Prop} {bk : α → Nat} {cd' : β → List Dat} {ok' : β → Prop} {bk' : β → Nat}
    (ho : f.offset = off) (hk : P.cellsOf f.type = k) (h : Opens enc P W base sp held f.type α cd ok bk) (hs : OpensF enc P W base sp held fs (off + k) tot β cd' ok' bk') :
    OpensF enc P W base sp held (f :: fs) off (k + tot) (α × β) (fun a => cd a.1 ++ cd' a.2) (fun a => ok a.1 ∧ ok' a.2) (fun a => bk a.1 + bk' a.2) := by
 intro n cs xs hx hc hf
 cases xs with
 | nil => simp at hx
 | cons x xs =>
   have h0 := hf 0 f rfl
   simp only [List.getElem?_cons_zero, ho, hk] at h0
   obtain ⟨a, r1, o1, b1⟩ := h _ _ _ h0
   obtain ⟨b, r2, o2, b2⟩ := hs n cs xs (by simpa using hx) (by omega) (fun i g hg => by simpa using hf (i + 1) g (by simpa using hg))
   refine ⟨(a, b), ?_, ⟨o1, o2⟩, by simp only [List.map_cons, Rows.uptoBulkAll]; omega⟩
   have e : (cs.drop off).take (k + tot) = (cs.drop off).take k ++ (cs.drop (off + k)).take tot := by
    rw [List.take_add, List.drop_drop]
   rw [e]
   exact r1.append r2
theorem opens_struct {t : TypeId} {fs : Array Field} {tot : Nat} {α : Type} {cd : α → List Dat} {ok : α → Prop} {bk : α → Nat} (ht : P.underlying t = some (.struct fs)) (hc : P.cellsOf t = tot)
    (h : OpensF enc P W base sp held fs.toList 0 tot α cd ok bk) : Opens enc P W base sp held t α cd ok (fun a => bk a + 1) := by
 intro fuel cs x hx
 obtain ⟨xs, n, _, rfl, hl, hxl, hf⟩ := DataW.trod_struct ht hx
 obtain ⟨a, r, o, b⟩ := h n cs xs (by simpa using hxl) (by omega) (fun i f hg => hf i f (by simpa using hg))
 refine ⟨a, ?_, o, by simp only [Rows.uptoBulk]; omega⟩
 have e : (cs.drop 0).take tot = cs := by rw [List.drop_zero]; exact List.take_of_length_le (by omega)
 rwa [e] at r
end
section
open Go.RowKit
end
end
section
section
open Go.RowKit
end
section
open Go.RowKit
theorem bytesL_append (a b : List Nat) : bytesL (a ++ b) = bytesL a ++ bytesL b := by
 apply toList_inj
 unfold bytesL
 rw [ByteArray.toList_eq, ByteArray.toList_eq, ByteArray.data_append]
 simp
end
section
open Go.RowKit
end
end
section
section
open Go.RowKit
end
section
open Go.RowKit
end
section
open Go.RowKit
end
section
open Go.RowKit
end
end
section
section
open Go.RowKit
end
section
open Go.RowKit
end
section
open Go.RowKit
section
variable {n : List Nat} {ts : List (List Nat)}
end
end
section
open Go.RowKit
end
section
open Go.RowKit
end
section
open Go.RowKit
end
section
open Go.RowKit
end
end
section
section
open Go.RowKit
end
section
open Go.RowKit
end
section
open Go.RowKit
end
section
open Go.RowKit
end
section
open Go.RowKit
end
section
open Go.RowKit
end
end
section
section
open Go.RowKit
section
variable {α β : Type} {enc : α → List β} {k : Nat}
end
section
variable {α : Type} {enc : α → List Value} {k : Nat} {w : World} {base g n cap : Nat} {e : TypeId} {xs : List α}
end
end
section
open Go.RowKit
end
section
open Go.RowKit
end
section
open Go.RowKit
end
end
section
section
open Go.RowKit
end
section
open Go.RowKit Go.Sort
section
variable {d : Array Int}
end
end
end
section
section
open Go.RowKit
end
section
open Go.RowKit
end
end
section
section
open Go.RowKit
end
section
open Go.RowKit
end
end
section
open Go.RowKit
end
end Go.Proofs.YtbeodjipdpcaiaaGreatDoor
namespace Go.Proofs.YtbeodjipdpcaiaaGreatDoor
open Go.RowKit
theorem slice_one (k : IntKind) (S : ByteArray) (d : Nat) (h : d + 1 ≤ S.size) (x : ByteArray) (hx : S.extract d (d + 1) = x) (W : World) : (Instr.slice 9 (.string S) (some (.int k (d : Int))) (some (.int k ((d : Int) + 1))) none).run Tryz.prog W = .ok (.string x) W := by
 have e1 : ((d : Int) + 1).toNat = d + 1 := by omega
 have e2 : (0 : Int) ≤ (d : Int) + 1 := by omega
 have e3 : (d : Int) + 1 ≤ (S.size : Int) := by omega
 have e4 : (d : Int) ≤ (d : Int) + 1 := by omega
 simp [Instr.slice, run_underlying Tryz.underlying9, Instr.sliceBounds, run_sliceBound, e1, e2, e3, e4, hx]
end Go.Proofs.YtbeodjipdpcaiaaGreatDoor
