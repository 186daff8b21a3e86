
/- waybilllaw13.HostNarrows: the walk. -/
import Derived.Test.YtbeodjipdpcaiaaGreatDoorZHlw0
-- @auto
namespace Go.Proofs.YtbeodjipdpcaiaaGreatDoor
open Go.RowKit
def ErrV (u : Value) : Prop := u = .nilIface ∨ ∃ b off, u = .iface 119 (.pointer (some ⟨b, off, none⟩))
theorem patE_ne {b : List Nat} {l : List (Int × Int)} (h : patL b = .er l) : l ≠ [] := by
  intro e
  subst e
  unfold patL patH at h
  repeat' split at h
  all_goals (first | (cases h; done) | skip)
theorem pat_gen (s : ByteArray) (w : World) (hs : s.size ≤ 1000000) (hE : HEnv w) : Calls Tryz.prog 16 #[.string s] w fun e w' => Below w.heap.size w w' ∧ ∃ wl n u, e = .returned (.tuple #[.agg #[.bool wl, .string n], u]) ∧ ErrV u :=
  (hpattern_any s w hs hE).mono fun e w' h => by
    refine ⟨h.1, ?_⟩
    have h2 := h.2
    cases hr : patL (bytesN s) with
    | ok k t => rw [hr] at h2; exact ⟨k, _, _, h2, .inl rfl⟩
    | er l =>
      rw [hr] at h2
      obtain ⟨u, h3, hE3⟩ := h2
      exact ⟨false, _, u, h3, .inr (fault_form hE3 (patE_ne hr))⟩
theorem canon_gen (s : ByteArray) (w : World) (hs : s.size ≤ 1000000) (hE : HEnv w) : Calls Tryz.prog 15 #[.string s] w fun e w' => Below w.heap.size w w' ∧ ∃ (k : Int) (n : ByteArray) (u : Value), e = .returned (.tuple #[.agg #[.int .i64 k, .string n], u]) ∧ ErrV u :=
  (hcanon_any s w hs hE).mono fun e w' h => by
    refine ⟨h.1, ?_⟩
    have h2 := h.2
    cases hr : canonL (bytesN s) with
    | ok k t => rw [hr] at h2; exact ⟨k, _, _, h2, .inl rfl⟩
    | er l =>
      rw [hr] at h2
      obtain ⟨u, h3, hE3⟩ := h2
      exact ⟨0, _, u, h3, .inr (fault_form hE3 (canonE_ne hr))⟩
theorem pat_er (s : ByteArray) (w : World) (hs : s.size ≤ 1000000) (hE : HEnv w) {l : List (Int × Int)} (hr : patL (bytesN s) = .er l) : Calls Tryz.prog 16 #[.string s] w fun e w' => Below w.heap.size w w' ∧ ∃ b off, e = .returned (.tuple #[.agg #[.bool false, .string ⟨#[]⟩], .iface 119 (.pointer (some ⟨b, off, none⟩))]) :=
  (hpattern_any s w hs hE).mono fun e w' h => by
    refine ⟨h.1, ?_⟩
    have h2 := h.2
    rw [hr] at h2
    obtain ⟨u, h3, hE3⟩ := h2
    obtain ⟨b, off, rfl⟩ := fault_form hE3 (patE_ne hr)
    exact ⟨b, off, h3⟩
theorem canon_er (s : ByteArray) (w : World) (hs : s.size ≤ 1000000) (hE : HEnv w) {l : List (Int × Int)} (hr : canonL (bytesN s) = .er l) : Calls Tryz.prog 15 #[.string s] w fun e w' => Below w.heap.size w w' ∧ ∃ b off, e = .returned (.tuple #[.agg #[.int .i64 0, .string ⟨#[]⟩], .iface 119 (.pointer (some ⟨b, off, none⟩))]) :=
  (hcanon_any s w hs hE).mono fun e w' h => by
    refine ⟨h.1, ?_⟩
    have h2 := h.2
    rw [hr] at h2
    obtain ⟨u, h3, hE3⟩ := h2
    obtain ⟨b, off, rfl⟩ := fault_form hE3 (canonE_ne hr)
    exact ⟨b, off, h3⟩
theorem pat_okc (s : ByteArray) (w : World) (hs : s.size ≤ 1000000) (hE : HEnv w) {k : Bool} {t : List Nat} (hr : patL (bytesN s) = .ok k t) : Calls Tryz.prog 16 #[.string s] w fun e w' => Below w.heap.size w w' ∧ e = .returned (.tuple #[.agg #[.bool k, .string (bytesL t)], .nilIface]) :=
  (hpattern_any s w hs hE).mono fun e w' h => by rw [hr] at h; exact h
theorem canon_okc (s : ByteArray) (w : World) (hs : s.size ≤ 1000000) (hE : HEnv w) {k : Nat} {t : List Nat} (hr : canonL (bytesN s) = .ok k t) : Calls Tryz.prog 15 #[.string s] w fun e w' => Below w.heap.size w w' ∧ e = .returned (.tuple #[.agg #[.int .i64 k, .string (bytesL t)], .nilIface]) :=
  (hcanon_any s w hs hE).mono fun e w' h => by rw [hr] at h; exact h
theorem pat_len {b : List Nat} {k : Bool} {t : List Nat} (h : patL b = .ok k t) : t.length ≤ 1002 ∧ ByteL t := by
  have hh := pat_ok h
  have key : ∀ (k : Nat) (t : List Nat), HostOk k t → (textH k t).length ≤ 1002 ∧ ByteL (textH k t) := fun k t hk => by
    have hb := canon_back hk
    have hl := canon_len hb
    refine ⟨?_, ?_⟩
    · unfold textH
      split
      · simp only [List.length_append, List.length_cons, List.length_nil]; omega
      · omega
    · intro c hc
      unfold textH at hc
      split at hc
      · simp only [List.cons_append, List.mem_cons, List.mem_append, List.not_mem_nil, or_false] at hc
        rcases hc with rfl | hc | rfl
        · decide
        · exact hl.2 c hc
        · decide
      · exact hl.2 c hc
  cases hh with
  | star => exact ⟨by simp, fun c hc => by cases hc⟩
  | wild n hk => exact key 1 _ hk
  | one k t hk => exact key k t hk
set_option maxRecDepth 100000 in
set_option maxHeartbeats 8000000 in
theorem narrows_e (a b s : ByteArray) (w : World) (hEn : HEnv w) (ha : a.size ≤ 600) (hb : b.size ≤ 600) (hs : s.size ≤ 600) {l : List (Int × Int)} (hr : patL (bytesN a) = .er l) : Calls Tryz.prog 4 #[.string a, .string b, .string s] w fun e w' => e = .returned (.bool true) ∧ Below w.heap.size w w' := by
  have SPK := Lib.hid (speaks13 w hEn)
  have u1 : decide ((600 : Int) < (a.size : Int)) = false := decide_eq_false (by omega)
  have u1' : decide (600 < a.size) = false := decide_eq_false (by omega)
  have u2 : decide ((600 : Int) < (b.size : Int)) = false := decide_eq_false (by omega)
  have u2' : decide (600 < b.size) = false := decide_eq_false (by omega)
  have u3 : decide ((600 : Int) < (s.size : Int)) = false := decide_eq_false (by omega)
  have u3' : decide (600 < s.size) = false := decide_eq_false (by omega)
  have HEN := Lib.hid hEn
  have CA := Lib.hid (fun W h => pat_er a W (by omega) h hr)
  have CB := Lib.hid (fun W h => pat_gen b W (by omega) h)
  have CC := Lib.hid (fun W h => canon_gen s W (by omega) h)
  clear hr
  clear hEn ha hb hs
  go_enter Tryz.func4, Tryz.ntmps4
  go_wp2_with fail
  refine SPK.out.mono ?_
  rintro e w0 ⟨rfl, hb0⟩
  have HB0 := Lib.hid hb0
  clear hb0
  go_wp2_with fail
  refine (CA.out w0 (HEN.out.ext HB0.out)).mono ?_
  rintro e v1 ⟨hb1, ⟨b1, o1, rfl⟩⟩
  obtain ⟨a1, hA1⟩ : ∃ W, v1.alloc (.cells #[.bool false, .string ⟨#[]⟩] 33) = W := ⟨_, rfl⟩
  have hba1 : Below v1.heap.size v1 a1 := by rw [← hA1]; exact ext_alloc (Below.refl _ _) _
  have hxa1 : a1.heap[v1.heap.size]? = some (.cells (patC false ⟨#[]⟩) 33 (0, 0)) := by rw [← hA1]; exact heap_alloc_new v1 _
  have hst1 : (storeVar 33 ⟨v1.heap.size, 0, none⟩ (.agg #[.bool false, .string ⟨#[]⟩])).run Tryz.prog a1 = .ok () (a1.setRow v1.heap.size #[.bool false, .string ⟨#[]⟩]) := pa_store false false ⟨#[]⟩ ⟨#[]⟩ _ a1 hxa1
  have hxb1 := setRow_heap (c := #[.bool false, .string ⟨#[]⟩]) hxa1
  have hbb1 : Below v1.heap.size v1 (a1.setRow v1.heap.size #[.bool false, .string ⟨#[]⟩]) := setRow_below hba1 (Nat.le_refl _)
  obtain ⟨w1, hW1⟩ : ∃ W, a1.setRow v1.heap.size #[.bool false, .string ⟨#[]⟩] = W := ⟨_, rfl⟩
  rw [hW1] at hst1 hxb1 hbb1
  have HB1 := Lib.hid (ext_trans HB0.out (ext_trans hb1 hbb1)); have HX1 := Lib.hid hxb1
  have HS1 := Lib.hid (ext_trans hb1 hbb1)
  clear hb1 hba1 hxa1 hbb1 hxb1 hW1
  go_wp2_with ((with_reducible show wpList _ _ _ (_ :: _) _ _); refine st_arr 33 v1.heap.size _ hst1 _ _ rfl rfl rfl rfl ?_)
  clear hst1 hA1
  refine (CB.out w1 (HEN.out.ext HB1.out)).mono ?_
  rintro e v2 ⟨hb2, ⟨wl2, n2, u2, rfl, hu2⟩⟩
  obtain ⟨a2, hA2⟩ : ∃ W, v2.alloc (.cells #[.bool false, .string ⟨#[]⟩] 33) = W := ⟨_, rfl⟩
  have hba2 : Below v2.heap.size v2 a2 := by rw [← hA2]; exact ext_alloc (Below.refl _ _) _
  have hxa2 : a2.heap[v2.heap.size]? = some (.cells (patC false ⟨#[]⟩) 33 (0, 0)) := by rw [← hA2]; exact heap_alloc_new v2 _
  have hst2 : (storeVar 33 ⟨v2.heap.size, 0, none⟩ (.agg #[.bool wl2, .string n2])).run Tryz.prog a2 = .ok () (a2.setRow v2.heap.size #[.bool wl2, .string n2]) := pa_store wl2 false n2 ⟨#[]⟩ _ a2 hxa2
  have hxb2 := setRow_heap (c := #[.bool wl2, .string n2]) hxa2
  have hbb2 : Below v2.heap.size v2 (a2.setRow v2.heap.size #[.bool wl2, .string n2]) := setRow_below hba2 (Nat.le_refl _)
  obtain ⟨w2, hW2⟩ : ∃ W, a2.setRow v2.heap.size #[.bool wl2, .string n2] = W := ⟨_, rfl⟩
  rw [hW2] at hst2 hxb2 hbb2
  have HB2 := Lib.hid (ext_trans HB1.out (ext_trans hb2 hbb2)); have HX2 := Lib.hid hxb2
  have HS2 := Lib.hid (ext_trans hb2 hbb2)
  clear hb2 hba2 hxa2 hbb2 hxb2 hW2
  go_wp2_with ((with_reducible show wpList _ _ _ (_ :: _) _ _); refine st_arr 33 v2.heap.size _ hst2 _ _ rfl rfl rfl rfl ?_)
  clear hst2 hA2
  refine (CC.out w2 (HEN.out.ext HB2.out)).mono ?_
  rintro e v3 ⟨hb3, ⟨k3, n3, u3, rfl, hu3⟩⟩
  obtain ⟨a3, hA3⟩ : ∃ W, v3.alloc (.cells #[.int .i64 0, .string ⟨#[]⟩] 24) = W := ⟨_, rfl⟩
  have hba3 : Below v3.heap.size v3 a3 := by rw [← hA3]; exact ext_alloc (Below.refl _ _) _
  have hxa3 : a3.heap[v3.heap.size]? = some (.cells (hostC 0 ⟨#[]⟩) 24 (0, 0)) := by rw [← hA3]; exact heap_alloc_new v3 _
  have hst3 : (storeVar 24 ⟨v3.heap.size, 0, none⟩ (.agg #[.int .i64 k3, .string n3])).run Tryz.prog a3 = .ok () (a3.setRow v3.heap.size #[.int .i64 k3, .string n3]) := ho_store k3 0 n3 ⟨#[]⟩ _ a3 hxa3
  have hxb3 := setRow_heap (c := #[.int .i64 k3, .string n3]) hxa3
  have hbb3 : Below v3.heap.size v3 (a3.setRow v3.heap.size #[.int .i64 k3, .string n3]) := setRow_below hba3 (Nat.le_refl _)
  obtain ⟨w3, hW3⟩ : ∃ W, a3.setRow v3.heap.size #[.int .i64 k3, .string n3] = W := ⟨_, rfl⟩
  rw [hW3] at hst3 hxb3 hbb3
  have HB3 := Lib.hid (ext_trans HB2.out (ext_trans hb3 hbb3)); have HX3 := Lib.hid hxb3
  have HS3 := Lib.hid (ext_trans hb3 hbb3)
  clear hb3 hba3 hxa3 hbb3 hxb3 hW3
  have HF := Lib.hid HB3.out
  go_wp2_with ((with_reducible show wpList _ _ _ (_ :: _) _ _); refine st_arr 24 v3.heap.size _ hst3 _ _ rfl rfl rfl rfl ?_)
  go_ret
  exact ⟨rfl, HF.out⟩
set_option maxRecDepth 100000 in
set_option maxHeartbeats 8000000 in
theorem narrows_f (a b s : ByteArray) (w : World) (hEn : HEnv w) (ha : a.size ≤ 600) (hb : b.size ≤ 600) (hs : s.size ≤ 600) {wl : Bool} {n : List Nat} (hp : patL (bytesN a) = .ok wl n) {l : List (Int × Int)} (hr : patL (bytesN b) = .er l) : Calls Tryz.prog 4 #[.string a, .string b, .string s] w fun e w' => e = .returned (.bool true) ∧ Below w.heap.size w w' := by
  have SPK := Lib.hid (speaks13 w hEn)
  have u1 : decide ((600 : Int) < (a.size : Int)) = false := decide_eq_false (by omega)
  have u1' : decide (600 < a.size) = false := decide_eq_false (by omega)
  have u2 : decide ((600 : Int) < (b.size : Int)) = false := decide_eq_false (by omega)
  have u2' : decide (600 < b.size) = false := decide_eq_false (by omega)
  have u3 : decide ((600 : Int) < (s.size : Int)) = false := decide_eq_false (by omega)
  have u3' : decide (600 < s.size) = false := decide_eq_false (by omega)
  have HEN := Lib.hid hEn
  obtain ⟨N, hN⟩ : ∃ N, bytesL n = N := ⟨_, rfl⟩
  have CA := Lib.hid (fun W h => pat_okc a W (by omega) h hp)
  have CB := Lib.hid (fun W h => pat_er b W (by omega) h hr)
  have CC := Lib.hid (fun W h => canon_gen s W (by omega) h)
  rw [hN] at CA
  clear hr hp hN
  clear hEn ha hb hs
  go_enter Tryz.func4, Tryz.ntmps4
  go_wp2_with fail
  refine SPK.out.mono ?_
  rintro e w0 ⟨rfl, hb0⟩
  have HB0 := Lib.hid hb0
  clear hb0
  go_wp2_with fail
  refine (CA.out w0 (HEN.out.ext HB0.out)).mono ?_
  rintro e v1 ⟨hb1, rfl⟩
  obtain ⟨a1, hA1⟩ : ∃ W, v1.alloc (.cells #[.bool false, .string ⟨#[]⟩] 33) = W := ⟨_, rfl⟩
  have hba1 : Below v1.heap.size v1 a1 := by rw [← hA1]; exact ext_alloc (Below.refl _ _) _
  have hxa1 : a1.heap[v1.heap.size]? = some (.cells (patC false ⟨#[]⟩) 33 (0, 0)) := by rw [← hA1]; exact heap_alloc_new v1 _
  have hst1 : (storeVar 33 ⟨v1.heap.size, 0, none⟩ (.agg #[.bool wl, .string N])).run Tryz.prog a1 = .ok () (a1.setRow v1.heap.size #[.bool wl, .string N]) := pa_store wl false N ⟨#[]⟩ _ a1 hxa1
  have hxb1 := setRow_heap (c := #[.bool wl, .string N]) hxa1
  have hbb1 : Below v1.heap.size v1 (a1.setRow v1.heap.size #[.bool wl, .string N]) := setRow_below hba1 (Nat.le_refl _)
  obtain ⟨w1, hW1⟩ : ∃ W, a1.setRow v1.heap.size #[.bool wl, .string N] = W := ⟨_, rfl⟩
  rw [hW1] at hst1 hxb1 hbb1
  have HB1 := Lib.hid (ext_trans HB0.out (ext_trans hb1 hbb1)); have HX1 := Lib.hid hxb1
  have HS1 := Lib.hid (ext_trans hb1 hbb1)
  clear hb1 hba1 hxa1 hbb1 hxb1 hW1
  go_wp2_with ((with_reducible show wpList _ _ _ (_ :: _) _ _); refine st_arr 33 v1.heap.size _ hst1 _ _ rfl rfl rfl rfl ?_)
  clear hst1 hA1
  refine (CB.out w1 (HEN.out.ext HB1.out)).mono ?_
  rintro e v2 ⟨hb2, ⟨b2, o2, rfl⟩⟩
  obtain ⟨a2, hA2⟩ : ∃ W, v2.alloc (.cells #[.bool false, .string ⟨#[]⟩] 33) = W := ⟨_, rfl⟩
  have hba2 : Below v2.heap.size v2 a2 := by rw [← hA2]; exact ext_alloc (Below.refl _ _) _
  have hxa2 : a2.heap[v2.heap.size]? = some (.cells (patC false ⟨#[]⟩) 33 (0, 0)) := by rw [← hA2]; exact heap_alloc_new v2 _
  have hst2 : (storeVar 33 ⟨v2.heap.size, 0, none⟩ (.agg #[.bool false, .string ⟨#[]⟩])).run Tryz.prog a2 = .ok () (a2.setRow v2.heap.size #[.bool false, .string ⟨#[]⟩]) := pa_store false false ⟨#[]⟩ ⟨#[]⟩ _ a2 hxa2
  have hxb2 := setRow_heap (c := #[.bool false, .string ⟨#[]⟩]) hxa2
  have hbb2 : Below v2.heap.size v2 (a2.setRow v2.heap.size #[.bool false, .string ⟨#[]⟩]) := setRow_below hba2 (Nat.le_refl _)
  obtain ⟨w2, hW2⟩ : ∃ W, a2.setRow v2.heap.size #[.bool false, .string ⟨#[]⟩] = W := ⟨_, rfl⟩
  rw [hW2] at hst2 hxb2 hbb2
  have HB2 := Lib.hid (ext_trans HB1.out (ext_trans hb2 hbb2)); have HX2 := Lib.hid hxb2
  have HS2 := Lib.hid (ext_trans hb2 hbb2)
  clear hb2 hba2 hxa2 hbb2 hxb2 hW2
  go_wp2_with ((with_reducible show wpList _ _ _ (_ :: _) _ _); refine st_arr 33 v2.heap.size _ hst2 _ _ rfl rfl rfl rfl ?_)
  clear hst2 hA2
  refine (CC.out w2 (HEN.out.ext HB2.out)).mono ?_
  rintro e v3 ⟨hb3, ⟨k3, n3, u3, rfl, hu3⟩⟩
  obtain ⟨a3, hA3⟩ : ∃ W, v3.alloc (.cells #[.int .i64 0, .string ⟨#[]⟩] 24) = W := ⟨_, rfl⟩
  have hba3 : Below v3.heap.size v3 a3 := by rw [← hA3]; exact ext_alloc (Below.refl _ _) _
  have hxa3 : a3.heap[v3.heap.size]? = some (.cells (hostC 0 ⟨#[]⟩) 24 (0, 0)) := by rw [← hA3]; exact heap_alloc_new v3 _
  have hst3 : (storeVar 24 ⟨v3.heap.size, 0, none⟩ (.agg #[.int .i64 k3, .string n3])).run Tryz.prog a3 = .ok () (a3.setRow v3.heap.size #[.int .i64 k3, .string n3]) := ho_store k3 0 n3 ⟨#[]⟩ _ a3 hxa3
  have hxb3 := setRow_heap (c := #[.int .i64 k3, .string n3]) hxa3
  have hbb3 : Below v3.heap.size v3 (a3.setRow v3.heap.size #[.int .i64 k3, .string n3]) := setRow_below hba3 (Nat.le_refl _)
  obtain ⟨w3, hW3⟩ : ∃ W, a3.setRow v3.heap.size #[.int .i64 k3, .string n3] = W := ⟨_, rfl⟩
  rw [hW3] at hst3 hxb3 hbb3
  have HB3 := Lib.hid (ext_trans HB2.out (ext_trans hb3 hbb3)); have HX3 := Lib.hid hxb3
  have HS3 := Lib.hid (ext_trans hb3 hbb3)
  clear hb3 hba3 hxa3 hbb3 hxb3 hW3
  have HF := Lib.hid HB3.out
  go_wp2_with ((with_reducible show wpList _ _ _ (_ :: _) _ _); refine st_arr 24 v3.heap.size _ hst3 _ _ rfl rfl rfl rfl ?_)
  go_ret
  exact ⟨rfl, HF.out⟩
set_option maxRecDepth 100000 in
set_option maxHeartbeats 8000000 in
theorem narrows_g (a b s : ByteArray) (w : World) (hEn : HEnv w) (ha : a.size ≤ 600) (hb : b.size ≤ 600) (hs : s.size ≤ 600) {wl wl2 : Bool} {n n2 : List Nat} (hp : patL (bytesN a) = .ok wl n) (hq : patL (bytesN b) = .ok wl2 n2) {l : List (Int × Int)} (hr : canonL (bytesN s) = .er l) : Calls Tryz.prog 4 #[.string a, .string b, .string s] w fun e w' => e = .returned (.bool true) ∧ Below w.heap.size w w' := by
  have SPK := Lib.hid (speaks13 w hEn)
  have u1 : decide ((600 : Int) < (a.size : Int)) = false := decide_eq_false (by omega)
  have u1' : decide (600 < a.size) = false := decide_eq_false (by omega)
  have u2 : decide ((600 : Int) < (b.size : Int)) = false := decide_eq_false (by omega)
  have u2' : decide (600 < b.size) = false := decide_eq_false (by omega)
  have u3 : decide ((600 : Int) < (s.size : Int)) = false := decide_eq_false (by omega)
  have u3' : decide (600 < s.size) = false := decide_eq_false (by omega)
  have HEN := Lib.hid hEn
  obtain ⟨N, hN⟩ : ∃ N, bytesL n = N := ⟨_, rfl⟩
  obtain ⟨N2, hN2⟩ : ∃ N, bytesL n2 = N := ⟨_, rfl⟩
  have CA := Lib.hid (fun W h => pat_okc a W (by omega) h hp)
  have CB := Lib.hid (fun W h => pat_okc b W (by omega) h hq)
  have CC := Lib.hid (fun W h => canon_er s W (by omega) h hr)
  rw [hN] at CA
  rw [hN2] at CB
  clear hr hp hq hN hN2
  clear hEn ha hb hs
  go_enter Tryz.func4, Tryz.ntmps4
  go_wp2_with fail
  refine SPK.out.mono ?_
  rintro e w0 ⟨rfl, hb0⟩
  have HB0 := Lib.hid hb0
  clear hb0
  go_wp2_with fail
  refine (CA.out w0 (HEN.out.ext HB0.out)).mono ?_
  rintro e v1 ⟨hb1, rfl⟩
  obtain ⟨a1, hA1⟩ : ∃ W, v1.alloc (.cells #[.bool false, .string ⟨#[]⟩] 33) = W := ⟨_, rfl⟩
  have hba1 : Below v1.heap.size v1 a1 := by rw [← hA1]; exact ext_alloc (Below.refl _ _) _
  have hxa1 : a1.heap[v1.heap.size]? = some (.cells (patC false ⟨#[]⟩) 33 (0, 0)) := by rw [← hA1]; exact heap_alloc_new v1 _
  have hst1 : (storeVar 33 ⟨v1.heap.size, 0, none⟩ (.agg #[.bool wl, .string N])).run Tryz.prog a1 = .ok () (a1.setRow v1.heap.size #[.bool wl, .string N]) := pa_store wl false N ⟨#[]⟩ _ a1 hxa1
  have hxb1 := setRow_heap (c := #[.bool wl, .string N]) hxa1
  have hbb1 : Below v1.heap.size v1 (a1.setRow v1.heap.size #[.bool wl, .string N]) := setRow_below hba1 (Nat.le_refl _)
  obtain ⟨w1, hW1⟩ : ∃ W, a1.setRow v1.heap.size #[.bool wl, .string N] = W := ⟨_, rfl⟩
  rw [hW1] at hst1 hxb1 hbb1
  have HB1 := Lib.hid (ext_trans HB0.out (ext_trans hb1 hbb1)); have HX1 := Lib.hid hxb1
  have HS1 := Lib.hid (ext_trans hb1 hbb1)
  clear hb1 hba1 hxa1 hbb1 hxb1 hW1
  go_wp2_with ((with_reducible show wpList _ _ _ (_ :: _) _ _); refine st_arr 33 v1.heap.size _ hst1 _ _ rfl rfl rfl rfl ?_)
  clear hst1 hA1
  refine (CB.out w1 (HEN.out.ext HB1.out)).mono ?_
  rintro e v2 ⟨hb2, rfl⟩
  obtain ⟨a2, hA2⟩ : ∃ W, v2.alloc (.cells #[.bool false, .string ⟨#[]⟩] 33) = W := ⟨_, rfl⟩
  have hba2 : Below v2.heap.size v2 a2 := by rw [← hA2]; exact ext_alloc (Below.refl _ _) _
  have hxa2 : a2.heap[v2.heap.size]? = some (.cells (patC false ⟨#[]⟩) 33 (0, 0)) := by rw [← hA2]; exact heap_alloc_new v2 _
  have hst2 : (storeVar 33 ⟨v2.heap.size, 0, none⟩ (.agg #[.bool wl2, .string N2])).run Tryz.prog a2 = .ok () (a2.setRow v2.heap.size #[.bool wl2, .string N2]) := pa_store wl2 false N2 ⟨#[]⟩ _ a2 hxa2
  have hxb2 := setRow_heap (c := #[.bool wl2, .string N2]) hxa2
  have hbb2 : Below v2.heap.size v2 (a2.setRow v2.heap.size #[.bool wl2, .string N2]) := setRow_below hba2 (Nat.le_refl _)
  obtain ⟨w2, hW2⟩ : ∃ W, a2.setRow v2.heap.size #[.bool wl2, .string N2] = W := ⟨_, rfl⟩
  rw [hW2] at hst2 hxb2 hbb2
  have HB2 := Lib.hid (ext_trans HB1.out (ext_trans hb2 hbb2)); have HX2 := Lib.hid hxb2
  have HS2 := Lib.hid (ext_trans hb2 hbb2)
  clear hb2 hba2 hxa2 hbb2 hxb2 hW2
  go_wp2_with ((with_reducible show wpList _ _ _ (_ :: _) _ _); refine st_arr 33 v2.heap.size _ hst2 _ _ rfl rfl rfl rfl ?_)
  clear hst2 hA2
  refine (CC.out w2 (HEN.out.ext HB2.out)).mono ?_
  rintro e v3 ⟨hb3, ⟨b3, o3, rfl⟩⟩
  obtain ⟨a3, hA3⟩ : ∃ W, v3.alloc (.cells #[.int .i64 0, .string ⟨#[]⟩] 24) = W := ⟨_, rfl⟩
  have hba3 : Below v3.heap.size v3 a3 := by rw [← hA3]; exact ext_alloc (Below.refl _ _) _
  have hxa3 : a3.heap[v3.heap.size]? = some (.cells (hostC 0 ⟨#[]⟩) 24 (0, 0)) := by rw [← hA3]; exact heap_alloc_new v3 _
  have hst3 : (storeVar 24 ⟨v3.heap.size, 0, none⟩ (.agg #[.int .i64 0, .string ⟨#[]⟩])).run Tryz.prog a3 = .ok () (a3.setRow v3.heap.size #[.int .i64 0, .string ⟨#[]⟩]) := ho_store 0 0 ⟨#[]⟩ ⟨#[]⟩ _ a3 hxa3
  have hxb3 := setRow_heap (c := #[.int .i64 0, .string ⟨#[]⟩]) hxa3
  have hbb3 : Below v3.heap.size v3 (a3.setRow v3.heap.size #[.int .i64 0, .string ⟨#[]⟩]) := setRow_below hba3 (Nat.le_refl _)
  obtain ⟨w3, hW3⟩ : ∃ W, a3.setRow v3.heap.size #[.int .i64 0, .string ⟨#[]⟩] = W := ⟨_, rfl⟩
  rw [hW3] at hst3 hxb3 hbb3
  have HB3 := Lib.hid (ext_trans HB2.out (ext_trans hb3 hbb3)); have HX3 := Lib.hid hxb3
  have HS3 := Lib.hid (ext_trans hb3 hbb3)
  clear hb3 hba3 hxa3 hbb3 hxb3 hW3
  have HF := Lib.hid HB3.out
  go_wp2_with ((with_reducible show wpList _ _ _ (_ :: _) _ _); refine st_arr 24 v3.heap.size _ hst3 _ _ rfl rfl rfl rfl ?_)
  go_ret
  exact ⟨rfl, HF.out⟩
set_option maxRecDepth 100000 in
set_option maxHeartbeats 8000000 in
theorem narrows_ok (a b s : ByteArray) (w : World) (hEn : HEnv w) (ha : a.size ≤ 600) (hb : b.size ≤ 600) (hs : s.size ≤ 600) {wl wl2 : Bool} {n n2 : List Nat} (hp : patL (bytesN a) = .ok wl n) (hq : patL (bytesN b) = .ok wl2 n2) {k : Nat} {t : List Nat} (hr : canonL (bytesN s) = .ok k t) : Calls Tryz.prog 4 #[.string a, .string b, .string s] w fun e w' => e = .returned (.bool true) ∧ Below w.heap.size w w' := by
  have SPK := Lib.hid (speaks13 w hEn)
  have u1 : decide ((600 : Int) < (a.size : Int)) = false := decide_eq_false (by omega)
  have u1' : decide (600 < a.size) = false := decide_eq_false (by omega)
  have u2 : decide ((600 : Int) < (b.size : Int)) = false := decide_eq_false (by omega)
  have u2' : decide (600 < b.size) = false := decide_eq_false (by omega)
  have u3 : decide ((600 : Int) < (s.size : Int)) = false := decide_eq_false (by omega)
  have u3' : decide (600 < s.size) = false := decide_eq_false (by omega)
  have HEN := Lib.hid hEn
  have hpn := pat_len hp
  have hqn := pat_len hq
  have htn := canon_len hr
  have bp := bytesN_bytesL hpn.2
  have bq := bytesN_bytesL hqn.2
  have bt := bytesN_bytesL htn.2
  have N0 := fun W => hnarrow_any wl wl (bytesL n) (bytesL n) W (by rw [bytesL_size]; omega) (by rw [bytesL_size]; omega)
  have N1 := fun W => hnarrow_any wl wl2 (bytesL n) (bytesL n2) W (by rw [bytesL_size]; omega) (by rw [bytesL_size]; omega)
  have M1 := fun W => hmatch_any wl (bytesL n) k (bytesL t) W (by rw [bytesL_size]; omega) (by rw [bytesL_size]; omega)
  have M2 := fun W => hmatch_any wl2 (bytesL n2) k (bytesL t) W (by rw [bytesL_size]; omega) (by rw [bytesL_size]; omega)
  have TX := fun W => htextOf_any (k : Int) (bytesL t) W (by rw [bytesL_size]; omega)
  rw [hostT_bytes] at TX
  have hth : (textH k t).length ≤ 1002 ∧ ByteL (textH k t) := by
    refine ⟨?_, ?_⟩
    · unfold textH
      split
      · simp only [List.length_append, List.length_cons, List.length_nil]; omega
      · omega
    · intro c hc
      unfold textH at hc
      split at hc
      · simp only [List.cons_append, List.mem_cons, List.mem_append, List.not_mem_nil, or_false] at hc
        rcases hc with rfl | hc | rfl
        · decide
        · exact htn.2 c hc
        · decide
      · exact htn.2 c hc
  have N3 := fun W => hnarrow_any false wl (bytesL (textH k t)) (bytesL n) W (by rw [bytesL_size]; omega) (by rw [bytesL_size]; omega)
  rw [bp, narrow_self] at N0
  rw [bp, bq] at N1
  rw [bp, bt] at M1
  rw [bq, bt] at M2
  rw [bp, bytesN_bytesL hth.2, ← match_narrow (pat_ok hp) (canon_ok hr)] at N3
  have himp := fun h1 h2 => narrow_match (pat_ok hp) (pat_ok hq) (canon_ok hr) h1 h2
  obtain ⟨x, hx⟩ : ∃ x, narrowL wl n wl2 n2 = x := ⟨_, rfl⟩
  obtain ⟨y, hy⟩ : ∃ y, matchL wl n k t = y := ⟨_, rfl⟩
  obtain ⟨z, hz⟩ : ∃ z, matchL wl2 n2 k t = z := ⟨_, rfl⟩
  rw [hx] at N1
  rw [hy] at M1 N3
  rw [hz] at M2
  rw [hx, hy, hz] at himp
  obtain ⟨N, hN⟩ : ∃ N, bytesL n = N := ⟨_, rfl⟩
  obtain ⟨N2, hN2⟩ : ∃ N, bytesL n2 = N := ⟨_, rfl⟩
  obtain ⟨T, hT⟩ : ∃ N, bytesL t = N := ⟨_, rfl⟩
  obtain ⟨X, hX⟩ : ∃ N, bytesL (textH k t) = N := ⟨_, rfl⟩
  have CA := Lib.hid (fun W h => pat_okc a W (by omega) h hp)
  have CB := Lib.hid (fun W h => pat_okc b W (by omega) h hq)
  have CC := Lib.hid (fun W h => canon_okc s W (by omega) h hr)
  rw [hN] at CA N0 N1 M1 N3
  rw [hN2] at CB N1 M2
  rw [hT] at CC M1 M2 TX
  rw [hX] at TX N3
  have hN0 := Lib.hid N0; have hN1 := Lib.hid N1; have hM1 := Lib.hid M1; have hM2 := Lib.hid M2; have hTX := Lib.hid TX; have hN3 := Lib.hid N3
  clear hr hp hq hN hN2 hT hX hpn hqn htn bp bq bt N0 N1 M1 M2 TX N3 hth hx hy hz
  clear hEn ha hb hs
  go_enter Tryz.func4, Tryz.ntmps4
  go_wp2_with fail
  refine SPK.out.mono ?_
  rintro e w0 ⟨rfl, hb0⟩
  have HB0 := Lib.hid hb0
  clear hb0
  go_wp2_with fail
  refine (CA.out w0 (HEN.out.ext HB0.out)).mono ?_
  rintro e v1 ⟨hb1, rfl⟩
  obtain ⟨a1, hA1⟩ : ∃ W, v1.alloc (.cells #[.bool false, .string ⟨#[]⟩] 33) = W := ⟨_, rfl⟩
  have hba1 : Below v1.heap.size v1 a1 := by rw [← hA1]; exact ext_alloc (Below.refl _ _) _
  have hxa1 : a1.heap[v1.heap.size]? = some (.cells (patC false ⟨#[]⟩) 33 (0, 0)) := by rw [← hA1]; exact heap_alloc_new v1 _
  have hst1 : (storeVar 33 ⟨v1.heap.size, 0, none⟩ (.agg #[.bool wl, .string N])).run Tryz.prog a1 = .ok () (a1.setRow v1.heap.size #[.bool wl, .string N]) := pa_store wl false N ⟨#[]⟩ _ a1 hxa1
  have hxb1 := setRow_heap (c := #[.bool wl, .string N]) hxa1
  have hbb1 : Below v1.heap.size v1 (a1.setRow v1.heap.size #[.bool wl, .string N]) := setRow_below hba1 (Nat.le_refl _)
  obtain ⟨w1, hW1⟩ : ∃ W, a1.setRow v1.heap.size #[.bool wl, .string N] = W := ⟨_, rfl⟩
  rw [hW1] at hst1 hxb1 hbb1
  have HB1 := Lib.hid (ext_trans HB0.out (ext_trans hb1 hbb1)); have HX1 := Lib.hid hxb1
  have HS1 := Lib.hid (ext_trans hb1 hbb1)
  clear hb1 hba1 hxa1 hbb1 hxb1 hW1
  go_wp2_with ((with_reducible show wpList _ _ _ (_ :: _) _ _); refine st_arr 33 v1.heap.size _ hst1 _ _ rfl rfl rfl rfl ?_)
  clear hst1 hA1
  refine (CB.out w1 (HEN.out.ext HB1.out)).mono ?_
  rintro e v2 ⟨hb2, rfl⟩
  obtain ⟨a2, hA2⟩ : ∃ W, v2.alloc (.cells #[.bool false, .string ⟨#[]⟩] 33) = W := ⟨_, rfl⟩
  have hba2 : Below v2.heap.size v2 a2 := by rw [← hA2]; exact ext_alloc (Below.refl _ _) _
  have hxa2 : a2.heap[v2.heap.size]? = some (.cells (patC false ⟨#[]⟩) 33 (0, 0)) := by rw [← hA2]; exact heap_alloc_new v2 _
  have hst2 : (storeVar 33 ⟨v2.heap.size, 0, none⟩ (.agg #[.bool wl2, .string N2])).run Tryz.prog a2 = .ok () (a2.setRow v2.heap.size #[.bool wl2, .string N2]) := pa_store wl2 false N2 ⟨#[]⟩ _ a2 hxa2
  have hxb2 := setRow_heap (c := #[.bool wl2, .string N2]) hxa2
  have hbb2 : Below v2.heap.size v2 (a2.setRow v2.heap.size #[.bool wl2, .string N2]) := setRow_below hba2 (Nat.le_refl _)
  obtain ⟨w2, hW2⟩ : ∃ W, a2.setRow v2.heap.size #[.bool wl2, .string N2] = W := ⟨_, rfl⟩
  rw [hW2] at hst2 hxb2 hbb2
  have HB2 := Lib.hid (ext_trans HB1.out (ext_trans hb2 hbb2)); have HX2 := Lib.hid hxb2
  have HS2 := Lib.hid (ext_trans hb2 hbb2)
  clear hb2 hba2 hxa2 hbb2 hxb2 hW2
  go_wp2_with ((with_reducible show wpList _ _ _ (_ :: _) _ _); refine st_arr 33 v2.heap.size _ hst2 _ _ rfl rfl rfl rfl ?_)
  clear hst2 hA2
  refine (CC.out w2 (HEN.out.ext HB2.out)).mono ?_
  rintro e v3 ⟨hb3, rfl⟩
  obtain ⟨a3, hA3⟩ : ∃ W, v3.alloc (.cells #[.int .i64 0, .string ⟨#[]⟩] 24) = W := ⟨_, rfl⟩
  have hba3 : Below v3.heap.size v3 a3 := by rw [← hA3]; exact ext_alloc (Below.refl _ _) _
  have hxa3 : a3.heap[v3.heap.size]? = some (.cells (hostC 0 ⟨#[]⟩) 24 (0, 0)) := by rw [← hA3]; exact heap_alloc_new v3 _
  have hst3 : (storeVar 24 ⟨v3.heap.size, 0, none⟩ (.agg #[.int .i64 k, .string T])).run Tryz.prog a3 = .ok () (a3.setRow v3.heap.size #[.int .i64 k, .string T]) := ho_store k 0 T ⟨#[]⟩ _ a3 hxa3
  have hxb3 := setRow_heap (c := #[.int .i64 k, .string T]) hxa3
  have hbb3 : Below v3.heap.size v3 (a3.setRow v3.heap.size #[.int .i64 k, .string T]) := setRow_below hba3 (Nat.le_refl _)
  obtain ⟨w3, hW3⟩ : ∃ W, a3.setRow v3.heap.size #[.int .i64 k, .string T] = W := ⟨_, rfl⟩
  rw [hW3] at hst3 hxb3 hbb3
  have HB3 := Lib.hid (ext_trans HB2.out (ext_trans hb3 hbb3)); have HX3 := Lib.hid hxb3
  have HS3 := Lib.hid (ext_trans hb3 hbb3)
  clear hb3 hba3 hxa3 hbb3 hxb3 hW3
  have g23 := ext_trans HS2.out HS3.out
  have e1 : w3.heap[v1.heap.size]? = some (.cells #[.bool wl, .string N] 33 (0, 0)) := (g23.block _ (heap_lt HX1.out)).trans HX1.out
  have e2 : w3.heap[v2.heap.size]? = some (.cells #[.bool wl2, .string N2] 33 (0, 0)) := (HS3.out.block _ (heap_lt HX2.out)).trans HX2.out
  have HL : Hid (∀ W, Below w3.heap.size w3 W → (loadVar 33 ⟨v1.heap.size, 0, none⟩).run Tryz.prog W = .ok (.agg #[.bool wl, .string N]) W ∧ (loadVar 33 ⟨v2.heap.size, 0, none⟩).run Tryz.prog W = .ok (.agg #[.bool wl2, .string N2]) W ∧ (loadVar 24 ⟨v3.heap.size, 0, none⟩).run Tryz.prog W = .ok (.agg #[.int .i64 k, .string T]) W) := Lib.hid (fun W hW => ⟨pa_load wl N _ W ((hW.block _ (heap_lt e1)).trans e1), pa_load wl2 N2 _ W ((hW.block _ (heap_lt e2)).trans e2), ho_load k T _ W ((hW.block _ (heap_lt HX3.out)).trans HX3.out)⟩)
  have HCE : Hid (∀ W, Below w3.heap.size w3 W → W.cell? ⟨v1.heap.size, 0, none⟩ = some (.bool wl) ∧ W.cell? ⟨v1.heap.size, 1, none⟩ = some (.string N) ∧ W.cell? ⟨v3.heap.size, 0, none⟩ = some (.int .i64 k) ∧ W.cell? ⟨v3.heap.size, 1, none⟩ = some (.string T)) := Lib.hid (fun W hW => by
    have f1 := (hW.block _ (heap_lt e1)).trans e1
    have f3 := (hW.block _ (heap_lt HX3.out)).trans HX3.out
    exact ⟨by rw [cell_of_row _ _ _ _ _ _ f1]; rfl, by rw [cell_of_row _ _ _ _ _ _ f1]; rfl, by rw [cell_of_row _ _ _ _ _ _ f3]; rfl, by rw [cell_of_row _ _ _ _ _ _ f3]; rfl⟩)
  obtain ⟨l1, l2, l3⟩ := HL.out w3 (Below.refl _ _)
  have HG4 : Hid (Below w3.heap.size w3 w3) := Lib.hid (Below.refl _ _)
  clear g23 e1 e2
  go_wp2_with ((with_reducible show wpList _ _ _ (_ :: _) _ _); first | (refine st_arr 24 v3.heap.size _ hst3 _ _ rfl rfl rfl rfl ?_) | (refine ld_arr 33 v1.heap.size _ l1 _ rfl rfl rfl ?_) | (refine ld_arr 33 v2.heap.size _ l2 _ rfl rfl rfl ?_) | (refine ld_arr 24 v3.heap.size _ l3 _ rfl rfl rfl ?_) | (refine ld_arrG 33 v1.heap.size _ l1 _ rfl rfl rfl ?_) | (refine ld_arrG 33 v2.heap.size _ l2 _ rfl rfl rfl ?_) | (refine ld_arrG 24 v3.heap.size _ l3 _ rfl rfl rfl ?_))
  clear hst3 hA3 l1 l2 l3
  refine (hN0.out _).mono ?_
  rintro e w5 ⟨rfl, hbn⟩
  have HG5 := Lib.hid (ext_trans HG4.out hbn)
  obtain ⟨l1, l2, l3⟩ := HL.out w5 HG5.out
  clear hbn
  cases x with
  | false =>
    go_wp2_with ((with_reducible show wpList _ _ _ (_ :: _) _ _); first | (refine ld_arr 33 v1.heap.size _ l1 _ rfl rfl rfl ?_) | (refine ld_arr 33 v2.heap.size _ l2 _ rfl rfl rfl ?_) | (refine ld_arr 24 v3.heap.size _ l3 _ rfl rfl rfl ?_) | (refine ld_arrG 33 v1.heap.size _ l1 _ rfl rfl rfl ?_) | (refine ld_arrG 33 v2.heap.size _ l2 _ rfl rfl rfl ?_) | (refine ld_arrG 24 v3.heap.size _ l3 _ rfl rfl rfl ?_))
    refine (hN1.out _).mono ?_
    rintro e w6 ⟨rfl, hbn⟩
    have HG6 := Lib.hid (ext_trans HG5.out hbn)
    obtain ⟨l1, l2, l3⟩ := HL.out w6 HG6.out
    clear hbn
    cases y with
    | false =>
      obtain ⟨Y1, hY1⟩ : ∃ x, v1.heap.size = x := ⟨_, rfl⟩
      obtain ⟨Y3, hY3⟩ : ∃ x, v3.heap.size = x := ⟨_, rfl⟩
      have kk : ∀ m : BW w6.heap.size w6, _ := fun m => HCE.out m.w (ext_trans HG6.out m.below)
      rw [hY1, hY3] at kk
      have k1 : ∀ m : BW w6.heap.size w6, m.w.cell? ⟨Y1, 0, none⟩ = some (.bool wl) := fun m => (kk m).1
      have k2 : ∀ m : BW w6.heap.size w6, m.w.cell? ⟨Y1, 1, none⟩ = some (.string N) := fun m => (kk m).2.1
      have k3 : ∀ m : BW w6.heap.size w6, m.w.cell? ⟨Y3, 0, none⟩ = some (.int .i64 k) := fun m => (kk m).2.2.1
      have k4 : ∀ m : BW w6.heap.size w6, m.w.cell? ⟨Y3, 1, none⟩ = some (.string T) := fun m => (kk m).2.2.2
      clear kk
      go_wp2_with ((with_reducible show wpList _ _ _ (_ :: _) _ _); first | (refine ld_arr 33 v1.heap.size _ l1 _ rfl rfl rfl ?_) | (refine ld_arr 33 v2.heap.size _ l2 _ rfl rfl rfl ?_) | (refine ld_arr 24 v3.heap.size _ l3 _ rfl rfl rfl ?_) | (refine ld_arrG 33 v1.heap.size _ l1 _ rfl rfl rfl ?_) | (refine ld_arrG 33 v2.heap.size _ l2 _ rfl rfl rfl ?_) | (refine ld_arrG 24 v3.heap.size _ l3 _ rfl rfl rfl ?_))
      clear hY1 hY3 l1 l2 l3
      refine wp_region_quietB w6.heap.size (by kernel_rfl) (by kernel_rfl) ?_
      repeat (go_big_quiet_step (first | (go_at_call 18; exact quiet_callB (hM1.out _) (Nat.le_refl _)) | (go_at_call 19; exact quiet_callB (hTX.out _) (Nat.le_refl _)) | (go_at_call 17; exact quiet_callB (hN3.out _) (Nat.le_refl _))))
      refine wpQuiet_nil ?_
      intro _ hw'
      obtain ⟨nb, hw4⟩ := hw'
      subst hw4
      have HF := Lib.hid (ext_trans HB3.out (ext_trans HG6.out nb.below))
      clear k1 k2 k3 k4
      generalize nb.w = W6 at *
      go_wp2
      go_ret
      exact ⟨rfl, HF.out⟩
    | true =>
      obtain ⟨Y1, hY1⟩ : ∃ x, v1.heap.size = x := ⟨_, rfl⟩
      obtain ⟨Y3, hY3⟩ : ∃ x, v3.heap.size = x := ⟨_, rfl⟩
      have kk : ∀ m : BW w6.heap.size w6, _ := fun m => HCE.out m.w (ext_trans HG6.out m.below)
      rw [hY1, hY3] at kk
      have k1 : ∀ m : BW w6.heap.size w6, m.w.cell? ⟨Y1, 0, none⟩ = some (.bool wl) := fun m => (kk m).1
      have k2 : ∀ m : BW w6.heap.size w6, m.w.cell? ⟨Y1, 1, none⟩ = some (.string N) := fun m => (kk m).2.1
      have k3 : ∀ m : BW w6.heap.size w6, m.w.cell? ⟨Y3, 0, none⟩ = some (.int .i64 k) := fun m => (kk m).2.2.1
      have k4 : ∀ m : BW w6.heap.size w6, m.w.cell? ⟨Y3, 1, none⟩ = some (.string T) := fun m => (kk m).2.2.2
      clear kk
      go_wp2_with ((with_reducible show wpList _ _ _ (_ :: _) _ _); first | (refine ld_arr 33 v1.heap.size _ l1 _ rfl rfl rfl ?_) | (refine ld_arr 33 v2.heap.size _ l2 _ rfl rfl rfl ?_) | (refine ld_arr 24 v3.heap.size _ l3 _ rfl rfl rfl ?_) | (refine ld_arrG 33 v1.heap.size _ l1 _ rfl rfl rfl ?_) | (refine ld_arrG 33 v2.heap.size _ l2 _ rfl rfl rfl ?_) | (refine ld_arrG 24 v3.heap.size _ l3 _ rfl rfl rfl ?_))
      clear hY1 hY3 l1 l2 l3
      refine wp_region_quietB w6.heap.size (by kernel_rfl) (by kernel_rfl) ?_
      repeat (go_big_quiet_step (first | (go_at_call 18; exact quiet_callB (hM1.out _) (Nat.le_refl _)) | (go_at_call 19; exact quiet_callB (hTX.out _) (Nat.le_refl _)) | (go_at_call 17; exact quiet_callB (hN3.out _) (Nat.le_refl _))))
      refine wpQuiet_nil ?_
      intro _ hw'
      obtain ⟨nb, hw4⟩ := hw'
      subst hw4
      have HF := Lib.hid (ext_trans HB3.out (ext_trans HG6.out nb.below))
      clear k1 k2 k3 k4
      generalize nb.w = W6 at *
      go_wp2
      go_ret
      exact ⟨rfl, HF.out⟩
  | true =>
    go_wp2_with ((with_reducible show wpList _ _ _ (_ :: _) _ _); first | (refine ld_arr 33 v1.heap.size _ l1 _ rfl rfl rfl ?_) | (refine ld_arr 33 v2.heap.size _ l2 _ rfl rfl rfl ?_) | (refine ld_arr 24 v3.heap.size _ l3 _ rfl rfl rfl ?_) | (refine ld_arrG 33 v1.heap.size _ l1 _ rfl rfl rfl ?_) | (refine ld_arrG 33 v2.heap.size _ l2 _ rfl rfl rfl ?_) | (refine ld_arrG 24 v3.heap.size _ l3 _ rfl rfl rfl ?_))
    refine (hN1.out _).mono ?_
    rintro e w6 ⟨rfl, hbn⟩
    have HG6 := Lib.hid (ext_trans HG5.out hbn)
    obtain ⟨l1, l2, l3⟩ := HL.out w6 HG6.out
    clear hbn
    go_wp2_with ((with_reducible show wpList _ _ _ (_ :: _) _ _); first | (refine ld_arr 33 v1.heap.size _ l1 _ rfl rfl rfl ?_) | (refine ld_arr 33 v2.heap.size _ l2 _ rfl rfl rfl ?_) | (refine ld_arr 24 v3.heap.size _ l3 _ rfl rfl rfl ?_) | (refine ld_arrG 33 v1.heap.size _ l1 _ rfl rfl rfl ?_) | (refine ld_arrG 33 v2.heap.size _ l2 _ rfl rfl rfl ?_) | (refine ld_arrG 24 v3.heap.size _ l3 _ rfl rfl rfl ?_))
    refine (hM1.out _).mono ?_
    rintro e w7 ⟨rfl, hbn⟩
    have HG7 := Lib.hid (ext_trans HG6.out hbn)
    obtain ⟨l1, l2, l3⟩ := HL.out w7 HG7.out
    clear hbn
    cases y with
    | false =>
      obtain ⟨Y1, hY1⟩ : ∃ x, v1.heap.size = x := ⟨_, rfl⟩
      obtain ⟨Y3, hY3⟩ : ∃ x, v3.heap.size = x := ⟨_, rfl⟩
      have kk : ∀ m : BW w7.heap.size w7, _ := fun m => HCE.out m.w (ext_trans HG7.out m.below)
      rw [hY1, hY3] at kk
      have k1 : ∀ m : BW w7.heap.size w7, m.w.cell? ⟨Y1, 0, none⟩ = some (.bool wl) := fun m => (kk m).1
      have k2 : ∀ m : BW w7.heap.size w7, m.w.cell? ⟨Y1, 1, none⟩ = some (.string N) := fun m => (kk m).2.1
      have k3 : ∀ m : BW w7.heap.size w7, m.w.cell? ⟨Y3, 0, none⟩ = some (.int .i64 k) := fun m => (kk m).2.2.1
      have k4 : ∀ m : BW w7.heap.size w7, m.w.cell? ⟨Y3, 1, none⟩ = some (.string T) := fun m => (kk m).2.2.2
      clear kk
      go_wp2_with ((with_reducible show wpList _ _ _ (_ :: _) _ _); first | (refine ld_arr 33 v1.heap.size _ l1 _ rfl rfl rfl ?_) | (refine ld_arr 33 v2.heap.size _ l2 _ rfl rfl rfl ?_) | (refine ld_arr 24 v3.heap.size _ l3 _ rfl rfl rfl ?_) | (refine ld_arrG 33 v1.heap.size _ l1 _ rfl rfl rfl ?_) | (refine ld_arrG 33 v2.heap.size _ l2 _ rfl rfl rfl ?_) | (refine ld_arrG 24 v3.heap.size _ l3 _ rfl rfl rfl ?_))
      clear hY1 hY3 l1 l2 l3
      refine wp_region_quietB w7.heap.size (by kernel_rfl) (by kernel_rfl) ?_
      repeat (go_big_quiet_step (first | (go_at_call 18; exact quiet_callB (hM1.out _) (Nat.le_refl _)) | (go_at_call 19; exact quiet_callB (hTX.out _) (Nat.le_refl _)) | (go_at_call 17; exact quiet_callB (hN3.out _) (Nat.le_refl _))))
      refine wpQuiet_nil ?_
      intro _ hw'
      obtain ⟨nb, hw4⟩ := hw'
      subst hw4
      have HF := Lib.hid (ext_trans HB3.out (ext_trans HG7.out nb.below))
      clear k1 k2 k3 k4
      generalize nb.w = W6 at *
      go_wp2
      go_ret
      exact ⟨rfl, HF.out⟩
    | true =>
      have hzt : z = true := by first | exact himp rfl rfl | exact himp trivial trivial | simpa using himp
      subst hzt
      go_wp2_with ((with_reducible show wpList _ _ _ (_ :: _) _ _); first | (refine ld_arr 33 v1.heap.size _ l1 _ rfl rfl rfl ?_) | (refine ld_arr 33 v2.heap.size _ l2 _ rfl rfl rfl ?_) | (refine ld_arr 24 v3.heap.size _ l3 _ rfl rfl rfl ?_) | (refine ld_arrG 33 v1.heap.size _ l1 _ rfl rfl rfl ?_) | (refine ld_arrG 33 v2.heap.size _ l2 _ rfl rfl rfl ?_) | (refine ld_arrG 24 v3.heap.size _ l3 _ rfl rfl rfl ?_))
      refine (hM2.out _).mono ?_
      rintro e w8 ⟨rfl, hbn⟩
      have HG8 := Lib.hid (ext_trans HG7.out hbn)
      obtain ⟨l1, l2, l3⟩ := HL.out w8 HG8.out
      clear hbn
      obtain ⟨Y1, hY1⟩ : ∃ x, v1.heap.size = x := ⟨_, rfl⟩
      obtain ⟨Y3, hY3⟩ : ∃ x, v3.heap.size = x := ⟨_, rfl⟩
      have kk : ∀ m : BW w8.heap.size w8, _ := fun m => HCE.out m.w (ext_trans HG8.out m.below)
      rw [hY1, hY3] at kk
      have k1 : ∀ m : BW w8.heap.size w8, m.w.cell? ⟨Y1, 0, none⟩ = some (.bool wl) := fun m => (kk m).1
      have k2 : ∀ m : BW w8.heap.size w8, m.w.cell? ⟨Y1, 1, none⟩ = some (.string N) := fun m => (kk m).2.1
      have k3 : ∀ m : BW w8.heap.size w8, m.w.cell? ⟨Y3, 0, none⟩ = some (.int .i64 k) := fun m => (kk m).2.2.1
      have k4 : ∀ m : BW w8.heap.size w8, m.w.cell? ⟨Y3, 1, none⟩ = some (.string T) := fun m => (kk m).2.2.2
      clear kk
      go_wp2_with ((with_reducible show wpList _ _ _ (_ :: _) _ _); first | (refine ld_arr 33 v1.heap.size _ l1 _ rfl rfl rfl ?_) | (refine ld_arr 33 v2.heap.size _ l2 _ rfl rfl rfl ?_) | (refine ld_arr 24 v3.heap.size _ l3 _ rfl rfl rfl ?_) | (refine ld_arrG 33 v1.heap.size _ l1 _ rfl rfl rfl ?_) | (refine ld_arrG 33 v2.heap.size _ l2 _ rfl rfl rfl ?_) | (refine ld_arrG 24 v3.heap.size _ l3 _ rfl rfl rfl ?_))
      clear hY1 hY3 l1 l2 l3
      refine wp_region_quietB w8.heap.size (by kernel_rfl) (by kernel_rfl) ?_
      repeat (go_big_quiet_step (first | (go_at_call 18; exact quiet_callB (hM1.out _) (Nat.le_refl _)) | (go_at_call 19; exact quiet_callB (hTX.out _) (Nat.le_refl _)) | (go_at_call 17; exact quiet_callB (hN3.out _) (Nat.le_refl _))))
      refine wpQuiet_nil ?_
      intro _ hw'
      obtain ⟨nb, hw4⟩ := hw'
      subst hw4
      have HF := Lib.hid (ext_trans HB3.out (ext_trans HG8.out nb.below))
      clear k1 k2 k3 k4
      generalize nb.w = W6 at *
      go_wp2
      go_ret
      exact ⟨rfl, HF.out⟩
set_option maxRecDepth 100000 in
set_option maxHeartbeats 4000000 in
theorem narrows_long (a b s : ByteArray) (w : World) (hEn : HEnv w) (h : 600 < a.size ∨ 600 < b.size ∨ 600 < s.size) : Calls Tryz.prog 4 #[.string a, .string b, .string s] w fun e w' => e = .returned (.bool true) ∧ Below w.heap.size w w' := by
  have SPK := Lib.hid (speaks13 w hEn)
  have key : ∀ (x y z : Bool), decide (600 < a.size) = x → decide (600 < b.size) = y → decide (600 < s.size) = z → (x || (y || z)) = true → Calls Tryz.prog 4 #[.string a, .string b, .string s] w fun e w' => e = .returned (.bool true) ∧ Below w.heap.size w w' := by
    intro x y z hx hy hz hor
    have u1 : decide ((600 : Int) < (a.size : Int)) = x := by rw [← hx]; exact decide_eq_decide.2 (by omega)
    have u2 : decide ((600 : Int) < (b.size : Int)) = y := by rw [← hy]; exact decide_eq_decide.2 (by omega)
    have u3 : decide ((600 : Int) < (s.size : Int)) = z := by rw [← hz]; exact decide_eq_decide.2 (by omega)
    clear h hEn
    cases x <;> cases y <;> cases z
    all_goals first
      | (exact absurd hor (by decide))
      | (clear hor
         go_enter Tryz.func4, Tryz.ntmps4
         go_wp2_with fail
         refine SPK.out.mono ?_
         rintro e w0 ⟨rfl, hb0⟩
         have HB0 := Lib.hid hb0
         clear hb0
         go_wp2
         go_ret
         exact ⟨rfl, HB0.out⟩)
  refine key _ _ _ rfl rfl rfl ?_
  rcases h with h | h | h
  · rw [decide_eq_true h]; rfl
  · rw [decide_eq_true h, Bool.true_or, Bool.or_true]
  · rw [decide_eq_true h, Bool.or_true, Bool.or_true]
/-- waybilllaw13.HostNarrows -/
theorem hostNarrows_any (a b s : ByteArray) (w : World) (hEn : HEnv w) : Calls Tryz.prog 4 #[.string a, .string b, .string s] w fun e w' => e = .returned (.bool true) ∧ Below w.heap.size w w' := by
  by_cases h : 600 < a.size ∨ 600 < b.size ∨ 600 < s.size
  · exact narrows_long a b s w hEn h
  · have ha : a.size ≤ 600 := by omega
    have hb : b.size ≤ 600 := by omega
    have hs : s.size ≤ 600 := by omega
    cases hp : patL (bytesN a) with
    | er l => exact narrows_e a b s w hEn ha hb hs hp
    | ok wl n =>
      cases hq : patL (bytesN b) with
      | er l => exact narrows_f a b s w hEn ha hb hs hp hq
      | ok wl2 n2 =>
        cases hr : canonL (bytesN s) with
        | er l => exact narrows_g a b s w hEn ha hb hs hp hq hr
        | ok k t => exact narrows_ok a b s w hEn ha hb hs hp hq hr
end Go.Proofs.YtbeodjipdpcaiaaGreatDoor
