
/- waybilllaw13.HostCases: the walk. -/
import Derived.Test.YtbeodjipdpcaiaaGreatDoorZMore13
import Derived.Test.YtbeodjipdpcaiaaGreatDoorZHlw0
import Derived.BigQuiet
-- @auto
namespace Go.Proofs.YtbeodjipdpcaiaaGreatDoor
open Go.RowKit
theorem and_low16 (n : Int) : bits .and .i64 n 65535 = n % 65536 := by
  have h127 : (BitVec.ofInt 64 65535).toNat = 2 ^ 16 - 1 := by decide
  have key : (BitVec.ofInt 64 n &&& BitVec.ofInt 64 65535).toNat = (n % ((2 ^ 64 : Nat) : Int)).toNat % 2 ^ 16 := by
    rw [BitVec.toNat_and, BitVec.toNat_ofInt, h127, Nat.and_two_pow_sub_one_eq_mod]
  show IntKind.i64.wrap ((BitVec.ofInt 64 n &&& BitVec.ofInt 64 65535).toNat : Nat) = n % 65536
  rw [key, IntKind.wrap_i64]
  omega
theorem and_low5 (j : Nat) (hj : j < 1000000) : bits .and .i64 (j : Int) 31 = ((j % 32 : Nat) : Int) := by
  have h127 : (BitVec.ofInt 64 31).toNat = 2 ^ 5 - 1 := by decide
  have key : (BitVec.ofInt 64 (j : Int) &&& BitVec.ofInt 64 31).toNat = ((j : Int) % ((2 ^ 64 : Nat) : Int)).toNat % 2 ^ 5 := by
    rw [BitVec.toNat_and, BitVec.toNat_ofInt, h127, Nat.and_two_pow_sub_one_eq_mod]
  show IntKind.i64.wrap ((BitVec.ofInt 64 (j : Int) &&& BitVec.ofInt 64 31).toNat : Nat) = _
  rw [key, IntKind.wrap_i64]
  omega
theorem and_low4 (c : Nat) (hc : c < 256) : bits .and .u8 (c : Int) 15 = ((c % 16 : Nat) : Int) := by
  have key : ∀ i : Fin 256, bits .and .u8 (i.val : Int) 15 = ((i.val % 16 : Nat) : Int) := by decide +kernel
  exact key ⟨c, hc⟩
theorem bytesN_plus (a b : ByteArray) : bytesN (a ++ b) = bytesN a ++ bytesN b := by
  unfold bytesN
  rw [ByteArray.data_append, Array.toList_append, List.map_append]
def bitB (m : Int) (j : Nat) : Bool := bits .and .i64 (m / 2 ^ (j % 32)) 1 == 1
theorem one_text (X : Nat) (hX : X < 128) (W : World) : (convert 5 9 (.int .u8 (X : Nat))).run Tryz.prog W = .ok (.string (bytesL [X])) W := by
  rw [run_convert_int_string _ _ _ _ _ (by rw [Tryz.underlying5]; rfl) Tryz.underlying9]
  have key : ∀ i : Fin 128, Utf8.encode (i.val : Int) = bytesL [i.val] := by decide +kernel
  rw [key ⟨X, hX⟩]
def lxH (x : Nat) : Nat := if x < 10 then 48 + x else 87 + x
def uxH (x : Nat) : Nat := if x < 10 then 48 + x else 55 + x
theorem lx_dig : ∀ x : Fin 16, hexD (lxH x.val) = true ∧ digV (lxH x.val) = x.val := by decide
theorem ux_dig : ∀ x : Fin 16, hexD (uxH x.val) = true ∧ digV (uxH x.val) = x.val := by decide
theorem esc_hex {c : Nat} (hc : c < 256) (r : List Nat) : escV (lxH (c / 16) :: uxH (c % 16) :: r) = some c := by
  have h1 := lx_dig ⟨c / 16, by omega⟩
  have h2 := ux_dig ⟨c % 16, by omega⟩
  simp only at h1 h2
  simp only [escV]
  rw [if_pos ⟨h1.1, h2.1⟩, h1.2, h2.2]
  congr 1
  omega
theorem lx_at (x : Nat) (hx : x < 16) (W : World) : (Instr.index 9 (.string ⟨#[48, 49, 50, 51, 52, 53, 54, 55, 56, 57, 97, 98, 99, 100, 101, 102]⟩) (.int .u8 (x : Int))).run Tryz.prog W = .ok (.int .u8 (lxH x : Nat)) W := by
  have hz : (⟨#[48, 49, 50, 51, 52, 53, 54, 55, 56, 57, 97, 98, 99, 100, 101, 102]⟩ : ByteArray).size = 16 := rfl
  have key : ∀ i : Fin 16, ((⟨#[48, 49, 50, 51, 52, 53, 54, 55, 56, 57, 97, 98, 99, 100, 101, 102]⟩ : ByteArray)[i.val]'(show i.val < (⟨#[48, 49, 50, 51, 52, 53, 54, 55, 56, 57, 97, 98, 99, 100, 101, 102]⟩ : ByteArray).size from i.isLt)).toNat = lxH i.val := by decide +kernel
  rw [run_index_string _ _ _ _ _ Tryz.underlying9, dif_pos ⟨by omega, by rw [hz]; omega⟩]
  have := key ⟨x, hx⟩
  simp only [Int.toNat_natCast]
  rw [this]
theorem ux_at (x : Nat) (hx : x < 16) (W : World) : (Instr.index 9 (.string ⟨#[48, 49, 50, 51, 52, 53, 54, 55, 56, 57, 65, 66, 67, 68, 69, 70]⟩) (.int .u8 (x : Int))).run Tryz.prog W = .ok (.int .u8 (uxH x : Nat)) W := by
  have hz : (⟨#[48, 49, 50, 51, 52, 53, 54, 55, 56, 57, 65, 66, 67, 68, 69, 70]⟩ : ByteArray).size = 16 := rfl
  have key : ∀ i : Fin 16, ((⟨#[48, 49, 50, 51, 52, 53, 54, 55, 56, 57, 65, 66, 67, 68, 69, 70]⟩ : ByteArray)[i.val]'(show i.val < (⟨#[48, 49, 50, 51, 52, 53, 54, 55, 56, 57, 65, 66, 67, 68, 69, 70]⟩ : ByteArray).size from i.isLt)).toNat = uxH i.val := by decide +kernel
  rw [run_index_string _ _ _ _ _ Tryz.underlying9, dif_pos ⟨by omega, by rw [hz]; omega⟩]
  have := key ⟨x, hx⟩
  simp only [Int.toNat_natCast]
  rw [this]
theorem hc_er (s : ByteArray) (w : World) (hs : s.size ≤ 1000000) (hE : HEnv w) {l : List (Int × Int)} (hr : canonL (bytesN s) = .er l) : Calls Tryz.prog 15 #[.string s] w fun e w' => Below w.heap.size w w' ∧ ∃ b off, e = .returned (.tuple #[.agg #[.int .i64 0, .string ⟨#[]⟩], .iface 119 (.pointer (some ⟨b, off, none⟩))]) :=
  (hcanon_any s w hs hE).mono fun e w' h => by
    refine ⟨h.1, ?_⟩
    have h2 := h.2
    rw [hr] at h2
    obtain ⟨u, h3, hE3⟩ := h2
    obtain ⟨b, off, rfl⟩ := fault_form hE3 (canonE_ne hr)
    exact ⟨b, off, h3⟩
theorem hc_ok (s : ByteArray) (w : World) (hs : s.size ≤ 1000000) (hE : HEnv w) {k : Nat} {t : List Nat} (hr : canonL (bytesN s) = .ok k t) : Calls Tryz.prog 15 #[.string s] w fun e w' => Below w.heap.size w w' ∧ e = .returned (.tuple #[.agg #[.int .i64 k, .string (bytesL t)], .nilIface]) :=
  (hcanon_any s w hs hE).mono fun e w' h => by rw [hr] at h; exact h
/-- One letter turned great or not. -/
def upN (b : Bool) (c : Nat) : Nat := if 97 ≤ c ∧ c ≤ 122 ∧ b = true then c - 32 else c
theorem up_low {b : Bool} {c : Nat} (h : lowN c = c) : lowN (upN b c) = c := by
  unfold upN
  split
  · unfold lowN; rw [if_pos (by omega)]; omega
  · exact h
def rwA (f : Nat → Nat) (s : ByteArray) (j i : Nat) : Nat := if i < j then f i else byteAt s i
/-- A row of bytes, written anew up to a place. -/
structure RwAt (f : Nat → Nat) (s : ByteArray) (w : World) (X j : Nat) (wr : World) : Prop where
  below : Below w.heap.size w wr
  cell : ∀ i, i < s.size → wr.cell? ⟨X, i, none⟩ = some (.int .u8 (rwA f s j i : Nat))
  fz : ∀ i, i < s.size → wr.frozen? ⟨X, i, none⟩ = false
  lt : X < wr.heap.size
  ge : w.heap.size ≤ X
def RwRel (f : Nat → Nat) (s : ByteArray) (w : World) (X : Nat) (iv : Value) (wr : World) : Prop := ∃ j : Nat, iv = .int .i64 j ∧ j ≤ s.size ∧ RwAt f s w X j wr
theorem RwAt.keep {f : Nat → Nat} {s : ByteArray} {w wr : World} {X j : Nat} (h : RwAt f s w X j wr) (hj : f j = byteAt s j) : RwAt f s w X (j + 1) wr := by
  refine ⟨h.below, fun i hi => ?_, h.fz, h.lt, h.ge⟩
  rw [h.cell i hi]
  unfold rwA
  by_cases h1 : i < j
  · rw [if_pos h1, if_pos (by omega)]
  · by_cases h2 : i = j
    · subst h2
      rw [if_neg h1, if_pos (by omega), hj]
    · rw [if_neg h1, if_neg (by omega)]
theorem RwAt.put {f : Nat → Nat} {s : ByteArray} {w wr : World} {X j : Nat} (h : RwAt f s w X j wr) (hj : j < s.size) : RwAt f s w X (j + 1) (wr.setCell ⟨X, j, none⟩ (.int .u8 (f j : Nat))) := by
  refine ⟨h.below.setCell h.ge _, fun i hi => ?_, fun i hi => ?_, by simp [World.setCell]; exact h.lt, h.ge⟩
  · by_cases h2 : i = j
    · subst h2
      rw [World.cell?_setCell_same _ _ _ (h.cell i hi)]
      unfold rwA; rw [if_pos (by omega)]
    · have hne : (⟨X, j, none⟩ : Addr) ≠ ⟨X, i, none⟩ := fun e => h2 (by injection e with _ h _; exact h.symm)
      rw [World.cell?_setCell_other _ _ _ _ hne, h.cell i hi]
      unfold rwA
      by_cases h1 : i < j
      · rw [if_pos h1, if_pos (by omega)]
      · rw [if_neg h1, if_neg (by omega)]
  · rw [World.frozen?_setCell]; exact h.fz i hi
theorem name_low {n : List Nat} {ts : List (List Nat)} (h : NameOk n ts) : ∀ c ∈ n, lowN c = c := fun c hc => by
  rcases h.small c hc with h | rfl
  · exact small_low h
  · rfl
/-- A text as bytes, told at the start. -/
theorem rw_start (f : Nat → Nat) (s : ByteArray) (w : World) : ∃ (cap : Nat) (W0 : World), (convert 9 29 (.string s)).run Tryz.prog w = .ok (.slice (some ⟨w.heap.size, 0, none⟩) s.size cap) W0 ∧ s.size ≤ cap ∧ RwAt f s w w.heap.size 0 W0 := by
  have hcv := run_bytes_of_string (P := Tryz.prog) w 9 29 5 s Tryz.underlying9 Tryz.underlying29 Tryz.underlying5
  have hcap := grownCap_ge w s.size 0 5
  generalize grownCap w s.size 0 5 = cap at hcv hcap
  obtain ⟨W0, hW0⟩ : ∃ W, w.drew.alloc (.cells (bytesRow s cap) 5 ((bytesRow s cap).size, (bytesRow s cap).size + 1)) = W := ⟨_, rfl⟩
  rw [hW0] at hcv
  have hx : W0.heap[w.heap.size]? = some (.cells (bytesRow s cap) 5 ((bytesRow s cap).size, (bytesRow s cap).size + 1)) := by rw [← hW0]; exact heap_alloc_new w.drew _
  have hsz : s.size ≤ (bytesRow s cap).size := by
    refine Nat.le_of_not_lt (fun hlt => ?_)
    have := bytesRow_at s cap (bytesRow s cap).size hlt
    simp at this
  refine ⟨cap, W0, hcv, by simpa using hcap, ⟨by rw [← hW0]; exact ⟨rfl, rfl, rfl, by simp, fun k hk => Below.heap_alloc w.drew _ k hk⟩, fun i hi => by
      have hi' : i < s.data.size := hi
      have := bytesRow_at s cap i hi'
      rw [cell_of_row _ w.heap.size i _ _ _ hx]
      unfold rwA byteAt
      rw [if_neg (by omega), Array.getElem?_eq_getElem hi']
      simpa using this, fun i hi => by
      unfold World.frozen?
      rw [hx]
      simp; omega, by rw [← hW0]; simp, Nat.le_refl _⟩⟩
set_option maxRecDepth 100000 in
set_option maxHeartbeats 4000000 in
theorem cases_long (s : ByteArray) (m : Int) (w : World) (hEn : HEnv w) (h : 200 < s.size) : Calls Tryz.prog 3 #[.string s, .int .i64 m] w fun e w' => e = .returned (.bool true) ∧ Below w.heap.size w w' := by
  have SPK := Lib.hid (speaks13 w hEn)
  have u1 : decide ((200 : Int) < (s.size : Int)) = true := decide_eq_true (by omega)
  have u1' : decide (200 < s.size) = true := decide_eq_true h
  clear h hEn
  go_enter Tryz.func3, Tryz.ntmps3
  go_wp2_with fail
  refine SPK.out.mono ?_
  rintro e w0 ⟨rfl, hb0⟩
  have HB0 := Lib.hid hb0
  clear hb0
  go_wp2
  go_ret
  exact ⟨rfl, HB0.out⟩
set_option maxRecDepth 100000 in
set_option maxHeartbeats 8000000 in
theorem cases_er (s : ByteArray) (m : Int) (w : World) (hEn : HEnv w) (hs : s.size ≤ 200) {l : List (Int × Int)} (hr : canonL (bytesN s) = .er l) : Calls Tryz.prog 3 #[.string s, .int .i64 m] w fun e w' => e = .returned (.bool true) ∧ Below w.heap.size w w' := by
  have SPK := Lib.hid (speaks13 w hEn)
  have u1 : decide ((200 : Int) < (s.size : Int)) = false := decide_eq_false (by omega)
  have u1' : decide (200 < s.size) = false := decide_eq_false (by omega)
  have HEN := Lib.hid hEn
  have CC := Lib.hid (fun W h => hc_er s W (by omega) h hr)
  clear hr
  clear hEn hs
  go_enter Tryz.func3, Tryz.ntmps3
  go_wp2_with fail
  refine SPK.out.mono ?_
  rintro e w0 ⟨rfl, hb0⟩
  have HB0 := Lib.hid hb0
  clear hb0
  go_wp2_with fail
  refine (CC.out w0 (HEN.out.ext HB0.out)).mono ?_
  rintro e v1 ⟨hb1, ⟨b1, o1, rfl⟩⟩
  obtain ⟨a1, hA1⟩ : ∃ W, v1.alloc (.cells #[.int .i64 0, .string ⟨#[]⟩] 24) = W := ⟨_, rfl⟩
  have hba1 : Below v1.heap.size v1 a1 := by rw [← hA1]; exact ext_alloc (Below.refl _ _) _
  have hxa1 : a1.heap[v1.heap.size]? = some (.cells (hostC 0 ⟨#[]⟩) 24 (0, 0)) := by rw [← hA1]; exact heap_alloc_new v1 _
  have hst1 : (storeVar 24 ⟨v1.heap.size, 0, none⟩ (.agg #[.int .i64 0, .string ⟨#[]⟩])).run Tryz.prog a1 = .ok () (a1.setRow v1.heap.size #[.int .i64 0, .string ⟨#[]⟩]) := ho_store 0 0 ⟨#[]⟩ ⟨#[]⟩ _ a1 hxa1
  have hxb1 := setRow_heap (c := #[.int .i64 0, .string ⟨#[]⟩]) hxa1
  have hbb1 : Below v1.heap.size v1 (a1.setRow v1.heap.size #[.int .i64 0, .string ⟨#[]⟩]) := setRow_below hba1 (Nat.le_refl _)
  obtain ⟨w1, hW1⟩ : ∃ W, a1.setRow v1.heap.size #[.int .i64 0, .string ⟨#[]⟩] = W := ⟨_, rfl⟩
  rw [hW1] at hst1 hxb1 hbb1
  have HB1 := Lib.hid (ext_trans HB0.out (ext_trans hb1 hbb1)); have HX1 := Lib.hid hxb1
  have HS1 := Lib.hid (ext_trans hb1 hbb1)
  clear hb1 hba1 hxa1 hbb1 hxb1 hW1
  go_wp2_with ((with_reducible show wpList _ _ _ (_ :: _) _ _); refine st_arr 24 v1.heap.size _ hst1 _ _ rfl rfl rfl rfl ?_)
  clear hst1 hA1
  have HF := Lib.hid HB1.out
  go_wp2
  go_ret
  exact ⟨rfl, HF.out⟩
set_option maxRecDepth 100000 in
set_option maxHeartbeats 8000000 in
theorem cases_other (s : ByteArray) (m : Int) (w : World) (hEn : HEnv w) (hs : s.size ≤ 200) {k : Nat} {t : List Nat} (hr : canonL (bytesN s) = .ok k t) (hk : k ≠ 1) : Calls Tryz.prog 3 #[.string s, .int .i64 m] w fun e w' => e = .returned (.bool true) ∧ Below w.heap.size w w' := by
  have SPK := Lib.hid (speaks13 w hEn)
  have u1 : decide ((200 : Int) < (s.size : Int)) = false := decide_eq_false (by omega)
  have u1' : decide (200 < s.size) = false := decide_eq_false (by omega)
  have HEN := Lib.hid hEn
  obtain ⟨T, hT⟩ : ∃ N, bytesL t = N := ⟨_, rfl⟩
  have CC := Lib.hid (fun W h => hc_ok s W (by omega) h hr)
  rw [hT] at CC
  have tk : ((k : Int) == 1) = false := beq_eq_false_iff_ne.2 (by omega)
  have tk2 : ((k : Int) != 1) = true := by rw [bne, tk]; rfl
  clear hr hT hk
  clear hEn hs
  go_enter Tryz.func3, Tryz.ntmps3
  go_wp2_with fail
  refine SPK.out.mono ?_
  rintro e w0 ⟨rfl, hb0⟩
  have HB0 := Lib.hid hb0
  clear hb0
  go_wp2_with fail
  refine (CC.out w0 (HEN.out.ext HB0.out)).mono ?_
  rintro e v1 ⟨hb1, rfl⟩
  obtain ⟨a1, hA1⟩ : ∃ W, v1.alloc (.cells #[.int .i64 0, .string ⟨#[]⟩] 24) = W := ⟨_, rfl⟩
  have hba1 : Below v1.heap.size v1 a1 := by rw [← hA1]; exact ext_alloc (Below.refl _ _) _
  have hxa1 : a1.heap[v1.heap.size]? = some (.cells (hostC 0 ⟨#[]⟩) 24 (0, 0)) := by rw [← hA1]; exact heap_alloc_new v1 _
  have hst1 : (storeVar 24 ⟨v1.heap.size, 0, none⟩ (.agg #[.int .i64 k, .string T])).run Tryz.prog a1 = .ok () (a1.setRow v1.heap.size #[.int .i64 k, .string T]) := ho_store k 0 T ⟨#[]⟩ _ a1 hxa1
  have hxb1 := setRow_heap (c := #[.int .i64 k, .string T]) hxa1
  have hbb1 : Below v1.heap.size v1 (a1.setRow v1.heap.size #[.int .i64 k, .string T]) := setRow_below hba1 (Nat.le_refl _)
  obtain ⟨w1, hW1⟩ : ∃ W, a1.setRow v1.heap.size #[.int .i64 k, .string T] = W := ⟨_, rfl⟩
  rw [hW1] at hst1 hxb1 hbb1
  have HB1 := Lib.hid (ext_trans HB0.out (ext_trans hb1 hbb1)); have HX1 := Lib.hid hxb1
  have HS1 := Lib.hid (ext_trans hb1 hbb1)
  clear hb1 hba1 hxa1 hbb1 hxb1 hW1
  have c10 : w1.cell? ⟨v1.heap.size, 0, none⟩ = some (.int .i64 k) := by rw [cell_of_row _ _ _ _ _ _ HX1.out]; rfl
  go_wp2_with ((with_reducible show wpList _ _ _ (_ :: _) _ _); refine st_arr 24 v1.heap.size _ hst1 _ _ rfl rfl rfl rfl ?_)
  clear hst1 hA1
  have HF := Lib.hid HB1.out
  go_wp2
  go_ret
  exact ⟨rfl, HF.out⟩
set_option maxRecDepth 100000 in
set_option maxHeartbeats 8000000 in
theorem cases_name (s : ByteArray) (m : Int) (w : World) (hEn : HEnv w) (hs : s.size ≤ 200) {t : List Nat} (hr : canonL (bytesN s) = .ok 1 t) : Calls Tryz.prog 3 #[.string s, .int .i64 m] w fun e w' => e = .returned (.bool true) ∧ Below w.heap.size w w' := by
  have SPK := Lib.hid (speaks13 w hEn)
  have u1 : decide ((200 : Int) < (s.size : Int)) = false := decide_eq_false (by omega)
  have u1' : decide (200 < s.size) = false := decide_eq_false (by omega)
  have HEN := Lib.hid hEn
  have hk1 := canon_ok hr
  have htn := canon_len hr
  have bt := bytesN_bytesL htn.2
  have hlow : ∀ c ∈ t, lowN c = c := by cases hk1 with | name n ts h hn => exact name_low h
  have hne : t ≠ [] := by cases hk1 with | name n ts h hn => exact h.pos
  obtain ⟨T, hT⟩ : ∃ N, bytesL t = N := ⟨_, rfl⟩
  have CC := Lib.hid (fun W h => hc_ok s W (by omega) h hr)
  rw [hT] at CC bt
  have hTz : T.size = t.length := by rw [← hT, bytesL_size]
  have hTm : T.size ≤ 1000 := by rw [hTz]; exact htn.1
  have hT0 : 0 < T.size := by rw [hTz]; exact List.length_pos_iff.2 hne
  have hTb : ∀ i, byteAt T i = t[i]?.getD 0 := fun i => by rw [byteAt_bytesN, bt]
  have hTl : ∀ i, lowN (byteAt T i) = byteAt T i := fun i => by
    rw [hTb]
    by_cases h : i < t.length
    · rw [List.getElem?_eq_getElem h]; exact hlow _ (List.getElem_mem h)
    · rw [List.getElem?_eq_none (by omega)]; rfl
  obtain ⟨f, hf⟩ : ∃ f : Nat → Nat, f = fun i => upN (bitB m i) (byteAt T i) := ⟨_, rfl⟩
  have hfl : ∀ i, lowN (f i) = byteAt T i := fun i => by rw [hf]; exact up_low (hTl i)
  -- the great text
  obtain ⟨gl, hgl⟩ : ∃ gl, (List.range t.length).map f = gl := ⟨_, rfl⟩
  have hglow : gl.map lowN = t := by
    rw [← hgl]
    refine List.ext_getElem (by simp) (fun i h1 h2 => ?_)
    simp only [List.getElem_map, List.getElem_range]
    rw [hfl, hTb, List.getElem?_eq_getElem h2]; rfl
  have hglen : gl.length = T.size := by rw [← hgl, hTz]; simp
  have hgb : ByteL gl := fun c hc => by
    have : lowN c ∈ t := by rw [← hglow]; exact List.mem_map_of_mem hc
    have h2 := htn.2 _ this
    unfold lowN at h2
    split at h2 <;> omega
  have hgi : ∀ i, i < T.size → gl[i]?.getD 0 = f i := fun i hi => by
    rw [← hgl, List.getElem?_map, List.getElem?_range (by omega)]; rfl
  have hgreat := canon_great hk1 hglow
  obtain ⟨G, hG⟩ : ∃ G, bytesL gl = G := ⟨_, rfl⟩
  have hGz : G.size = T.size := by rw [← hG, bytesL_size, hglen]
  have hGi : ∀ i, i < T.size → byteAt G i = f i := fun i hi => by rw [← hG, bytesL_byteAt hgb, hgi i hi]
  obtain ⟨GD, hGD⟩ : ∃ x, G ++ (⟨#[46]⟩ : ByteArray) = x := ⟨_, rfl⟩
  have hGDz : GD.size ≤ 1001 := by
    rw [← hGD, ByteArray.size_append]
    have e1 : (⟨#[46]⟩ : ByteArray).size = 1 := rfl
    omega
  have hGDb : bytesN GD = gl ++ [46] := by rw [← hGD, bytesN_plus, ← hG, bytesN_bytesL hgb]; rfl
  rw [← hGDb] at hgreat
  have CG := Lib.hid (fun W h => hc_ok GD W (by omega) h hgreat)
  rw [hT] at CG
  -- the escaped text
  have ha16 := and_low16 m
  obtain ⟨r, hr16⟩ : ∃ r : Nat, m % 65536 = (r : Int) := ⟨(m % 65536).toNat, by omega⟩
  rw [hr16] at ha16
  obtain ⟨p, hp⟩ : ∃ p, r % T.size = p := ⟨_, rfl⟩
  have hpT : p < T.size := by rw [← hp]; exact Nat.mod_lt _ hT0
  have hrem : Int.tmod (r : Int) (T.size : Int) = (p : Nat) := by
    rw [Int.tmod_eq_emod_of_nonneg (by omega), ← hp]; rfl
  obtain ⟨c, hc⟩ : ∃ c, byteAt T p = c := ⟨_, rfl⟩
  have hc256 : c < 256 := by rw [← hc]; exact byteAt_lt T p
  have hI0 : ∀ W, (Instr.index 9 (.string T) (.int .i64 (p : Int))).run Tryz.prog W = .ok (.int .u8 (c : Nat)) W := fun W => by
    rw [run_index_string _ _ _ _ _ Tryz.underlying9, dif_pos ⟨by omega, by omega⟩]
    simp only [Int.toNat_natCast]
    rw [← byteAt_get T p hpT, hc]
  obtain ⟨x, hx⟩ : ∃ x, c / 16 = x := ⟨_, rfl⟩
  obtain ⟨y, hy⟩ : ∃ y, c % 16 = y := ⟨_, rfl⟩
  have hsh : (c : Int) / 16 = (x : Nat) := by rw [← hx]; rfl
  have han : bits .and .u8 (c : Int) 15 = (y : Nat) := by rw [← hy]; exact and_low4 c hc256
  have hI1 := lx_at x (by omega)
  have hI2 := ux_at y (by omega)
  have hlx : lxH x < 128 := by unfold lxH; split <;> omega
  have hux : uxH y < 128 := by unfold uxH; split <;> omega
  have hv := esc_hex hc256 (t.drop (p + 1))
  rw [hx, hy] at hv
  have hsplit : t = t.take p ++ c :: t.drop (p + 1) := by
    have h1 : t.drop p = c :: t.drop (p + 1) := by
      rw [List.drop_eq_getElem_cons (by omega)]
      have h2 := hTb p
      rw [hc, List.getElem?_eq_getElem (by omega)] at h2
      rw [h2]; rfl
    rw [← h1, List.take_append_drop]
  have hesc := canon_escaped hk1 hsplit hv
  obtain ⟨X, hX⟩ : ∃ X, lxH x = X := ⟨_, rfl⟩
  obtain ⟨Y, hY⟩ : ∃ Y, uxH y = Y := ⟨_, rfl⟩
  rw [hX] at hI1 hlx hesc
  rw [hY] at hI2 hux hesc
  obtain ⟨A, hA⟩ : ∃ A, T.extract 0 p = A := ⟨_, rfl⟩
  obtain ⟨R, hR⟩ : ∃ R, T.extract (p + 1) T.size = R := ⟨_, rfl⟩
  have hS1 := sl_to T p (by omega) A hA
  have hS2 := sl_from T (p + 1) (by omega) R hR
  have hAl : A = bytesL (t.take p) := by rw [← hA, extract_bytesL, bt]; simp
  have hRl : R = bytesL (t.drop (p + 1)) := by
    rw [← hR, extract_bytesL, bt, List.take_of_length_le (by rw [List.length_drop]; omega)]
  have hAz : A.size ≤ 1000 := by rw [hAl, bytesL_size, List.length_take]; omega
  have hRz : R.size ≤ 1000 := by rw [hRl, bytesL_size, List.length_drop]; omega
  obtain ⟨U1, hU1⟩ : ∃ U, bytesL [X] = U := ⟨_, rfl⟩
  obtain ⟨U2, hU2⟩ : ∃ U, bytesL [Y] = U := ⟨_, rfl⟩
  have hC1 : ∀ W, (convert 5 9 (.int .u8 (X : Nat))).run Tryz.prog W = .ok (.string U1) W := fun W => by rw [← hU1]; exact one_text X hlx W
  have hC2 : ∀ W, (convert 5 9 (.int .u8 (Y : Nat))).run Tryz.prog W = .ok (.string U2) W := fun W => by rw [← hU2]; exact one_text Y hux W
  have hU1z : U1.size = 1 := by rw [← hU1]; rfl
  have hU2z : U2.size = 1 := by rw [← hU2]; rfl
  obtain ⟨A1, hA1⟩ : ∃ x, A ++ (⟨#[37]⟩ : ByteArray) = x := ⟨_, rfl⟩
  obtain ⟨A2, hA2⟩ : ∃ x, A1 ++ U1 = x := ⟨_, rfl⟩
  obtain ⟨A3, hA3⟩ : ∃ x, A2 ++ U2 = x := ⟨_, rfl⟩
  obtain ⟨Z, hZ⟩ : ∃ x, A3 ++ R = x := ⟨_, rfl⟩
  have hA1z : A1.size ≤ 1001 := by
    rw [← hA1, ByteArray.size_append]
    have e1 : (⟨#[37]⟩ : ByteArray).size = 1 := rfl
    omega
  have hA2z : A2.size ≤ 1002 := by rw [← hA2, ByteArray.size_append]; omega
  have hA3z : A3.size ≤ 1003 := by rw [← hA3, ByteArray.size_append]; omega
  have hZz : Z.size ≤ 2003 := by rw [← hZ, ByteArray.size_append]; omega
  have hZb : bytesN Z = t.take p ++ 37 :: X :: Y :: t.drop (p + 1) := by
    have hb1 : ByteL (t.take p) := fun d hd => htn.2 d (List.mem_of_mem_take hd)
    have hb2 : ByteL (t.drop (p + 1)) := fun d hd => htn.2 d (List.mem_of_mem_drop hd)
    have hb3 : ByteL [X] := fun d hd => by rw [List.mem_singleton.1 hd]; omega
    have hb4 : ByteL [Y] := fun d hd => by rw [List.mem_singleton.1 hd]; omega
    rw [← hZ, ← hA3, ← hA2, ← hA1, bytesN_plus, bytesN_plus, bytesN_plus, bytesN_plus, hAl, hRl, ← hU1, ← hU2, bytesN_bytesL hb1, bytesN_bytesL hb2, bytesN_bytesL hb3, bytesN_bytesL hb4]
    simp [bytesN]
  rw [← hZb] at hesc
  have CZ := Lib.hid (fun W h => hc_ok Z W (by omega) h hesc)
  rw [hT] at CZ
  have tT := beqS_t (rfl : T = T)
  have HGI := Lib.hid hGi; have HFE := Lib.hid (fun i => congrFun hf i)
  have H := Lib.hid (And.intro hGz (And.intro hGDz hZz))
  have E1 := Lib.hid ha16; have E2 := Lib.hid hrem; have E3 := Lib.hid hI0; have E4 := Lib.hid hsh; have E5 := Lib.hid han; have E6 := Lib.hid hI1; have E7 := Lib.hid hI2; have E8 := Lib.hid hS1; have E9 := Lib.hid hS2; have E10 := Lib.hid hC1; have E11 := Lib.hid hC2; have E12 := Lib.hid (And.intro hA1 (And.intro hA2 (And.intro hA3 hZ))); have E13 := Lib.hid hGD; have E14 := Lib.hid tT
  clear hf hgl hglow hglen hgb hgi hgreat hG hGz hGi hGD hGDz hGDb ha16 hr16 hp hrem hc hc256 hI0 hx hy hsh han hI1 hI2 hlx hux hv hsplit hesc hX hY hA hR hS1 hS2 hAl hRl hU1 hU2 hC1 hC2 hA1 hA2 hA3 hZ hZb hk1 htn bt hlow hne hr hT hTz hTb hTl hfl tT hZz
  clear hEn hs
  go_enter Tryz.func3, Tryz.ntmps3
  go_wp2_with fail
  refine SPK.out.mono ?_
  rintro e w0 ⟨rfl, hb0⟩
  have HB0 := Lib.hid hb0
  clear hb0
  go_wp2_with fail
  refine (CC.out w0 (HEN.out.ext HB0.out)).mono ?_
  rintro e v1 ⟨hb1, rfl⟩
  obtain ⟨a1, hA1⟩ : ∃ W, v1.alloc (.cells #[.int .i64 0, .string ⟨#[]⟩] 24) = W := ⟨_, rfl⟩
  have hba1 : Below v1.heap.size v1 a1 := by rw [← hA1]; exact ext_alloc (Below.refl _ _) _
  have hxa1 : a1.heap[v1.heap.size]? = some (.cells (hostC 0 ⟨#[]⟩) 24 (0, 0)) := by rw [← hA1]; exact heap_alloc_new v1 _
  have hst1 : (storeVar 24 ⟨v1.heap.size, 0, none⟩ (.agg #[.int .i64 1, .string T])).run Tryz.prog a1 = .ok () (a1.setRow v1.heap.size #[.int .i64 1, .string T]) := ho_store 1 0 T ⟨#[]⟩ _ a1 hxa1
  have hxb1 := setRow_heap (c := #[.int .i64 1, .string T]) hxa1
  have hbb1 : Below v1.heap.size v1 (a1.setRow v1.heap.size #[.int .i64 1, .string T]) := setRow_below hba1 (Nat.le_refl _)
  obtain ⟨w1, hW1⟩ : ∃ W, a1.setRow v1.heap.size #[.int .i64 1, .string T] = W := ⟨_, rfl⟩
  rw [hW1] at hst1 hxb1 hbb1
  have HB1 := Lib.hid (ext_trans HB0.out (ext_trans hb1 hbb1)); have HX1 := Lib.hid hxb1
  have HS1 := Lib.hid (ext_trans hb1 hbb1)
  clear hb1 hba1 hxa1 hbb1 hxb1 hW1
  have c10 : w1.cell? ⟨v1.heap.size, 0, none⟩ = some (.int .i64 1) := by rw [cell_of_row _ _ _ _ _ _ HX1.out]; rfl
  have c11 : w1.cell? ⟨v1.heap.size, 1, none⟩ = some (.string T) := by rw [cell_of_row _ _ _ _ _ _ HX1.out]; rfl
  obtain ⟨cap, W0, hcv, hcap, L0⟩ := rw_start f T w1
  have HL0 := Lib.hid L0
  clear L0
  go_wp2_with ((with_reducible show wpList _ _ _ (_ :: _) _ _); refine st_arr 24 v1.heap.size _ hst1 _ _ rfl rfl rfl rfl ?_)
  clear hst1 hA1
  go_wp2_with fail
  go_loopw [40] (RwRel f T w1 w1.heap.size) (fun i _ => T.size - (intOf i).toNat)
  case atStart => exact ⟨0, rfl, Nat.zero_le _, HL0.out⟩
  case round =>
    obtain ⟨j, rfl, hj, hA⟩ := hrel
    have HA := Lib.hid hA
    by_cases hlt : j < T.size
    · have t1 : decide ((j : Int) < (T.size : Int)) = true := decide_eq_true (by omega)
      have t1' : decide (j < T.size) = true := decide_eq_true hlt
      have q1 : IntKind.i64.wrap ((j : Int) + 1) = (j : Int) + 1 := IntWalk.i64_in _ (by omega)
      have c0 := hA.cell j hlt
      have f0 := hA.fz j hlt
      have e0 : rwA f T j j = byteAt T j := by unfold rwA; rw [if_neg (by omega)]
      rw [e0] at c0
      have hp := hA.put hlt
      have hk := hA.keep
      have hfj : f j = upN (bitB m j) (byteAt T j) := HFE.out j
      have b5 := and_low5 j (by omega)
      obtain ⟨q, hq⟩ : ∃ q, j % 32 = q := ⟨_, rfl⟩
      have hq32 : q < 32 := by omega
      rw [hq] at b5
      have qw : IntKind.u64.wrap (q : Int) = q := IntWalk.u64_in _ (by omega)
      obtain ⟨β, hβ⟩ : ∃ β, bitB m j = β := ⟨_, rfl⟩
      rw [hβ] at hfj
      have tβ : (bits .and .i64 (m / 2 ^ q) 1 == 1) = β := by rw [← hβ]; unfold bitB; rw [hq]
      have hcb := byteAt_lt T j
      clear hβ hq e0
      obtain ⟨d, hd⟩ : ∃ d, byteAt T j = d := ⟨_, rfl⟩
      rw [hd] at hk hfj c0 hcb
      clear hd
      by_cases h1 : 97 ≤ d
      · have t2 : decide ((97 : Int) ≤ (d : Int)) = true := decide_eq_true (by omega)
        by_cases h2 : d ≤ 122
        · have t3 : decide ((d : Int) ≤ 122) = true := decide_eq_true (by omega)
          cases β with
          | true =>
            have hfd : f j = d - 32 := by rw [hfj]; unfold upN; rw [if_pos ⟨h1, h2, rfl⟩]
            obtain ⟨g, hg⟩ : ∃ g, d - 32 = g := ⟨_, rfl⟩
            rw [hfd, hg] at hp
            have qs : IntKind.u8.wrap ((d : Int) - 32) = (g : Nat) := by rw [IntWalk.u8_in _ (by omega)]; omega
            have R1 : RwRel f T w1 w1.heap.size (.int .i64 ((j : Int) + 1)) (wr.setCell ⟨w1.heap.size, j, none⟩ (.int .u8 (g : Nat))) := ⟨j + 1, by go_num, hlt, hp⟩
            have HR1 := Lib.hid R1
            clear R1 hp hk hA hfj hfd hg
            go_wp2
            refine ⟨?_, by simp [intOf]; omega⟩
            have R := HR1.out
            first | exact R | ((repeat apply Exists.intro); exact ⟨R, rfl⟩)
          | false =>
            have R1 : RwRel f T w1 w1.heap.size (.int .i64 ((j : Int) + 1)) wr := ⟨j + 1, by go_num, hlt, hk (by rw [hfj]; unfold upN; rw [if_neg (by simp)])⟩
            have HR1 := Lib.hid R1
            clear R1 hp hk hA hfj
            go_wp2
            refine ⟨?_, by simp [intOf]; omega⟩
            have R := HR1.out
            first | exact R | ((repeat apply Exists.intro); exact ⟨R, rfl⟩)
        · have t3 : decide ((d : Int) ≤ 122) = false := decide_eq_false (by omega)
          have R1 : RwRel f T w1 w1.heap.size (.int .i64 ((j : Int) + 1)) wr := ⟨j + 1, by go_num, hlt, hk (by rw [hfj]; unfold upN; rw [if_neg (by omega)])⟩
          have HR1 := Lib.hid R1
          clear R1 hp hk hA hfj
          go_wp2
          refine ⟨?_, by simp [intOf]; omega⟩
          have R := HR1.out
          first | exact R | ((repeat apply Exists.intro); exact ⟨R, rfl⟩)
      · have t2 : decide ((97 : Int) ≤ (d : Int)) = false := decide_eq_false (by omega)
        have R1 : RwRel f T w1 w1.heap.size (.int .i64 ((j : Int) + 1)) wr := ⟨j + 1, by go_num, hlt, hk (by rw [hfj]; unfold upN; rw [if_neg (by omega)])⟩
        have HR1 := Lib.hid R1
        clear R1 hp hk hA hfj
        go_wp2
        refine ⟨?_, by simp [intOf]; omega⟩
        have R := HR1.out
        first | exact R | ((repeat apply Exists.intro); exact ⟨R, rfl⟩)
    · have t1 : decide ((j : Int) < (T.size : Int)) = false := decide_eq_false (by omega)
      have t1' : decide (j < T.size) = false := decide_eq_false hlt
      obtain rfl : j = T.size := by omega
      have cvn : ∀ n, (convert 29 9 (.slice (some ⟨w1.heap.size, 0, none⟩) T.size cap)).run Tryz.prog (wr.drewN n) = .ok (.string G) (wr.drewN n) := fun n => bytes_back (wr.drewN n) w1.heap.size 0 T.size cap G H.out.1 (fun i hi => by
        rw [Nat.zero_add, HGI.out i hi]
        exact (hA.cell i hi).trans (by unfold rwA; rw [if_pos hi]))
      have CVN := Lib.hid cvn
      have hbw : Below w.heap.size w wr := ext_trans HB1.out hA.below
      have hx1 : wr.heap[v1.heap.size]? = some (.cells #[.int .i64 1, .string T] 24 (0, 0)) := (hA.below.block _ (heap_lt HX1.out)).trans HX1.out
      have CGN : Hid (∀ n, Calls Tryz.prog 15 #[.string GD] (wr.drewN n) fun e w' => Below wr.heap.size wr w' ∧ e = .returned (.tuple #[.agg #[.int .i64 (1 : Nat), .string T], .nilIface])) := Lib.hid (fun n => (CG.out _ (HEN.out.ext (ext_drewN n hbw))).mono fun e w' h => ⟨ext_trans (ext_drewN n (Below.refl _ wr)) h.1, h.2⟩)
      have HBW := Lib.hid hbw
      have HXW := Lib.hid hx1
      have hgz := H.out.1
      have hgdz := H.out.2.1
      have ha16 := E1.out; have hrem := E2.out
      have hT0' : ((T.size : Int) == 0) = false := beq_eq_false_iff_ne.2 (by omega)
      have hpw : IntKind.i64.wrap (p : Int) = (p : Int) := IntWalk.i64_in _ (by omega)
      clear hA hlt hj hbw hx1 cvn c10 c11 hcv HB1 HX1 HS1 HL0 CG
      have HB1 := HBW
      go_wp2_with fail
      have hI0 := E3.out; have hsh := E4.out; have han := E5.out; have hI1 := E6.out; have hI2 := E7.out; have hS1 := E8.out; have hC1 := E10.out; have hC2 := E11.out
      have hS2 : ∀ W, (Instr.slice 9 (.string T) (some (.int .i64 ((p : Int) + 1))) none none).run Tryz.prog W = .ok (.string R) W := E9.out
      have hp1 : IntKind.i64.wrap ((p : Int) + 1) = (p : Int) + 1 := IntWalk.i64_in _ (by omega)
      have hA1 := E12.out.1; have hA2 := E12.out.2.1; have hA3 := E12.out.2.2.1; have hZ := E12.out.2.2.2
      clear ha16 hrem hT0' hpw hgz
      go_quiet (fail)
      clear hI0 hsh han hI1 hI2 hS1 hS2 hC1 hC2 hp1 hA1 hA2 hA3 hZ
      have cv := CVN.out
      have hgd := E13.out
      have hgz := H.out.1
      go_wp2_with fail
      refine (CGN.out _).mono ?_
      rintro e v2 ⟨hb2, rfl⟩
      clear cv hgd hgz hgdz
      obtain ⟨a2, hA2⟩ : ∃ W, v2.alloc (.cells #[.int .i64 0, .string ⟨#[]⟩] 24) = W := ⟨_, rfl⟩
      have hba2 : Below v2.heap.size v2 a2 := by rw [← hA2]; exact ext_alloc (Below.refl _ _) _
      have hxa2 : a2.heap[v2.heap.size]? = some (.cells (hostC 0 ⟨#[]⟩) 24 (0, 0)) := by rw [← hA2]; exact heap_alloc_new v2 _
      have hst2 : (storeVar 24 ⟨v2.heap.size, 0, none⟩ (.agg #[.int .i64 1, .string T])).run Tryz.prog a2 = .ok () (a2.setRow v2.heap.size #[.int .i64 1, .string T]) := ho_store 1 0 T ⟨#[]⟩ _ a2 hxa2
      have hxb2 := setRow_heap (c := #[.int .i64 1, .string T]) hxa2
      have hbb2 : Below v2.heap.size v2 (a2.setRow v2.heap.size #[.int .i64 1, .string T]) := setRow_below hba2 (Nat.le_refl _)
      obtain ⟨w2, hW2⟩ : ∃ W, a2.setRow v2.heap.size #[.int .i64 1, .string T] = W := ⟨_, rfl⟩
      rw [hW2] at hst2 hxb2 hbb2
      have HB2 := Lib.hid (ext_trans HB1.out (ext_trans hb2 hbb2)); have HX2 := Lib.hid hxb2
      have HS2 := Lib.hid (ext_trans hb2 hbb2)
      clear hb2 hba2 hxa2 hbb2 hxb2 hW2
      go_wp2_with ((with_reducible show wpList _ _ _ (_ :: _) _ _); refine st_arr 24 v2.heap.size _ hst2 _ _ rfl rfl rfl rfl ?_)
      clear hst2 hA2
      go_wp2_with fail
      refine (CZ.out w2 (HEN.out.ext HB2.out)).mono ?_
      rintro e v3 ⟨hb3, rfl⟩
      obtain ⟨a3, hA3⟩ : ∃ W, v3.alloc (.cells #[.int .i64 0, .string ⟨#[]⟩] 24) = W := ⟨_, rfl⟩
      have hba3 : Below v3.heap.size v3 a3 := by rw [← hA3]; exact ext_alloc (Below.refl _ _) _
      have hxa3 : a3.heap[v3.heap.size]? = some (.cells (hostC 0 ⟨#[]⟩) 24 (0, 0)) := by rw [← hA3]; exact heap_alloc_new v3 _
      have hst3 : (storeVar 24 ⟨v3.heap.size, 0, none⟩ (.agg #[.int .i64 1, .string T])).run Tryz.prog a3 = .ok () (a3.setRow v3.heap.size #[.int .i64 1, .string T]) := ho_store 1 0 T ⟨#[]⟩ _ a3 hxa3
      have hxb3 := setRow_heap (c := #[.int .i64 1, .string T]) hxa3
      have hbb3 : Below v3.heap.size v3 (a3.setRow v3.heap.size #[.int .i64 1, .string T]) := setRow_below hba3 (Nat.le_refl _)
      obtain ⟨w3, hW3⟩ : ∃ W, a3.setRow v3.heap.size #[.int .i64 1, .string T] = W := ⟨_, rfl⟩
      rw [hW3] at hst3 hxb3 hbb3
      have HB3 := Lib.hid (ext_trans HB2.out (ext_trans hb3 hbb3)); have HX3 := Lib.hid hxb3
      have HS3 := Lib.hid (ext_trans hb3 hbb3)
      clear hb3 hba3 hxa3 hbb3 hxb3 hW3
      have hw3 : Below wr.heap.size wr w3 := ext_trans HS2.out HS3.out
      have l1 : (loadVar 24 ⟨v1.heap.size, 0, none⟩).run Tryz.prog w3 = .ok (.agg #[.int .i64 1, .string T]) w3 := ho_load 1 T v1.heap.size w3 ((hw3.block _ (heap_lt HXW.out)).trans HXW.out)
      have l2 : (loadVar 24 ⟨v2.heap.size, 0, none⟩).run Tryz.prog w3 = .ok (.agg #[.int .i64 1, .string T]) w3 := ho_load 1 T v2.heap.size w3 ((HS3.out.block _ (heap_lt HX2.out)).trans HX2.out)
      have l3 : (loadVar 24 ⟨v3.heap.size, 0, none⟩).run Tryz.prog w3 = .ok (.agg #[.int .i64 1, .string T]) w3 := ho_load 1 T v3.heap.size w3 HX3.out
      have HF := Lib.hid HB3.out
      have tT := E14.out
      clear hw3
      go_wp2_with ((with_reducible show wpList _ _ _ (_ :: _) _ _); first | (refine st_arr 24 v3.heap.size _ hst3 _ _ rfl rfl rfl rfl ?_) | (refine ld_arr 24 v1.heap.size _ l1 _ rfl rfl rfl ?_) | (refine ld_arr 24 v2.heap.size _ l2 _ rfl rfl rfl ?_) | (refine ld_arr 24 v3.heap.size _ l3 _ rfl rfl rfl ?_) | (refine ld_arrG 24 v1.heap.size _ l1 _ rfl rfl rfl ?_) | (refine ld_arrG 24 v2.heap.size _ l2 _ rfl rfl rfl ?_) | (refine ld_arrG 24 v3.heap.size _ l3 _ rfl rfl rfl ?_))
      go_ret
      exact ⟨rfl, HF.out⟩
/-- waybilllaw13.HostCases -/
theorem hostCases_any (s : ByteArray) (m : Int) (w : World) (hEn : HEnv w) : Calls Tryz.prog 3 #[.string s, .int .i64 m] w fun e w' => e = .returned (.bool true) ∧ Below w.heap.size w w' := by
  by_cases h : 200 < s.size
  · exact cases_long s m w hEn h
  · cases hr : canonL (bytesN s) with
    | er l => exact cases_er s m w hEn (by omega) hr
    | ok k t =>
      by_cases hk : k = 1
      · subst hk; exact cases_name s m w hEn (by omega) hr
      · exact cases_other s m w hEn (by omega) hr hk
end Go.Proofs.YtbeodjipdpcaiaaGreatDoor
