/- fold.written at base 16, two digits: the walk.  -/
import Derived.Test.YtmhfbdeeebbloaaDoorQuo3
namespace Go.Proofs.YtmhfbdeeebbloaaDoor
open Go.RowKit
def figU : List Nat := [48, 49, 50, 51, 52, 53, 54, 55, 56, 57, 65, 66, 67, 68, 69, 70]
theorem figU_at : ∀ d : Fin 16, figU[d.val]? = some (hexU d.val) := by decide
structure WrAt (n : Nat) (w : World) (r m : Nat) (arr : Array Value) (wr : World) : Prop where
  box : wr.heap[w.heap.size]? = some (.cells arr 164 (0, 0))
  size : arr.size = 64
  below : Below w.heap.size w wr
  val : m = n / 16 ^ r
  one : 1 ≤ r → arr[63]? = some (.int .u8 (hexU (n % 16) : Nat))
  two : 2 ≤ r → arr[62]? = some (.int .u8 (hexU (n / 16 % 16) : Nat))
def WrRel2 (n : Nat) (w : World) (nv av : Value) (wr : World) : Prop := ∃ r m arr, nv = .int .u64 (m : Nat) ∧ av = .int .i64 ((64 - r : Nat) : Int) ∧ r ≤ 2 ∧ WrAt n w r m arr wr
theorem WrAt.cell {n r m : Nat} {w wr : World} {arr : Array Value} (h : WrAt n w r m arr wr) (j : Nat) (hj : j < 64) : ∃ x, wr.cell? ⟨w.heap.size, j, none⟩ = some x := by
  have hs := h.size
  refine ⟨arr[j], ?_⟩
  simp [World.cell?, h.box]
theorem WrAt.frozen {n r m : Nat} {w wr : World} {arr : Array Value} (h : WrAt n w r m arr wr) (j : Nat) : wr.frozen? ⟨w.heap.size, j, none⟩ = false := Go.Joins.unfrozen_of_block h.box j
theorem WrAt.step {n r m : Nat} {w wr : World} {arr : Array Value} (h : WrAt n w r m arr wr) (hr : r < 2) : WrRel2 n w (.int .u64 ((m / 16 : Nat) : Int)) (.int .i64 ((64 - (r + 1) : Nat) : Int)) (wr.setCell ⟨w.heap.size, 63 - r, none⟩ (.int .u8 (hexU (m % 16) : Nat))) := by
  have hs := h.size
  have hb := Go.Joins.block_setCell h.box (i := 63 - r) (.int .u8 (hexU (m % 16) : Nat))
  refine ⟨r + 1, m / 16, _, rfl, rfl, hr, ⟨hb, by simp [hs], h.below.setCell (Nat.le_refl _) _, by rw [h.val, Nat.pow_succ, Nat.div_div_eq_div_mul], fun _ => ?_, fun h2 => ?_⟩⟩
  · have hc : r = 0 ∨ r = 1 := by omega
    rcases hc with rfl | rfl
    · have := h.val
      simp at this
      subst this
      simp [hs]
    · have := h.one (by omega)
      simp [this]
  · obtain rfl : r = 1 := by omega
    have := h.val
    simp at this
    subst this
    simp [hs]
set_option maxRecDepth 100000 in
set_option maxHeartbeats 16000000 in
theorem written2_any (n : Nat) (w : World) (hn : n < 256) :
    Calls Tryd.prog 72 #[.int .u64 n, .int .u64 16, .int .i64 2] w fun e w' => e = .returned (.string ⟨#[UInt8.ofNat (hexU (n / 16)), UInt8.ofNat (hexU (n % 16))]⟩) ∧ Below w.heap.size w w' := by
  go_enter Tryd.func72, Tryd.ntmps72
  go_wp2_with fail
  go_loopw [0, 8] (WrRel2 n w) (fun _ a _ => (intOf a).toNat)
  case atStart => exact ⟨0, n, _, rfl, rfl, by decide, ⟨heap_alloc_new w _, rfl, ext_alloc (Below.refl _ _) _, by simp, fun h => by omega, fun h => by omega⟩⟩
  case round =>
    obtain ⟨r, m, arr, rfl, rfl, hr, hA⟩ := hrel
    have hL := (Array.getElem?_eq_some_iff.1 hA.box).1
    obtain ⟨S, hS⟩ : ∃ S : ByteArray, (⟨#[48, 49, 50, 51, 52, 53, 54, 55, 56, 57, 65, 66, 67, 68, 69, 70]⟩ : ByteArray) = S := ⟨_, rfl⟩
    have hzS : S.size = 16 := by rw [← hS]; rfl
    have HN : Hid (∀ d (h : d < S.size), (S[d]'h).toNat = hexU d) := Lib.hid (by
      subst hS
      intro d h
      have h' : d < 16 := h
      revert h
      have hj : d = 0 ∨ d = 1 ∨ d = 2 ∨ d = 3 ∨ d = 4 ∨ d = 5 ∨ d = 6 ∨ d = 7 ∨ d = 8 ∨ d = 9 ∨ d = 10 ∨ d = 11 ∨ d = 12 ∨ d = 13 ∨ d = 14 ∨ d = 15 := by omega
      rcases hj with rfl | rfl | rfl | rfl | rfl | rfl | rfl | rfl | rfl | rfl | rfl | rfl | rfl | rfl | rfl | rfl <;> exact fun _ => rfl)
    have HA := Lib.hid hA
    have hmv := hA.val
    have hm : m < 256 := by
      have : n / 16 ^ r ≤ n := Nat.div_le_self _ _
      omega
    have hr' : r = 0 ∨ r = 1 ∨ r = 2 := by omega
    rw [hS]
    have HS := Lib.hid hzS
    clear hA hS hzS hmv
    have hi1 : m % 16 < S.size := by rw [HS.out]; omega
    have hi2 : (m : Int) % 16 < (S.size : Int) := by rw [HS.out]; omega
    have hi3 : ((m : Int) % 16).toNat = m % 16 := by omega
    have hgx : (S[m % 16]'hi1).toNat = hexU (m % 16) := HN.out _ hi1
    have hm0 : r = 2 → m = 0 := fun e => by have := HA.out.val; rw [e] at this; omega
    rcases hr' with rfl | rfl | rfl
    · obtain ⟨x, hx⟩ := HA.out.cell 63 (by decide)
      have hf := HA.out.frozen 63
      have HST := HA.out.step (by decide)
      clear hm0
      rcases Nat.eq_zero_or_pos m with rfl | h0
      · have hz : S.size = 16 := HS.out
        have hg0 : (S[0]'(by omega)).toNat = hexU 0 := hgx
        have hi0 : 0 < S.size := by omega
        have HST := Lib.hid HST
        have HG := Lib.hid hg0
        clear hg0 hgx hi2 hi3
        have HSZ := Lib.hid hz
        clear hz
        go_wp2
        rw [HG.out]
        refine ⟨?_, by simp [intOf]⟩
        have R := HST.out
        first | exact R | ((repeat apply Exists.intro); exact ⟨R, rfl⟩)
      · have t1 : decide ((0 : Int) < (m : Int)) = true := decide_eq_true (by omega)
        have t1' : decide (0 < m) = true := decide_eq_true h0
        rw [show ((m / 16 : Nat) : Int) = (m : Int) / 16 by omega] at HST
        have HST := Lib.hid HST
        have HG := Lib.hid hgx
        clear hgx h0
        go_wp2
        rw [HG.out]
        refine ⟨?_, by simp [intOf]⟩
        have R := HST.out
        first | exact R | ((repeat apply Exists.intro); exact ⟨R, rfl⟩)
    · obtain ⟨x, hx⟩ := HA.out.cell 62 (by decide)
      have hf := HA.out.frozen 62
      have HST := HA.out.step (by decide)
      clear hm0
      rcases Nat.eq_zero_or_pos m with rfl | h0
      · have hz : S.size = 16 := HS.out
        have hg0 : (S[0]'(by omega)).toNat = hexU 0 := hgx
        have hi0 : 0 < S.size := by omega
        have HST := Lib.hid HST
        have HG := Lib.hid hg0
        clear hg0 hgx hi2 hi3
        have HSZ := Lib.hid hz
        clear hz
        go_wp2
        rw [HG.out]
        refine ⟨?_, by simp [intOf]⟩
        have R := HST.out
        first | exact R | ((repeat apply Exists.intro); exact ⟨R, rfl⟩)
      · have t1 : decide ((0 : Int) < (m : Int)) = true := decide_eq_true (by omega)
        have t1' : decide (0 < m) = true := decide_eq_true h0
        rw [show ((m / 16 : Nat) : Int) = (m : Int) / 16 by omega] at HST
        have HST := Lib.hid HST
        have HG := Lib.hid hgx
        clear hgx h0
        go_wp2
        rw [HG.out]
        refine ⟨?_, by simp [intOf]⟩
        have R := HST.out
        first | exact R | ((repeat apply Exists.intro); exact ⟨R, rfl⟩)
    · obtain rfl := hm0 rfl
      have h1 := HA.out.one (by decide)
      have h2 := HA.out.two (by decide)
      have hd : n / 16 % 16 = n / 16 := Nat.mod_eq_of_lt (by omega)
      rw [hd] at h2
      have hu : ∀ d, d < 16 → (UInt8.ofNat (hexU d)).toNat = hexU d := fun d h => by
        have : hexU d < 256 := by unfold hexU; split <;> omega
        simp; omega
      have e1 := hu (n / 16) (by omega)
      have e2 := hu (n % 16) (by omega)
      have cv := bytes_back wr w.heap.size 62 2 2 ⟨#[UInt8.ofNat (hexU (n / 16)), UInt8.ofNat (hexU (n % 16))]⟩ rfl (fun j hj => by
        have hc : j = 0 ∨ j = 1 := by omega
        rcases hc with rfl | rfl
        · have : byteAt ⟨#[UInt8.ofNat (hexU (n / 16)), UInt8.ofNat (hexU (n % 16))]⟩ 0 = hexU (n / 16) := e1
          rw [this]; simp [World.cell?, HA.out.box, h2]
        · have : byteAt ⟨#[UInt8.ofNat (hexU (n / 16)), UInt8.ofNat (hexU (n % 16))]⟩ 1 = hexU (n % 16) := e2
          rw [this]; simp [World.cell?, HA.out.box, h1])
      have HB := Lib.hid HA.out.below
      clear hgx h1 h2 hd hu e1 e2 hm0
      go_wp2
      go_ret
      exact ⟨rfl, HB.out⟩
set_option maxRecDepth 100000 in
theorem hexdig2_any (n : Nat) (w : World) (hn : n < 256) :
    Calls Tryd.prog 33 #[.int .u64 n, .int .i64 2] w fun e w' => e = .returned (.string ⟨#[UInt8.ofNat (hexU (n / 16)), UInt8.ofNat (hexU (n % 16))]⟩) ∧ Below w.heap.size w w' := by
  have HW := Lib.hid (written2_any n w hn)
  clear hn
  go_enter Tryd.func33, Tryd.ntmps33
  go_wp2_with fail
  refine HW.out.mono ?_
  rintro e w1 ⟨rfl, hb⟩
  have HB := Lib.hid hb
  clear hb
  go_wp2
  go_ret
  exact ⟨rfl, HB.out⟩
end Go.Proofs.YtmhfbdeeebbloaaDoor
