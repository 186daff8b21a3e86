/- ident.Print at a text that tells a fingerprint: walked. -/
import Derived.Test.YtmhfbdeeebbloaaDoorIdp0
import Derived.Test.YtmhfbdeeebbloaaDoorFoldW
import Derived.Test.YtmhfbdeeebbloaaDoorConv0
import Derived.Test.YtmhfbdeeebbloaaDoorIdent2
namespace Go.Proofs.YtmhfbdeeebbloaaDoor
open Go.RowKit
set_option maxRecDepth 100000 in
theorem hexDigit_any (c : Nat) (hc : c < 256) (w : World) : Calls Tryd.prog 37 #[.int .u8 c] w fun e w' => e = .returned (.bool (decide (digV c < 16))) ∧ Below w.heap.size w w' := by
  obtain ⟨W1, hW1⟩ : ∃ W, w.alloc (.cells #[.int .u8 c] 5) = W := ⟨_, rfl⟩
  have b1 : Below w.heap.size w W1 := by rw [← hW1]; exact ext_alloc (Below.refl _ _) _
  have hz : w.heap.size < W1.heap.size := by rw [← hW1]; simp
  have cv : (convert 26 9 (.slice (some ⟨w.heap.size, 0, none⟩) 1 1)).run Tryd.prog W1 = .ok (.string ⟨#[UInt8.ofNat c]⟩) W1 := by
    refine conv_rd (S := Own W1) (B := ⟨#[UInt8.ofNat c]⟩) (rd_of_cells (B := ⟨#[UInt8.ofNat c]⟩) hz (Nat.le_refl _) (fun i hi => ?_))
    have hi1 : i < 1 := hi
    obtain rfl : i = 0 := by omega
    rw [← hW1]
    have : byteAt ⟨#[UInt8.ofNat c]⟩ 0 = c := by unfold byteAt; simp; omega
    rw [this]
    simp
  have HX := Lib.hid (hex_any ⟨#[UInt8.ofNat c]⟩ 15 W1 (by show 1 ≤ _; decide) (by decide))
  obtain ⟨d1, d2⟩ := one_digit c hc
  have HB1 := Lib.hid b1
  by_cases hd : digV c < 16
  · obtain ⟨n, hn⟩ := d1 hd
    rw [hn] at HX
    rw [decide_eq_true hd]
    clear d1 d2 hd hn b1
    go_enter Tryd.func37, Tryd.ntmps37
    go_wp2_with fail
    refine HX.out.mono ?_
    rintro e w2 ⟨rfl, hb⟩
    have HF := Lib.hid (ext_trans HB1.out hb)
    clear hb
    go_wp2
    go_ret
    exact ⟨rfl, HF.out⟩
  · obtain ⟨k, p, hn⟩ := d2 hd
    rw [hn] at HX
    rw [decide_eq_false hd]
    clear d1 d2 hd hn b1
    go_enter Tryd.func37, Tryd.ntmps37
    go_wp2_with fail
    refine HX.out.mono ?_
    rintro e w2 ⟨u, rfl, hf⟩
    have HF := Lib.hid (ext_trans HB1.out hf.2)
    clear hf
    go_wp2
    go_ret
    exact ⟨rfl, HF.out⟩
set_option maxRecDepth 100000 in
theorem print1_any (i c : Nat) (hi : i ≤ 1000000) (hc : c < 256) (w : World) : Calls Tryd.prog 36 #[.int .i64 i, .int .u8 c] w fun e w' => e = .returned (.bool (prB i c)) ∧ Below w.heap.size w w' := by
  have HD := Lib.hid (hexDigit_any c hc w)
  have q0 : Int.tmod (i : Int) 3 = ((i % 3 : Nat) : Int) := (Int.ofNat_tmod i 3).symm
  have q1 : IntKind.i64.wrap ((i % 3 : Nat) : Int) = ((i % 3 : Nat) : Int) := IntWalk.i64_in _ (by omega)
  unfold prB
  by_cases h2 : i % 3 = 2
  · rw [if_pos h2]
    have t2 : (((i % 3 : Nat) : Int) == 2) = true := beq_iff_eq.2 (by omega)
    generalize i % 3 = r at *
    by_cases h58 : c = 58
    · have t3 : ((c : Int) == 58) = true := beq_iff_eq.2 (by omega)
      rw [decide_eq_true h58]
      clear h2 h58
      go_enter Tryd.func36, Tryd.ntmps36
      go_wp2
      go_ret
      exact ⟨rfl, Below.refl _ _⟩
    · have t3 : ((c : Int) == 58) = false := beq_eq_false_iff_ne.2 (by omega)
      rw [decide_eq_false h58]
      clear h2 h58
      go_enter Tryd.func36, Tryd.ntmps36
      go_wp2
      go_ret
      exact ⟨rfl, Below.refl _ _⟩
  · rw [if_neg h2]
    have t2 : (((i % 3 : Nat) : Int) == 2) = false := beq_eq_false_iff_ne.2 (by omega)
    generalize i % 3 = r at *
    clear h2
    go_enter Tryd.func36, Tryd.ntmps36
    go_wp2_with fail
    refine HD.out.mono ?_
    rintro e w2 ⟨rfl, hb⟩
    have HB := Lib.hid hb
    clear hb
    go_wp2
    go_ret
    exact ⟨rfl, HB.out⟩
def RkRelB (s : ByteArray) (W : World) (i : Value) (wr : World) : Prop := ∃ j : Nat, i = .int .i64 j ∧ j ≤ s.size ∧ Below W.heap.size W wr
set_option maxRecDepth 100000 in
set_option maxHeartbeats 8000000 in
theorem readOk_any (k : FuncId) (hen : ∀ args w, (callFunc k args).run Tryd.prog w = .ok (.enter k args) w) (s : ByteArray) (most : Nat) (w : World)
    (hcl : ∀ (i : Nat) W, i < s.size → Calls Tryd.prog k #[.int .i64 i, .int .u8 (byteAt s i)] W fun e w' => e = .returned (.bool true) ∧ Below W.heap.size W w') (hs : s.size ≤ most) (hm : most ≤ 1000000) :
    Calls Tryd.prog 35 #[.string s, .int .i64 most, .func (.func k) #[] #[], .bool true] w fun e w' => e = .returned .nilIface ∧ Below w.heap.size w w' := by
  have hcv := run_bytes_of_string (P := Tryd.prog) w 9 26 5 s Tryd.underlying9 Tryd.underlying26 Tryd.underlying5
  generalize hcap : grownCap w s.size 0 5 = cap at hcv
  obtain ⟨W0, hW0⟩ : ∃ W, w.drew.alloc (.cells (bytesRow s cap) 5 ((bytesRow s cap).size, (bytesRow s cap).size + 1)) = W := ⟨_, rfl⟩
  rw [hW0] at hcv
  have hb0 : Below w.heap.size w W0 := by rw [← hW0]; exact ⟨rfl, rfl, rfl, by simp, fun k hk => Below.heap_alloc w.drew _ k hk⟩
  have hcell : ∀ i, i < s.size → W0.cell? ⟨w.heap.size, i, none⟩ = some (.int .u8 (byteAt s i)) := fun i hi => by
    have hi' : i < s.data.size := hi
    have := bytesRow_at s cap i hi'
    rw [← hW0, byteAt, Array.getElem?_eq_getElem hi']
    have hx : (w.drew.alloc (.cells (bytesRow s cap) 5 ((bytesRow s cap).size, (bytesRow s cap).size + 1))).heap[w.heap.size]? = some (.cells (bytesRow s cap) 5 ((bytesRow s cap).size, (bytesRow s cap).size + 1)) := heap_alloc_new w.drew _
    rw [cell_of_row _ w.heap.size i _ _ _ hx]
    simpa using this
  have hz0 : w.heap.size < W0.heap.size := by rw [← hW0]; simp
  have HC := Lib.hid hcell; have HB := Lib.hid hb0; have HCL := Lib.hid hcl
  clear hcell hb0 hW0 hcap hcl
  go_enter Tryd.func35, Tryd.ntmps35
  go_wp2_with fail
  go_loopw [14] (RkRelB s W0) (fun i _ => s.size - (intOf i).toNat)
  case atStart => exact ⟨0, rfl, Nat.zero_le _, Below.refl _ _⟩
  case round =>
    obtain ⟨j, rfl, hj, hbw⟩ := hrel
    clear hcv
    by_cases hlt : j < s.size
    · have x0 := (bcell1 hbw hz0 j).trans (HC.out j hlt)
      have t : decide ((most : Int) ≤ (j : Int)) = false := decide_eq_false (by omega)
      have CL := Lib.hid (HCL.out j wr hlt)
      have HBW := Lib.hid hbw
      clear hbw
      go_wp2_with fail
      refine CL.out.mono ?_
      rintro e w1 ⟨rfl, hb1⟩
      have R : RkRelB s W0 (.int .i64 (j + 1)) w1 := ⟨j + 1, by go_num, by omega, ext_trans HBW.out hb1⟩
      have HR := Lib.hid R; clear R hb1
      go_wp2
      refine ⟨?_, by simp [intOf]; omega⟩
      have R := HR.out
      first | exact R | ((repeat apply Exists.intro); exact ⟨R, rfl⟩)
    · obtain rfl : j = s.size := by omega
      have HF := Lib.hid (ext_trans HB.out hbw)
      clear hbw
      go_wp2
      go_ret
      exact ⟨rfl, HF.out⟩
end Go.Proofs.YtmhfbdeeebbloaaDoor
