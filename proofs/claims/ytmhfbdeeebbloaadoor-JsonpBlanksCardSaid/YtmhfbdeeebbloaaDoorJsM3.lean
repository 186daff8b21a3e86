/- The parser's key: the walk. -/
import Derived.Test.YtmhfbdeeebbloaaDoorJsM2
namespace Go.Proofs.YtmhfbdeeebbloaaDoor
open Go.RowKit
structure PC (w0 w : World) (bv : Value) (B : ByteArray) : Prop where
  env : ScEnv w0
  rd : Rd (Own w0) w0 bv (bytesDB B)
  bl : Below w0.heap.size w0 w
theorem PC.step {w0 w w' : World} {bv : Value} {B : ByteArray} (h : PC w0 w bv B) (hb : Below w0.heap.size w w') : PC w0 w' bv B := ⟨h.env, h.rd, h.bl.trans hb⟩
theorem PC.text {w0 w : World} {bv : Value} {B : ByteArray} (h : PC w0 w bv B) (hz : B.size ≤ 1000000) (t : Tok) : Calls Tryd.prog 22 #[bv, .agg #[.int .i64 t.kind, .int .i64 t.fr, .int .i64 t.to]] w (TtPost w (textTok B t) t.fr) :=
  sctext_any bv B t w (h.rd.ext h.bl) (h.env.ext h.bl) hz
set_option maxRecDepth 100000 in
set_option maxHeartbeats 8000000 in
theorem key_any (w0 w : World) (P D T : Nat) (bv : Value) (B : ByteArray) (m : Bd) (s : PS) (o : Op) (r : List Op) (t : Tok) (h : PA w w0.heap.size P D T bv m s) (hc : PC w0 w bv B) (hs : s.stack = o :: r) (hl : s.stack.length ≤ 1000000) (hz : B.size ≤ 1000000) (htx : t.kind = 7 → ∃ x, textTok B t = some x) :
    Calls Tryd.prog 100 #[ptrV P, .agg #[.int .i64 t.kind, .int .i64 t.fr, .int .i64 t.to]] w (StPost w0 w P D T bv m (keyS B s o r t)) := by
  obtain ⟨W1, hW1⟩ : ∃ W, w.alloc (.cells #[.int .i64 t.kind, .int .i64 t.fr, .int .i64 t.to] 47) = W := ⟨_, rfl⟩
  have b1 : Below w.heap.size w W1 := by rw [← hW1]; exact ext_alloc (Below.refl _ _) _
  have hwz := hc.bl.size
  have hbw1 : Below w0.heap.size w W1 := b1.mono hwz
  have bx : ∀ j, W1.cell? ⟨w.heap.size, j, none⟩ = (#[.int .i64 t.kind, .int .i64 t.fr, .int .i64 t.to] : Array Value)[j]? := fun j => by rw [← hW1]; simp
  have z1 : w.heap.size < W1.heap.size := by rw [← hW1]; simp
  have TP := Lib.hid (top_pa (h.below b1) hs hl)
  have HS := Lib.hid hs; have HC := Lib.hid hc; have HB1 := Lib.hid hbw1; have HT1 := Lib.hid (TKept.of b1)
  have hlp := hl
  unfold keyS
  by_cases h7 : t.kind = 7
  · obtain ⟨x, hx⟩ := htx h7
    rw [if_neg (by simpa using h7), hx]
    have HX := Lib.hid hx
    obtain ⟨tk, tf, tt⟩ := t
    simp only at bx hW1 h7
    subst h7
    clear h hs hc b1 hbw1 htx hx
    go_enter Tryd.func100, Tryd.ntmps100
    go_wp2_with fail
    clear hW1
    refine TP.out.mono ?_
    rintro e w2 ⟨b, tv, sv, q, ns, rfl, hp, hb2⟩
    have cx := fun j => (bcell1 hb2 z1 j).trans (bx j)
    have z2 : w.heap.size < w2.heap.size := Nat.lt_of_lt_of_le z1 hb2.size
    have HB2 := Lib.hid (HB1.out.trans (hb2.mono (by have := HB1.out.size; omega)))
    have HT2 := Lib.hid (HT1.out.trans (TKept.of hb2))
    obtain ⟨b', q', e, ho⟩ := hp.top HS.out
    obtain ⟨rfl, rfl⟩ : b = b' ∧ q = q' := by simpa using e
    have hbl := hp.lowO b (by simp)
    have c2 := ho.c2
    have f2 := ho.fz 2
    have hp3 := hp.setTop (o' := { o with st := 3 }) (j := 2) (u := .int .i64 3) HS.out rfl
    have hne : b ≠ w.heap.size := fun e => by
      have h1 := ho.c3
      rw [e] at h1
      have h2 := cx 3
      rw [h1] at h2
      simp at h2
    have hbz := heap_lt ho
    obtain ⟨W3, hW3⟩ : ∃ W, w2.setCell ⟨b, 2, none⟩ (.int .i64 3) = W := ⟨_, rfl⟩
    have hb3 : Below w0.heap.size w2 W3 := by rw [← hW3]; exact (Below.refl _ _).setCell (p := ⟨b, 2, none⟩) hbl _
    have HT3 : Hid (TKept w W3) := Lib.hid (by rw [← hW3]; exact HT2.out.set (p := ⟨b, 2, none⟩) ho (by decide) _)
    have HC3 := Lib.hid ((HC.out.step HB2.out).step hb3)
    have cx3 : ∀ j, W3.cell? ⟨w.heap.size, j, none⟩ = (#[.int .i64 7, .int .i64 tf, .int .i64 tt] : Array Value)[j]? := fun j => by
      rw [← hW3, cell_keep (Below.heap_setCell _ _ _ _ (fun e => hne e.symm))]; exact cx j
    rw [hW3] at hp3
    have z3 : w.heap.size < W3.heap.size := by rw [← hW3]; simpa using z2
    have zP := heap_lt hp3.box
    have cP := hp3.c0
    have ho3 := hp3.ops 0 b _ rfl rfl
    have c3 := ho3.c3
    have f3 := ho3.fz 3
    have zb := heap_lt ho3
    have HP3 := Lib.hid hp3
    have TX := Lib.hid (fun n => by
      have := (HC3.out.step (drewN_below _ n)).text hz ⟨7, tf, tt⟩
      rw [HX.out] at this
      exact this)
    have HB3 := Lib.hid (HB2.out.trans hb3)
    simp only at c3
    clear hb2 ho hp hp3 e ho3 hb3 cx bx TP HS
    go_wp2_with fail
    clear hW3 c2 f2
    have hne2 : P ≠ b := ne_type HP3.out.box (HP3.out.ops 0 b _ rfl rfl) (by decide)
    go_region_with (go_at_call 22; refine (TX.out _).mono ?_; rintro e w4 ⟨rfl, hb4⟩; have k1 := (bcell1 hb4 zP 0).trans cP; have k2 := fun j => (bcell1 hb4 z3 j).trans (cx3 j); have k3 := (bcell1 hb4 zb 3).trans c3; have k4 := (bfrozen1 hb4 zb 3).trans f3; have HB4 := Lib.hid hb4; clear hb4)
    all_goals
      have hp4 := ((HP3.out.drewN _).below HB4.out).setTop (o := { o with st := 3 }) (o' := { o with st := 3, key := x }) (j := 3) (u := .string x) rfl rfl
      have hb4 := HB4.out
      have HF : Hid (Below w0.heap.size w _) := Lib.hid ((HB3.out.trans (((drewN_below _ _).trans (hb4.mono (by show w0.heap.size ≤ W3.heap.size; omega))))).setCell (p := ⟨b, 3, none⟩) hbl (.string x))
      have HTF := Lib.hid (((HT3.out.drew _).trans (TKept.of hb4)).set (p := ⟨b, 3, none⟩) (((HP3.out.drewN _).below hb4).ops 0 b { o with st := 3 } rfl rfl) (by decide) (.string x))
      have HP4 := Lib.hid hp4
      clear hp4 hb4 HB4
      go_wp2
      go_ret
      exact ⟨rfl, ⟨_, _, _, _, HP4.out.keep (fun _ _ _ => rfl)⟩, HF.out.trans ⟨rfl, rfl, rfl, Nat.le_refl _, fun _ _ => rfl⟩, HTF.out⟩
  · obtain ⟨k, hk⟩ := wrong_is (α := PS) t
    rw [if_pos (by simpa using h7), hk]
    have HK := Lib.hid hk
    obtain ⟨tk, tf, tt⟩ := t
    simp only at bx hW1 h7 HK
    have t1 : (tk != 7) = true := bne_iff_ne.2 h7
    have WR := wrong_st (P := P) (D := D) (T := T) (bv := bv) (m := m) ⟨tk, tf, tt⟩ (HC.out.bl.trans HB1.out)
    rw [HK.out] at WR
    have WR := Lib.hid WR
    clear h hs hc b1 hbw1 htx hk h7 TP
    go_enter Tryd.func100, Tryd.ntmps100
    go_wp2_with fail
    refine WR.out.mono ?_
    rintro e w4 ⟨u, rfl, hf⟩
    have HF := Lib.hid hf
    clear hf
    go_wp2
    go_ret
    exact ⟨u, rfl, HF.out⟩
end Go.Proofs.YtmhfbdeeebbloaaDoor
