/- Nxt0, Txt2 in one text (a claim holds at most 60 files). -/
import Derived.Test.YtheoaijheijojaaGreatDoorZEye9s
import Derived.Test.YtheoaijheijojaaGreatDoorZTxt1
namespace Go.Proofs.YtheoaijheijojaaGreatDoor
section
open Go.RowKit
theorem rnx_any (v : Value) (B : ByteArray) (at_ : Int) (w : World) (h : Rd (Own w) w v (bytesDB B)) (hz : B.size ≤ 1000000) :
    Calls Tryz.prog 73 #[v, .int .i64 at_] w (RnPost w (nextI B at_)) := by
  unfold nextI
  by_cases ho : at_ < 0 ∨ (B.size : Int) < at_
  · rw [if_pos ho]; exact rnx_out v B at_ w h ho
  · rw [if_neg ho]
    obtain ⟨i, rfl⟩ := Int.eq_ofNat_of_zero_le (show 0 ≤ at_ by omega)
    rw [Int.toNat_natCast]
    exact rnx_in v B i w h hz (by omega)
end
section
open Go.RowKit
def RtPost (w : World) (r : Option ByteArray) (e : Ending) (w' : World) : Prop := e = .returned (.tuple #[.string (r.getD ⟨#[]⟩), .bool r.isSome]) ∧ Below w.heap.size w w'
set_option maxRecDepth 100000 in
set_option maxHeartbeats 16000000 in
theorem rftext_any (v : Value) (B : ByteArray) (t : Tok) (w : World) (h : Rd (Own w) w v (bytesDB B)) (hz : B.size ≤ 1000000) :
    Calls Tryz.prog 71 #[v, .agg #[.int .i64 t.kind, .int .i64 t.fr, .int .i64 t.to]] w (RtPost w (textTok B t)) := by
  have hb1 : ∀ o : Obj, Below w.heap.size w (w.alloc o) := fun o => ext_alloc (Below.refl _ _) o
  have N1 := Lib.hid (fun o : Obj => rnx_any v B t.fr (w.alloc o) (h.ext (hb1 o)) hz)
  have H := Lib.hid h
  obtain ⟨a, c, rfl, _, _, _⟩ := h.by_inv
  clear h hb1
  cases hx : nextI B t.fr with
  | no k p =>
    have hT := textTok_no hx
    have hk := nextI_pos hx
    rw [hx] at N1
    rw [hT]
    clear hx hT
    have t1 : ((k : Int) != 0) = true := bne_iff_ne.2 (by omega)
    clear hk
    obtain ⟨tk, tf, tt⟩ := t
    go_enter Tryz.func71, Tryz.ntmps71
    go_wp2_with fail
    refine (N1.out _).mono ?_
    rintro e w2 ⟨rfl, hb⟩
    simp only [rnV]
    have HB := Lib.hid (ext_trans (ext_alloc (Below.refl _ w) _) hb)
    clear hb
    go_wp2
    go_ret2
    exact ⟨rfl, ext_alloc HB.out _⟩
  | ok x =>
    rw [hx] at N1
    by_cases hn : x = t ∧ t.kind = 7
    · obtain ⟨rfl, h7⟩ := hn
      obtain ⟨p, y, hp, hlt, hq, hy⟩ := tok_text hx h7
      rw [textTok_ok hx h7 hp hy]
      obtain ⟨tk, tf, tt⟩ := x
      simp only at h7 hp N1 hx
      subst h7; subst hp
      have HY := Lib.hid hy
      have HQ := Lib.hid hq
      clear hx hy hq
      go_enter Tryz.func71, Tryz.ntmps71
      go_wp2_with fail
      refine (N1.out _).mono ?_
      rintro e w2 ⟨rfl, hb2⟩
      simp only [rnV]
      have hcb := bcell1 hb2 (b := w.heap.size) (by simp)
      have hz2 : w.heap.size < w2.heap.size := by have := hb2.size; simp at this; omega
      have HB := Lib.hid (ext_trans (ext_alloc (Below.refl _ w) _) hb2)
      clear hb2
      obtain ⟨W3, hW3⟩ : ∃ W, w2.alloc (.cells #[.int .i64 7, .int .i64 p, .int .i64 tt] 79) = W := ⟨_, rfl⟩
      have hz3 : W3.heap.size = w2.heap.size + 1 := by rw [← hW3]; simp
      have hB3 : Below w.heap.size w W3 := by rw [← hW3]; exact ext_alloc HB.out _
      obtain ⟨W4, hW4⟩ : ∃ W, W3.alloc (.cells #[.slice a B.size c, .int .i64 p, .int .i64 0, .int .i64 0] 189) = W := ⟨_, rfl⟩
      have hB4 : Below w.heap.size w W4 := by rw [← hW4]; exact ext_alloc hB3 _
      have hE4 : EyeS W4 W3.heap.size (.slice a B.size c) ⟨p, 0, 0⟩ := by rw [← hW4]; show (W3.heap.push _)[W3.heap.size]? = _; simp
      have hB3s := hB3.size
      have hEB : EyeB W4 W3.heap.size (.slice a B.size c) B := Rd.mono H.out (fun k hk => hB4.block k hk) (fun k hk => ⟨by have : k < w.heap.size := hk; omega, Nat.lt_of_lt_of_le hk hB4.size⟩)
      have hT := etext_any W3.heap.size (.slice a B.size c) B p 0 W4 hz hlt HQ.out hE4 hEB
      rw [HY.out] at hT
      obtain ⟨E, hE⟩ : ∃ E, w2.heap.size + 1 = E := ⟨_, rfl⟩
      rw [hz3, hE] at hT
      have hEw : w.heap.size ≤ E := by omega
      have HT := Lib.hid hT; have HW3 := Lib.hid hW3; have HW4 := Lib.hid hW4; have HE := Lib.hid hE; have HB4 := Lib.hid hB4
      clear hT hW3 hW4 hE hB4 hE4 hEB hB3 hz3 hB3s
      go_wp2_with fail
      rw [HW3.out, HW4.out, HE.out]
      refine HT.out.mono ?_
      rintro e w5 ⟨o, acc, s, rfl, hr, _, hO, hend⟩
      obtain ⟨he, _, _⟩ := hend
      subst he
      have hB5 : Below w.heap.size w w5 := HB4.out.trans (hO.below HB4.out.size (fun k hk => by omega))
      have HU := Lib.hid (rtext_any _ y.1 w5 (hr.wide (fun b hb => hb.2)) (textS_right HY.out) (by have := textS_len (by omega) HY.out; omega))
      have HB5 := Lib.hid hB5
      clear hr hO hB5 HT HW3 HW4 HE
      go_wp2_with fail
      refine HU.out.mono ?_
      rintro e w6 ⟨o2, rfl, hr2, hb6⟩
      have cv := conv_rd hr2
      obtain ⟨a2, c2, rfl, _, _, _⟩ := hr2.by_inv
      have HF := Lib.hid (ext_trans HB5.out hb6)
      clear hr2 hb6 HU
      go_wp2
      go_ret2
      exact ⟨rfl, HF.out⟩
    · rw [textTok_ne hx hn]
      have hq := tok_parts hn
      obtain ⟨xk, xf, xt⟩ := x
      obtain ⟨tk, tf, tt⟩ := t
      simp only at hq N1
      clear hn hx
      rcases hq with g1 | ⟨g1, g2⟩ | ⟨g1, g2, g3⟩ | ⟨g0, g1⟩
      all_goals (try (injection g0 with e1 e2 e3; rw [e1, e2, e3] at N1; clear e1 e2 e3))
      all_goals
        go_enter Tryz.func71, Tryz.ntmps71
        go_wp2_with fail
        refine (N1.out _).mono ?_
        rintro e w2 ⟨rfl, hb2⟩
        simp only [rnV]
        have hcb := bcell1 hb2 (b := w.heap.size) (by simp)
        have hz2 : w.heap.size < w2.heap.size := by have := hb2.size; simp at this; omega
        have HB := Lib.hid (ext_trans (ext_alloc (Below.refl _ w) _) hb2)
        clear hb2
        go_wp2
        go_ret2
        exact ⟨rfl, ext_alloc HB.out _⟩
end
end Go.Proofs.YtheoaijheijojaaGreatDoor
