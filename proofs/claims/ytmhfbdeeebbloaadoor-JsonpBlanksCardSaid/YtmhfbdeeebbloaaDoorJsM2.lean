/- The parser's between and key: the walks. -/
import Derived.Test.YtmhfbdeeebbloaaDoorJsM1
import Derived.Deep.RegionHeld3
namespace Go.Proofs.YtmhfbdeeebbloaaDoor
open Go.RowKit
def StPost (w0 w : World) (P D T : Nat) (bv : Value) (m : Bd) (r : Sc PS) (e : Ending) (w' : World) : Prop := match r with
  | .ok s => e = .returned .nilIface ∧ PA w' w0.heap.size P D T bv m s ∧ Below w0.heap.size w w' ∧ TKept w w'
  | .no k i => ∃ u, e = .returned (.iface 119 (.pointer (some u))) ∧ Failed w0 k i (.iface 119 (.pointer (some u))) w'
section
variable {w0 w w' : World} {base P D T : Nat} {bv : Value} {m : Bd} {s : PS} {r : Sc PS}
theorem PA.below (h : PA w base P D T bv m s) (hb : Below w.heap.size w w') : PA w' base P D T bv m s := by
  obtain ⟨tv, sv, os, ns, h⟩ := h
  exact ⟨tv, sv, os, ns, h.below hb⟩
theorem PA.drewN (h : PA w base P D T bv m s) (n : Nat) : PA (w.drewN n) base P D T bv m s := h.below (drewN_below _ n)
theorem StPost.after {w1 : World} {e : Ending} (hb : Below w0.heap.size w w1) (hk : TKept w w1) (h : StPost w0 w1 P D T bv m r e w') : StPost w0 w P D T bv m r e w' := by
  cases r with
  | ok s => exact ⟨h.1, h.2.1, hb.trans h.2.2.1, hk.trans h.2.2.2⟩
  | no k i => exact h
theorem wrong_st (t : Tok) (hb : Below w0.heap.size w0 w) : Calls Tryd.prog 95 #[.agg #[.int .i64 t.kind, .int .i64 t.fr, .int .i64 t.to]] w (StPost w0 w P D T bv m (wrongS t)) := by
  refine (wrong_any t w).mono ?_
  rintro e w1 ⟨u, rfl, hf⟩
  obtain ⟨p, rfl⟩ := hf.form
  have hf2 := hf.after hb
  unfold wrongS
  by_cases h0 : t.kind = 0
  · rw [if_pos h0] at hf2 ⊢
    exact ⟨p, rfl, hf2⟩
  · rw [if_neg h0] at hf2 ⊢
    exact ⟨p, rfl, hf2⟩
theorem fail_st {k : Nat} {i : Int} (hb : Below w0.heap.size w0 w) : Calls Tryd.prog 54 #[.int .i64 k, .int .i64 i] w (StPost w0 w P D T bv m (.no k i)) := by
  refine (fails k i w).mono ?_
  rintro e w1 ⟨u, rfl, hf⟩
  obtain ⟨p, rfl⟩ := hf.form
  exact ⟨p, rfl, hf.after hb⟩
theorem wrong_is {α : Type} (t : Tok) : ∃ k : Nat, (wrongS t : Sc α) = .no k t.fr := by
  unfold wrongS
  split
  · exact ⟨_, rfl⟩
  · exact ⟨_, rfl⟩
theorem top_pa (h : PA w base P D T bv m s) {o : Op} {r : List Op} (hs : s.stack = o :: r) (hl : s.stack.length ≤ 1000000) :
    Calls Tryd.prog 94 #[ptrV P] w fun e w' => ∃ b tv sv q ns, e = .returned (ptrV b) ∧ PAt w' base P D T bv m s tv sv (b :: q) ns ∧ Below w.heap.size w w' := by
  obtain ⟨tv, sv, os, ns, h⟩ := h
  obtain ⟨b, q, rfl, ho⟩ := h.top hs
  have hlq : q.length ≤ 1000000 := by have := h.len; simp at this; omega
  refine (top_any w base P D T b bv tv sv m s q ns h hlq).mono ?_
  rintro e w1 ⟨rfl, n, rfl⟩
  exact ⟨b, tv, sv, q, ns, rfl, h.drewN n, drewN_below _ n⟩
theorem ends_pa (t : Tok) (h : PA w base P D T bv m s) {o : Op} {r : List Op} (hs : s.stack = o :: r) (hl : s.stack.length ≤ 1000000) :
    Calls Tryd.prog 97 #[ptrV P, .agg #[.int .i64 t.kind, .int .i64 t.fr, .int .i64 t.to]] w fun e w' => e = .returned (.bool (endsS o t)) ∧ Below w.heap.size w w' := by
  obtain ⟨tv, sv, os, ns, h⟩ := h
  exact ends_any w base P D T bv tv sv m s os ns o r t h hs hl
end
set_option maxRecDepth 100000 in
set_option maxHeartbeats 4000000 in
theorem between_any (w0 w : World) (P D T : Nat) (bv : Value) (m : Bd) (s : PS) (o p : Op) (r : List Op) (t : Tok) (h : PA w w0.heap.size P D T bv m s) (hb : Below w0.heap.size w0 w) (hs : s.stack = o :: p :: r) (hl : s.stack.length ≤ 1000000) :
    Calls Tryd.prog 96 #[ptrV P, .agg #[.int .i64 t.kind, .int .i64 t.fr, .int .i64 t.to]] w (StPost w0 w P D T bv m (betweenS s o (p :: r) t)) := by
  obtain ⟨W1, hW1⟩ : ∃ W, w.alloc (.cells (#[.int .i64 t.kind, .int .i64 t.fr, .int .i64 t.to]) 47) = W := ⟨_, rfl⟩
  have b1 : Below w.heap.size w W1 := by rw [← hW1]; exact ext_alloc (Below.refl _ _) _
  have hwz := hb.size
  have hbw1 : Below w0.heap.size w W1 := b1.mono hwz
  have bx : ∀ j, W1.cell? ⟨w.heap.size, j, none⟩ = (#[.int .i64 t.kind, .int .i64 t.fr, .int .i64 t.to] : Array Value)[j]? := fun j => by rw [← hW1]; simp
  have z1 : w.heap.size < W1.heap.size := by rw [← hW1]; simp
  have TP := Lib.hid (top_pa (h.below b1) hs hl)
  have HS := Lib.hid hs; have HB := Lib.hid hb; have HB1 := Lib.hid hbw1; have HT1 := Lib.hid (TKept.of b1)
  have hlp := hl
  obtain ⟨tk, tf, tt⟩ := t
  simp only at bx hW1
  clear h hs hb b1 hbw1
  have cs : (endsS o ⟨tk, tf, tt⟩ = true) ∨ (endsS o ⟨tk, tf, tt⟩ = false ∧ (tk != 6) = true) ∨ (endsS o ⟨tk, tf, tt⟩ = false ∧ (tk != 6) = false ∧ o.obj = true) ∨ (endsS o ⟨tk, tf, tt⟩ = false ∧ (tk != 6) = false ∧ o.obj = false) := by
    cases endsS o ⟨tk, tf, tt⟩ <;> cases (tk != 6) <;> cases o.obj <;> simp
  unfold betweenS
  rcases cs with h1 | ⟨h1, h2⟩ | ⟨h1, h2, h3⟩ | ⟨h1, h2, h3⟩
  · rw [if_pos h1]
    go_enter Tryd.func96, Tryd.ntmps96
    go_wp2_with fail
    clear hW1
    refine TP.out.mono ?_
    rintro e w2 ⟨b, tv, sv, q, ns, rfl, hp, hb2⟩
    have cx := fun j => (bcell1 hb2 z1 j).trans (bx j)
    have z2 : w.heap.size < w2.heap.size := Nat.lt_of_lt_of_le z1 hb2.size
    have EN := ends_pa ⟨tk, tf, tt⟩ ⟨_, _, _, _, hp⟩ HS.out hlp
    rw [h1] at EN
    have EN := Lib.hid EN
    have HP := Lib.hid hp
    have HB2 := Lib.hid (HB1.out.trans (hb2.mono (by have := HB1.out.size; omega)))
    have HT2 := Lib.hid (HT1.out.trans (TKept.of hb2))
    clear hp hb2
    go_wp2_with fail
    refine EN.out.mono ?_
    rintro e w3 ⟨rfl, hb3⟩
    have PO := Lib.hid (pop_any w3 w0.heap.size P D T bv m s o p r ⟨_, _, _, _, HP.out.below hb3⟩ HS.out hlp)
    have HB3 := Lib.hid (HB2.out.trans (hb3.mono (by have := HB2.out.size; omega)))
    have HT3 := Lib.hid (HT2.out.trans (TKept.of hb3))
    clear hb3
    go_wp2_with fail
    refine PO.out.mono ?_
    rintro e w4 ⟨rfl, hp4, hb4, ht4⟩
    have HF := Lib.hid (HB3.out.trans hb4)
    have HTF := Lib.hid (HT3.out.trans ht4)
    have HP4 := Lib.hid hp4
    clear hb4 hp4 ht4
    go_wp2
    go_ret
    exact ⟨rfl, HP4.out, HF.out, HTF.out⟩
  · rw [if_neg (by rw [h1]; decide), if_pos (by simpa using h2)]
    obtain ⟨k, hk⟩ := wrong_is (α := PS) ⟨tk, tf, tt⟩
    simp only at hk
    rw [hk]
    have HK := Lib.hid hk
    clear hk
    go_enter Tryd.func96, Tryd.ntmps96
    go_wp2_with fail
    clear hW1
    refine TP.out.mono ?_
    rintro e w2 ⟨b, tv, sv, q, ns, rfl, hp, hb2⟩
    have cx := fun j => (bcell1 hb2 z1 j).trans (bx j)
    have z2 : w.heap.size < w2.heap.size := Nat.lt_of_lt_of_le z1 hb2.size
    have EN := ends_pa ⟨tk, tf, tt⟩ ⟨_, _, _, _, hp⟩ HS.out hlp
    rw [h1] at EN
    have EN := Lib.hid EN
    have HP := Lib.hid hp
    have HB2 := Lib.hid (HB1.out.trans (hb2.mono (by have := HB1.out.size; omega)))
    have HT2 := Lib.hid (HT1.out.trans (TKept.of hb2))
    clear hp hb2
    go_wp2_with fail
    refine EN.out.mono ?_
    rintro e w3 ⟨rfl, hb3⟩
    have cx3 := fun j => (bcell1 hb3 z2 j).trans (cx j)
    have HB3 := Lib.hid (HB2.out.trans (hb3.mono (by have := HB2.out.size; omega)))
    have HT3 := Lib.hid (HT2.out.trans (TKept.of hb3))
    have WR := wrong_st (P := P) (D := D) (T := T) (bv := bv) (m := m) ⟨tk, tf, tt⟩ (HB.out.trans HB3.out)
    rw [HK.out] at WR
    have WR := Lib.hid WR
    clear hb3
    go_wp2_with fail
    refine WR.out.mono ?_
    rintro e w4 ⟨u, rfl, hf⟩
    have HF := Lib.hid hf
    clear hf
    go_wp2
    go_ret
    exact ⟨u, rfl, HF.out⟩
  · rw [if_neg (by rw [h1]; decide), if_neg (by simpa using h2)]
    rw [h3]
    go_enter Tryd.func96, Tryd.ntmps96
    go_wp2_with fail
    clear hW1
    refine TP.out.mono ?_
    rintro e w2 ⟨b, tv, sv, q, ns, rfl, hp, hb2⟩
    have cx := fun j => (bcell1 hb2 z1 j).trans (bx j)
    have z2 : w.heap.size < w2.heap.size := Nat.lt_of_lt_of_le z1 hb2.size
    have EN := ends_pa ⟨tk, tf, tt⟩ ⟨_, _, _, _, hp⟩ HS.out hlp
    rw [h1] at EN
    have EN := Lib.hid EN
    have HP := Lib.hid hp
    have HB2 := Lib.hid (HB1.out.trans (hb2.mono (by have := HB1.out.size; omega)))
    have HT2 := Lib.hid (HT1.out.trans (TKept.of hb2))
    clear hp hb2
    go_wp2_with fail
    refine EN.out.mono ?_
    rintro e w3 ⟨rfl, hb3⟩
    have hp3 := HP.out.below hb3
    have cx3 := fun j => (bcell1 hb3 z2 j).trans (cx j)
    obtain ⟨b', q', e, ho⟩ := hp3.top HS.out
    obtain ⟨rfl, rfl⟩ : b = b' ∧ q = q' := by simpa using e
    have c1 := ho.c1
    rw [h3] at c1
    have c2 := ho.c2
    have f2 := ho.fz 2
    have hbl := hp3.lowO b (by simp)
    have HB3 := Lib.hid (HB2.out.trans (hb3.mono (by have := HB2.out.size; omega)))
    have HT3 := Lib.hid (HT2.out.trans (TKept.of hb3))
    have hp4 := hp3.setTop (o' := { o with st := 2 }) (j := 2) (u := .int .i64 2) HS.out rfl
    rw [h3] at hp4
    have HP4 := Lib.hid (show PA _ w0.heap.size P D T bv m _ from ⟨_, _, _, _, hp4⟩)
    have HF := Lib.hid (HB3.out.setCell (p := ⟨b, 2, none⟩) hbl (.int .i64 2))
    have HTF := Lib.hid (HT3.out.set (p := ⟨b, 2, none⟩) ho (by decide) (.int .i64 2))
    have hbz := heap_lt ho
    clear hb3 hp3 hp4 e ho HP EN hbl
    go_wp2
    go_ret
    exact ⟨rfl, HP4.out, HF.out, HTF.out⟩
  · rw [if_neg (by rw [h1]; decide), if_neg (by simpa using h2)]
    rw [h3]
    go_enter Tryd.func96, Tryd.ntmps96
    go_wp2_with fail
    clear hW1
    refine TP.out.mono ?_
    rintro e w2 ⟨b, tv, sv, q, ns, rfl, hp, hb2⟩
    have cx := fun j => (bcell1 hb2 z1 j).trans (bx j)
    have z2 : w.heap.size < w2.heap.size := Nat.lt_of_lt_of_le z1 hb2.size
    have EN := ends_pa ⟨tk, tf, tt⟩ ⟨_, _, _, _, hp⟩ HS.out hlp
    rw [h1] at EN
    have EN := Lib.hid EN
    have HP := Lib.hid hp
    have HB2 := Lib.hid (HB1.out.trans (hb2.mono (by have := HB1.out.size; omega)))
    have HT2 := Lib.hid (HT1.out.trans (TKept.of hb2))
    clear hp hb2
    go_wp2_with fail
    refine EN.out.mono ?_
    rintro e w3 ⟨rfl, hb3⟩
    have hp3 := HP.out.below hb3
    have cx3 := fun j => (bcell1 hb3 z2 j).trans (cx j)
    obtain ⟨b', q', e, ho⟩ := hp3.top HS.out
    obtain ⟨rfl, rfl⟩ : b = b' ∧ q = q' := by simpa using e
    have c1 := ho.c1
    rw [h3] at c1
    have c2 := ho.c2
    have f2 := ho.fz 2
    have hbl := hp3.lowO b (by simp)
    have HB3 := Lib.hid (HB2.out.trans (hb3.mono (by have := HB2.out.size; omega)))
    have HT3 := Lib.hid (HT2.out.trans (TKept.of hb3))
    have hp4 := hp3.setTop (o' := { o with st := 1 }) (j := 2) (u := .int .i64 1) HS.out rfl
    rw [h3] at hp4
    have HP4 := Lib.hid (show PA _ w0.heap.size P D T bv m _ from ⟨_, _, _, _, hp4⟩)
    have HF := Lib.hid (HB3.out.setCell (p := ⟨b, 2, none⟩) hbl (.int .i64 1))
    have HTF := Lib.hid (HT3.out.set (p := ⟨b, 2, none⟩) ho (by decide) (.int .i64 1))
    have hbz := heap_lt ho
    clear hb3 hp3 hp4 e ho HP EN hbl
    go_wp2
    go_ret
    exact ⟨rfl, HP4.out, HF.out, HTF.out⟩
end Go.Proofs.YtmhfbdeeebbloaaDoor
