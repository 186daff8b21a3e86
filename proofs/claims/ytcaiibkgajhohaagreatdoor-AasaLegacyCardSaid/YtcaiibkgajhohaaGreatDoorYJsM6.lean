/- What holds of the plain machine at all times. Nothing of the program. -/
import Derived.Test.YtcaiibkgajhohaaGreatDoorYArena0s
import Derived.Test.YtcaiibkgajhohaaGreatDoorYJsM5
namespace Go.Proofs.YtcaiibkgajhohaaGreatDoor
open Go.RowKit
def GoodR (n : Nat) : List Op → Prop
 | [] => False
 | [q] => q.id = -1 ∧ q.obj = false
 | o :: p :: r => 0 ≤ o.id ∧ o.id < n ∧ GoodR n (p :: r)
structure PI (s : PS) : Prop where
 good : GoodR s.js.length s.stack
 one : ∀ q, s.stack = [q] → (q.st = 1 ∧ s.js = []) ∨ q.st = 5
 two : ∀ o p r, s.stack = o :: p :: r → o.st ≠ 5
theorem GoodR.more {n : Nat} : ∀ {l : List Op}, GoodR n l → GoodR (n + 1) l
 | [_], h => h
 | _ :: _ :: _, h => ⟨h.1, by have := h.2.1; omega, h.2.2.more⟩
theorem GoodR.tail {n : Nat} {o p : Op} {r : List Op} (h : GoodR n (o :: p :: r)) : GoodR n (p :: r) := h.2.2
theorem GoodR.swap {n : Nat} {o o' : Op} {r : List Op} (h : GoodR n (o :: r)) (hi : o'.id = o.id) (ho : o'.obj = o.obj) : GoodR n (o' :: r) := by
 cases r with
 | nil => exact ⟨hi.trans h.1, ho.trans h.2⟩
 | cons p r => exact ⟨hi ▸ h.1, hi ▸ h.2.1, h.2.2⟩
theorem PI.id {s : PS} (h : PI s) {o : Op} {r : List Op} (hs : s.stack = o :: r) (h5 : o.st ≠ 5) : 0 ≤ o.id ∧ o.id < s.js.length ∨ o.id = -1 ∧ s.js = [] := by
 have hg := h.good
 rw [hs] at hg
 cases r with
 | nil =>
   rcases h.one o hs with ⟨_, e⟩ | e
   · exact .inr ⟨hg.1, e⟩
   · exact absurd e h5
 | cons p r => exact .inl ⟨hg.1, hg.2.1⟩
theorem PI.deep {s : PS} (h : PI s) {o : Op} {r : List Op} (hs : s.stack = o :: r) (h5 : o.st ≠ 5) (h1 : o.st ≠ 1) : ∃ p r', r = p :: r' := by
 cases r with
 | nil =>
   rcases h.one o hs with ⟨e, _⟩ | e
   · exact absurd e h1
   · exact absurd e h5
 | cons p r => exact ⟨p, r, rfl⟩
theorem pi_after {js : List JN} {ups : List Nat} {o : Op} {r : List Op} (hg : GoodR js.length (o :: r)) : PI ⟨js, ups, afterS (o :: r)⟩ := by
 refine ⟨?_, fun q hq => ?_, fun a p r' ha => ?_⟩
 · exact hg.swap (o' := aftO o) rfl rfl
 · simp only [afterS, List.cons.injEq] at hq
   obtain ⟨rfl, rfl⟩ := hq
   right
   have := hg.1
   simp [aftO, this]
 · simp only [afterS, List.cons.injEq] at ha
   obtain ⟨rfl, rfl⟩ := ha
   have := hg.1
   simp only [aftO]
   rw [if_neg (by omega)]; decide
theorem pi_top {s : PS} (h : PI s) {o o' : Op} {p : Op} {r : List Op} (hs : s.stack = o :: p :: r) (hi : o'.id = o.id) (ho : o'.obj = o.obj) (h5 : o'.st ≠ 5) : PI { s with stack := o' :: p :: r } := by
 have hg := h.good
 rw [hs] at hg
 refine ⟨hg.swap hi ho, fun q hq => by simp at hq, fun a b c ha => ?_⟩
 simp only [List.cons.injEq] at ha
 rw [← ha.1]; exact h5
theorem value_inv {B : ByteArray} {m : Bd} {s s' : PS} {o : Op} {r : List Op} {t : Tok} (h : PI s) (hs : s.stack = o :: r) (_h5 : o.st ≠ 5) (hv : valueS B m s o r t = .ok s') : PI s' ∧ s'.js.length ≤ s.js.length + 1 ∧ s'.stack.length ≤ s.stack.length + 1 ∧ s.js.length ≤ s'.js.length := by
 have hg := h.good
 rw [hs] at hg
 unfold valueS at hv
 split at hv
 · unfold wrongS at hv
   split at hv <;> cases hv
 · rename_i k _
   split at hv
   · cases hv
   · split at hv
     · cases hv
       refine ⟨pi_after (js := s.js ++ [nodeS B o k t]) (by simpa using hg.more), by simp [addS], by simp [addS, afterS, hs], by simp [addS]⟩
     · split at hv
       · cases hv
       · cases hv
         refine ⟨⟨?_, fun q hq => by simp [addS] at hq, fun a b c ha => ?_⟩, by simp [addS], by simp [addS, hs], by simp [addS]⟩
         · simp only [addS, List.length_append, List.length_cons, List.length_nil]
           exact ⟨by simp, by simp; omega, hg.more⟩
         · simp only [addS, List.cons.injEq] at ha
           rw [← ha.1]; show (0 : Int) ≠ 5; decide
theorem key_inv {B : ByteArray} {s s' : PS} {o p : Op} {r : List Op} {t : Tok} (h : PI s) (hs : s.stack = o :: p :: r) (hv : keyS B s o (p :: r) t = .ok s') : PI s' ∧ s'.js.length ≤ s.js.length + 1 ∧ s'.stack.length ≤ s.stack.length + 1 ∧ s.js.length ≤ s'.js.length := by
 unfold keyS at hv
 split at hv
 · unfold wrongS at hv
   split at hv <;> cases hv
 · split at hv
   · cases hv
     exact ⟨pi_top (o := o) h hs rfl rfl (by simp), by simp, by simp [hs], by simp⟩
   · cases hv
theorem take_inv {B : ByteArray} {m : Bd} {s s' : PS} {t : Tok} (h : PI s) (ht : takeS B m s t = .ok s') : PI s' ∧ s'.js.length ≤ s.js.length + 1 ∧ s'.stack.length ≤ s.stack.length + 1 ∧ s.js.length ≤ s'.js.length := by
 have hg := h.good
 unfold takeS at ht
 cases hs : s.stack with
 | nil => rw [hs] at hg; exact absurd hg (by simp [GoodR])
 | cons o r =>
   rw [hs] at ht hg
   simp only at ht
   split at ht
   · split at ht
     · cases ht; exact ⟨h, by omega, by rw [hs]; simp, by omega⟩
     · unfold wrongS at ht
       split at ht <;> cases ht
   · rename_i h5
     split at ht
     · rename_i h3
       obtain ⟨p, r', rfl⟩ := h.deep hs h5 (by omega)
       split at ht
       · cases ht
         exact ⟨pi_top (o := o) h hs rfl rfl (by simp), by simp, by simp, by simp⟩
       · unfold wrongS at ht
         split at ht <;> cases ht
     · split at ht
       · rename_i h4
         obtain ⟨p, r', rfl⟩ := h.deep hs h5 (by omega)
         unfold betweenS at ht
         split at ht
         · cases ht
           exact ⟨pi_after hg.tail, by simp, by simp [afterS], by simp⟩
         · split at ht
           · unfold wrongS at ht
             split at ht <;> cases ht
           · cases ht
             refine ⟨pi_top (o := o) h hs rfl rfl ?_, by simp, by simp, by simp⟩
             simp only
             split <;> decide
       · split at ht
         · rename_i h0
           obtain ⟨p, r', rfl⟩ := h.deep hs h5 (by omega)
           split at ht
           · cases ht
             exact ⟨pi_after hg.tail, by simp, by simp [afterS], by simp⟩
           · split at ht
             · have := key_inv h hs ht; rw [hs] at this; exact this
             · have := value_inv h hs h5 ht; rw [hs] at this; exact this
         · split at ht
           · rename_i h2
             obtain ⟨p, r', rfl⟩ := h.deep hs h5 (by omega)
             have := key_inv h hs ht; rw [hs] at this; exact this
           · have := value_inv h hs h5 ht; rw [hs] at this; exact this
theorem pi0 : PI ps0 := ⟨⟨rfl, rfl⟩, fun q hq => by
 simp only [ps0, List.cons.injEq] at hq
 rw [← hq.1]; exact .inl ⟨rfl, rfl⟩, fun o p r h => by simp [ps0] at h⟩
open Go.RowKit
section
variable {w0 w : World} {P D T : Nat} {bv : Value} {m : Bd} {s : PS}
/-- What a step's result is: nil, or a fault. -/
theorem st_form {r : Sc PS} {e : Ending} {w' : World} (h : StPost w0 w P D T bv m r e w') : ∃ v, e = .returned v ∧ (v = .nilIface ∨ ∃ u, v = .iface 85 (.pointer (some u))) := by
 cases r with
 | ok s => exact ⟨_, h.1, .inl rfl⟩
 | no k i => obtain ⟨u, h, _⟩ := h; exact ⟨_, h, .inr ⟨u, rfl⟩⟩
end
set_option maxRecDepth 100000 in
set_option maxHeartbeats 16000000 in
theorem take_any (w0 w : World) (P D T : Nat) (bv : Value) (B : ByteArray) (m : Bd) (s : PS) (t : Tok) (h : PA w w0.heap.size P D T bv m s) (hc : PC w0 w bv B) (hi : PI s) (hl : s.stack.length ≤ 1100000) (hz : B.size ≤ 1100000) (hj : s.js.length ≤ 1100000) (ht : ∃ i, nextI B i = .ok t) :
    Calls Tryz.prog 50 #[ptrV P, .agg #[.int .i64 t.kind, .int .i64 t.fr, .int .i64 t.to]] w (StPost w0 w P D T bv m (takeS B m s t)) := by
 obtain ⟨W1, hW1⟩ : ∃ W, w.alloc (.cells #[.int .i64 t.kind, .int .i64 t.fr, .int .i64 t.to] 128) = W := ⟨_, rfl⟩
 have b1 : Below w.heap.size w W1 := by rw [← hW1]; exact ext_alloc (Below.refl _ _) _
 have hwz := hc.bl.size
 have hbw1 : Below w0.heap.size w W1 := b1.mono hwz
 have cx : ∀ j, W1.cell? ⟨w.heap.size, j, none⟩ = (#[.int .i64 t.kind, .int .i64 t.fr, .int .i64 t.to] : Array Value)[j]? := fun j => by rw [← hW1]; simp
 have z1 : w.heap.size < W1.heap.size := by rw [← hW1]; simp
 obtain ⟨o, r, hs⟩ : ∃ o r, s.stack = o :: r := by
  have := hi.good
  cases hs : s.stack with
  | nil => rw [hs] at this; exact absurd this (by simp [GoodR])
  | cons o r => exact ⟨o, r, rfl⟩
 have TP := Lib.hid (top_pa (h.below b1) hs hl)
 have HS := Lib.hid hs; have HC := Lib.hid hc; have HB1 := Lib.hid hbw1; have HT1 := Lib.hid (TKept.of b1); have HI := Lib.hid hi; have HT := Lib.hid ht
 have htx : t.kind = 7 → ∃ x, textTok B t = some x := fun h7 => by obtain ⟨i, hi⟩ := ht; exact text_is hi h7
 have HTX := Lib.hid htx
 have hlp := hl
 unfold takeS
 rw [hs]
 simp only
 clear h hs hc hi ht htx b1 hbw1
 have KEY := Lib.hid (fun W (hW : Below w0.heap.size w W) (hp : PA W w0.heap.size P D T bv m s) => key_any w0 W P D T bv B m s o r t hp (HC.out.step hW) HS.out hlp hz HTX.out)
 have VAL := Lib.hid (fun W (hW : Below w0.heap.size w W) (hp : PA W w0.heap.size P D T bv m s) (h5 : o.st ≠ 5) => pvalue_any w0 W P D T bv B m s o r t hp (HC.out.step hW) HS.out hlp hz hj HT.out (HI.out.id HS.out h5))
 have WRG := Lib.hid (fun W (hW : Below w0.heap.size w W) => wrong_st (w0 := w0) (w := W) (P := P) (D := D) (T := T) (bv := bv) (m := m) t (HC.out.bl.trans hW))
 have ENDS := Lib.hid (fun W (hp : PA W w0.heap.size P D T bv m s) => ends_pa t hp HS.out hlp)
 by_cases h5 : o.st = 5
 · rw [if_pos h5]
   by_cases h0 : t.kind = 0
   · rw [if_pos h0]
     obtain ⟨tk, tf, tt⟩ := t
     simp only at cx hW1 h0
     subst h0
     go_enter Tryz.func50, Tryz.ntmps50
     go_wp2_with fail
     clear hW1
     refine TP.out.mono ?_
     rintro e w2 ⟨b, tv, sv, q, ns, rfl, hp, hb2⟩
     have cx2 := fun j => (bcell1 hb2 z1 j).trans (cx j)
     have z2 : w.heap.size < w2.heap.size := Nat.lt_of_lt_of_le z1 hb2.size
     have HB2 := Lib.hid (HB1.out.trans (hb2.mono (show w0.heap.size ≤ W1.heap.size by omega)))
     have HT2 := Lib.hid (HT1.out.trans (TKept.of hb2))
     have ho := hp.ops 0 b o rfl (by rw [HS.out]; rfl)
     have c2 := ho.c2
     have c1 := ho.c1
     have f2 := ho.fz 2
     have zb := heap_lt ho
     have HP2 := Lib.hid hp
     have hbl := hp.lowO b (by simp)
     have HPA := Lib.hid (show PA w2 w0.heap.size P D T bv m s from ⟨_, _, _, _, hp⟩)
     clear hb2 hp ho
     rw [h5] at c2
     go_wp2
     go_ret
     exact ⟨rfl, HPA.out, HB2.out, HT2.out⟩
   · rw [if_neg h0]
     have t1 : (t.kind == 0) = false := beq_eq_false_iff_ne.2 h0
     obtain ⟨tk, tf, tt⟩ := t
     simp only at cx hW1 t1 h0
     go_enter Tryz.func50, Tryz.ntmps50
     go_wp2_with fail
     clear hW1
     refine TP.out.mono ?_
     rintro e w2 ⟨b, tv, sv, q, ns, rfl, hp, hb2⟩
     have cx2 := fun j => (bcell1 hb2 z1 j).trans (cx j)
     have z2 : w.heap.size < w2.heap.size := Nat.lt_of_lt_of_le z1 hb2.size
     have HB2 := Lib.hid (HB1.out.trans (hb2.mono (show w0.heap.size ≤ W1.heap.size by omega)))
     have HT2 := Lib.hid (HT1.out.trans (TKept.of hb2))
     have ho := hp.ops 0 b o rfl (by rw [HS.out]; rfl)
     have c2 := ho.c2
     have c1 := ho.c1
     have f2 := ho.fz 2
     have zb := heap_lt ho
     have HP2 := Lib.hid hp
     have hbl := hp.lowO b (by simp)
     have HPA := Lib.hid (show PA w2 w0.heap.size P D T bv m s from ⟨_, _, _, _, hp⟩)
     clear hb2 hp ho
     rw [h5] at c2
     clear h0
     go_wp2_with fail
     refine (WRG.out w2 HB2.out).mono ?_
     intro e w4 hp4
     obtain ⟨v, rfl, _⟩ := st_form hp4
     have HP4 := Lib.hid (hp4.after HB2.out HT2.out)
     clear hp4
     go_wp2
     go_ret
     exact HP4.out
 rw [if_neg h5]
 by_cases h3 : o.st = 3
 · rw [if_pos h3]
   by_cases h0 : t.kind = 5
   · rw [if_pos h0]
     obtain ⟨tk, tf, tt⟩ := t
     simp only at cx hW1 h0
     subst h0
     go_enter Tryz.func50, Tryz.ntmps50
     go_wp2_with fail
     clear hW1
     refine TP.out.mono ?_
     rintro e w2 ⟨b, tv, sv, q, ns, rfl, hp, hb2⟩
     have cx2 := fun j => (bcell1 hb2 z1 j).trans (cx j)
     have z2 : w.heap.size < w2.heap.size := Nat.lt_of_lt_of_le z1 hb2.size
     have HB2 := Lib.hid (HB1.out.trans (hb2.mono (show w0.heap.size ≤ W1.heap.size by omega)))
     have HT2 := Lib.hid (HT1.out.trans (TKept.of hb2))
     have ho := hp.ops 0 b o rfl (by rw [HS.out]; rfl)
     have c2 := ho.c2
     have c1 := ho.c1
     have f2 := ho.fz 2
     have zb := heap_lt ho
     have HP2 := Lib.hid hp
     have hbl := hp.lowO b (by simp)
     have HPA := Lib.hid (show PA w2 w0.heap.size P D T bv m s from ⟨_, _, _, _, hp⟩)
     clear hb2 hp ho
     rw [h3] at c2
     have hp3 := HP2.out.setTop (o' := { o with st := 1 }) (j := 2) (u := .int .i64 1) HS.out rfl
     have HP3 := Lib.hid (show PA _ w0.heap.size P D T bv m _ from ⟨_, _, _, _, hp3⟩)
     have HF := Lib.hid (HB2.out.setCell (p := ⟨b, 2, none⟩) hbl (.int .i64 1))
     have HTF := Lib.hid (HT2.out.set (p := ⟨b, 2, none⟩) (HP2.out.ops 0 b o rfl (by rw [HS.out]; rfl)) (by decide) (.int .i64 1))
     clear hp3
     go_wp2
     go_ret
     exact ⟨rfl, HP3.out, HF.out, HTF.out⟩
   · rw [if_neg h0]
     have t1 : (t.kind != 5) = true := bne_iff_ne.2 h0
     obtain ⟨tk, tf, tt⟩ := t
     simp only at cx hW1 t1 h0
     go_enter Tryz.func50, Tryz.ntmps50
     go_wp2_with fail
     clear hW1
     refine TP.out.mono ?_
     rintro e w2 ⟨b, tv, sv, q, ns, rfl, hp, hb2⟩
     have cx2 := fun j => (bcell1 hb2 z1 j).trans (cx j)
     have z2 : w.heap.size < w2.heap.size := Nat.lt_of_lt_of_le z1 hb2.size
     have HB2 := Lib.hid (HB1.out.trans (hb2.mono (show w0.heap.size ≤ W1.heap.size by omega)))
     have HT2 := Lib.hid (HT1.out.trans (TKept.of hb2))
     have ho := hp.ops 0 b o rfl (by rw [HS.out]; rfl)
     have c2 := ho.c2
     have c1 := ho.c1
     have f2 := ho.fz 2
     have zb := heap_lt ho
     have HP2 := Lib.hid hp
     have hbl := hp.lowO b (by simp)
     have HPA := Lib.hid (show PA w2 w0.heap.size P D T bv m s from ⟨_, _, _, _, hp⟩)
     clear hb2 hp ho
     rw [h3] at c2
     clear h0
     go_wp2_with fail
     refine (WRG.out w2 HB2.out).mono ?_
     intro e w4 hp4
     obtain ⟨v, rfl, _⟩ := st_form hp4
     have HP4 := Lib.hid (hp4.after HB2.out HT2.out)
     clear hp4
     go_wp2
     go_ret
     exact HP4.out
 rw [if_neg h3]
 by_cases h4 : o.st = 4
 · rw [if_pos h4]
   obtain ⟨p, r', hr⟩ := HI.out.deep HS.out h5 (by omega)
   subst hr
   have BTW := Lib.hid (fun W (hW : Below w0.heap.size w W) (hp : PA W w0.heap.size P D T bv m s) => between_any w0 W P D T bv m s o p r' t hp (HC.out.bl.trans hW) HS.out hlp)
   obtain ⟨tk, tf, tt⟩ := t
   simp only at cx hW1
   go_enter Tryz.func50, Tryz.ntmps50
   go_wp2_with fail
   clear hW1
   refine TP.out.mono ?_
   rintro e w2 ⟨b, tv, sv, q, ns, rfl, hp, hb2⟩
   have cx2 := fun j => (bcell1 hb2 z1 j).trans (cx j)
   have z2 : w.heap.size < w2.heap.size := Nat.lt_of_lt_of_le z1 hb2.size
   have HB2 := Lib.hid (HB1.out.trans (hb2.mono (show w0.heap.size ≤ W1.heap.size by omega)))
   have HT2 := Lib.hid (HT1.out.trans (TKept.of hb2))
   have ho := hp.ops 0 b o rfl (by rw [HS.out]; rfl)
   have c2 := ho.c2
   have c1 := ho.c1
   have f2 := ho.fz 2
   have zb := heap_lt ho
   have HP2 := Lib.hid hp
   have hbl := hp.lowO b (by simp)
   have HPA := Lib.hid (show PA w2 w0.heap.size P D T bv m s from ⟨_, _, _, _, hp⟩)
   clear hb2 hp ho
   rw [h4] at c2
   go_wp2_with fail
   refine (BTW.out w2 HB2.out HPA.out).mono ?_
   intro e w4 hp4
   obtain ⟨v, rfl, _⟩ := st_form hp4
   have HP4 := Lib.hid (hp4.after HB2.out HT2.out)
   clear hp4
   go_wp2
   go_ret
   exact HP4.out
 rw [if_neg h4]
 by_cases h0 : o.st = 0
 · rw [if_pos h0]
   obtain ⟨p, r', hr⟩ := HI.out.deep HS.out h5 (by omega)
   subst hr
   cases he : endsS o t with
   | true =>
     rw [if_pos rfl]
     rw [he] at ENDS
     obtain ⟨tk, tf, tt⟩ := t
     simp only at cx hW1
     go_enter Tryz.func50, Tryz.ntmps50
     go_wp2_with fail
     clear hW1
     refine TP.out.mono ?_
     rintro e w2 ⟨b, tv, sv, q, ns, rfl, hp, hb2⟩
     have cx2 := fun j => (bcell1 hb2 z1 j).trans (cx j)
     have z2 : w.heap.size < w2.heap.size := Nat.lt_of_lt_of_le z1 hb2.size
     have HB2 := Lib.hid (HB1.out.trans (hb2.mono (show w0.heap.size ≤ W1.heap.size by omega)))
     have HT2 := Lib.hid (HT1.out.trans (TKept.of hb2))
     have ho := hp.ops 0 b o rfl (by rw [HS.out]; rfl)
     have c2 := ho.c2
     have c1 := ho.c1
     have f2 := ho.fz 2
     have zb := heap_lt ho
     have HP2 := Lib.hid hp
     have hbl := hp.lowO b (by simp)
     have HPA := Lib.hid (show PA w2 w0.heap.size P D T bv m s from ⟨_, _, _, _, hp⟩)
     clear hb2 hp ho
     rw [h0] at c2
     go_wp2_with fail
     refine (ENDS.out w2 HPA.out).mono ?_
     rintro e w3 ⟨rfl, hb3⟩
     have PO := Lib.hid (pop_any w3 w0.heap.size P D T bv m s o p r' (HPA.out.below hb3) HS.out hlp)
     have HB3 := Lib.hid (HB2.out.trans (hb3.mono (show w0.heap.size ≤ w2.heap.size by omega)))
     have HT3 := Lib.hid (HT2.out.trans (TKept.of hb3))
     clear hb3
     go_wp2_with fail
     refine PO.out.mono ?_
     rintro e w4 ⟨rfl, hp4, hb4, ht4⟩
     have HF := Lib.hid (HB3.out.trans hb4)
     have HTF := Lib.hid (HT3.out.trans ht4)
     have HP4 := Lib.hid hp4
     clear hb4 hp4 ht4
     go_wp2
     go_ret
     exact ⟨rfl, HP4.out, HF.out, HTF.out⟩
   | false =>
     rw [if_neg (by decide)]
     rw [he] at ENDS
     cases hob : o.obj with
     | true =>
       rw [if_pos rfl]
       obtain ⟨tk, tf, tt⟩ := t
       simp only at cx hW1
       go_enter Tryz.func50, Tryz.ntmps50
       go_wp2_with fail
       clear hW1
       refine TP.out.mono ?_
       rintro e w2 ⟨b, tv, sv, q, ns, rfl, hp, hb2⟩
       have cx2 := fun j => (bcell1 hb2 z1 j).trans (cx j)
       have z2 : w.heap.size < w2.heap.size := Nat.lt_of_lt_of_le z1 hb2.size
       have HB2 := Lib.hid (HB1.out.trans (hb2.mono (show w0.heap.size ≤ W1.heap.size by omega)))
       have HT2 := Lib.hid (HT1.out.trans (TKept.of hb2))
       have ho := hp.ops 0 b o rfl (by rw [HS.out]; rfl)
       have c2 := ho.c2
       have c1 := ho.c1
       have f2 := ho.fz 2
       have zb := heap_lt ho
       have HP2 := Lib.hid hp
       have hbl := hp.lowO b (by simp)
       have HPA := Lib.hid (show PA w2 w0.heap.size P D T bv m s from ⟨_, _, _, _, hp⟩)
       clear hb2 hp ho
       rw [h0] at c2
       rw [hob] at c1
       go_wp2_with fail
       refine (ENDS.out w2 HPA.out).mono ?_
       rintro e w3 ⟨rfl, hb3⟩
       have d1 := (bcell1 hb3 zb 1).trans c1
       have cx3 := fun j => (bcell1 hb3 z2 j).trans (cx2 j)
       have HB3 := Lib.hid (HB2.out.trans (hb3.mono (show w0.heap.size ≤ w2.heap.size by omega)))
       have HT3 := Lib.hid (HT2.out.trans (TKept.of hb3))
       have HPA3 := Lib.hid (HPA.out.below hb3)
       clear hb3
       go_wp2_with fail
       refine (KEY.out w3 HB3.out HPA3.out).mono ?_
       intro e w4 hp4
       obtain ⟨v, rfl, _⟩ := st_form hp4
       have HP4 := Lib.hid (hp4.after HB3.out HT3.out)
       clear hp4
       go_wp2
       go_ret
       exact HP4.out
     | false =>
       rw [if_neg (by decide)]
       obtain ⟨tk, tf, tt⟩ := t
       simp only at cx hW1
       go_enter Tryz.func50, Tryz.ntmps50
       go_wp2_with fail
       clear hW1
       refine TP.out.mono ?_
       rintro e w2 ⟨b, tv, sv, q, ns, rfl, hp, hb2⟩
       have cx2 := fun j => (bcell1 hb2 z1 j).trans (cx j)
       have z2 : w.heap.size < w2.heap.size := Nat.lt_of_lt_of_le z1 hb2.size
       have HB2 := Lib.hid (HB1.out.trans (hb2.mono (show w0.heap.size ≤ W1.heap.size by omega)))
       have HT2 := Lib.hid (HT1.out.trans (TKept.of hb2))
       have ho := hp.ops 0 b o rfl (by rw [HS.out]; rfl)
       have c2 := ho.c2
       have c1 := ho.c1
       have f2 := ho.fz 2
       have zb := heap_lt ho
       have HP2 := Lib.hid hp
       have hbl := hp.lowO b (by simp)
       have HPA := Lib.hid (show PA w2 w0.heap.size P D T bv m s from ⟨_, _, _, _, hp⟩)
       clear hb2 hp ho
       rw [h0] at c2
       rw [hob] at c1
       go_wp2_with fail
       refine (ENDS.out w2 HPA.out).mono ?_
       rintro e w3 ⟨rfl, hb3⟩
       have d1 := (bcell1 hb3 zb 1).trans c1
       have cx3 := fun j => (bcell1 hb3 z2 j).trans (cx2 j)
       have HB3 := Lib.hid (HB2.out.trans (hb3.mono (show w0.heap.size ≤ w2.heap.size by omega)))
       have HT3 := Lib.hid (HT2.out.trans (TKept.of hb3))
       have HPA3 := Lib.hid (HPA.out.below hb3)
       clear hb3
       go_wp2_with fail
       refine (VAL.out w3 HB3.out HPA3.out h5).mono ?_
       intro e w4 hp4
       obtain ⟨v, rfl, _⟩ := st_form hp4
       have HP4 := Lib.hid (hp4.after HB3.out HT3.out)
       clear hp4
       go_wp2
       go_ret
       exact HP4.out
 rw [if_neg h0]
 by_cases h2 : o.st = 2
 · rw [if_pos h2]
   obtain ⟨tk, tf, tt⟩ := t
   simp only at cx hW1
   go_enter Tryz.func50, Tryz.ntmps50
   go_wp2_with fail
   clear hW1
   refine TP.out.mono ?_
   rintro e w2 ⟨b, tv, sv, q, ns, rfl, hp, hb2⟩
   have cx2 := fun j => (bcell1 hb2 z1 j).trans (cx j)
   have z2 : w.heap.size < w2.heap.size := Nat.lt_of_lt_of_le z1 hb2.size
   have HB2 := Lib.hid (HB1.out.trans (hb2.mono (show w0.heap.size ≤ W1.heap.size by omega)))
   have HT2 := Lib.hid (HT1.out.trans (TKept.of hb2))
   have ho := hp.ops 0 b o rfl (by rw [HS.out]; rfl)
   have c2 := ho.c2
   have c1 := ho.c1
   have f2 := ho.fz 2
   have zb := heap_lt ho
   have HP2 := Lib.hid hp
   have hbl := hp.lowO b (by simp)
   have HPA := Lib.hid (show PA w2 w0.heap.size P D T bv m s from ⟨_, _, _, _, hp⟩)
   clear hb2 hp ho
   rw [h2] at c2
   go_wp2_with fail
   refine (KEY.out w2 HB2.out HPA.out).mono ?_
   intro e w4 hp4
   obtain ⟨v, rfl, _⟩ := st_form hp4
   have HP4 := Lib.hid (hp4.after HB2.out HT2.out)
   clear hp4
   go_wp2
   go_ret
   exact HP4.out
 · rw [if_neg h2]
   have t5 : (o.st == 5) = false := beq_eq_false_iff_ne.2 h5
   have t3 : (o.st == 3) = false := beq_eq_false_iff_ne.2 h3
   have t4 : (o.st == 4) = false := beq_eq_false_iff_ne.2 h4
   have t0 : (o.st == 0) = false := beq_eq_false_iff_ne.2 h0
   have t2 : (o.st == 2) = false := beq_eq_false_iff_ne.2 h2
   have H5 := Lib.hid h5
   clear h5 h3 h4 h0 h2
   obtain ⟨tk, tf, tt⟩ := t
   simp only at cx hW1
   go_enter Tryz.func50, Tryz.ntmps50
   go_wp2_with fail
   clear hW1
   refine TP.out.mono ?_
   rintro e w2 ⟨b, tv, sv, q, ns, rfl, hp, hb2⟩
   have cx2 := fun j => (bcell1 hb2 z1 j).trans (cx j)
   have z2 : w.heap.size < w2.heap.size := Nat.lt_of_lt_of_le z1 hb2.size
   have HB2 := Lib.hid (HB1.out.trans (hb2.mono (show w0.heap.size ≤ W1.heap.size by omega)))
   have HT2 := Lib.hid (HT1.out.trans (TKept.of hb2))
   have ho := hp.ops 0 b o rfl (by rw [HS.out]; rfl)
   have c2 := ho.c2
   have c1 := ho.c1
   have f2 := ho.fz 2
   have zb := heap_lt ho
   have HP2 := Lib.hid hp
   have hbl := hp.lowO b (by simp)
   have HPA := Lib.hid (show PA w2 w0.heap.size P D T bv m s from ⟨_, _, _, _, hp⟩)
   clear hb2 hp ho
   go_wp2_with fail
   refine (VAL.out w2 HB2.out HPA.out H5.out).mono ?_
   intro e w4 hp4
   obtain ⟨v, rfl, _⟩ := st_form hp4
   have HP4 := Lib.hid (hp4.after HB2.out HT2.out)
   clear hp4
   go_wp2
   go_ret
   exact HP4.out
end Go.Proofs.YtcaiibkgajhohaaGreatDoor
