/- JsM3, JsM4 in one text (a claim holds at most 60 files). -/
import Derived.Test.YtcaiibkgajhohaaGreatDoorYJsM0s
namespace Go.Proofs.YtcaiibkgajhohaaGreatDoor
section
open Go.RowKit
structure PC (w0 w : World) (bv : Value) (B : ByteArray) : Prop where
 env : ScEnv w0
 rd : Rd (Own w0) w0 bv (bytesDB B)
 bl : Below w0.heap.size w0 w
theorem PC.step {w0 w w' : World} {bv : Value} {B : ByteArray} (h : PC w0 w bv B) (hb : Below w0.heap.size w w') : PC w0 w' bv B := ⟨h.env, h.rd, h.bl.trans hb⟩
theorem PC.text {w0 w : World} {bv : Value} {B : ByteArray} (h : PC w0 w bv B) (hz : B.size ≤ 1100000) (t : Tok) : Calls Tryz.prog 122 #[bv, .agg #[.int .i64 t.kind, .int .i64 t.fr, .int .i64 t.to]] w (TtPost w (textTok B t) t.fr) :=
 sctext_any bv B t w (h.rd.ext h.bl) (h.env.ext h.bl) hz
set_option maxRecDepth 100000 in
set_option maxHeartbeats 8000000 in
theorem key_any (w0 w : World) (P D T : Nat) (bv : Value) (B : ByteArray) (m : Bd) (s : PS) (o : Op) (r : List Op) (t : Tok) (h : PA w w0.heap.size P D T bv m s) (hc : PC w0 w bv B) (hs : s.stack = o :: r) (hl : s.stack.length ≤ 1100000) (hz : B.size ≤ 1100000) (htx : t.kind = 7 → ∃ x, textTok B t = some x) :
    Calls Tryz.prog 89 #[ptrV P, .agg #[.int .i64 t.kind, .int .i64 t.fr, .int .i64 t.to]] w (StPost w0 w P D T bv m (keyS B s o r t)) := by
 obtain ⟨W1, hW1⟩ : ∃ W, w.alloc (.cells #[.int .i64 t.kind, .int .i64 t.fr, .int .i64 t.to] 128) = W := ⟨_, rfl⟩
 have b1 : Below w.heap.size w W1 := by rw [← hW1]; exact ext_alloc (Below.refl _ _) _
 have hwz := hc.bl.size
 have hbw1 : Below w0.heap.size w W1 := b1.mono hwz
 have bx : ∀ j, W1.cell? ⟨w.heap.size, j, none⟩ = (#[.int .i64 t.kind, .int .i64 t.fr, .int .i64 t.to] : Array Value)[j]? := fun j => by rw [← hW1]; simp
 have z1 : w.heap.size < W1.heap.size := by rw [← hW1]; simp
 have TP := Lib.hid (top_pa (h.below b1) hs hl)
 have HS := Lib.hid hs; have HC := Lib.hid hc; have HB1 := Lib.hid hbw1; have HT1 := Lib.hid (TKept.of b1)
 have hlp := hl
 unfold keyS
 by_cases h7 : t.kind = 7
 · obtain ⟨x, hx⟩ := htx h7
   rw [if_neg (by simpa using h7), hx]
   have HX := Lib.hid hx
   obtain ⟨tk, tf, tt⟩ := t
   simp only at bx hW1 h7
   subst h7
   clear h hs hc b1 hbw1 htx hx
   go_enter Tryz.func89, Tryz.ntmps89
   go_wp2_with fail
   clear hW1
   refine TP.out.mono ?_
   rintro e w2 ⟨b, tv, sv, q, ns, rfl, hp, hb2⟩
   have cx := fun j => (bcell1 hb2 z1 j).trans (bx j)
   have z2 : w.heap.size < w2.heap.size := Nat.lt_of_lt_of_le z1 hb2.size
   have HB2 := Lib.hid (HB1.out.trans (hb2.mono (by have := HB1.out.size; omega)))
   have HT2 := Lib.hid (HT1.out.trans (TKept.of hb2))
   obtain ⟨b', q', e, ho⟩ := hp.top HS.out
   obtain ⟨rfl, rfl⟩ : b = b' ∧ q = q' := by simpa using e
   have hbl := hp.lowO b (by simp)
   have c2 := ho.c2
   have f2 := ho.fz 2
   have hp3 := hp.setTop (o' := { o with st := 3 }) (j := 2) (u := .int .i64 3) HS.out rfl
   have hne : b ≠ w.heap.size := fun e => by
    have h1 := ho.c3
    rw [e] at h1
    have h2 := cx 3
    rw [h1] at h2
    simp at h2
   have hbz := heap_lt ho
   obtain ⟨W3, hW3⟩ : ∃ W, w2.setCell ⟨b, 2, none⟩ (.int .i64 3) = W := ⟨_, rfl⟩
   have hb3 : Below w0.heap.size w2 W3 := by rw [← hW3]; exact (Below.refl _ _).setCell (p := ⟨b, 2, none⟩) hbl _
   have HT3 : Hid (TKept w W3) := Lib.hid (by rw [← hW3]; exact HT2.out.set (p := ⟨b, 2, none⟩) ho (by decide) _)
   have HC3 := Lib.hid ((HC.out.step HB2.out).step hb3)
   have cx3 : ∀ j, W3.cell? ⟨w.heap.size, j, none⟩ = (#[.int .i64 7, .int .i64 tf, .int .i64 tt] : Array Value)[j]? := fun j => by
    rw [← hW3, cell_keep (Below.heap_setCell _ _ _ _ (fun e => hne e.symm))]; exact cx j
   rw [hW3] at hp3
   have z3 : w.heap.size < W3.heap.size := by rw [← hW3]; simpa using z2
   have zP := heap_lt hp3.box
   have cP := hp3.c0
   have ho3 := hp3.ops 0 b _ rfl rfl
   have c3 := ho3.c3
   have f3 := ho3.fz 3
   have zb := heap_lt ho3
   have HP3 := Lib.hid hp3
   have TX := Lib.hid (fun n => by
    have := (HC3.out.step (drewN_below _ n)).text hz ⟨7, tf, tt⟩
    rw [HX.out] at this
    exact this)
   have HB3 := Lib.hid (HB2.out.trans hb3)
   simp only at c3
   clear hb2 ho hp hp3 e ho3 hb3 cx bx TP HS
   go_wp2_with fail
   clear hW3 c2 f2
   have hne2 : P ≠ b := ne_type HP3.out.box (HP3.out.ops 0 b _ rfl rfl) (by decide)
   go_region_with (go_at_call 122; refine (TX.out _).mono ?_; rintro e w4 ⟨rfl, hb4⟩; have k1 := (bcell1 hb4 zP 0).trans cP; have k2 := fun j => (bcell1 hb4 z3 j).trans (cx3 j); have k3 := (bcell1 hb4 zb 3).trans c3; have k4 := (bfrozen1 hb4 zb 3).trans f3; have HB4 := Lib.hid hb4; clear hb4)
   all_goals
    have hp4 := ((HP3.out.drewN _).below HB4.out).setTop (o := { o with st := 3 }) (o' := { o with st := 3, key := x }) (j := 3) (u := .string x) rfl rfl
    have hb4 := HB4.out
    have HF : Hid (Below w0.heap.size w _) := Lib.hid ((HB3.out.trans (((drewN_below _ _).trans (hb4.mono (by show w0.heap.size ≤ W3.heap.size; omega))))).setCell (p := ⟨b, 3, none⟩) hbl (.string x))
    have HTF := Lib.hid (((HT3.out.drew _).trans (TKept.of hb4)).set (p := ⟨b, 3, none⟩) (((HP3.out.drewN _).below hb4).ops 0 b { o with st := 3 } rfl rfl) (by decide) (.string x))
    have HP4 := Lib.hid hp4
    clear hp4 hb4 HB4
    go_wp2
    go_ret
    exact ⟨rfl, ⟨_, _, _, _, HP4.out.keep (fun _ _ _ => rfl)⟩, HF.out.trans ⟨rfl, rfl, rfl, Nat.le_refl _, fun _ _ => rfl⟩, HTF.out⟩
 · obtain ⟨k, hk⟩ := wrong_is (α := PS) t
   rw [if_pos (by simpa using h7), hk]
   have HK := Lib.hid hk
   obtain ⟨tk, tf, tt⟩ := t
   simp only at bx hW1 h7 HK
   have t1 : (tk != 7) = true := bne_iff_ne.2 h7
   have WR := wrong_st (P := P) (D := D) (T := T) (bv := bv) (m := m) ⟨tk, tf, tt⟩ (HC.out.bl.trans HB1.out)
   rw [HK.out] at WR
   have WR := Lib.hid WR
   clear h hs hc b1 hbw1 htx hk h7 TP
   go_enter Tryz.func89, Tryz.ntmps89
   go_wp2_with fail
   refine WR.out.mono ?_
   rintro e w4 ⟨u, rfl, hf⟩
   have HF := Lib.hid hf
   clear hf
   go_wp2
   go_ret
   exact ⟨u, rfl, HF.out⟩
end
section
open Go.RowKit
theorem addN_vals {ns : List ANode} {u : Nat} {v : Value} (hu : u < ns.length) : (addN ns u v).map ANode.val = ns.map ANode.val ++ [v] := by
 obtain ⟨a, ha⟩ := get_ex ns u hu
 have hl := addN_length (v := v) hu
 apply List.ext_getElem?
 intro i
 by_cases hi : i < ns.length
 · obtain ⟨b, hb⟩ := get_ex (addN ns u v) i (by omega)
   rcases addN_get ha i b hb with ⟨e, _⟩ | ⟨_, c, hc, hv, _⟩
   · omega
   · rw [List.getElem?_map, hb, List.getElem?_append_left (by simpa using hi), List.getElem?_map, hc]; simp [hv]
 · by_cases he : i = ns.length
   · subst he
     obtain ⟨b, hb⟩ := get_ex (addN ns u v) ns.length (by omega)
     rcases addN_get ha _ b hb with ⟨_, rfl⟩ | ⟨h, _⟩
     · rw [List.getElem?_map, hb, List.getElem?_append_right (by simp)]; simp
     · omega
   · rw [List.getElem?_eq_none (by simp; omega), List.getElem?_eq_none (by simp; omega)]
theorem wfUps_snoc {ups : List Nat} {u : Nat} (h : WfUps ups) (hu : u < ups.length) : WfUps (ups ++ [u]) := by
 intro i x hi hx
 by_cases hl : i < ups.length
 · rw [List.getElem?_append_left hl] at hx; exact h i x hi hx
 · rw [List.getElem?_append_right (by omega)] at hx
   cases hh : i - ups.length with
   | zero => rw [hh] at hx; simp at hx; omega
   | succ n => rw [hh] at hx; simp at hx
section
variable {w w' : World} {base P D T : Nat} {bv tv tv' sv : Value} {m : Bd} {s : PS} {os : List Nat} {ns ns' : List ANode}
theorem PAt.new (h : PAt w base P D T bv m s tv sv os ns) (ht : TreeAt w' T tv' ns' m.nodes) (ho : Only (TB T tv) w w') {js : List JN} {ups : List Nat} (hg : GoodN ns' ups) (hw : WfUps ups) (hv : ns'.map ANode.val = js.map JN.val) (hne : js ≠ []) :
    PAt w' base P D T bv m ⟨js, ups, s.stack⟩ tv' sv os ns' := by
 have hk : ∀ {k : Nat} {cs : Array Value} {U : TypeId} {f : Nat × Nat}, w.heap[k]? = some (.cells cs U f) → U ≠ 172 → U ≠ 228 → w'.heap[k]? = some (.cells cs U f) := fun {k cs U f} hb h1 h2 => by
  rw [ho.block k (heap_lt hb) (fun e => ?_)]; exact hb
  rcases e with rfl | e
  · exact ne_type hb h.tree.box h1 rfl
  · obtain ⟨cur, hc⟩ := own_type h.tree.own e
    exact ne_type hb hc h2 rfl
 refine ⟨hk h.box (by decide) (by decide), hk h.doc (by decide) (by decide), ht, hg, hw, hv, ?_, h.len, fun i b o hb hs => hk (h.ops i b o hb hs) (by decide) (by decide), h.nd, h.lowP, h.lowD, h.lowT, h.lowO, fun e => absurd e hne⟩
 refine aown_ext h.row (fun g hg => ?_) (Nat.le_refl _)
 obtain ⟨cur, hc⟩ := own_type h.row hg
 rw [hc]; exact hk hc (by decide) (by decide)
/-- A block of another kind stands behind Add as it stood. -/
theorem add_other {X : Nat} {cs : Array Value} {U : TypeId} {f : Nat × Nat} (h : PAt w base P D T bv m s tv sv os ns) (ho : Only (TB T tv) w w') (hX : w.heap[X]? = some (.cells cs U f)) (h1 : U ≠ 172) (h2 : U ≠ 228) : w'.heap[X]? = some (.cells cs U f) := by
 rw [ho.block X (heap_lt hX) (fun e => ?_)]; exact hX
 rcases e with rfl | e
 · exact ne_type hX h.tree.box h1 rfl
 · obtain ⟨cur, hc⟩ := own_type h.tree.own e
   exact ne_type hX hc h2 rfl
/-- One more list, or object. -/
theorem PAt.push {wa w2 : World} {bn : Nat} {o : Op} {sv' : Value} (h : PAt w base P D T bv m s tv sv os ns) (hwa : Below w.heap.size w wa) (hbn : wa.heap[bn]? = some (.cells (opC o) 126 (0, 0))) (hnw : w.heap.size ≤ bn) (hbw : base ≤ w.heap.size) (hg : wa.grownBy w2 sv.ownBlock)
    (hown : w2.ownsRow base 123 1 sv' (os.length + 1) ((os.map ptrV).reverse ++ [ptrV bn])) :
    PAt (w2.setCell ⟨P, 5, none⟩ sv') base P D T bv m { s with stack := o :: s.stack } tv sv' (bn :: os) ns := by
 have hP := h.box
 have hk2 : ∀ {k : Nat} {cs : Array Value} {U : TypeId} {f : Nat × Nat}, wa.heap[k]? = some (.cells cs U f) → U ≠ 123 → w2.heap[k]? = some (.cells cs U f) := fun {k cs U f} hb h1 => by
  rw [hg.block k (heap_lt hb) (fun e => ?_)]; exact hb
  obtain ⟨cur, hc⟩ := own_type h.row e.symm
  have hc' : wa.heap[k]? = some (.cells cur 123 (0, 0)) := by rw [hwa.block k (heap_lt hc)]; exact hc
  exact ne_type hb hc' h1 rfl
 have hk1 : ∀ {k : Nat} {cs : Array Value} {U : TypeId} {f : Nat × Nat}, w.heap[k]? = some (.cells cs U f) → wa.heap[k]? = some (.cells cs U f) := fun {k cs U f} hb => by rw [hwa.block k (heap_lt hb)]; exact hb
 have hk : ∀ {k : Nat} {cs : Array Value} {U : TypeId} {f : Nat × Nat}, w.heap[k]? = some (.cells cs U f) → U ≠ 123 → U ≠ 122 → (w2.setCell ⟨P, 5, none⟩ sv').heap[k]? = some (.cells cs U f) := fun {k cs U f} hb h1 h2 => by
  rw [Below.heap_setCell _ _ _ _ (show k ≠ P from ne_type hb hP h2)]
  exact hk2 (hk1 hb) h1
 have hb2 := hk2 (hk1 hP) (by decide)
 have hnP : bn ≠ P := ne_type hbn (hk1 hP) (by decide)
 refine ⟨?_, hk h.doc (by decide) (by decide), ?_, h.good, h.wf, h.vals, ?_, ?_, fun i c p hci hp => ?_, ?_, h.lowP, h.lowD, h.lowT, fun c hc => ?_, h.nil0⟩
 · have := Go.Joins.block_setCell hb2 (i := 5) sv'
   simpa using this
 · refine h.tree.ext (fun k hl ht => ?_)
   rcases ht with rfl | ht
   · rw [h.tree.box]; exact hk h.tree.box (by decide) (by decide)
   · obtain ⟨cur, hc⟩ := own_type h.tree.own ht
     rw [hc]; exact hk hc (by decide) (by decide)
 · have e1 : (List.map ptrV (bn :: os)).reverse = (os.map ptrV).reverse ++ [ptrV bn] := by simp
   rw [e1]
   refine aown_ext hown (fun g hgg => Below.heap_setCell _ _ _ _ (fun e => ?_)) (Nat.le_refl _)
   obtain ⟨cur, hc⟩ := own_type hown hgg
   simp only at e
   subst e
   exact ne_type hc hb2 (by decide) rfl
 · have := h.len; simp only [List.length_cons]; omega
 · cases i with
   | zero =>
     simp at hci hp
     subst hci; subst hp
     unfold OpAt
     rw [Below.heap_setCell _ _ _ _ hnP]
     exact hk2 hbn (by decide)
   | succ i =>
     simp at hci hp
     exact hk (h.ops i c p hci hp) (by decide) (by decide)
 · refine List.nodup_cons.2 ⟨fun hm => ?_, h.nd⟩
   obtain ⟨i, hi⟩ := List.mem_iff_getElem?.1 hm
   have hil := (List.getElem?_eq_some_iff.1 hi).1
   obtain ⟨p, hp⟩ := get_ex s.stack i (by have := h.len; omega)
   have := heap_lt (h.ops i bn p hi hp)
   omega
 · rcases List.mem_cons.1 hc with rfl | hc
   · omega
   · exact h.lowO c hc
end
/-- No room: the walk of Add. -/
def AddNo (w : World) (e : Ending) (w' : World) : Prop := ∃ u, e = .returned (.tuple #[.int .i64 0, .iface 85 (.pointer (some u))]) ∧ Below w.heap.size w w'
set_option maxRecDepth 100000 in
set_option maxHeartbeats 4000000 in
theorem add_many (B : Nat) (v : Value) (ns : List ANode) (most : Int) (u : Int) (x : JN) (w0 : World) (h0 : TreeAt w0 B v ns most) (hu : 0 ≤ u ∧ u < ns.length ∨ u = -1 ∧ ns = []) (hmost : most ≤ ns.length) :
    Calls Tryz.prog 123 #[.pointer (some ⟨B, 0, none⟩), .int .i64 u, .agg #[.int .i64 x.kind, .string x.key, .string x.text, .int .i64 x.at_]] w0 (AddNo w0) := by
 obtain ⟨w, hbx⟩ : ∃ W, w0.alloc (.cells #[.int .i64 x.kind, .string x.key, .string x.text, .int .i64 x.at_] 117) = W := ⟨_, rfl⟩
 have hb : Below w0.heap.size w0 w := by rw [← hbx]; exact ext_alloc (Below.refl _ _) _
 have h : TreeAt w B v ns most := h0.below hb
 have HH := has_id B v ns most u w h
 have F1 := fails 15 u w
 obtain ⟨ao, cap, rfl, _⟩ := h.form
 have c0 := h.cell0
 have c1 := h.cell1
 have t2 : decide (most ≤ (ns.length : Int)) = true := decide_eq_true hmost
 have HB := Lib.hid hb
 have FF := Lib.hid F1
 have hu' : (decide (0 ≤ u ∧ u < (ns.length : Int)) = true) ∨ (decide (0 ≤ u ∧ u < (ns.length : Int)) = false ∧ ns.length = 0 ∧ (u != -1) = false) := by
  rcases hu with h | ⟨h1, h2⟩
  · exact .inl (decide_eq_true h)
  · exact .inr ⟨decide_eq_false (by omega), by rw [h2]; rfl, by rw [h1]; rfl⟩
 clear h h0 hb F1 hu
 rcases hu' with e | ⟨e, e0, e1⟩
 · rw [e] at HH
   have HH := Lib.hid HH
   clear e
   go_enter Tryz.func123, Tryz.ntmps123
   go_wp2_with fail
   clear hbx
   refine HH.out.mono ?_
   rintro e w1 ⟨rfl, rfl⟩
   go_wp2_with fail
   refine FF.out.mono ?_
   rintro e w2 ⟨q, rfl, hf⟩
   obtain ⟨p, rfl⟩ := hf.form
   have HF := Lib.hid (ext_trans HB.out hf.2)
   clear hf
   go_wp2
   go_ret2
   exact ⟨p, rfl, HF.out⟩
 · rw [e] at HH
   rw [e0] at c0 t2
   have t3 : decide (most ≤ (0 : Int)) = true := t2
   have HH := Lib.hid HH
   clear e e0
   go_enter Tryz.func123, Tryz.ntmps123
   go_wp2_with fail
   clear hbx
   refine HH.out.mono ?_
   rintro e w1 ⟨rfl, rfl⟩
   go_wp2_with fail
   refine FF.out.mono ?_
   rintro e w2 ⟨q, rfl, hf⟩
   obtain ⟨p, rfl⟩ := hf.form
   have HF := Lib.hid (ext_trans HB.out hf.2)
   clear hf
   go_wp2
   go_ret2
   exact ⟨p, rfl, HF.out⟩
end
end Go.Proofs.YtcaiibkgajhohaaGreatDoor
