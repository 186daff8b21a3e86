/- Two trees that are one, behind each call of a script: the plain part. -/
import Derived.Test.YtmdalkjhlhkloaaDoorArena21
namespace Go.Proofs.YtmdalkjhlhkloaaDoor
open Go.RowKit
structure Ap (w0 : World) (B R : Nat) (most : Int) (j : Nat) (v : Value) (ns : List ANode) (vV vU : Value) (vs us : List Int) (ups : List Nat) (wx : World) : Prop where
  twin : Twin wx B v ns R vV vU vs us most ups
  le : ups.length ≤ j
  small : j ≤ 1000
  apart : ∀ k, TB B v k → ¬ RB R vV vU k
  hB : w0.heap.size ≤ B
  hR : w0.heap.size ≤ R
  below : Below w0.heap.size w0 wx
  nil : ns = [] → v = .slice none 0 0
theorem map_val_set (ns : List ANode) (i : Nat) (f : ANode → ANode) (a : ANode) : (ns.set i a).map f = (ns.map f).set i (f a) := by simp
theorem goodN_val {ns : List ANode} {ups : List Nat} (h : GoodN ns ups) {i : Nat} {a : ANode} (ha : ns[i]? = some a) (x : Value) : GoodN (ns.set i { a with val := x }) ups := by
  have key : ∀ (q : Nat) (b : ANode), (ns.set i { a with val := x })[q]? = some b → ∃ c, ns[q]? = some c ∧ b.up = c.up ∧ b.first = c.first ∧ b.last = c.last ∧ b.next = c.next ∧ b.deep = c.deep ∧ b.count = c.count := by
    intro q b hb
    by_cases e : i = q
    · subst e
      have hi := (List.getElem?_eq_some_iff.1 ha).1
      rw [List.getElem?_set_self hi] at hb
      cases hb
      exact ⟨a, ha, rfl, rfl, rfl, rfl, rfl, rfl⟩
    · rw [List.getElem?_set_ne e] at hb
      exact ⟨b, hb, rfl, rfl, rfl, rfl, rfl, rfl⟩
  refine ⟨by rw [List.length_set]; exact h.len, ?_, ?_, ?_, ?_, ?_, ?_, ?_, ?_⟩
  · intro q b hb; obtain ⟨c, hc, e1, e2, e3, e4, e5, e6⟩ := key q b hb; rw [e2]; exact h.first q c hc
  · intro q b hb; obtain ⟨c, hc, e1, e2, e3, e4, e5, e6⟩ := key q b hb; rw [e3]; exact h.last q c hc
  · intro q b hb; obtain ⟨c, hc, e1, e2, e3, e4, e5, e6⟩ := key q b hb; rw [e4]; exact h.next q c hc
  · intro q b hb; obtain ⟨c, hc, e1, e2, e3, e4, e5, e6⟩ := key q b hb; rw [e6]; exact h.count q c hc
  · intro q u b h0 hu hb; obtain ⟨c, hc, e1, e2, e3, e4, e5, e6⟩ := key q b hb; rw [e1]; exact h.up q u c h0 hu hc
  · intro b hb; obtain ⟨c, hc, e1, e2, e3, e4, e5, e6⟩ := key 0 b hb; rw [e1]; exact h.up0 c hc
  · intro b hb; obtain ⟨c, hc, e1, e2, e3, e4, e5, e6⟩ := key 0 b hb; rw [e5]; exact h.deep0 c hc
  · intro q u b d h0 hu hb hd
    obtain ⟨c, hc, _, _, _, _, e5, _⟩ := key q b hb
    obtain ⟨c', hc', _, _, _, _, e5', _⟩ := key u d hd
    rw [e5, e5']; exact h.deep q u c c' h0 hu hc hc'
theorem addN_vals {ns : List ANode} {u : Nat} {x : Value} {a : ANode} (ha : ns[u]? = some a) : (addN ns u x).map (·.val) = ns.map (·.val) ++ [x] := by
  have hun := (List.getElem?_eq_some_iff.1 ha).1
  have hl := addN_length (v := x) hun
  apply List.ext_getElem?
  intro q
  rw [List.getElem?_map]
  by_cases hq : q < (addN ns u x).length
  · obtain ⟨b, hb⟩ := get_ex (addN ns u x) q hq
    rw [hb]
    rcases addN_get ha q b hb with ⟨h1, h2⟩ | ⟨h1, c, hc, h2, _⟩
    · rw [List.getElem?_append_right (by simp; omega), h1, h2]; simp
    · rw [List.getElem?_append_left (by simp; omega), List.getElem?_map, hc]; simp [h2]
  · rw [List.getElem?_eq_none (by omega), List.getElem?_eq_none (by simp; omega)]; rfl
section
variable {w0 wx w' w2 : World} {B R j : Nat} {most : Int} {v vV vU : Value} {ns : List ANode} {vs us : List Int} {ups : List Nat}
theorem Ap.next (h : Ap w0 B R most j v ns vV vU vs us ups wx) (hj : j < 1000) : Ap w0 B R most (j + 1) v ns vV vU vs us ups wx :=
  ⟨h.twin, by have := h.le; omega, hj, h.apart, h.hB, h.hR, h.below, h.nil⟩
theorem Ap.ext (h : Ap w0 B R most j v ns vV vU vs us ups wx) (hb : Below wx.heap.size wx w') : Ap w0 B R most j v ns vV vU vs us ups w' :=
  ⟨h.twin.below hb, h.le, h.small, h.apart, h.hB, h.hR, ext_trans h.below hb, h.nil⟩
theorem TreeAt.geB (h : TreeAt wx B v ns most) : ∀ k, TB B v k → B ≤ k ∧ k < wx.heap.size := fun k hk => by
  rcases hk with rfl | hk
  · exact ⟨Nat.le_refl _, h.lt⟩
  · have := h.own.lt k hk; omega
theorem RTreeAt.geR (h : RTreeAt wx R vV vU vs us most) : ∀ k, RB R vV vU k → R ≤ k ∧ k < wx.heap.size := fun k hk => by
  rcases hk with rfl | hk | hk
  · exact ⟨Nat.le_refl _, h.lt⟩
  · have := h.geV k hk; omega
  · have := h.geU k hk; omega
theorem Ap.mAt (h : Ap w0 B R most j v ns vV vU vs us ups wx) (ho : Only (TB B v) wx w') : RTreeAt w' R vV vU vs us most := h.twin.m.ext (fun k hk hT => ho.block k hk (fun hB => h.apart k hB hT))
/-- Behind a Set of both. -/
theorem Ap.setBoth (h : Ap w0 B R most j v ns vV vU vs us ups wx) {i : Nat} {a : ANode} {x : Int} (ha : ns[i]? = some a)
    (ht : TreeAt w' B v (ns.set i { a with val := .int .i64 x }) most) (ho : Only (TB B v) wx w') {g cap : Nat} (hv : vV = .slice (some ⟨g, 0, none⟩) vs.length cap) :
    RTreeAt w' R vV vU vs us most ∧ Ap w0 B R most j v (ns.set i { a with val := .int .i64 x }) vV vU (vs.set i x) us ups (w'.setCell ⟨g, i, none⟩ (.int .i64 x)) := by
  have hm : RTreeAt w' R vV vU vs us most := h.twin.m.ext (fun k hk hT => ho.block k hk (fun hB => h.apart k hB hT))
  have hgb : vV.ownBlock = some g := by rw [hv]; rfl
  have hgV := hm.geV g hgb
  have hna : ¬ TB B v g := fun hT => h.apart g hT (.inr (.inl hgb))
  have hi := (List.getElem?_eq_some_iff.1 ha).1
  have hkeep : ∀ k, k ≠ g → (w'.setCell ⟨g, i, none⟩ (.int .i64 x)).heap[k]? = w'.heap[k]? := fun k hk => Below.heap_setCell w' ⟨g, i, none⟩ _ k hk
  have h1 : (w'.setCell ⟨g, i, none⟩ (.int .i64 x)).ownsRow (R + 1) 3 1 vV (vs.set i x).length ((vs.set i x).map (Value.int .i64)) := by
    have hov := hm.ownV
    rw [hv] at hov ⊢
    have := (hov.stored i (.int .i64 x)).1
    rw [List.length_set]
    rwa [← List.map_set] at this
  refine ⟨hm, ⟨⟨?_, ⟨?_, h1, ?_, hm.ne⟩, goodN_val h.twin.good ha _, h.twin.wf, h.twin.rups, ?_, by rw [List.length_set]; exact h.twin.len, h.twin.small⟩, h.le, h.small, h.apart, h.hB, h.hR, ?_, fun e => by rw [List.set_eq_nil_iff] at e; rw [e] at hi; simp at hi⟩⟩
  · exact ht.ext (fun k hk hT => hkeep k (fun e => hna (e ▸ hT)))
  · rw [hkeep R (by omega)]; exact hm.box
  · exact aown_ext hm.ownU (fun k hk => hkeep k (fun e => hm.ne g hgb (e ▸ hk))) (Nat.le_refl _)
  · rw [List.map_set, List.map_set, h.twin.vals]
  · have hb1 : Below w0.heap.size w0 w' := h.below.trans (ho.below h.below.size (fun k hk => by have := (h.twin.t.geB k hk).1; have := h.hB; omega))
    exact hb1.setCell (by have := h.hR; simp; omega) _
/-- Behind an Add of both. -/
theorem Ap.addBoth (h : Ap w0 B R most j v ns vV vU vs us ups wx) {e e' : Ending} {x up : Int} {ns' : List ANode} {ups' : List Nat} (hj : j < 1000) (ha : AddPost B v ns' most wx e w' ns.length) (hr : RAddPost R vV vU vs us most x up w' e' w2)
    (hg : GoodN ns' ups') (hw : WfUps ups') (hru : RUps (us ++ [up]) ups') (hv : ns'.map (·.val) = ns.map (·.val) ++ [.int .i64 x]) (hl : ups'.length = ups.length + 1) :
    e = .returned (.tuple #[.int .i64 ns.length, .nilIface]) ∧ e' = .returned (.tuple #[.int .i64 ns.length, .int .i64 0]) ∧ ∃ v' vV' vU', Ap w0 B R most (j + 1) v' ns' vV' vU' (vs ++ [x]) (us ++ [up]) ups' w2 := by
  obtain ⟨v', he, ht, ho, hn⟩ := ha
  obtain ⟨vV', vU', he', hm', hor, hnV, hnU⟩ := hr
  have hlen : vs.length = ns.length := by rw [h.twin.len, h.twin.nlen]
  refine ⟨he, by rw [he', hlen], v', vV', vU', ⟨⟨?_, hm', hg, hw, hru, ?_, ?_, ?_⟩, ?_, hj, ?_, h.hB, h.hR, ?_, fun e => by have := congrArg List.length hv; rw [e] at this; simp at this⟩⟩
  · refine ht.ext (fun k hk hT => hor.block k hk (fun hR => ?_))
    rcases hT with rfl | hT
    · exact h.apart k (.inl rfl) hR
    · rcases hn k hT with h1 | h1
      · exact h.apart k (.inr h1) hR
      · have := (h.twin.m.geR k hR).2; omega
  · rw [hv, h.twin.vals]; simp
  · rw [List.length_append, List.length_cons, List.length_nil, hl, h.twin.len]
  · have := h.le; omega
  · have := h.le; omega
  · intro k hT hR
    have hk' : k < w'.heap.size := (ht.geB k hT).2
    have hzz := ho.size
    -- where k comes from, on both sides
    have hRk : RB R vV vU k := by
      rcases hR with rfl | h1 | h1
      · exact .inl rfl
      · rcases hnV k h1 with h2 | h2
        · exact .inr (.inl h2)
        · omega
      · rcases hnU k h1 with h2 | h2
        · exact .inr (.inr h2)
        · omega
    rcases hT with rfl | hT
    · exact h.apart k (.inl rfl) hRk
    · rcases hn k hT with h1 | h1
      · exact h.apart k (.inr h1) hRk
      · have := (h.twin.m.geR k hRk).2; omega
  · have hb1 : Below w0.heap.size w0 w' := h.below.trans (ho.below h.below.size (fun k hk => by have := (h.twin.t.geB k hk).1; have := h.hB; omega))
    exact hb1.trans (hor.below hb1.size (fun k hk => by have := (h.twin.m.geR k hk).1; have := h.hR; omega))
end
theorem rups_root : RUps [-1] [0] := ⟨rfl, fun i u h0 hu => by cases i <;> simp at h0 hu, .inr rfl⟩
theorem rups_snoc {us : List Int} {ups : List Nat} (h : RUps us ups) (h0 : 0 < ups.length) (u : Nat) : RUps (us ++ [(u : Int)]) (ups ++ [u]) := by
  have hl := h.len
  refine ⟨by simp [hl], fun i x hi hx => ?_, ?_⟩
  · by_cases h1 : i < ups.length
    · rw [List.getElem?_append_left h1] at hx
      rw [List.getElem?_append_left (by omega)]
      exact h.up i x hi hx
    · rw [List.getElem?_append_right (by omega)] at hx
      have hz : i - ups.length = 0 := by
        have := (List.getElem?_eq_some_iff.1 hx).1; simp at this; omega
      rw [hz] at hx
      simp at hx
      subst hx
      rw [List.getElem?_append_right (by omega), show i - us.length = 0 by omega]; rfl
  · rw [List.getElem?_append_left (by omega)]; exact h.zero
theorem wf_root : WfUps [0] := fun i u h0 hu => by cases i <;> simp at h0 hu
end Go.Proofs.YtmdalkjhlhkloaaDoor
