/- The steps of a walk, and what one more node turns: plain lists. Nothing of the program. -/
import Derived.Test.YtmhfbdeeebbloaaDoorArena0
namespace Go.Proofs.YtmhfbdeeebbloaaDoor
open Go.RowKit
/-- Where the way up from k ends: behind all that is beneath it; -1: at the end e. -/
inductive Out (ups : List Nat) (e : Nat) : Nat → Int → Prop
  | stop : Out ups e e (-1)
  | next {k : Nat} {x : Int} : k ≠ e → k < ups.length → nextK ups k = x → x ≠ -1 → Out ups e k x
  | up {k u : Nat} {x : Int} : k ≠ e → k < ups.length → 0 < k → nextK ups k = -1 → ups[k]? = some u → Out ups e u x → Out ups e k x
def After (ups : List Nat) (e k : Nat) (x : Int) : Prop := if kids ups k = [] then Out ups e k x else x = headI (kids ups k)
inductive Chain (ups : List Nat) (e : Nat) : Int → List Nat → Prop
  | nil : Chain ups e (-1) []
  | cons {k : Nat} {x : Int} {l : List Nat} : k < ups.length → After ups e k x → Chain ups e x l → Chain ups e k (k :: l)
theorem filter_gt {A B : List Nat} {c : Nat} (h : (A ++ c :: B).Pairwise (· < ·)) : (A ++ c :: B).filter (fun j => decide (c < j)) = B := by
  rw [List.pairwise_append] at h
  obtain ⟨_, h2, h3⟩ := h
  rw [List.pairwise_cons] at h2
  rw [List.filter_append, List.filter_cons]
  have e1 : A.filter (fun j => decide (c < j)) = [] := by
    rw [List.filter_eq_nil_iff]
    intro a ha
    have := h3 a ha c (by simp)
    simp; omega
  have e2 : B.filter (fun j => decide (c < j)) = B := by
    rw [List.filter_eq_self]
    intro b hb
    simpa using h2.1 b hb
  simp [e1, e2]
theorem next_kid {ups : List Nat} {k c : Nat} {A B : List Nat} (h : kids ups k = A ++ c :: B) : nextK ups c = headI B := by
  have hm : c ∈ kids ups k := by rw [h]; simp
  obtain ⟨h0, hl, hu⟩ := mem_kids.1 hm
  have hs := kids_sorted ups k
  rw [h] at hs
  simp only [nextK, hu]
  rw [if_neg (by omega), h, filter_gt hs]
theorem chain_pre {ups : List Nat} (hw : WfUps ups) (e : Nat) : ∀ (f k : Nat) (x : Int) (l : List Nat), ups.length - k ≤ f → k < ups.length → e ≤ k → Out ups e k x → Chain ups e x l → Chain ups e k (pre ups f k ++ l)
  | 0, k, x, l, hf, hk, _, _, _ => by omega
  | f + 1, k, x, l, hf, hk, he, ho, hc => by
    have key : ∀ (cs : List Nat) (c : Nat) (A : List Nat), kids ups k = A ++ c :: cs → Chain ups e c ((c :: cs).flatMap (pre ups f) ++ l) := by
      intro cs
      induction cs with
      | nil =>
        intro c A h
        have hm : c ∈ kids ups k := by rw [h]; simp
        have hg := kids_gt hw hm
        obtain ⟨h0, hl, hu⟩ := mem_kids.1 hm
        have := chain_pre hw e f c x l (by omega) hl (by omega) (.up (by omega) hl h0 (by rw [next_kid h]; rfl) hu ho) hc
        simpa using this
      | cons d ds ih =>
        intro c A h
        have hm : c ∈ kids ups k := by rw [h]; simp
        have hg := kids_gt hw hm
        obtain ⟨h0, hl, hu⟩ := mem_kids.1 hm
        have hd := ih d (A ++ [c]) (by rw [h]; simp)
        have := chain_pre hw e f c (d : Nat) _ (by omega) hl (by omega) (.next (by omega) hl (next_kid h) (by omega)) hd
        rw [List.flatMap_cons, List.append_assoc]; exact this
    rw [pre, List.cons_append]
    cases h : kids ups k with
    | nil => exact .cons hk (by rw [After, if_pos h]; exact ho) (by simpa [h] using hc)
    | cons c cs => exact .cons (x := (c : Nat)) hk (by rw [After, if_neg (by rw [h]; simp), h]; rfl) (key cs c [] (by rw [h]; rfl))
/-- The walk from e: the numbers behind e itself. -/
theorem chain_top {ups : List Nat} (hw : WfUps ups) (e : Nat) (he : e < ups.length) : ∃ l, pre ups ups.length e = e :: l ∧ Chain ups e (headI (kids ups e)) l := by
  have h := chain_pre hw e ups.length e (-1) [] (by omega) he (Nat.le_refl _) .stop .nil
  rw [List.append_nil] at h
  obtain ⟨m, hm⟩ : ∃ m, ups.length = m + 1 := ⟨ups.length - 1, by omega⟩
  have e1 : pre ups ups.length e = e :: (kids ups e).flatMap (pre ups m) := by rw [hm]; rfl
  refine ⟨_, e1, ?_⟩
  rw [e1] at h
  generalize hE : (e : Int) = E at h
  generalize hL : e :: (kids ups e).flatMap (pre ups m) = L at h
  cases h with
  | nil => cases hL
  | @cons k x l hk ha hc =>
    obtain rfl : e = k := by omega
    simp only [List.cons.injEq, true_and] at hL
    rw [hL]
    rw [After] at ha
    split at ha
    · rename_i hn
      rw [hn]
      cases ha with
      | stop => exact hc
      | next h => exact absurd rfl h
      | up h => exact absurd rfl h
    · rw [ha] at hc; exact hc

/-! ### One more node -/
theorem wf_snoc {ups : List Nat} (hw : WfUps ups) (_h0 : 0 < ups.length) {u : Nat} (hu : u < ups.length) : WfUps (ups ++ [u]) := by
  intro i x hi hx
  by_cases h : i < ups.length
  · rw [List.getElem?_append_left h] at hx; exact hw i x hi hx
  · rw [List.getElem?_append_right (by omega)] at hx
    have : i - ups.length = 0 := by
      cases hh : i - ups.length with
      | zero => rfl
      | succ m => rw [hh] at hx; simp at hx
    rw [this] at hx; simp at hx; omega
theorem headI_filter {l : List Nat} {p : Nat → Bool} (h : headI (l.filter p) = -1) : ∀ x ∈ l, p x = false := by
  intro x hx
  have := headI_neg.1 h
  rw [List.filter_eq_nil_iff] at this
  simpa using this x hx
theorem addN_get {ns : List ANode} {u : Nat} {v : Value} {a : ANode} (ha : ns[u]? = some a) : ∀ i b, (addN ns u v)[i]? = some b →
    (i = ns.length ∧ b = ⟨v, u, -1, -1, -1, a.deep + 1, 0⟩) ∨ (i < ns.length ∧ ∃ c, ns[i]? = some c ∧ b.val = c.val ∧ b.up = c.up ∧ b.deep = c.deep ∧
      b.first = (if i = u ∧ c.last = -1 then (ns.length : Int) else c.first) ∧ b.last = (if i = u then (ns.length : Int) else c.last) ∧ b.count = (if i = u then c.count + 1 else c.count) ∧
      b.next = (if a.last ≠ -1 ∧ i = a.last.toNat then (ns.length : Int) else c.next)) := by
  intro i b hb
  obtain ⟨hu, hau⟩ := List.getElem?_eq_some_iff.1 ha
  by_cases hi : i < ns.length
  · right
    refine ⟨hi, ns[i], List.getElem?_eq_getElem hi, ?_⟩
    simp only [addN, ha] at hb
    rw [List.getElem?_append_left (by split <;> simp [hi])] at hb
    split at hb
    · rename_i hl
      rw [List.getElem?_modify] at hb
      by_cases hiu : u = i
      · subst hiu
        simp [hu] at hb
        subst hb
        simp [hau, hl]
      · rw [List.getElem?_set_ne hiu, List.getElem?_eq_getElem hi] at hb
        simp [hiu] at hb
        subst hb
        simp [show ¬ i = u from fun e => hiu e.symm, hl]
    · rename_i hl
      rw [List.getElem?_modify, List.getElem?_modify, List.getElem?_eq_getElem hi] at hb
      by_cases hiu : u = i
      · subst hiu
        by_cases hil : a.last.toNat = u
        · simp [hil] at hb
          subst hb
          simp [hau, hl, hil]
        · simp [hil] at hb
          subst hb
          simp [hau, hl, show ¬ u = a.last.toNat from fun e => hil e.symm]
      · have hiu' : ¬ i = u := fun e => hiu e.symm
        by_cases hil : a.last.toNat = i
        · simp [hiu, hil] at hb
          subst hb
          simp [hl, hil, hiu']
        · simp [hil, hiu] at hb
          subst hb
          simp [hl, show ¬ i = a.last.toNat from fun e => hil e.symm, hiu']
  · left
    simp only [addN, ha] at hb
    have hlen : ((if a.last = -1 then ns.set u { a with first := ns.length } else ns.modify a.last.toNat fun b => { b with next := ns.length }).modify u fun b => { b with last := ns.length, count := b.count + 1 }).length = ns.length := by split <;> simp
    rw [List.getElem?_append_right (by rw [hlen]; omega), hlen] at hb
    have : i - ns.length = 0 := by
      cases hh : i - ns.length with
      | zero => rfl
      | succ m => rw [hh] at hb; simp at hb
    rw [this] at hb
    simp at hb
    exact ⟨by omega, hb.symm⟩
theorem addN_length {ns : List ANode} {u : Nat} {v : Value} (hu : u < ns.length) : (addN ns u v).length = ns.length + 1 := by
  simp only [addN, List.getElem?_eq_getElem hu]
  split <;> simp
theorem lastI_mem {l : List Nat} {k : Nat} (h : lastI l = k) : k ∈ l := by
  unfold lastI at h
  cases hl : l.getLast? with
  | none => rw [hl] at h; simp at h
  | some x =>
    rw [hl] at h
    obtain rfl : x = k := by simp only at h; omega
    exact List.mem_of_getLast? hl
theorem last_split {l : List Nat} (h : l ≠ []) : ∃ A k, l = A ++ [k] := ⟨l.dropLast, l.getLast h, (List.dropLast_concat_getLast h).symm⟩
theorem goodN_add {ns : List ANode} {ups : List Nat} {u : Nat} (v : Value) (hw : WfUps ups) (h : GoodN ns ups) (hu : u < ups.length) : GoodN (addN ns u v) (ups ++ [u]) := by
  have h0 : 0 < ups.length := by omega
  have hun : u < ns.length := by rw [h.len]; exact hu
  obtain ⟨a, ha⟩ := get_ex ns u hun
  have G := addN_get (v := v) ha
  have hlast := h.last u a ha
  have hlen := h.len
  have hK := fun i => kids_snoc ups u i h0
  have noK : kids ups ups.length = [] := by
    rw [List.eq_nil_iff_forall_not_mem]
    intro j hj
    have := kids_gt hw hj
    have := (mem_kids.1 hj).2.1
    omega
  constructor
  · rw [addN_length hun]; simp [hlen]
  · intro i b hb
    rw [hK]
    rcases G i b hb with ⟨rfl, rfl⟩ | ⟨hi, c, hc, _, _, _, hf, _, _, _⟩
    · simp [hlen, noK, show ¬ u = ups.length by omega, headI]
    · rw [hf, h.first i c hc, h.last i c hc]
      by_cases hiu : i = u
      · subst hiu
        rw [if_pos rfl, headI_append]
        by_cases hk : kids ups i = []
        · simp [hk, lastI, headI_cons, hlen]
        · have : ¬ lastI (kids ups i) = -1 := fun e => hk (lastI_neg.1 e)
          simp [hk, this]
      · simp [hiu, show ¬ u = i from fun e => hiu e.symm]
  · intro i b hb
    rw [hK]
    rcases G i b hb with ⟨rfl, rfl⟩ | ⟨hi, c, hc, _, _, _, _, hl, _, _⟩
    · simp [hlen, noK, show ¬ u = ups.length by omega, lastI]
    · rw [hl, h.last i c hc]
      by_cases hiu : i = u
      · subst hiu
        rw [if_pos rfl, if_pos rfl, lastI_snoc, hlen]
      · simp [hiu, show ¬ u = i from fun e => hiu e.symm]
  · intro i b hb
    rcases G i b hb with ⟨rfl, rfl⟩ | ⟨hi, c, hc, _, _, _, _, _, _, hn⟩
    · have e : (ups ++ [u])[ns.length]? = some u := by rw [hlen]; simp
      simp only [nextK, e]
      rw [if_neg (by omega), hK, if_pos rfl]
      have : (kids ups u ++ [ups.length]).filter (fun j => decide (ns.length < j)) = [] := by
        rw [List.filter_eq_nil_iff]
        intro j hj
        simp at hj ⊢
        rcases hj with hj | rfl
        · have := (mem_kids.1 hj).2.1; omega
        · omega
      rw [this]; rfl
    · have hi' : i < ups.length := by omega
      rw [hn, h.next i c hc]
      have e : (ups ++ [u])[i]? = ups[i]? := List.getElem?_append_left hi'
      simp only [nextK, e, List.getElem?_eq_getElem hi']
      by_cases hi0 : i = 0
      · subst hi0
        have : ¬ (a.last ≠ -1 ∧ 0 = a.last.toNat) := by
          rintro ⟨h1, h2⟩
          have hne : kids ups u ≠ [] := fun e => h1 (by rw [hlast, e]; rfl)
          obtain ⟨A, k, hk⟩ := last_split hne
          rw [hlast, hk, lastI_snoc] at h2
          have : k ∈ kids ups u := by rw [hk]; simp
          have := kids_gt hw this
          simp at h2; omega
        rw [if_neg this, if_pos rfl, if_pos rfl]
      · rw [if_neg hi0, if_neg hi0, hK]
        by_cases hiu : ups[i] = u
        · rw [if_pos hiu.symm, hiu, List.filter_append]
          have hm : i ∈ kids ups u := mem_kids.2 ⟨by omega, hi', by rw [List.getElem?_eq_getElem hi', hiu]⟩
          have hne : kids ups u ≠ [] := fun e => by rw [e] at hm; simp at hm
          have hl1 : a.last ≠ -1 := by rw [hlast]; exact fun e => hne (lastI_neg.1 e)
          obtain ⟨A, k, hk⟩ := last_split hne
          have hs := kids_sorted ups u
          have hsing : List.filter (fun j => decide (i < j)) [ups.length] = [ups.length] := by simp [hi']
          rw [hsing, headI_append]
          rw [hlast, hk, lastI_snoc]
          rw [hk] at hs hm
          by_cases hik : i = k
          · subst hik
            rw [filter_gt hs]
            simp [headI, hlen]
          · have hiA : i ∈ A := by simpa [hik] using hm
            have : (A ++ [k]).filter (fun j => decide (i < j)) ≠ [] := by
              intro e
              rw [List.filter_eq_nil_iff] at e
              have h1 := e k (by simp)
              have h2 := (List.pairwise_append.1 hs).2.2 i hiA k (by simp)
              simp at h1; omega
            rw [if_neg (fun e => hik (by have := e.2; simpa using this)), if_neg this]
        · rw [if_neg (c := u = ups[i]) (fun e => hiu e.symm), List.append_nil]
          have : ¬ (a.last ≠ -1 ∧ i = a.last.toNat) := by
            rintro ⟨h1, h2⟩
            have hne : kids ups u ≠ [] := fun e => h1 (by rw [hlast, e]; rfl)
            obtain ⟨A, k, hk⟩ := last_split hne
            rw [hlast, hk, lastI_snoc] at h2
            have hm : k ∈ kids ups u := by rw [hk]; simp
            have := (mem_kids.1 hm).2.2
            simp at h2
            subst h2
            rw [List.getElem?_eq_getElem hi'] at this
            exact hiu (Option.some.inj this)
          rw [if_neg this]
  · intro i b hb
    rw [hK]
    rcases G i b hb with ⟨rfl, rfl⟩ | ⟨hi, c, hc, _, _, _, _, _, hl, _⟩
    · simp [hlen, noK, show ¬ u = ups.length by omega]
    · rw [hl, h.count i c hc]
      by_cases hiu : i = u
      · subst hiu; simp
      · simp [hiu, show ¬ u = i from fun e => hiu e.symm]
  · intro i x b hi0 hx hb
    rcases G i b hb with ⟨rfl, rfl⟩ | ⟨hi, c, hc, _, hup, _, _, _, _, _⟩
    · rw [hlen] at hx; simp at hx; subst hx; rfl
    · rw [List.getElem?_append_left (by omega)] at hx
      rw [hup]; exact h.up i x c hi0 hx hc
  · intro b hb
    rcases G 0 b hb with ⟨e, _⟩ | ⟨hi, c, hc, _, hup, _, _, _, _, _⟩
    · omega
    · rw [hup]; exact h.up0 c hc
  · intro b hb
    rcases G 0 b hb with ⟨e, _⟩ | ⟨hi, c, hc, _, _, hd, _, _, _, _⟩
    · omega
    · rw [hd]; exact h.deep0 c hc
  · intro i x b y hi0 hx hb hy
    rcases G i b hb with ⟨rfl, rfl⟩ | ⟨hi, c, hc, _, _, hd, _, _, _, _⟩
    · rw [hlen] at hx; simp at hx; subst hx
      rcases G u y hy with ⟨e, _⟩ | ⟨_, c2, hc2, _, _, hd2, _, _, _, _⟩
      · omega
      · rw [ha] at hc2; cases hc2; rw [hd2]
    · rw [List.getElem?_append_left (by omega)] at hx
      have hxi := hw i x hi0 hx
      rcases G x y hy with ⟨e, _⟩ | ⟨_, c2, hc2, _, _, hd2, _, _, _, _⟩
      · omega
      · rw [hd, hd2]; exact h.deep i x c c2 hi0 hx hc hc2
end Go.Proofs.YtmhfbdeeebbloaaDoor
