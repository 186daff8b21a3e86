/- Arena0, Arena1, JsP0 in one text (a claim holds at most 60 files). -/
import Derived.Test.YtcaiibkgajhohaaGreatDoorYLib0s
import Derived.Test.YtcaiibkgajhohaaGreatDoorYOwn0s
namespace Go.Proofs.YtcaiibkgajhohaaGreatDoor
section
open Go.RowKit
structure ANode where
 val : Value
 up : Int
 first : Int
 last : Int
 next : Int
 deep : Int
 count : Int
def ANode.cells (a : ANode) : List Value := [a.val, .int .i64 a.up, .int .i64 a.first, .int .i64 a.last, .int .i64 a.next, .int .i64 a.deep, .int .i64 a.count]
/-- Each number but the root has a smaller one above it. -/
def WfUps (ups : List Nat) : Prop := ∀ i u, 0 < i → ups[i]? = some u → u < i
/-- The numbers right beneath one, in order. -/
def kids (ups : List Nat) (i : Nat) : List Nat := (List.range' 1 (ups.length - 1)).filter fun j => decide (ups[j]? = some i)
def headI (l : List Nat) : Int := match l.head? with | some x => x | none => -1
def lastI (l : List Nat) : Int := match l.getLast? with | some x => x | none => -1
def nextK (ups : List Nat) (i : Nat) : Int := match ups[i]? with
 | some u => if i = 0 then -1 else headI ((kids ups u).filter fun j => decide (i < j))
 | none => -1
theorem mem_kids {ups : List Nat} {i j : Nat} : j ∈ kids ups i ↔ 0 < j ∧ j < ups.length ∧ ups[j]? = some i := by
 simp [kids, List.mem_range'_1]
 constructor
 · rintro ⟨⟨h1, h2⟩, h3⟩; exact ⟨by omega, by omega, h3⟩
 · rintro ⟨h1, h2, h3⟩; exact ⟨⟨by omega, by omega⟩, h3⟩
theorem kids_gt {ups : List Nat} (hw : WfUps ups) {i j : Nat} (h : j ∈ kids ups i) : i < j := hw j i (mem_kids.1 h).1 (mem_kids.1 h).2.2
theorem kids_sorted (ups : List Nat) (i : Nat) : (kids ups i).Pairwise (· < ·) := (List.pairwise_lt_range' (s := 1) (n := ups.length - 1)).filter _
theorem kids_snoc (ups : List Nat) (u i : Nat) (h0 : 0 < ups.length) : kids (ups ++ [u]) i = kids ups i ++ if u = i then [ups.length] else [] := by
 have e : List.range' 1 ((ups ++ [u]).length - 1) = List.range' 1 (ups.length - 1) ++ [ups.length] := by
  have : (ups ++ [u]).length - 1 = (ups.length - 1) + 1 := by simp; omega
  rw [this, List.range'_concat]; congr 2; omega
 rw [kids, e, List.filter_append, kids]
 congr 1
 · apply List.filter_congr
   intro j hj
   have : j < ups.length := by have := List.mem_range'_1.1 hj; omega
   rw [List.getElem?_append_left this]
 · by_cases h : u = i
   · subst h; simp
   · simp [h]
/-- What the nodes are, told by the numbers above. -/
structure GoodN (ns : List ANode) (ups : List Nat) : Prop where
 len : ns.length = ups.length
 first : ∀ i a, ns[i]? = some a → a.first = headI (kids ups i)
 last : ∀ i a, ns[i]? = some a → a.last = lastI (kids ups i)
 next : ∀ i a, ns[i]? = some a → a.next = nextK ups i
 count : ∀ i a, ns[i]? = some a → a.count = ((kids ups i).length : Int)
 up : ∀ (i u : Nat) (a : ANode), 0 < i → ups[i]? = some u → ns[i]? = some a → a.up = (u : Int)
 up0 : ∀ a, ns[0]? = some a → a.up = -1
 deep0 : ∀ a, ns[0]? = some a → a.deep = 0
 deep : ∀ (i u : Nat) (a b : ANode), 0 < i → ups[i]? = some u → ns[i]? = some a → ns[u]? = some b → a.deep = b.deep + 1
def root (v : Value) : ANode := ⟨v, -1, -1, -1, -1, 0, 0⟩
theorem goodN_root (v : Value) : GoodN [root v] [0] := by
 constructor
 · rfl
 all_goals intro i
 · intro a h; cases i <;> simp at h; subst h; rfl
 · intro a h; cases i <;> simp at h; subst h; rfl
 · intro a h; cases i <;> simp at h; subst h; rfl
 · intro a h; cases i <;> simp at h; subst h; rfl
 · intro u a h0 h; cases i <;> simp at h0 h
 · intro h; simp at h; subst h; rfl
 · intro h; simp at h; subst h; rfl
 · intro u a b h0 h; cases i <;> simp at h0 h
/-- One more node beneath u. -/
def addN (ns : List ANode) (u : Nat) (v : Value) : List ANode := match ns[u]? with
 | none => ns
 | some a =>
   let ns1 := if a.last = -1 then ns.set u { a with first := ns.length } else ns.modify a.last.toNat fun b => { b with next := ns.length }
   (ns1.modify u fun b => { b with last := ns.length, count := b.count + 1 }) ++ [⟨v, u, -1, -1, -1, a.deep + 1, 0⟩]
theorem headI_nil : headI [] = -1 := rfl
theorem headI_cons (x : Nat) (l : List Nat) : headI (x :: l) = x := rfl
theorem headI_append (l m : List Nat) : headI (l ++ m) = if l = [] then headI m else headI l := by
 cases l <;> simp [headI]
theorem lastI_snoc (l : List Nat) (x : Nat) : lastI (l ++ [x]) = x := by simp [lastI]
theorem lastI_neg {l : List Nat} : lastI l = -1 ↔ l = [] := by
 unfold lastI
 cases h : l.getLast? with
 | none => simp at h; simp [h]
 | some x =>
   constructor
   · intro e; simp only at e; omega
   · intro e; subst e; simp at h
/-! ### A number and all beneath it -/
end
section
open Go.RowKit
theorem filter_gt {A B : List Nat} {c : Nat} (h : (A ++ c :: B).Pairwise (· < ·)) : (A ++ c :: B).filter (fun j => decide (c < j)) = B := by
 rw [List.pairwise_append] at h
 obtain ⟨_, h2, h3⟩ := h
 rw [List.pairwise_cons] at h2
 rw [List.filter_append, List.filter_cons]
 have e1 : A.filter (fun j => decide (c < j)) = [] := by
  rw [List.filter_eq_nil_iff]
  intro a ha
  have := h3 a ha c (by simp)
  simp; omega
 have e2 : B.filter (fun j => decide (c < j)) = B := by
  rw [List.filter_eq_self]
  intro b hb
  simpa using h2.1 b hb
 simp [e1, e2]
theorem next_kid {ups : List Nat} {k c : Nat} {A B : List Nat} (h : kids ups k = A ++ c :: B) : nextK ups c = headI B := by
 have hm : c ∈ kids ups k := by rw [h]; simp
 obtain ⟨h0, hl, hu⟩ := mem_kids.1 hm
 have hs := kids_sorted ups k
 rw [h] at hs
 simp only [nextK, hu]
 rw [if_neg (by omega), h, filter_gt hs]
/-! ### One more node -/
theorem addN_get {ns : List ANode} {u : Nat} {v : Value} {a : ANode} (ha : ns[u]? = some a) : ∀ i b, (addN ns u v)[i]? = some b →
    (i = ns.length ∧ b = ⟨v, u, -1, -1, -1, a.deep + 1, 0⟩) ∨ (i < ns.length ∧ ∃ c, ns[i]? = some c ∧ b.val = c.val ∧ b.up = c.up ∧ b.deep = c.deep ∧
      b.first = (if i = u ∧ c.last = -1 then (ns.length : Int) else c.first) ∧ b.last = (if i = u then (ns.length : Int) else c.last) ∧ b.count = (if i = u then c.count + 1 else c.count) ∧
      b.next = (if a.last ≠ -1 ∧ i = a.last.toNat then (ns.length : Int) else c.next)) := by
 intro i b hb
 obtain ⟨hu, hau⟩ := List.getElem?_eq_some_iff.1 ha
 by_cases hi : i < ns.length
 · right
   refine ⟨hi, ns[i], List.getElem?_eq_getElem hi, ?_⟩
   simp only [addN, ha] at hb
   rw [List.getElem?_append_left (by split <;> simp [hi])] at hb
   split at hb
   · rename_i hl
     rw [List.getElem?_modify] at hb
     by_cases hiu : u = i
     · subst hiu
       simp [hu] at hb
       subst hb
       simp [hau, hl]
     · rw [List.getElem?_set_ne hiu, List.getElem?_eq_getElem hi] at hb
       simp [hiu] at hb
       subst hb
       simp [show ¬ i = u from fun e => hiu e.symm, hl]
   · rename_i hl
     rw [List.getElem?_modify, List.getElem?_modify, List.getElem?_eq_getElem hi] at hb
     by_cases hiu : u = i
     · subst hiu
       by_cases hil : a.last.toNat = u
       · simp [hil] at hb
         subst hb
         simp [hau, hl, hil]
       · simp [hil] at hb
         subst hb
         simp [hau, hl, show ¬ u = a.last.toNat from fun e => hil e.symm]
     · have hiu' : ¬ i = u := fun e => hiu e.symm
       by_cases hil : a.last.toNat = i
       · simp [hiu, hil] at hb
         subst hb
         simp [hl, hil, hiu']
       · simp [hil, hiu] at hb
         subst hb
         simp [hl, show ¬ i = a.last.toNat from fun e => hil e.symm, hiu']
 · left
   simp only [addN, ha] at hb
   have hlen : ((if a.last = -1 then ns.set u { a with first := ns.length } else ns.modify a.last.toNat fun b => { b with next := ns.length }).modify u fun b => { b with last := ns.length, count := b.count + 1 }).length = ns.length := by split <;> simp
   rw [List.getElem?_append_right (by rw [hlen]; omega), hlen] at hb
   have : i - ns.length = 0 := by
    cases hh : i - ns.length with
    | zero => rfl
    | succ m => rw [hh] at hb; simp at hb
   rw [this] at hb
   simp at hb
   exact ⟨by omega, hb.symm⟩
theorem addN_length {ns : List ANode} {u : Nat} {v : Value} (hu : u < ns.length) : (addN ns u v).length = ns.length + 1 := by
 simp only [addN, List.getElem?_eq_getElem hu]
 split <;> simp
theorem last_split {l : List Nat} (h : l ≠ []) : ∃ A k, l = A ++ [k] := ⟨l.dropLast, l.getLast h, (List.dropLast_concat_getLast h).symm⟩
theorem goodN_add {ns : List ANode} {ups : List Nat} {u : Nat} (v : Value) (hw : WfUps ups) (h : GoodN ns ups) (hu : u < ups.length) : GoodN (addN ns u v) (ups ++ [u]) := by
 have h0 : 0 < ups.length := by omega
 have hun : u < ns.length := by rw [h.len]; exact hu
 obtain ⟨a, ha⟩ := get_ex ns u hun
 have G := addN_get (v := v) ha
 have hlast := h.last u a ha
 have hlen := h.len
 have hK := fun i => kids_snoc ups u i h0
 have noK : kids ups ups.length = [] := by
  rw [List.eq_nil_iff_forall_not_mem]
  intro j hj
  have := kids_gt hw hj
  have := (mem_kids.1 hj).2.1
  omega
 constructor
 · rw [addN_length hun]; simp [hlen]
 · intro i b hb
   rw [hK]
   rcases G i b hb with ⟨rfl, rfl⟩ | ⟨hi, c, hc, _, _, _, hf, _, _, _⟩
   · simp [hlen, noK, show ¬ u = ups.length by omega, headI]
   · rw [hf, h.first i c hc, h.last i c hc]
     by_cases hiu : i = u
     · subst hiu
       rw [if_pos rfl, headI_append]
       by_cases hk : kids ups i = []
       · simp [hk, lastI, headI_cons, hlen]
       · have : ¬ lastI (kids ups i) = -1 := fun e => hk (lastI_neg.1 e)
         simp [hk, this]
     · simp [hiu, show ¬ u = i from fun e => hiu e.symm]
 · intro i b hb
   rw [hK]
   rcases G i b hb with ⟨rfl, rfl⟩ | ⟨hi, c, hc, _, _, _, _, hl, _, _⟩
   · simp [hlen, noK, show ¬ u = ups.length by omega, lastI]
   · rw [hl, h.last i c hc]
     by_cases hiu : i = u
     · subst hiu
       rw [if_pos rfl, if_pos rfl, lastI_snoc, hlen]
     · simp [hiu, show ¬ u = i from fun e => hiu e.symm]
 · intro i b hb
   rcases G i b hb with ⟨rfl, rfl⟩ | ⟨hi, c, hc, _, _, _, _, _, _, hn⟩
   · have e : (ups ++ [u])[ns.length]? = some u := by rw [hlen]; simp
     simp only [nextK, e]
     rw [if_neg (by omega), hK, if_pos rfl]
     have : (kids ups u ++ [ups.length]).filter (fun j => decide (ns.length < j)) = [] := by
      rw [List.filter_eq_nil_iff]
      intro j hj
      simp at hj ⊢
      rcases hj with hj | rfl
      · have := (mem_kids.1 hj).2.1; omega
      · omega
     rw [this]; rfl
   · have hi' : i < ups.length := by omega
     rw [hn, h.next i c hc]
     have e : (ups ++ [u])[i]? = ups[i]? := List.getElem?_append_left hi'
     simp only [nextK, e, List.getElem?_eq_getElem hi']
     by_cases hi0 : i = 0
     · subst hi0
       have : ¬ (a.last ≠ -1 ∧ 0 = a.last.toNat) := by
        rintro ⟨h1, h2⟩
        have hne : kids ups u ≠ [] := fun e => h1 (by rw [hlast, e]; rfl)
        obtain ⟨A, k, hk⟩ := last_split hne
        rw [hlast, hk, lastI_snoc] at h2
        have : k ∈ kids ups u := by rw [hk]; simp
        have := kids_gt hw this
        simp at h2; omega
       rw [if_neg this, if_pos rfl, if_pos rfl]
     · rw [if_neg hi0, if_neg hi0, hK]
       by_cases hiu : ups[i] = u
       · rw [if_pos hiu.symm, hiu, List.filter_append]
         have hm : i ∈ kids ups u := mem_kids.2 ⟨by omega, hi', by rw [List.getElem?_eq_getElem hi', hiu]⟩
         have hne : kids ups u ≠ [] := fun e => by rw [e] at hm; simp at hm
         have hl1 : a.last ≠ -1 := by rw [hlast]; exact fun e => hne (lastI_neg.1 e)
         obtain ⟨A, k, hk⟩ := last_split hne
         have hs := kids_sorted ups u
         have hsing : List.filter (fun j => decide (i < j)) [ups.length] = [ups.length] := by simp [hi']
         rw [hsing, headI_append]
         rw [hlast, hk, lastI_snoc]
         rw [hk] at hs hm
         by_cases hik : i = k
         · subst hik
           rw [filter_gt hs]
           simp [headI, hlen]
         · have hiA : i ∈ A := by simpa [hik] using hm
           have : (A ++ [k]).filter (fun j => decide (i < j)) ≠ [] := by
            intro e
            rw [List.filter_eq_nil_iff] at e
            have h1 := e k (by simp)
            have h2 := (List.pairwise_append.1 hs).2.2 i hiA k (by simp)
            simp at h1; omega
           rw [if_neg (fun e => hik (by have := e.2; simpa using this)), if_neg this]
       · rw [if_neg (c := u = ups[i]) (fun e => hiu e.symm), List.append_nil]
         have : ¬ (a.last ≠ -1 ∧ i = a.last.toNat) := by
          rintro ⟨h1, h2⟩
          have hne : kids ups u ≠ [] := fun e => h1 (by rw [hlast, e]; rfl)
          obtain ⟨A, k, hk⟩ := last_split hne
          rw [hlast, hk, lastI_snoc] at h2
          have hm : k ∈ kids ups u := by rw [hk]; simp
          have := (mem_kids.1 hm).2.2
          simp at h2
          subst h2
          rw [List.getElem?_eq_getElem hi'] at this
          exact hiu (Option.some.inj this)
         rw [if_neg this]
 · intro i b hb
   rw [hK]
   rcases G i b hb with ⟨rfl, rfl⟩ | ⟨hi, c, hc, _, _, _, _, _, hl, _⟩
   · simp [hlen, noK, show ¬ u = ups.length by omega]
   · rw [hl, h.count i c hc]
     by_cases hiu : i = u
     · subst hiu; simp
     · simp [hiu, show ¬ u = i from fun e => hiu e.symm]
 · intro i x b hi0 hx hb
   rcases G i b hb with ⟨rfl, rfl⟩ | ⟨hi, c, hc, _, hup, _, _, _, _, _⟩
   · rw [hlen] at hx; simp at hx; subst hx; rfl
   · rw [List.getElem?_append_left (by omega)] at hx
     rw [hup]; exact h.up i x c hi0 hx hc
 · intro b hb
   rcases G 0 b hb with ⟨e, _⟩ | ⟨hi, c, hc, _, hup, _, _, _, _, _⟩
   · omega
   · rw [hup]; exact h.up0 c hc
 · intro b hb
   rcases G 0 b hb with ⟨e, _⟩ | ⟨hi, c, hc, _, _, hd, _, _, _, _⟩
   · omega
   · rw [hd]; exact h.deep0 c hc
 · intro i x b y hi0 hx hb hy
   rcases G i b hb with ⟨rfl, rfl⟩ | ⟨hi, c, hc, _, _, hd, _, _, _, _⟩
   · rw [hlen] at hx; simp at hx; subst hx
     rcases G u y hy with ⟨e, _⟩ | ⟨_, c2, hc2, _, _, hd2, _, _, _, _⟩
     · omega
     · rw [ha] at hc2; cases hc2; rw [hd2]
   · rw [List.getElem?_append_left (by omega)] at hx
     have hxi := hw i x hi0 hx
     rcases G x y hy with ⟨e, _⟩ | ⟨_, c2, hc2, _, _, hd2, _, _, _, _⟩
     · omega
     · rw [hd, hd2]; exact h.deep i x c c2 hi0 hx hc hc2
end
section
open Go.RowKit
/-- A value of a JSON text. -/
structure JN where
 kind : Int
 key : ByteArray
 text : ByteArray
 at_ : Int
/-- A list, or an object, that has not ended. -/
structure Op where
 id : Int
 obj : Bool
 st : Int
 key : ByteArray
/-- What was read; the last of the stack is the head. -/
structure PS where
 js : List JN
 ups : List Nat
 stack : List Op
structure Bd where
 bytes : Int
 deep : Int
 nodes : Int
def wrongS {α : Type} (t : Tok) : Sc α := if t.kind = 0 then .no 10 t.fr else .no 11 t.fr
def endsS (o : Op) (t : Tok) : Bool := t.kind == (if o.obj then 2 else 4)
def aftO (o : Op) : Op := { o with st := if o.id < 0 then 5 else 4 }
def afterS : List Op → List Op
 | [] => []
 | o :: r => aftO o :: r
def kindS (k : Int) : Option Int := if k = 1 then some 6 else if k = 3 then some 5 else if k = 7 then some 4 else if k = 8 then some 3 else if k = 9 then some 2 else if k = 10 then some 1 else if k = 11 then some 0 else none
def textN (B : ByteArray) (k : Int) (t : Tok) : ByteArray := if k = 4 then (textTok B t).getD ⟨#[]⟩ else if k = 3 then B.extract t.fr.toNat t.to.toNat else ⟨#[]⟩
def nodeS (B : ByteArray) (o : Op) (k : Int) (t : Tok) : JN := ⟨k, if o.obj then o.key else ⟨#[]⟩, textN B k t, t.fr⟩
def addS (B : ByteArray) (s : PS) (o : Op) (k : Int) (t : Tok) (st : List Op) : PS := ⟨s.js ++ [nodeS B o k t], s.ups ++ [o.id.toNat], st⟩
def valueS (B : ByteArray) (m : Bd) (s : PS) (o : Op) (r : List Op) (t : Tok) : Sc PS := match kindS t.kind with
 | none => wrongS t
 | some k => if m.nodes ≤ s.js.length then .no 15 t.fr else if k < 5 then .ok (addS B s o k t (afterS (o :: r)))
   else if m.deep < ((o :: r).length : Nat) then .no 13 t.fr else .ok (addS B s o k t (⟨s.js.length, k == 6, 0, ⟨#[]⟩⟩ :: o :: r))
def keyS (B : ByteArray) (s : PS) (o : Op) (r : List Op) (t : Tok) : Sc PS := if t.kind ≠ 7 then wrongS t else match textTok B t with
 | some x => .ok { s with stack := { o with st := 3, key := x } :: r }
 | none => .no 32 t.fr
def betweenS (s : PS) (o : Op) (r : List Op) (t : Tok) : Sc PS :=
 if endsS o t then .ok { s with stack := afterS r } else if t.kind ≠ 6 then wrongS t else .ok { s with stack := { o with st := if o.obj then 2 else 1 } :: r }
def takeS (B : ByteArray) (m : Bd) (s : PS) (t : Tok) : Sc PS := match s.stack with
 | [] => .ok s
 | o :: r => if o.st = 5 then (if t.kind = 0 then .ok s else wrongS t)
   else if o.st = 3 then (if t.kind = 5 then .ok { s with stack := { o with st := 1 } :: r } else wrongS t)
   else if o.st = 4 then betweenS s o r t
   else if o.st = 0 then (if endsS o t then .ok { s with stack := afterS r } else if o.obj then keyS B s o r t else valueS B m s o r t)
   else if o.st = 2 then keyS B s o r t else valueS B m s o r t
def runF (B : ByteArray) (m : Bd) : Nat → Int → PS → Sc PS
 | 0, _, s => .ok s
 | f + 1, i, s => (nextI B i).bind fun t => (takeS B m s t).bind fun s' => if t.kind = 0 then .ok s' else runF B m f t.to s'
def runS (B : ByteArray) (m : Bd) (i : Int) (s : PS) : Sc PS := runF B m (B.size - i.toNat + 2) i s
def ps0 : PS := ⟨[], [], [⟨-1, false, 1, ⟨#[]⟩⟩]⟩
def parseS (B : ByteArray) (m : Bd) : Sc PS := if m.bytes < B.size then .no 14 (max m.bytes 0) else runS B m 0 ps0
theorem tok_shape {B : ByteArray} {i : Int} {t : Tok} (h : nextI B i = .ok t) : 0 ≤ i ∧ i ≤ t.fr ∧ t.fr ≤ t.to ∧ t.to ≤ B.size ∧ 0 ≤ t.kind ∧ (t.kind = 0 ∧ t.fr = B.size ∨ 0 < t.kind ∧ t.fr < t.to) := by
 unfold nextI at h
 split at h
 · cases h
 · rename_i hi
   unfold nextS at h
   obtain ⟨x, hx, he⟩ := Sc.bind_eq_ok h
   cases he
   have h1 := skip_ge isBlank B i.toNat
   have h2 := skip_le isBlank B i.toNat (by omega)
   have h3 := tokenS_ok h2 hx
   refine ⟨by omega, by simp only; omega, ?_, ?_, ?_, ?_⟩
   · simp only; omega
   · simp only; omega
   · simp only; omega
   · simp only; omega
theorem tok_again {B : ByteArray} {i : Int} {t : Tok} (h : nextI B i = .ok t) : nextI B t.fr = .ok t := by
 have hs := tok_shape h
 unfold nextI at h ⊢
 split at h
 · cases h
 · rw [if_neg (by omega)]
   have h0 := h
   unfold nextS at h ⊢
   obtain ⟨x, hx, he⟩ := Sc.bind_eq_ok h
   have hf : t.fr.toNat = skip isBlank B i.toNat := by cases he; simp
   have hk : skip isBlank B t.fr.toNat = t.fr.toNat := by rw [hf]; exact skip_stop (fun hl => skip_end isBlank B _ _ rfl hl)
   rw [hk, hf]
   exact h
theorem text_is {B : ByteArray} {i : Int} {t : Tok} (h : nextI B i = .ok t) (h7 : t.kind = 7) : ∃ x, textTok B t = some x := by
 have h2 := tok_again h
 obtain ⟨p, y, hp, _, _, hy⟩ := tok_text h2 h7
 refine ⟨strOf y.1, ?_⟩
 unfold textTok
 rw [h2]
 simp only [h7, and_self, if_true]
 rw [hp, Int.toNat_natCast, hy]
theorem runF_fuel (B : ByteArray) (m : Bd) : ∀ n f g i s, B.size - i.toNat = n → n < f → n < g → runF B m f i s = runF B m g i s := by
 intro n
 induction n using Nat.strongRecOn with
 | ind n ih =>
   intro f g i s hn hf hg
   cases f with
   | zero => omega
   | succ f =>
     cases g with
     | zero => omega
     | succ g =>
       rw [runF, runF]
       cases hx : nextI B i with
       | no k p => rfl
       | ok t =>
         simp only [Sc.bind_ok]
         cases hy : takeS B m s t with
         | no k p => rfl
         | ok s' =>
           simp only [Sc.bind_ok]
           split
           · rfl
           · have := tok_shape hx
             exact ih (B.size - t.to.toNat) (by omega) f g t.to s' rfl (by omega) (by omega)
theorem runS_step (B : ByteArray) (m : Bd) (i : Int) (s : PS) : runS B m i s = (nextI B i).bind fun t => (takeS B m s t).bind fun s' => if t.kind = 0 then .ok s' else runS B m t.to s' := by
 unfold runS
 rw [show B.size - i.toNat + 2 = (B.size - i.toNat + 1) + 1 from rfl, runF]
 cases hx : nextI B i with
 | no k p => rfl
 | ok t =>
   simp only [Sc.bind_ok]
   cases hy : takeS B m s t with
   | no k p => rfl
   | ok s' =>
     simp only [Sc.bind_ok]
     split
     · rfl
     · have := tok_shape hx
       exact runF_fuel B m _ _ _ _ _ rfl (by omega) (by omega)
end
end Go.Proofs.YtcaiibkgajhohaaGreatDoor
