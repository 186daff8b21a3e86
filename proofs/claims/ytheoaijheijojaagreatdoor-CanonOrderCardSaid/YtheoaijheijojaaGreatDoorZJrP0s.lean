/- JrP0, JrM0 in one text (a claim holds at most 60 files). -/
import Derived.Test.YtheoaijheijojaaGreatDoorZArena0s
import Derived.Test.YtheoaijheijojaaGreatDoorZJsN1
import Derived.Test.YtheoaijheijojaaGreatDoorZNxt0s
namespace Go.Proofs.YtheoaijheijojaaGreatDoor
section
open Go.RowKit
section
variable {B : ByteArray} {m : Bd} {i : Int} {s s' : PS} {t : Tok} {k : Nat} {p : Int} {js : List JN} {ups : List Nat} {o : Op} {r : List Op}
theorem run_stop (h : nextI B i = .no k p) : runS B m i s = .no k p := by rw [runS_step, h]; rfl
theorem run_no (h : nextI B i = .ok t) (h2 : takeS B m s t = .no k p) : runS B m i s = .no k p := by rw [runS_step, h, Sc.bind_ok, h2]; rfl
theorem run_ok (h : nextI B i = .ok t) (h2 : takeS B m s t = .ok s') (h0 : t.kind ≠ 0) : runS B m i s = runS B m t.to s' := by rw [runS_step, h, Sc.bind_ok, h2, Sc.bind_ok, if_neg h0]
theorem run_end (h : nextI B i = .ok t) (h2 : takeS B m s t = .ok s') (h0 : t.kind = 0) : runS B m i s = .ok s' := by rw [runS_step, h, Sc.bind_ok, h2, Sc.bind_ok, if_pos h0]
/-- A value is wanted, or a key. -/
def WantV (B : ByteArray) (m : Bd) (i : Int) (js : List JN) (ups : List Nat) (o : Op) (r : List Op) : Prop := ∀ t, nextI B i = .ok t → takeS B m ⟨js, ups, o :: r⟩ t = valueS B m ⟨js, ups, o :: r⟩ o r t
def WantK (B : ByteArray) (m : Bd) (i : Int) (js : List JN) (ups : List Nat) (o : Op) (r : List Op) : Prop := ∀ t, nextI B i = .ok t → takeS B m ⟨js, ups, o :: r⟩ t = keyS B ⟨js, ups, o :: r⟩ o r t
theorem wantV_1 (h : o.st = 1) : WantV B m i js ups o r := fun t _ => by simp [takeS, h]
theorem wantK_2 (h : o.st = 2) : WantK B m i js ups o r := fun t _ => by simp [takeS, h]
theorem wantV_0 (h : o.st = 0) (ho : o.obj = false) (hn : nextI B i = .ok t) (he : endsS o t = false) : WantV B m i js ups o r := fun t' h' => by
  rw [hn] at h'; cases h'
  simp [takeS, h, ho, he]
theorem wantK_0 (h : o.st = 0) (ho : o.obj = true) (hn : nextI B i = .ok t) (he : endsS o t = false) : WantK B m i js ups o r := fun t' h' => by
  rw [hn] at h'; cases h'
  simp [takeS, h, ho, he]
theorem wrong_no (t : Tok) : (wrongS t : Sc PS) = .no (if t.kind = 0 then 10 else 11) t.fr := by unfold wrongS; split <;> rfl
theorem kindS_pos {k : Int} (h : kindS t.kind = some k) : t.kind ≠ 0 := fun e => by rw [e] at h; cases h
theorem v_none (hw : WantV B m i js ups o r) (hn : nextI B i = .ok t) (hk : kindS t.kind = none) : runS B m i ⟨js, ups, o :: r⟩ = .no (if t.kind = 0 then 10 else 11) t.fr :=
  run_no hn (by rw [hw t hn]; unfold valueS; rw [hk]; exact wrong_no t)
theorem v_many {c : Int} (hw : WantV B m i js ups o r) (hn : nextI B i = .ok t) (hk : kindS t.kind = some c) (hm : m.nodes ≤ js.length) : runS B m i ⟨js, ups, o :: r⟩ = .no 15 t.fr :=
  run_no hn (by rw [hw t hn]; unfold valueS; rw [hk]; simp only; rw [if_pos hm])
theorem v_leaf {c : Int} (hw : WantV B m i js ups o r) (hn : nextI B i = .ok t) (hk : kindS t.kind = some c) (hm : ¬ m.nodes ≤ js.length) (hc : c < 5) : runS B m i ⟨js, ups, o :: r⟩ = runS B m t.to ⟨js ++ [nodeS B o c t], ups ++ [o.id.toNat], aftO o :: r⟩ :=
  run_ok hn (by rw [hw t hn]; unfold valueS; rw [hk]; simp only; rw [if_neg hm, if_pos hc]; rfl) (kindS_pos hk)
theorem v_deep {c : Int} (hw : WantV B m i js ups o r) (hn : nextI B i = .ok t) (hk : kindS t.kind = some c) (hm : ¬ m.nodes ≤ js.length) (hc : ¬ c < 5) (hd : m.deep < ((o :: r).length : Nat)) : runS B m i ⟨js, ups, o :: r⟩ = .no 13 t.fr :=
  run_no hn (by rw [hw t hn]; unfold valueS; rw [hk]; simp only; rw [if_neg hm, if_neg hc, if_pos hd])
theorem v_push {c : Int} (hw : WantV B m i js ups o r) (hn : nextI B i = .ok t) (hk : kindS t.kind = some c) (hm : ¬ m.nodes ≤ js.length) (hc : ¬ c < 5) (hd : ¬ m.deep < ((o :: r).length : Nat)) : runS B m i ⟨js, ups, o :: r⟩ = runS B m t.to ⟨js ++ [nodeS B o c t], ups ++ [o.id.toNat], ⟨js.length, c == 6, 0, ⟨#[]⟩⟩ :: o :: r⟩ :=
  run_ok hn (by rw [hw t hn]; unfold valueS; rw [hk]; simp only; rw [if_neg hm, if_neg hc, if_neg hd]; rfl) (kindS_pos hk)
/-- A key, and its colon. -/
theorem k_wrong (hw : WantK B m i js ups o r) (hn : nextI B i = .ok t) (h7 : t.kind ≠ 7) : runS B m i ⟨js, ups, o :: r⟩ = .no (if t.kind = 0 then 10 else 11) t.fr :=
  run_no hn (by rw [hw t hn]; unfold keyS; rw [if_pos h7]; exact wrong_no t)
theorem k_text {x : ByteArray} (hw : WantK B m i js ups o r) (hn : nextI B i = .ok t) (h7 : t.kind = 7) (hx : textTok B t = some x) : runS B m i ⟨js, ups, o :: r⟩ = runS B m t.to ⟨js, ups, { o with st := 3, key := x } :: r⟩ :=
  run_ok hn (by rw [hw t hn]; unfold keyS; rw [if_neg (by simp [h7]), hx]) (by omega)
theorem take_3 (h : o.st = 3) : takeS B m ⟨js, ups, o :: r⟩ t = if t.kind = 5 then .ok ⟨js, ups, { o with st := 1 } :: r⟩ else wrongS t := by simp [takeS, h]
theorem k_colon (h : o.st = 3) (hn : nextI B i = .ok t) (h5 : t.kind = 5) : runS B m i ⟨js, ups, o :: r⟩ = runS B m t.to ⟨js, ups, { o with st := 1 } :: r⟩ :=
  run_ok hn (by rw [take_3 h, if_pos h5]) (by omega)
theorem k_no (h : o.st = 3) (hn : nextI B i = .ok t) (h5 : t.kind ≠ 5) : runS B m i ⟨js, ups, o :: r⟩ = .no (if t.kind = 0 then 10 else 11) t.fr :=
  run_no hn (by rw [take_3 h, if_neg h5]; exact wrong_no t)
/-- Behind a value. -/
theorem take_4 (h : o.st = 4) : takeS B m ⟨js, ups, o :: r⟩ t = betweenS ⟨js, ups, o :: r⟩ o r t := by simp [takeS, h]
theorem b_ends (h : o.st = 4) (hn : nextI B i = .ok t) (he : endsS o t = true) : runS B m i ⟨js, ups, o :: r⟩ = runS B m t.to ⟨js, ups, afterS r⟩ :=
  run_ok hn (by rw [take_4 h]; unfold betweenS; rw [if_pos he]) (by unfold endsS at he; have := beq_iff_eq.1 he; split at this <;> omega)
theorem b_comma (h : o.st = 4) (hn : nextI B i = .ok t) (he : endsS o t = false) (h6 : t.kind = 6) : runS B m i ⟨js, ups, o :: r⟩ = runS B m t.to ⟨js, ups, { o with st := if o.obj then 2 else 1 } :: r⟩ :=
  run_ok hn (by rw [take_4 h]; unfold betweenS; rw [he]; simp [h6]) (by omega)
theorem b_no (h : o.st = 4) (hn : nextI B i = .ok t) (he : endsS o t = false) (h6 : t.kind ≠ 6) : runS B m i ⟨js, ups, o :: r⟩ = .no (if t.kind = 0 then 10 else 11) t.fr :=
  run_no hn (by rw [take_4 h]; unfold betweenS; rw [he]; simp only [Bool.false_eq_true, if_false]; rw [if_pos h6]; exact wrong_no t)
theorem f_ends (h : o.st = 0) (hn : nextI B i = .ok t) (he : endsS o t = true) : runS B m i ⟨js, ups, o :: r⟩ = runS B m t.to ⟨js, ups, afterS r⟩ :=
  run_ok hn (by simp [takeS, h, he]) (by unfold endsS at he; have := beq_iff_eq.1 he; split at this <;> omega)
theorem d_end (h : o.st = 5) (hn : nextI B i = .ok t) (h0 : t.kind = 0) : runS B m i ⟨js, ups, o :: r⟩ = .ok ⟨js, ups, o :: r⟩ :=
  run_end hn (by simp [takeS, h, h0]) h0
theorem d_no (h : o.st = 5) (hn : nextI B i = .ok t) (h0 : t.kind ≠ 0) : runS B m i ⟨js, ups, o :: r⟩ = .no 11 t.fr :=
  run_no hn (by simp [takeS, h, h0, wrongS])
end
end
section
open Go.RowKit
def jnC (x : JN) : List Value := [.int .i64 x.kind, .string x.key, .string x.text, .int .i64 x.at_]
theorem jnC_len (x : JN) : (jnC x).length = 4 := rfl
structure RS where
  at_ : Int
  err : Int
  to_ : Int
  js : List JN
  ups : List Int
def upsN (l : List Int) : List Nat := l.map Int.toNat
structure RDoc (w : World) (base D : Nat) (js : List JN) (ups : List Int) (nv uv : Value) : Prop where
  doc : w.heap[D]? = some (.cells #[nv, uv] 86 (0, 0))
  rowN : w.ownsRow base 68 4 nv js.length (js.flatMap jnC)
  rowU : w.ownsRow base 3 1 uv ups.length (ups.map (Value.int .i64))
  low : base ≤ D
structure REye (w : World) (base E D : Nat) (bv : Value) (m : Bd) (s : RS) (nv uv : Value) : Prop where
  box : w.heap[E]? = some (.cells #[bv, .int .i64 s.at_, .int .i64 m.bytes, .int .i64 m.deep, .int .i64 m.nodes, ptrV D, .int .i64 s.err, .int .i64 s.to_] 88 (0, 0))
  rd : RDoc w base D s.js s.ups nv uv
  low : base ≤ E
def RE (w : World) (base E D : Nat) (bv : Value) (m : Bd) (s : RS) : Prop := ∃ nv uv, REye w base E D bv m s nv uv
section
variable {w w' : World} {base E D : Nat} {bv nv uv : Value} {m : Bd} {s s' : RS} {js : List JN} {ups : List Int}
theorem RDoc.keep (h : RDoc w base D js ups nv uv) (hk : ∀ k, base ≤ k → k < w.heap.size → w'.heap[k]? = w.heap[k]?) : RDoc w' base D js ups nv uv :=
  ⟨by rw [hk D h.low (heap_lt h.doc)]; exact h.doc, aown_ext h.rowN (fun g hg => hk g (h.rowN.lt g hg).1 (h.rowN.lt g hg).2) (Nat.le_refl _), aown_ext h.rowU (fun g hg => hk g (h.rowU.lt g hg).1 (h.rowU.lt g hg).2) (Nat.le_refl _), h.low⟩
theorem RDoc.below (h : RDoc w base D js ups nv uv) (hb : Below w.heap.size w w') : RDoc w' base D js ups nv uv := h.keep (fun k _ hk => hb.block k hk)
theorem REye.keep (h : REye w base E D bv m s nv uv) (hk : ∀ k, base ≤ k → k < w.heap.size → w'.heap[k]? = w.heap[k]?) : REye w' base E D bv m s nv uv :=
  ⟨by rw [hk E h.low (heap_lt h.box)]; exact h.box, h.rd.keep hk, h.low⟩
theorem REye.below (h : REye w base E D bv m s nv uv) (hb : Below w.heap.size w w') : REye w' base E D bv m s nv uv := h.keep (fun k _ hk => hb.block k hk)
theorem RE.below (h : RE w base E D bv m s) (hb : Below w.heap.size w w') : RE w' base E D bv m s := by obtain ⟨nv, uv, h⟩ := h; exact ⟨nv, uv, h.below hb⟩
theorem REye.lt (h : REye w base E D bv m s nv uv) : E < w.heap.size := heap_lt h.box
theorem REye.c (h : REye w base E D bv m s nv uv) (j : Nat) : w.cell? ⟨E, j, none⟩ = (#[bv, .int .i64 s.at_, .int .i64 m.bytes, .int .i64 m.deep, .int .i64 m.nodes, ptrV D, .int .i64 s.err, .int .i64 s.to_] : Array Value)[j]? := by simp [World.cell?, h.box]
theorem REye.f (h : REye w base E D bv m s nv uv) (j : Nat) : w.frozen? ⟨E, j, none⟩ = false := Go.Joins.unfrozen_of_block h.box j
theorem RDoc.c (h : RDoc w base D js ups nv uv) (j : Nat) : w.cell? ⟨D, j, none⟩ = (#[nv, uv] : Array Value)[j]? := by simp [World.cell?, h.doc]
theorem RDoc.f (h : RDoc w base D js ups nv uv) (j : Nat) : w.frozen? ⟨D, j, none⟩ = false := Go.Joins.unfrozen_of_block h.doc j
/-- A block of another type turns. -/
theorem RDoc.other {X : Nat} {cs : Array Value} {TX : TypeId} {fr : Nat × Nat} (h : RDoc w base D js ups nv uv) (hX : w.heap[X]? = some (.cells cs TX fr)) (hk : ∀ k, k ≠ X → w'.heap[k]? = w.heap[k]?) (h1 : TX ≠ 86) (h2 : TX ≠ 68) (h3 : TX ≠ 3) : RDoc w' base D js ups nv uv :=
  ⟨by rw [hk D (ne_type hX h.doc h1).symm]; exact h.doc,
   aown_ext h.rowN (fun g hg => hk g (by obtain ⟨cur, hc⟩ := own_type h.rowN hg; exact (ne_type hX hc h2).symm)) (Nat.le_refl _),
   aown_ext h.rowU (fun g hg => hk g (by obtain ⟨cur, hc⟩ := own_type h.rowU hg; exact (ne_type hX hc h3).symm)) (Nat.le_refl _), h.low⟩
theorem REye.set (h : REye w base E D bv m s nv uv) (j : Nat) (u : Value) (hj : s'.js = s.js) (hu : s'.ups = s.ups)
    (hc : (#[bv, .int .i64 s'.at_, .int .i64 m.bytes, .int .i64 m.deep, .int .i64 m.nodes, ptrV D, .int .i64 s'.err, .int .i64 s'.to_] : Array Value) = (#[bv, .int .i64 s.at_, .int .i64 m.bytes, .int .i64 m.deep, .int .i64 m.nodes, ptrV D, .int .i64 s.err, .int .i64 s.to_] : Array Value).setIfInBounds j u) :
    REye (w.setCell ⟨E, j, none⟩ u) base E D bv m s' nv uv := by
  refine ⟨?_, ?_, h.low⟩
  · have := Go.Joins.block_setCell h.box (i := j) u
    rw [hc]; simpa using this
  · rw [hj, hu]
    exact h.rd.other h.box (fun k hk => Below.heap_setCell _ _ _ _ hk) (by decide) (by decide) (by decide)
end
/-- One more node: the row, and then the document's cell. -/
theorem REye.pushN {w w2 : World} {base E D : Nat} {bv nv uv v2 : Value} {m : Bd} {s : RS} {ob : Obj} {x : JN} (h : REye w base E D bv m s nv uv) (ho2 : w2.ownsRow base 68 4 v2 (s.js.length + 1) (s.js.flatMap jnC ++ jnC x)) (hg : (w.alloc ob).grownBy w2 nv.ownBlock) :
    REye (w2.setCell ⟨D, 0, none⟩ v2) base E D bv m { s with js := s.js ++ [x] } v2 uv := by
  have nb : ∀ {b : Nat} {cs : Array Value} {T : TypeId} {f : Nat × Nat}, w.heap[b]? = some (.cells cs T f) → T ≠ 68 → w2.heap[b]? = w.heap[b]? := fun {b cs T f} hb hT => by
    rw [hg.block b (by have := heap_lt hb; simp; omega) (fun e => by
      obtain ⟨cur, hc⟩ := own_type h.rd.rowN e.symm
      exact ne_type hb hc hT rfl), Below.heap_alloc w ob b (heap_lt hb)]
  have hD : w2.heap[D]? = some (.cells #[nv, uv] 86 (0, 0)) := (nb h.rd.doc (by decide)).trans h.rd.doc
  have hk : ∀ k, k ≠ D → (w2.setCell ⟨D, 0, none⟩ v2).heap[k]? = w2.heap[k]? := fun k hk => Below.heap_setCell _ _ _ _ hk
  refine ⟨?_, ⟨?_, ?_, ?_, h.rd.low⟩, h.low⟩
  · have hE := (nb h.box (by decide)).trans h.box
    rw [hk E (ne_type hE hD (by decide))]; exact hE
  · have := Go.Joins.block_setCell hD (i := 0) v2
    simpa using this
  · have := aown_ext (w' := w2.setCell ⟨D, 0, none⟩ v2) ho2 (fun g hg' => hk g (by obtain ⟨cur, hc⟩ := own_type ho2 hg'; exact ne_type hc hD (by decide))) (Nat.le_refl _)
    simpa using this
  · refine aown_ext h.rd.rowU (fun g hg' => ?_) (Nat.le_refl _)
    obtain ⟨cur, hc⟩ := own_type h.rd.rowU hg'
    have h2 := (nb hc (by decide)).trans hc
    rw [hk g (ne_type h2 hD (by decide)), nb hc (by decide)]
theorem REye.pushU {w w2 : World} {base E D : Nat} {bv nv uv v2 : Value} {m : Bd} {s : RS} {ob : Obj} {x : Int} (h : REye w base E D bv m s nv uv) (ho2 : w2.ownsRow base 3 1 v2 (s.ups.length + 1) (s.ups.map (Value.int .i64) ++ [.int .i64 x])) (hg : (w.alloc ob).grownBy w2 uv.ownBlock) :
    REye (w2.setCell ⟨D, 1, none⟩ v2) base E D bv m { s with ups := s.ups ++ [x] } nv v2 := by
  have nb : ∀ {b : Nat} {cs : Array Value} {T : TypeId} {f : Nat × Nat}, w.heap[b]? = some (.cells cs T f) → T ≠ 3 → w2.heap[b]? = w.heap[b]? := fun {b cs T f} hb hT => by
    rw [hg.block b (by have := heap_lt hb; simp; omega) (fun e => by
      obtain ⟨cur, hc⟩ := own_type h.rd.rowU e.symm
      exact ne_type hb hc hT rfl), Below.heap_alloc w ob b (heap_lt hb)]
  have hD : w2.heap[D]? = some (.cells #[nv, uv] 86 (0, 0)) := (nb h.rd.doc (by decide)).trans h.rd.doc
  have hk : ∀ k, k ≠ D → (w2.setCell ⟨D, 1, none⟩ v2).heap[k]? = w2.heap[k]? := fun k hk => Below.heap_setCell _ _ _ _ hk
  refine ⟨?_, ⟨?_, ?_, ?_, h.rd.low⟩, h.low⟩
  · have hE := (nb h.box (by decide)).trans h.box
    rw [hk E (ne_type hE hD (by decide))]; exact hE
  · have := Go.Joins.block_setCell hD (i := 1) v2
    simpa using this
  · refine aown_ext h.rd.rowN (fun g hg' => ?_) (Nat.le_refl _)
    obtain ⟨cur, hc⟩ := own_type h.rd.rowN hg'
    have h2 := (nb hc (by decide)).trans hc
    rw [hk g (ne_type h2 hD (by decide)), nb hc (by decide)]
  · have := aown_ext (w' := w2.setCell ⟨D, 1, none⟩ v2) ho2 (fun g hg' => hk g (by obtain ⟨cur, hc⟩ := own_type ho2 hg'; exact ne_type hc hD (by decide))) (Nat.le_refl _)
    simpa using this
/-- What has grown lies above the base, and no token has turned. -/
theorem TKept.grown {a b c : World} {base e sz n : Nat} {v : Value} {xs : List Value} {ob : Obj} (h : TKept a b) (ho : b.ownsRow base e sz v n xs) (he : e ≠ 79) (hg : (b.alloc ob).grownBy c v.ownBlock) : TKept a c := fun i cs f hi => by
  have h2 := h i cs f hi
  rw [hg.block i (by have := heap_lt h2; simp; omega) (fun e' => by
    obtain ⟨cur, hc⟩ := own_type ho e'.symm
    exact ne_type hc h2 he rfl), Below.heap_alloc b ob i (heap_lt h2)]
  exact h2
theorem TKept.alloc {a b : World} (h : TKept a b) (ob : Obj) : TKept a (b.alloc ob) := h.trans (.of (ext_alloc (Below.refl _ b) ob))
end
end Go.Proofs.YtheoaijheijojaaGreatDoor
