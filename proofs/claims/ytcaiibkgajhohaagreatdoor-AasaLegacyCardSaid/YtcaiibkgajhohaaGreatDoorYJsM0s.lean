/- JsM0, JsM1, JsM2 in one text (a claim holds at most 60 files). -/
import Derived.Test.YtcaiibkgajhohaaGreatDoorYJT2s
import Derived.Test.YtcaiibkgajhohaaGreatDoorYQuo3f
import Derived.Maps.AppendAt
import Derived.BigQuiet
import Derived.RegionTactic
import Derived.BigRegion
import Derived.Deep.RegionHeld3
namespace Go.Proofs.YtcaiibkgajhohaaGreatDoor
section
open Go.RowKit
theorem ne_type {w : World} {a b : Nat} {cs ds : Array Value} {T U : TypeId} {f g : Nat × Nat} (h : w.heap[a]? = some (.cells cs T f)) (k : w.heap[b]? = some (.cells ds U g)) (hT : T ≠ U) : a ≠ b := by
 rintro rfl
 rw [h] at k
 simp only [Option.some.injEq, Obj.cells.injEq] at k
 exact hT k.2.1
theorem own_type {w : World} {base n sz : Nat} {e : TypeId} {v : Value} {xs : List Value} (h : w.ownsRow base e sz v n xs) {g : Nat} (hg : v.ownBlock = some g) : ∃ cur, w.heap[g]? = some (.cells cur e (0, 0)) := by
 rcases h.2 with ⟨rfl, _⟩ | ⟨k, cap, cur, rfl, _, hk, _⟩
 · simp [Value.ownBlock] at hg
 · simp only [Value.ownBlock, Option.some.injEq] at hg
   subst hg
   exact ⟨cur, hk⟩
abbrev ptrV (b : Nat) : Value := .pointer (some ⟨b, 0, none⟩)
def opC (o : Op) : Array Value := #[.int .i64 o.id, .bool o.obj, .int .i64 o.st, .string o.key]
def OpAt (w : World) (b : Nat) (o : Op) : Prop := w.heap[b]? = some (.cells (opC o) 126 (0, 0))
structure PAt (w : World) (base P D T : Nat) (bv : Value) (m : Bd) (s : PS) (tv sv : Value) (os : List Nat) (ns : List ANode) : Prop where
 box : w.heap[P]? = some (.cells #[bv, .int .i64 m.bytes, .int .i64 m.deep, .int .i64 m.nodes, ptrV D, sv] 122 (0, 0))
 doc : w.heap[D]? = some (.cells #[ptrV T] 119 (0, 0))
 tree : TreeAt w T tv ns m.nodes
 good : GoodN ns s.ups
 wf : WfUps s.ups
 vals : ns.map ANode.val = s.js.map JN.val
 row : w.ownsRow base 123 1 sv os.length ((os.map ptrV).reverse)
 len : os.length = s.stack.length
 ops : ∀ (i b : Nat) (o : Op), os[i]? = some b → s.stack[i]? = some o → OpAt w b o
 nd : os.Nodup
 lowP : base ≤ P
 lowD : base ≤ D
 lowT : base ≤ T
 lowO : ∀ b ∈ os, base ≤ b
 nil0 : s.js = [] → tv = .slice none 0 0
theorem heap_lt {w : World} {a : Nat} {o : Obj} (h : w.heap[a]? = some o) : a < w.heap.size := (Array.getElem?_eq_some_iff.1 h).1
section
variable {w w' : World} {base P D T X : Nat} {bv tv sv : Value} {m : Bd} {s : PS} {os : List Nat} {ns : List ANode} {cs : Array Value} {TX : TypeId} {fr : Nat × Nat}
theorem PAt.keep (h : PAt w base P D T bv m s tv sv os ns) (hk : ∀ k, base ≤ k → k < w.heap.size → w'.heap[k]? = w.heap[k]?) : PAt w' base P D T bv m s tv sv os ns := by
 refine ⟨by rw [hk P h.lowP (heap_lt h.box)]; exact h.box, by rw [hk D h.lowD (heap_lt h.doc)]; exact h.doc, h.tree.ext (fun k hl ht => ?_), h.good, h.wf, h.vals, aown_ext h.row (fun g hg => hk g (h.row.lt g hg).1 (h.row.lt g hg).2) (Nat.le_refl _), h.len, fun i b o hb ho => ?_, h.nd, h.lowP, h.lowD, h.lowT, h.lowO, h.nil0⟩
 · refine hk k ?_ hl
   rcases ht with rfl | ht
   · exact h.lowT
   · have := (h.tree.own.lt k ht).1; have := h.lowT; omega
 · have := h.ops i b o hb ho
   unfold OpAt at *
   rw [hk b (h.lowO b (List.mem_of_getElem? hb)) (heap_lt this)]; exact this
theorem PAt.below (h : PAt w base P D T bv m s tv sv os ns) (hb : Below w.heap.size w w') : PAt w' base P D T bv m s tv sv os ns := h.keep (fun k _ hk => hb.block k hk)
theorem PAt.drewN (h : PAt w base P D T bv m s tv sv os ns) (n : Nat) : PAt (w.drewN n) base P D T bv m s tv sv os ns := h.keep (fun _ _ _ => rfl)
theorem PAt.tree_keep (h : PAt w base P D T bv m s tv sv os ns) (hX : w.heap[X]? = some (.cells cs TX fr)) (hk : ∀ k, k ≠ X → w'.heap[k]? = w.heap[k]?) (h1 : TX ≠ 172) (h2 : TX ≠ 228) : TreeAt w' T tv ns m.nodes :=
 h.tree.ext (fun k _ ht => hk k (by
  rcases ht with rfl | ht
  · exact (ne_type hX h.tree.box h1).symm
  · obtain ⟨cur, hc⟩ := own_type h.tree.own ht
    exact (ne_type hX hc h2).symm))
theorem PAt.row_keep (h : PAt w base P D T bv m s tv sv os ns) (hX : w.heap[X]? = some (.cells cs TX fr)) (hk : ∀ k, k ≠ X → w'.heap[k]? = w.heap[k]?) (h1 : TX ≠ 123) : w'.ownsRow base 123 1 sv os.length ((os.map ptrV).reverse) :=
 aown_ext h.row (fun g hg => hk g (by obtain ⟨cur, hc⟩ := own_type h.row hg; exact (ne_type hX hc h1).symm)) (Nat.le_refl _)
/-- The top's cells. -/
theorem PAt.top (h : PAt w base P D T bv m s tv sv os ns) {o : Op} {r : List Op} (hs : s.stack = o :: r) : ∃ b q, os = b :: q ∧ OpAt w b o := by
 have hl := h.len
 rw [hs] at hl
 cases os with
 | nil => simp at hl
 | cons b q => exact ⟨b, q, rfl, h.ops 0 b o rfl (by rw [hs]; rfl)⟩
/-- The top's state, or key, turns. -/
theorem PAt.setTop {b : Nat} {q : List Nat} {o o' : Op} {r : List Op} {j : Nat} {u : Value} (h : PAt w base P D T bv m s tv sv (b :: q) ns) (hs : s.stack = o :: r) (hc : opC o' = (opC o).setIfInBounds j u) :
    PAt (w.setCell ⟨b, j, none⟩ u) base P D T bv m { s with stack := o' :: r } tv sv (b :: q) ns := by
 have hb : OpAt w b o := h.ops 0 b o rfl (by rw [hs]; rfl)
 have hk : ∀ k, k ≠ b → (w.setCell ⟨b, j, none⟩ u).heap[k]? = w.heap[k]? := fun k hk => Below.heap_setCell _ _ _ _ hk
 refine ⟨?_, ?_, h.tree_keep hb hk (by decide) (by decide), h.good, h.wf, h.vals, h.row_keep hb hk (by decide), ?_, fun i c p hci hp => ?_, h.nd, h.lowP, h.lowD, h.lowT, h.lowO, h.nil0⟩
 · rw [hk P (ne_type h.box hb (by decide))]; exact h.box
 · rw [hk D (ne_type h.doc hb (by decide))]; exact h.doc
 · have := h.len; rw [hs] at this; simpa using this
 · cases i with
   | zero =>
     simp at hci hp
     subst hci; subst hp
     have := Go.Joins.block_setCell hb (i := j) u
     unfold OpAt
     rw [hc]; simpa using this
   | succ i =>
     simp at hci hp
     have hcb : c ≠ b := fun e => by
      have := h.nd
      rw [List.nodup_cons] at this
      exact this.1 (e ▸ List.mem_of_getElem? hci)
     unfold OpAt
     rw [hk c hcb]
     exact h.ops (i + 1) c p (by simpa using hci) (by rw [hs]; simpa using hp)
/-- The last one goes. -/
theorem PAt.popTop {b : Nat} {q : List Nat} {o : Op} {r : List Op} {g cap n : Nat} (h : PAt w base P D T bv m s tv (.slice (some ⟨g, 0, none⟩) n cap) (b :: q) ns) (hs : s.stack = o :: r) (hn : n = q.length + 1) :
    PAt (w.setCell ⟨P, 5, none⟩ (.slice (some ⟨g, 0, none⟩) q.length cap)) base P D T bv m { s with stack := r } tv (.slice (some ⟨g, 0, none⟩) q.length cap) q ns := by
 have hk : ∀ k, k ≠ P → (w.setCell ⟨P, 5, none⟩ (.slice (some ⟨g, 0, none⟩) q.length cap)).heap[k]? = w.heap[k]? := fun k hk => Below.heap_setCell _ _ _ _ hk
 have hrow := h.row_keep h.box hk (by decide)
 refine ⟨?_, ?_, h.tree_keep h.box hk (by decide) (by decide), h.good, h.wf, h.vals, ?_, ?_, fun i c p hci hp => ?_, (List.nodup_cons.1 h.nd).2, h.lowP, h.lowD, h.lowT, fun c hc => h.lowO c (List.mem_cons_of_mem _ hc), h.nil0⟩
 · have := Go.Joins.block_setCell h.box (i := 5) (.slice (some ⟨g, 0, none⟩) q.length cap)
   simpa using this
 · rw [hk D (ne_type h.doc h.box (by decide))]; exact h.doc
 · rcases hrow.2 with ⟨e, _⟩ | ⟨g', cap', cur, e, h1, h2, h3, h4, h5, h6⟩
   · cases e
   · cases e
     refine ⟨by simp, .inr ⟨_, _, cur, rfl, h1, h2, by simp at h3; omega, h4, h5, ?_⟩⟩
     have := congrArg (List.take q.length) h6
     simp only [List.take_take, List.length_cons, Nat.mul_one, List.map_cons, List.reverse_cons] at this
     rw [Nat.min_eq_left (by omega), List.take_append_of_le_length (by simp)] at this
     rw [Nat.mul_one, this, List.take_of_length_le (by simp)]
 · have := h.len; rw [hs] at this; simpa using this
 · have hop := h.ops (i + 1) c p (by simpa using hci) (by rw [hs]; simpa using hp)
   unfold OpAt at *
   rw [hk c (ne_type hop h.box (by decide))]; exact hop
end
end
section
open Go.RowKit
section
variable {w : World} {base P D T : Nat} {bv tv sv : Value} {m : Bd} {s : PS} {os : List Nat} {ns : List ANode}
theorem PAt.c0 (h : PAt w base P D T bv m s tv sv os ns) : w.cell? ⟨P, 0, none⟩ = some bv := by simp [World.cell?, h.box]
theorem PAt.c1 (h : PAt w base P D T bv m s tv sv os ns) : w.cell? ⟨P, 1, none⟩ = some (.int .i64 m.bytes) := by simp [World.cell?, h.box]
theorem PAt.c2 (h : PAt w base P D T bv m s tv sv os ns) : w.cell? ⟨P, 2, none⟩ = some (.int .i64 m.deep) := by simp [World.cell?, h.box]
theorem PAt.c4 (h : PAt w base P D T bv m s tv sv os ns) : w.cell? ⟨P, 4, none⟩ = some (ptrV D) := by simp [World.cell?, h.box]
theorem PAt.c5 (h : PAt w base P D T bv m s tv sv os ns) : w.cell? ⟨P, 5, none⟩ = some sv := by simp [World.cell?, h.box]
theorem PAt.cD (h : PAt w base P D T bv m s tv sv os ns) : w.cell? ⟨D, 0, none⟩ = some (ptrV T) := by simp [World.cell?, h.doc]
theorem PAt.fP (h : PAt w base P D T bv m s tv sv os ns) (j : Nat) : w.frozen? ⟨P, j, none⟩ = false := Go.Joins.unfrozen_of_block h.box j
theorem OpAt.c0 {b : Nat} {o : Op} (h : OpAt w b o) : w.cell? ⟨b, 0, none⟩ = some (.int .i64 o.id) := by unfold OpAt at h; simp [World.cell?, h, opC]
theorem OpAt.c1 {b : Nat} {o : Op} (h : OpAt w b o) : w.cell? ⟨b, 1, none⟩ = some (.bool o.obj) := by unfold OpAt at h; simp [World.cell?, h, opC]
theorem OpAt.c2 {b : Nat} {o : Op} (h : OpAt w b o) : w.cell? ⟨b, 2, none⟩ = some (.int .i64 o.st) := by unfold OpAt at h; simp [World.cell?, h, opC]
theorem OpAt.c3 {b : Nat} {o : Op} (h : OpAt w b o) : w.cell? ⟨b, 3, none⟩ = some (.string o.key) := by unfold OpAt at h; simp [World.cell?, h, opC]
theorem OpAt.fz {b : Nat} {o : Op} (h : OpAt w b o) (j : Nat) : w.frozen? ⟨b, j, none⟩ = false := Go.Joins.unfrozen_of_block h j
theorem PAt.slice {b : Nat} {q : List Nat} (h : PAt w base P D T bv m s tv sv (b :: q) ns) : ∃ g cap, sv = .slice (some ⟨g, 0, none⟩) (q.length + 1) cap ∧ w.cell? ⟨g, q.length, none⟩ = some (ptrV b) ∧ q.length + 1 ≤ cap ∧ cap ≤ maxLen := by
 rcases h.row.2 with ⟨_, e⟩ | ⟨g, cap, cur, rfl, h1, h2, h3, h4, h5, h6⟩
 · simp at e
 · refine ⟨g, cap, rfl, ?_, by simpa using h3, h4⟩
   rw [h.row.cellAt q.length (by simp), List.map_cons, List.reverse_cons, List.getElem?_append_right (by simp)]; simp
end
set_option maxRecDepth 100000 in
theorem top_any (w : World) (base P D T b : Nat) (bv tv sv : Value) (m : Bd) (s : PS) (q : List Nat) (ns : List ANode) (h : PAt w base P D T bv m s tv sv (b :: q) ns) (hl : q.length ≤ 1100000) :
    Calls Tryz.prog 83 #[ptrV P] w fun e w' => e = .returned (ptrV b) ∧ ∃ n, w' = w.drewN n := by
 obtain ⟨g, cap, rfl, cr, _, _⟩ := h.slice
 have c5 := h.c5
 generalize q.length = k at *
 have q1 : IntKind.i64.wrap (k : Int) = (k : Int) := IntWalk.i64_in _ (by omega)
 have q2 : IntKind.i64.wrap ((k : Int) + 1 - 1) = (k : Int) := IntWalk.i64_in _ (by omega) |>.trans (by omega)
 clear h
 go_enter Tryz.func83, Tryz.ntmps83
 go_wp2
 go_quiet (fail)
 go_wp2
 go_ret
 exact ⟨rfl, _, rfl⟩
set_option maxRecDepth 100000 in
theorem wrong_any (t : Tok) (w : World) : Calls Tryz.prog 84 #[.agg #[.int .i64 t.kind, .int .i64 t.fr, .int .i64 t.to]] w (FailPost w (if t.kind = 0 then 10 else 11) t.fr) := by
 obtain ⟨tk, tf, tt⟩ := t
 have F1 := fun (o : Obj) k => fails k tf (w.alloc o)
 by_cases h0 : tk = 0
 · have t1 : (tk == 0) = true := beq_iff_eq.2 h0
   simp only [h0, if_true]
   have F1 := Lib.hid (fun o => F1 o 10)
   clear h0
   go_enter Tryz.func84, Tryz.ntmps84
   go_wp2_with fail
   refine (F1.out _).mono ?_
   rintro e w1 ⟨u, rfl, hf⟩
   have HF := Lib.hid (hf.after (ext_alloc (Below.refl _ w) _)); clear hf
   go_wp2
   go_ret
   exact ⟨_, rfl, HF.out⟩
 · have t1 : (tk == 0) = false := beq_eq_false_iff_ne.2 h0
   simp only [h0, if_false]
   have F1 := Lib.hid (fun o => F1 o 11)
   clear h0
   go_enter Tryz.func84, Tryz.ntmps84
   go_wp2_with fail
   refine (F1.out _).mono ?_
   rintro e w1 ⟨u, rfl, hf⟩
   have HF := Lib.hid (hf.after (ext_alloc (Below.refl _ w) _)); clear hf
   go_wp2
   go_ret
   exact ⟨_, rfl, HF.out⟩
set_option maxRecDepth 100000 in
theorem kind_tok (t : Tok) (w : World) : Calls Tryz.prog 121 #[.agg #[.int .i64 t.kind, .int .i64 t.fr, .int .i64 t.to]] w fun e w' => e = .returned (.tuple #[.int .i64 ((kindS t.kind).getD 0), .bool (kindS t.kind).isSome]) ∧ Below w.heap.size w w' := by
 obtain ⟨tk, tf, tt⟩ := t
 have HB := Lib.hid (fun o : Obj => ext_alloc (Below.refl _ w) o)
 have cs : tk = 1 ∨ tk = 3 ∨ tk = 7 ∨ tk = 8 ∨ tk = 9 ∨ tk = 10 ∨ tk = 11 ∨ (kindS tk = none ∧ (tk == 1) = false ∧ (tk == 3) = false ∧ (tk == 7) = false ∧ (tk == 8) = false ∧ (tk == 9) = false ∧ (tk == 10) = false ∧ (tk == 11) = false) := by
  by_cases h1 : tk = 1
  · exact .inl h1
  by_cases h3 : tk = 3
  · exact .inr (.inl h3)
  by_cases h7 : tk = 7
  · exact .inr (.inr (.inl h7))
  by_cases h8 : tk = 8
  · exact .inr (.inr (.inr (.inl h8)))
  by_cases h9 : tk = 9
  · exact .inr (.inr (.inr (.inr (.inl h9))))
  by_cases h10 : tk = 10
  · exact .inr (.inr (.inr (.inr (.inr (.inl h10)))))
  by_cases h11 : tk = 11
  · exact .inr (.inr (.inr (.inr (.inr (.inr (.inl h11))))))
  · refine .inr (.inr (.inr (.inr (.inr (.inr (.inr ⟨?_, ?_⟩))))))
    · unfold kindS; simp [h1, h3, h7, h8, h9, h10, h11]
    · simp [h1, h3, h7, h8, h9, h10, h11]
 rcases cs with rfl | rfl | rfl | rfl | rfl | rfl | rfl | ⟨hn, a1, a2, a3, a4, a5, a6, a7⟩
 case inr.inr.inr.inr.inr.inr.inr =>
  simp only [hn]
  clear hn
  go_enter Tryz.func121, Tryz.ntmps121
  go_wp2
  go_ret2
  exact ⟨rfl, HB.out _⟩
 all_goals
  go_enter Tryz.func121, Tryz.ntmps121
  go_wp2
  go_ret2
  exact ⟨rfl, HB.out _⟩
set_option maxRecDepth 100000 in
theorem ends_any (w : World) (base P D T : Nat) (bv tv sv : Value) (m : Bd) (s : PS) (os : List Nat) (ns : List ANode) (o : Op) (r : List Op) (t : Tok) (h : PAt w base P D T bv m s tv sv os ns) (hs : s.stack = o :: r) (hl : s.stack.length ≤ 1100000) :
    Calls Tryz.prog 86 #[ptrV P, .agg #[.int .i64 t.kind, .int .i64 t.fr, .int .i64 t.to]] w fun e w' => e = .returned (.bool (endsS o t)) ∧ Below w.heap.size w w' := by
 obtain ⟨b, q, rfl, ho⟩ := h.top hs
 have hb1 : ∀ ob : Obj, Below w.heap.size w (w.alloc ob) := fun ob => ext_alloc (Below.refl _ _) ob
 have hlq : q.length ≤ 1100000 := by have := h.len; simp at this; omega
 have TP := Lib.hid (fun ob : Obj => top_any (w.alloc ob) base P D T b bv tv sv m s q ns (h.below (hb1 ob)) hlq)
 have hbw := heap_lt ho
 have c1 : ∀ (ob : Obj) n, ((w.alloc ob).drewN n).cell? ⟨b, 1, none⟩ = some (.bool o.obj) := fun ob n => (bcell1 (hb1 ob) hbw 1).trans ho.c1
 have HB := Lib.hid hb1
 clear h hs hl ho hb1
 unfold endsS
 obtain ⟨tk, tf, tt⟩ := t
 obtain ⟨oi, oo, ot, ok⟩ := o
 simp only at c1
 cases oo with
 | true =>
   go_enter Tryz.func86, Tryz.ntmps86
   go_wp2_with fail
   refine (TP.out _).mono ?_
   rintro e w1 ⟨rfl, n, rfl⟩
   go_wp2
   go_ret
   exact ⟨rfl, ext_drewN _ (HB.out _)⟩
 | false =>
   go_enter Tryz.func86, Tryz.ntmps86
   go_wp2_with fail
   refine (TP.out _).mono ?_
   rintro e w1 ⟨rfl, n, rfl⟩
   go_wp2
   go_ret
   exact ⟨rfl, ext_drewN _ (HB.out _)⟩
def PA (w : World) (base P D T : Nat) (bv : Value) (m : Bd) (s : PS) : Prop := ∃ tv sv os ns, PAt w base P D T bv m s tv sv os ns
/-- Every token that lies in memory stands as it stood. -/
def TKept (w w' : World) : Prop := ∀ (k : Nat) (cs : Array Value) (f : Nat × Nat), w.heap[k]? = some (.cells cs 128 f) → w'.heap[k]? = some (.cells cs 128 f)
theorem TKept.refl (w : World) : TKept w w := fun _ _ _ h => h
theorem TKept.trans {a b c : World} (h : TKept a b) (k : TKept b c) : TKept a c := fun i cs f hi => k i cs f (h i cs f hi)
theorem TKept.of {a b : World} (h : Below a.heap.size a b) : TKept a b := fun i _ _ hi => by rw [h.block i (heap_lt hi)]; exact hi
theorem TKept.drew {a b : World} (h : TKept a b) (n : Nat) : TKept a (b.drewN n) := h
theorem TKept.set {a b : World} (h : TKept a b) {p : Addr} {cs : Array Value} {U : TypeId} {f : Nat × Nat} (hb : b.heap[p.block]? = some (.cells cs U f)) (hU : U ≠ 128) (u : Value) : TKept a (b.setCell p u) := fun i ds g hi => by
 have h2 := h i ds g hi
 rw [Below.heap_setCell _ _ _ _ (show i ≠ p.block from (ne_type hb h2 hU).symm)]; exact h2
def DonePost (w : World) (base P D T : Nat) (bv : Value) (m : Bd) (s : PS) (e : Ending) (w' : World) : Prop := e = .returned (.tuple #[]) ∧ PA w' base P D T bv m s ∧ Below base w w' ∧ TKept w w'
theorem drewN_below {w : World} (B n : Nat) : Below B w (w.drewN n) := ⟨rfl, rfl, rfl, Nat.le_refl _, fun _ _ => rfl⟩
set_option maxRecDepth 100000 in
theorem after_any (w : World) (base P D T : Nat) (bv : Value) (m : Bd) (s : PS) (o : Op) (r : List Op) (h : PA w base P D T bv m s) (hs : s.stack = o :: r) (hl : s.stack.length ≤ 1100000) :
    Calls Tryz.prog 120 #[ptrV P] w (DonePost w base P D T bv m { s with stack := afterS s.stack }) := by
 obtain ⟨tv, sv, os, ns, h⟩ := h
 obtain ⟨b, q, rfl, ho⟩ := h.top hs
 have hlq : q.length ≤ 1100000 := by have := h.len; simp at this; omega
 have TP := Lib.hid (top_any w base P D T b bv tv sv m s q ns h hlq)
 have hbase : base ≤ b := h.lowO b (by simp)
 have H := Lib.hid h
 have HS := Lib.hid hs
 unfold DonePost
 rw [hs]
 simp only [afterS, aftO]
 by_cases hid : o.id < 0
 · have t1 : decide (o.id < 0) = true := decide_eq_true hid
   rw [if_pos hid]
   clear h hs hl ho
   go_enter Tryz.func120, Tryz.ntmps120
   go_wp2_with fail
   refine TP.out.mono ?_
   rintro e w1 ⟨rfl, n, rfl⟩
   have hD := H.out.drewN n
   have hBD : Below base w (w.drewN n) := drewN_below base n
   have hTD : TKept w (w.drewN n) := (TKept.refl w).drew n
   generalize w.drewN n = W at hD hBD hTD ⊢
   obtain ⟨b', q', e, ho⟩ := hD.top HS.out
   obtain ⟨rfl, rfl⟩ : b = b' ∧ q = q' := by simpa using e
   have c0 := ho.c0
   have c2 := ho.c2
   have f2 := ho.fz 2
   have h1 := hD.setTop (o' := { o with st := 4 }) (j := 2) (u := .int .i64 4) HS.out rfl
   have hb1 := hBD.setCell (p := ⟨b, 2, none⟩) hbase (.int .i64 4)
   have hbW := heap_lt ho
   have hT1 := hTD.set (p := ⟨b, 2, none⟩) ho (by decide) (.int .i64 4)
   have h2 := h1.setTop (o := { o with st := 4 }) (o' := { o with st := 5 }) (j := 2) (u := .int .i64 5) rfl rfl
   have HF : Hid (PA ((W.setCell ⟨b, 2, none⟩ (.int .i64 4)).setCell ⟨b, 2, none⟩ (.int .i64 5)) base P D T bv m { s with stack := { o with st := 5 } :: r } ∧ Below base w ((W.setCell ⟨b, 2, none⟩ (.int .i64 4)).setCell ⟨b, 2, none⟩ (.int .i64 5)) ∧ TKept w ((W.setCell ⟨b, 2, none⟩ (.int .i64 4)).setCell ⟨b, 2, none⟩ (.int .i64 5))) := Lib.hid ⟨⟨_, _, _, _, h2⟩, hb1.setCell (p := ⟨b, 2, none⟩) hbase (.int .i64 5), hT1.set (p := ⟨b, 2, none⟩) (h1.ops 0 b { o with st := 4 } rfl rfl) (by decide) (.int .i64 5)⟩
   clear h2
   clear h1 hb1 hD hBD hTD hT1 ho e H HS TP hid hbase
   go_wp2
   go_end0
   exact ⟨rfl, HF.out⟩
 · have t1 : decide (o.id < 0) = false := decide_eq_false hid
   rw [if_neg hid]
   clear h hs hl ho
   go_enter Tryz.func120, Tryz.ntmps120
   go_wp2_with fail
   refine TP.out.mono ?_
   rintro e w1 ⟨rfl, n, rfl⟩
   have hD := H.out.drewN n
   have hBD : Below base w (w.drewN n) := drewN_below base n
   have hTD : TKept w (w.drewN n) := (TKept.refl w).drew n
   generalize w.drewN n = W at hD hBD hTD ⊢
   obtain ⟨b', q', e, ho⟩ := hD.top HS.out
   obtain ⟨rfl, rfl⟩ : b = b' ∧ q = q' := by simpa using e
   have c0 := ho.c0
   have c2 := ho.c2
   have f2 := ho.fz 2
   have h1 := hD.setTop (o' := { o with st := 4 }) (j := 2) (u := .int .i64 4) HS.out rfl
   have hb1 := hBD.setCell (p := ⟨b, 2, none⟩) hbase (.int .i64 4)
   have hbW := heap_lt ho
   have hT1 := hTD.set (p := ⟨b, 2, none⟩) ho (by decide) (.int .i64 4)
   have HF : Hid (PA (W.setCell ⟨b, 2, none⟩ (.int .i64 4)) base P D T bv m { s with stack := { o with st := 4 } :: r } ∧ Below base w (W.setCell ⟨b, 2, none⟩ (.int .i64 4)) ∧ TKept w (W.setCell ⟨b, 2, none⟩ (.int .i64 4))) := Lib.hid ⟨⟨_, _, _, _, h1⟩, hb1, hT1⟩
   clear h1 hb1 hD hBD hTD hT1 ho e H HS TP hid hbase
   go_wp2
   go_end0
   exact ⟨rfl, HF.out⟩
set_option maxRecDepth 100000 in
set_option maxHeartbeats 4000000 in
theorem pop_any (w : World) (base P D T : Nat) (bv : Value) (m : Bd) (s : PS) (o p : Op) (r : List Op) (h : PA w base P D T bv m s) (hs : s.stack = o :: p :: r) (hl : s.stack.length ≤ 1100000) :
    Calls Tryz.prog 87 #[ptrV P] w (DonePost w base P D T bv m { s with stack := afterS (p :: r) }) := by
 obtain ⟨tv, sv, os, ns, h⟩ := h
 obtain ⟨b, q, rfl, ho⟩ := h.top hs
 have hlq : q.length = r.length + 1 := by have := h.len; rw [hs] at this; simpa using this
 have hlr : r.length + 2 ≤ 1100000 := by rw [hs] at hl; simpa using hl
 obtain ⟨g, cap, rfl, _, hcap, hmax⟩ := h.slice
 have H := Lib.hid h
 have HS := Lib.hid hs
 have c5 := h.c5
 have f5 := h.fP 5
 have h1 : PAt (w.setCell ⟨P, 5, none⟩ (.slice (some ⟨g, 0, none⟩) q.length cap)).drew base P D T bv m { s with stack := p :: r } tv (.slice (some ⟨g, 0, none⟩) q.length cap) q ns := (h.popTop hs rfl).keep (fun _ _ _ => rfl)
 have hP : base ≤ P := h.lowP
 have hPw := heap_lt h.box
 have AF := Lib.hid (after_any _ base P D T bv m { s with stack := p :: r } p r ⟨_, _, _, _, h1⟩ rfl (by simp; omega))
 have HB : Hid (Below base w (w.setCell ⟨P, 5, none⟩ (.slice (some ⟨g, 0, none⟩) q.length cap)).drew) := Lib.hid (((Below.refl base w).setCell (p := ⟨P, 5, none⟩) hP (.slice (some ⟨g, 0, none⟩) q.length cap)).drew)
 have HTP : Hid (TKept w (w.setCell ⟨P, 5, none⟩ (.slice (some ⟨g, 0, none⟩) q.length cap)).drew) := Lib.hid ((TKept.refl w).set (p := ⟨P, 5, none⟩) h.box (by decide) (.slice (some ⟨g, 0, none⟩) q.length cap))
 generalize q.length = k at *
 have q1 : IntKind.i64.wrap (k : Int) = (k : Int) := IntWalk.i64_in _ (by omega)
 have q2 : IntKind.i64.wrap ((k : Int) + 1 - 1) = (k : Int) := IntWalk.i64_in _ (by omega) |>.trans (by omega)
 have q3 : (k : Int) ≤ (cap : Int) := by omega
 clear h hs hl ho h1 hP hlq hlr hmax
 go_enter Tryz.func87, Tryz.ntmps87
 go_wp2_with fail
 go_region
 go_wp2_with fail
 refine AF.out.mono ?_
 rintro e w1 ⟨rfl, hp, hb, ht⟩
 have HF := Lib.hid (HB.out.trans hb)
 have HTF := Lib.hid (HTP.out.trans ht)
 have HP := Lib.hid hp
 clear hp hb ht
 go_wp2
 go_end0
 exact ⟨rfl, HP.out, HF.out, HTF.out⟩
end
section
open Go.RowKit
def StPost (w0 w : World) (P D T : Nat) (bv : Value) (m : Bd) (r : Sc PS) (e : Ending) (w' : World) : Prop := match r with
 | .ok s => e = .returned .nilIface ∧ PA w' w0.heap.size P D T bv m s ∧ Below w0.heap.size w w' ∧ TKept w w'
 | .no k i => ∃ u, e = .returned (.iface 85 (.pointer (some u))) ∧ Failed w0 k i (.iface 85 (.pointer (some u))) w'
section
variable {w0 w w' : World} {base P D T : Nat} {bv : Value} {m : Bd} {s : PS} {r : Sc PS}
theorem PA.below (h : PA w base P D T bv m s) (hb : Below w.heap.size w w') : PA w' base P D T bv m s := by
 obtain ⟨tv, sv, os, ns, h⟩ := h
 exact ⟨tv, sv, os, ns, h.below hb⟩
theorem PA.drewN (h : PA w base P D T bv m s) (n : Nat) : PA (w.drewN n) base P D T bv m s := h.below (drewN_below _ n)
theorem StPost.after {w1 : World} {e : Ending} (hb : Below w0.heap.size w w1) (hk : TKept w w1) (h : StPost w0 w1 P D T bv m r e w') : StPost w0 w P D T bv m r e w' := by
 cases r with
 | ok s => exact ⟨h.1, h.2.1, hb.trans h.2.2.1, hk.trans h.2.2.2⟩
 | no k i => exact h
theorem wrong_st (t : Tok) (hb : Below w0.heap.size w0 w) : Calls Tryz.prog 84 #[.agg #[.int .i64 t.kind, .int .i64 t.fr, .int .i64 t.to]] w (StPost w0 w P D T bv m (wrongS t)) := by
 refine (wrong_any t w).mono ?_
 rintro e w1 ⟨u, rfl, hf⟩
 obtain ⟨p, rfl⟩ := hf.form
 have hf2 := hf.after hb
 unfold wrongS
 by_cases h0 : t.kind = 0
 · rw [if_pos h0] at hf2 ⊢
   exact ⟨p, rfl, hf2⟩
 · rw [if_neg h0] at hf2 ⊢
   exact ⟨p, rfl, hf2⟩
theorem fail_st {k : Nat} {i : Int} (hb : Below w0.heap.size w0 w) : Calls Tryz.prog 42 #[.int .i64 k, .int .i64 i] w (StPost w0 w P D T bv m (.no k i)) := by
 refine (fails k i w).mono ?_
 rintro e w1 ⟨u, rfl, hf⟩
 obtain ⟨p, rfl⟩ := hf.form
 exact ⟨p, rfl, hf.after hb⟩
theorem wrong_is {α : Type} (t : Tok) : ∃ k : Nat, (wrongS t : Sc α) = .no k t.fr := by
 unfold wrongS
 split
 · exact ⟨_, rfl⟩
 · exact ⟨_, rfl⟩
theorem top_pa (h : PA w base P D T bv m s) {o : Op} {r : List Op} (hs : s.stack = o :: r) (hl : s.stack.length ≤ 1100000) :
    Calls Tryz.prog 83 #[ptrV P] w fun e w' => ∃ b tv sv q ns, e = .returned (ptrV b) ∧ PAt w' base P D T bv m s tv sv (b :: q) ns ∧ Below w.heap.size w w' := by
 obtain ⟨tv, sv, os, ns, h⟩ := h
 obtain ⟨b, q, rfl, ho⟩ := h.top hs
 have hlq : q.length ≤ 1100000 := by have := h.len; simp at this; omega
 refine (top_any w base P D T b bv tv sv m s q ns h hlq).mono ?_
 rintro e w1 ⟨rfl, n, rfl⟩
 exact ⟨b, tv, sv, q, ns, rfl, h.drewN n, drewN_below _ n⟩
theorem ends_pa (t : Tok) (h : PA w base P D T bv m s) {o : Op} {r : List Op} (hs : s.stack = o :: r) (hl : s.stack.length ≤ 1100000) :
    Calls Tryz.prog 86 #[ptrV P, .agg #[.int .i64 t.kind, .int .i64 t.fr, .int .i64 t.to]] w fun e w' => e = .returned (.bool (endsS o t)) ∧ Below w.heap.size w w' := by
 obtain ⟨tv, sv, os, ns, h⟩ := h
 exact ends_any w base P D T bv tv sv m s os ns o r t h hs hl
end
set_option maxRecDepth 100000 in
set_option maxHeartbeats 4000000 in
theorem between_any (w0 w : World) (P D T : Nat) (bv : Value) (m : Bd) (s : PS) (o p : Op) (r : List Op) (t : Tok) (h : PA w w0.heap.size P D T bv m s) (hb : Below w0.heap.size w0 w) (hs : s.stack = o :: p :: r) (hl : s.stack.length ≤ 1100000) :
    Calls Tryz.prog 85 #[ptrV P, .agg #[.int .i64 t.kind, .int .i64 t.fr, .int .i64 t.to]] w (StPost w0 w P D T bv m (betweenS s o (p :: r) t)) := by
 obtain ⟨W1, hW1⟩ : ∃ W, w.alloc (.cells (#[.int .i64 t.kind, .int .i64 t.fr, .int .i64 t.to]) 128) = W := ⟨_, rfl⟩
 have b1 : Below w.heap.size w W1 := by rw [← hW1]; exact ext_alloc (Below.refl _ _) _
 have hwz := hb.size
 have hbw1 : Below w0.heap.size w W1 := b1.mono hwz
 have bx : ∀ j, W1.cell? ⟨w.heap.size, j, none⟩ = (#[.int .i64 t.kind, .int .i64 t.fr, .int .i64 t.to] : Array Value)[j]? := fun j => by rw [← hW1]; simp
 have z1 : w.heap.size < W1.heap.size := by rw [← hW1]; simp
 have TP := Lib.hid (top_pa (h.below b1) hs hl)
 have HS := Lib.hid hs; have HB := Lib.hid hb; have HB1 := Lib.hid hbw1; have HT1 := Lib.hid (TKept.of b1)
 have hlp := hl
 obtain ⟨tk, tf, tt⟩ := t
 simp only at bx hW1
 clear h hs hb b1 hbw1
 have cs : (endsS o ⟨tk, tf, tt⟩ = true) ∨ (endsS o ⟨tk, tf, tt⟩ = false ∧ (tk != 6) = true) ∨ (endsS o ⟨tk, tf, tt⟩ = false ∧ (tk != 6) = false ∧ o.obj = true) ∨ (endsS o ⟨tk, tf, tt⟩ = false ∧ (tk != 6) = false ∧ o.obj = false) := by
  cases endsS o ⟨tk, tf, tt⟩ <;> cases (tk != 6) <;> cases o.obj <;> simp
 unfold betweenS
 rcases cs with h1 | ⟨h1, h2⟩ | ⟨h1, h2, h3⟩ | ⟨h1, h2, h3⟩
 · rw [if_pos h1]
   go_enter Tryz.func85, Tryz.ntmps85
   go_wp2_with fail
   clear hW1
   refine TP.out.mono ?_
   rintro e w2 ⟨b, tv, sv, q, ns, rfl, hp, hb2⟩
   have cx := fun j => (bcell1 hb2 z1 j).trans (bx j)
   have z2 : w.heap.size < w2.heap.size := Nat.lt_of_lt_of_le z1 hb2.size
   have EN := ends_pa ⟨tk, tf, tt⟩ ⟨_, _, _, _, hp⟩ HS.out hlp
   rw [h1] at EN
   have EN := Lib.hid EN
   have HP := Lib.hid hp
   have HB2 := Lib.hid (HB1.out.trans (hb2.mono (by have := HB1.out.size; omega)))
   have HT2 := Lib.hid (HT1.out.trans (TKept.of hb2))
   clear hp hb2
   go_wp2_with fail
   refine EN.out.mono ?_
   rintro e w3 ⟨rfl, hb3⟩
   have PO := Lib.hid (pop_any w3 w0.heap.size P D T bv m s o p r ⟨_, _, _, _, HP.out.below hb3⟩ HS.out hlp)
   have HB3 := Lib.hid (HB2.out.trans (hb3.mono (by have := HB2.out.size; omega)))
   have HT3 := Lib.hid (HT2.out.trans (TKept.of hb3))
   clear hb3
   go_wp2_with fail
   refine PO.out.mono ?_
   rintro e w4 ⟨rfl, hp4, hb4, ht4⟩
   have HF := Lib.hid (HB3.out.trans hb4)
   have HTF := Lib.hid (HT3.out.trans ht4)
   have HP4 := Lib.hid hp4
   clear hb4 hp4 ht4
   go_wp2
   go_ret
   exact ⟨rfl, HP4.out, HF.out, HTF.out⟩
 · rw [if_neg (by rw [h1]; decide), if_pos (by simpa using h2)]
   obtain ⟨k, hk⟩ := wrong_is (α := PS) ⟨tk, tf, tt⟩
   simp only at hk
   rw [hk]
   have HK := Lib.hid hk
   clear hk
   go_enter Tryz.func85, Tryz.ntmps85
   go_wp2_with fail
   clear hW1
   refine TP.out.mono ?_
   rintro e w2 ⟨b, tv, sv, q, ns, rfl, hp, hb2⟩
   have cx := fun j => (bcell1 hb2 z1 j).trans (bx j)
   have z2 : w.heap.size < w2.heap.size := Nat.lt_of_lt_of_le z1 hb2.size
   have EN := ends_pa ⟨tk, tf, tt⟩ ⟨_, _, _, _, hp⟩ HS.out hlp
   rw [h1] at EN
   have EN := Lib.hid EN
   have HP := Lib.hid hp
   have HB2 := Lib.hid (HB1.out.trans (hb2.mono (by have := HB1.out.size; omega)))
   have HT2 := Lib.hid (HT1.out.trans (TKept.of hb2))
   clear hp hb2
   go_wp2_with fail
   refine EN.out.mono ?_
   rintro e w3 ⟨rfl, hb3⟩
   have cx3 := fun j => (bcell1 hb3 z2 j).trans (cx j)
   have HB3 := Lib.hid (HB2.out.trans (hb3.mono (by have := HB2.out.size; omega)))
   have HT3 := Lib.hid (HT2.out.trans (TKept.of hb3))
   have WR := wrong_st (P := P) (D := D) (T := T) (bv := bv) (m := m) ⟨tk, tf, tt⟩ (HB.out.trans HB3.out)
   rw [HK.out] at WR
   have WR := Lib.hid WR
   clear hb3
   go_wp2_with fail
   refine WR.out.mono ?_
   rintro e w4 ⟨u, rfl, hf⟩
   have HF := Lib.hid hf
   clear hf
   go_wp2
   go_ret
   exact ⟨u, rfl, HF.out⟩
 · rw [if_neg (by rw [h1]; decide), if_neg (by simpa using h2)]
   rw [h3]
   go_enter Tryz.func85, Tryz.ntmps85
   go_wp2_with fail
   clear hW1
   refine TP.out.mono ?_
   rintro e w2 ⟨b, tv, sv, q, ns, rfl, hp, hb2⟩
   have cx := fun j => (bcell1 hb2 z1 j).trans (bx j)
   have z2 : w.heap.size < w2.heap.size := Nat.lt_of_lt_of_le z1 hb2.size
   have EN := ends_pa ⟨tk, tf, tt⟩ ⟨_, _, _, _, hp⟩ HS.out hlp
   rw [h1] at EN
   have EN := Lib.hid EN
   have HP := Lib.hid hp
   have HB2 := Lib.hid (HB1.out.trans (hb2.mono (by have := HB1.out.size; omega)))
   have HT2 := Lib.hid (HT1.out.trans (TKept.of hb2))
   clear hp hb2
   go_wp2_with fail
   refine EN.out.mono ?_
   rintro e w3 ⟨rfl, hb3⟩
   have hp3 := HP.out.below hb3
   have cx3 := fun j => (bcell1 hb3 z2 j).trans (cx j)
   obtain ⟨b', q', e, ho⟩ := hp3.top HS.out
   obtain ⟨rfl, rfl⟩ : b = b' ∧ q = q' := by simpa using e
   have c1 := ho.c1
   rw [h3] at c1
   have c2 := ho.c2
   have f2 := ho.fz 2
   have hbl := hp3.lowO b (by simp)
   have HB3 := Lib.hid (HB2.out.trans (hb3.mono (by have := HB2.out.size; omega)))
   have HT3 := Lib.hid (HT2.out.trans (TKept.of hb3))
   have hp4 := hp3.setTop (o' := { o with st := 2 }) (j := 2) (u := .int .i64 2) HS.out rfl
   rw [h3] at hp4
   have HP4 := Lib.hid (show PA _ w0.heap.size P D T bv m _ from ⟨_, _, _, _, hp4⟩)
   have HF := Lib.hid (HB3.out.setCell (p := ⟨b, 2, none⟩) hbl (.int .i64 2))
   have HTF := Lib.hid (HT3.out.set (p := ⟨b, 2, none⟩) ho (by decide) (.int .i64 2))
   have hbz := heap_lt ho
   clear hb3 hp3 hp4 e ho HP EN hbl
   go_wp2
   go_ret
   exact ⟨rfl, HP4.out, HF.out, HTF.out⟩
 · rw [if_neg (by rw [h1]; decide), if_neg (by simpa using h2)]
   rw [h3]
   go_enter Tryz.func85, Tryz.ntmps85
   go_wp2_with fail
   clear hW1
   refine TP.out.mono ?_
   rintro e w2 ⟨b, tv, sv, q, ns, rfl, hp, hb2⟩
   have cx := fun j => (bcell1 hb2 z1 j).trans (bx j)
   have z2 : w.heap.size < w2.heap.size := Nat.lt_of_lt_of_le z1 hb2.size
   have EN := ends_pa ⟨tk, tf, tt⟩ ⟨_, _, _, _, hp⟩ HS.out hlp
   rw [h1] at EN
   have EN := Lib.hid EN
   have HP := Lib.hid hp
   have HB2 := Lib.hid (HB1.out.trans (hb2.mono (by have := HB1.out.size; omega)))
   have HT2 := Lib.hid (HT1.out.trans (TKept.of hb2))
   clear hp hb2
   go_wp2_with fail
   refine EN.out.mono ?_
   rintro e w3 ⟨rfl, hb3⟩
   have hp3 := HP.out.below hb3
   have cx3 := fun j => (bcell1 hb3 z2 j).trans (cx j)
   obtain ⟨b', q', e, ho⟩ := hp3.top HS.out
   obtain ⟨rfl, rfl⟩ : b = b' ∧ q = q' := by simpa using e
   have c1 := ho.c1
   rw [h3] at c1
   have c2 := ho.c2
   have f2 := ho.fz 2
   have hbl := hp3.lowO b (by simp)
   have HB3 := Lib.hid (HB2.out.trans (hb3.mono (by have := HB2.out.size; omega)))
   have HT3 := Lib.hid (HT2.out.trans (TKept.of hb3))
   have hp4 := hp3.setTop (o' := { o with st := 1 }) (j := 2) (u := .int .i64 1) HS.out rfl
   rw [h3] at hp4
   have HP4 := Lib.hid (show PA _ w0.heap.size P D T bv m _ from ⟨_, _, _, _, hp4⟩)
   have HF := Lib.hid (HB3.out.setCell (p := ⟨b, 2, none⟩) hbl (.int .i64 1))
   have HTF := Lib.hid (HT3.out.set (p := ⟨b, 2, none⟩) ho (by decide) (.int .i64 1))
   have hbz := heap_lt ho
   clear hb3 hp3 hp4 e ho HP EN hbl
   go_wp2
   go_ret
   exact ⟨rfl, HP4.out, HF.out, HTF.out⟩
end
end Go.Proofs.YtcaiibkgajhohaaGreatDoor
