/- The parser's small steps: the walks. -/
import Derived.Test.YtmhfbdeeebbloaaDoorJsM0
import Derived.BigQuiet
import Derived.RegionTactic
import Derived.BigRegion
namespace Go.Proofs.YtmhfbdeeebbloaaDoor
open Go.RowKit
section
variable {w : World} {base P D T : Nat} {bv tv sv : Value} {m : Bd} {s : PS} {os : List Nat} {ns : List ANode}
theorem PAt.c0 (h : PAt w base P D T bv m s tv sv os ns) : w.cell? ⟨P, 0, none⟩ = some bv := by simp [World.cell?, h.box]
theorem PAt.c1 (h : PAt w base P D T bv m s tv sv os ns) : w.cell? ⟨P, 1, none⟩ = some (.int .i64 m.bytes) := by simp [World.cell?, h.box]
theorem PAt.c2 (h : PAt w base P D T bv m s tv sv os ns) : w.cell? ⟨P, 2, none⟩ = some (.int .i64 m.deep) := by simp [World.cell?, h.box]
theorem PAt.c4 (h : PAt w base P D T bv m s tv sv os ns) : w.cell? ⟨P, 4, none⟩ = some (ptrV D) := by simp [World.cell?, h.box]
theorem PAt.c5 (h : PAt w base P D T bv m s tv sv os ns) : w.cell? ⟨P, 5, none⟩ = some sv := by simp [World.cell?, h.box]
theorem PAt.cD (h : PAt w base P D T bv m s tv sv os ns) : w.cell? ⟨D, 0, none⟩ = some (ptrV T) := by simp [World.cell?, h.doc]
theorem PAt.fP (h : PAt w base P D T bv m s tv sv os ns) (j : Nat) : w.frozen? ⟨P, j, none⟩ = false := Go.Joins.unfrozen_of_block h.box j
theorem OpAt.c0 {b : Nat} {o : Op} (h : OpAt w b o) : w.cell? ⟨b, 0, none⟩ = some (.int .i64 o.id) := by unfold OpAt at h; simp [World.cell?, h, opC]
theorem OpAt.c1 {b : Nat} {o : Op} (h : OpAt w b o) : w.cell? ⟨b, 1, none⟩ = some (.bool o.obj) := by unfold OpAt at h; simp [World.cell?, h, opC]
theorem OpAt.c2 {b : Nat} {o : Op} (h : OpAt w b o) : w.cell? ⟨b, 2, none⟩ = some (.int .i64 o.st) := by unfold OpAt at h; simp [World.cell?, h, opC]
theorem OpAt.c3 {b : Nat} {o : Op} (h : OpAt w b o) : w.cell? ⟨b, 3, none⟩ = some (.string o.key) := by unfold OpAt at h; simp [World.cell?, h, opC]
theorem OpAt.fz {b : Nat} {o : Op} (h : OpAt w b o) (j : Nat) : w.frozen? ⟨b, j, none⟩ = false := Go.Joins.unfrozen_of_block h j
theorem PAt.slice {b : Nat} {q : List Nat} (h : PAt w base P D T bv m s tv sv (b :: q) ns) : ∃ g cap, sv = .slice (some ⟨g, 0, none⟩) (q.length + 1) cap ∧ w.cell? ⟨g, q.length, none⟩ = some (ptrV b) ∧ q.length + 1 ≤ cap ∧ cap ≤ maxLen := by
  rcases h.row.2 with ⟨_, e⟩ | ⟨g, cap, cur, rfl, h1, h2, h3, h4, h5, h6⟩
  · simp at e
  · refine ⟨g, cap, rfl, ?_, by simpa using h3, h4⟩
    rw [h.row.cellAt q.length (by simp), List.map_cons, List.reverse_cons, List.getElem?_append_right (by simp)]; simp
end
set_option maxRecDepth 100000 in
theorem top_any (w : World) (base P D T b : Nat) (bv tv sv : Value) (m : Bd) (s : PS) (q : List Nat) (ns : List ANode) (h : PAt w base P D T bv m s tv sv (b :: q) ns) (hl : q.length ≤ 1000000) :
    Calls Tryd.prog 94 #[ptrV P] w fun e w' => e = .returned (ptrV b) ∧ ∃ n, w' = w.drewN n := by
  obtain ⟨g, cap, rfl, cr, _, _⟩ := h.slice
  have c5 := h.c5
  generalize q.length = k at *
  have q1 : IntKind.i64.wrap (k : Int) = (k : Int) := IntWalk.i64_in _ (by omega)
  have q2 : IntKind.i64.wrap ((k : Int) + 1 - 1) = (k : Int) := IntWalk.i64_in _ (by omega) |>.trans (by omega)
  clear h
  go_enter Tryd.func94, Tryd.ntmps94
  go_wp2
  go_quiet (fail)
  go_wp2
  go_ret
  exact ⟨rfl, _, rfl⟩
set_option maxRecDepth 100000 in
theorem wrong_any (t : Tok) (w : World) : Calls Tryd.prog 95 #[.agg #[.int .i64 t.kind, .int .i64 t.fr, .int .i64 t.to]] w (FailPost w (if t.kind = 0 then 10 else 11) t.fr) := by
  obtain ⟨tk, tf, tt⟩ := t
  have F1 := fun (o : Obj) k => fails k tf (w.alloc o)
  by_cases h0 : tk = 0
  · have t1 : (tk == 0) = true := beq_iff_eq.2 h0
    simp only [h0, if_true]
    have F1 := Lib.hid (fun o => F1 o 10)
    clear h0
    go_enter Tryd.func95, Tryd.ntmps95
    go_wp2_with fail
    refine (F1.out _).mono ?_
    rintro e w1 ⟨u, rfl, hf⟩
    have HF := Lib.hid (hf.after (ext_alloc (Below.refl _ w) _)); clear hf
    go_wp2
    go_ret
    exact ⟨_, rfl, HF.out⟩
  · have t1 : (tk == 0) = false := beq_eq_false_iff_ne.2 h0
    simp only [h0, if_false]
    have F1 := Lib.hid (fun o => F1 o 11)
    clear h0
    go_enter Tryd.func95, Tryd.ntmps95
    go_wp2_with fail
    refine (F1.out _).mono ?_
    rintro e w1 ⟨u, rfl, hf⟩
    have HF := Lib.hid (hf.after (ext_alloc (Below.refl _ w) _)); clear hf
    go_wp2
    go_ret
    exact ⟨_, rfl, HF.out⟩
set_option maxRecDepth 100000 in
theorem kind_tok (t : Tok) (w : World) : Calls Tryd.prog 134 #[.agg #[.int .i64 t.kind, .int .i64 t.fr, .int .i64 t.to]] w fun e w' => e = .returned (.tuple #[.int .i64 ((kindS t.kind).getD 0), .bool (kindS t.kind).isSome]) ∧ Below w.heap.size w w' := by
  obtain ⟨tk, tf, tt⟩ := t
  have HB := Lib.hid (fun o : Obj => ext_alloc (Below.refl _ w) o)
  have cs : tk = 1 ∨ tk = 3 ∨ tk = 7 ∨ tk = 8 ∨ tk = 9 ∨ tk = 10 ∨ tk = 11 ∨ (kindS tk = none ∧ (tk == 1) = false ∧ (tk == 3) = false ∧ (tk == 7) = false ∧ (tk == 8) = false ∧ (tk == 9) = false ∧ (tk == 10) = false ∧ (tk == 11) = false) := by
    by_cases h1 : tk = 1
    · exact .inl h1
    by_cases h3 : tk = 3
    · exact .inr (.inl h3)
    by_cases h7 : tk = 7
    · exact .inr (.inr (.inl h7))
    by_cases h8 : tk = 8
    · exact .inr (.inr (.inr (.inl h8)))
    by_cases h9 : tk = 9
    · exact .inr (.inr (.inr (.inr (.inl h9))))
    by_cases h10 : tk = 10
    · exact .inr (.inr (.inr (.inr (.inr (.inl h10)))))
    by_cases h11 : tk = 11
    · exact .inr (.inr (.inr (.inr (.inr (.inr (.inl h11))))))
    · refine .inr (.inr (.inr (.inr (.inr (.inr (.inr ⟨?_, ?_⟩))))))
      · unfold kindS; simp [h1, h3, h7, h8, h9, h10, h11]
      · simp [h1, h3, h7, h8, h9, h10, h11]
  rcases cs with rfl | rfl | rfl | rfl | rfl | rfl | rfl | ⟨hn, a1, a2, a3, a4, a5, a6, a7⟩
  case inr.inr.inr.inr.inr.inr.inr =>
    simp only [hn]
    clear hn
    go_enter Tryd.func134, Tryd.ntmps134
    go_wp2
    go_ret2
    exact ⟨rfl, HB.out _⟩
  all_goals
    go_enter Tryd.func134, Tryd.ntmps134
    go_wp2
    go_ret2
    exact ⟨rfl, HB.out _⟩
set_option maxRecDepth 100000 in
theorem ends_any (w : World) (base P D T : Nat) (bv tv sv : Value) (m : Bd) (s : PS) (os : List Nat) (ns : List ANode) (o : Op) (r : List Op) (t : Tok) (h : PAt w base P D T bv m s tv sv os ns) (hs : s.stack = o :: r) (hl : s.stack.length ≤ 1000000) :
    Calls Tryd.prog 97 #[ptrV P, .agg #[.int .i64 t.kind, .int .i64 t.fr, .int .i64 t.to]] w fun e w' => e = .returned (.bool (endsS o t)) ∧ Below w.heap.size w w' := by
  obtain ⟨b, q, rfl, ho⟩ := h.top hs
  have hb1 : ∀ ob : Obj, Below w.heap.size w (w.alloc ob) := fun ob => ext_alloc (Below.refl _ _) ob
  have hlq : q.length ≤ 1000000 := by have := h.len; simp at this; omega
  have TP := Lib.hid (fun ob : Obj => top_any (w.alloc ob) base P D T b bv tv sv m s q ns (h.below (hb1 ob)) hlq)
  have hbw := heap_lt ho
  have c1 : ∀ (ob : Obj) n, ((w.alloc ob).drewN n).cell? ⟨b, 1, none⟩ = some (.bool o.obj) := fun ob n => (bcell1 (hb1 ob) hbw 1).trans ho.c1
  have HB := Lib.hid hb1
  clear h hs hl ho hb1
  unfold endsS
  obtain ⟨tk, tf, tt⟩ := t
  obtain ⟨oi, oo, ot, ok⟩ := o
  simp only at c1
  cases oo with
  | true =>
    go_enter Tryd.func97, Tryd.ntmps97
    go_wp2_with fail
    refine (TP.out _).mono ?_
    rintro e w1 ⟨rfl, n, rfl⟩
    go_wp2
    go_ret
    exact ⟨rfl, ext_drewN _ (HB.out _)⟩
  | false =>
    go_enter Tryd.func97, Tryd.ntmps97
    go_wp2_with fail
    refine (TP.out _).mono ?_
    rintro e w1 ⟨rfl, n, rfl⟩
    go_wp2
    go_ret
    exact ⟨rfl, ext_drewN _ (HB.out _)⟩
def PA (w : World) (base P D T : Nat) (bv : Value) (m : Bd) (s : PS) : Prop := ∃ tv sv os ns, PAt w base P D T bv m s tv sv os ns
/-- Every token that lies in memory stands as it stood. -/
def TKept (w w' : World) : Prop := ∀ (k : Nat) (cs : Array Value) (f : Nat × Nat), w.heap[k]? = some (.cells cs 47 f) → w'.heap[k]? = some (.cells cs 47 f)
theorem TKept.refl (w : World) : TKept w w := fun _ _ _ h => h
theorem TKept.trans {a b c : World} (h : TKept a b) (k : TKept b c) : TKept a c := fun i cs f hi => k i cs f (h i cs f hi)
theorem TKept.of {a b : World} (h : Below a.heap.size a b) : TKept a b := fun i _ _ hi => by rw [h.block i (heap_lt hi)]; exact hi
theorem TKept.drew {a b : World} (h : TKept a b) (n : Nat) : TKept a (b.drewN n) := h
theorem TKept.set {a b : World} (h : TKept a b) {p : Addr} {cs : Array Value} {U : TypeId} {f : Nat × Nat} (hb : b.heap[p.block]? = some (.cells cs U f)) (hU : U ≠ 47) (u : Value) : TKept a (b.setCell p u) := fun i ds g hi => by
  have h2 := h i ds g hi
  rw [Below.heap_setCell _ _ _ _ (show i ≠ p.block from (ne_type hb h2 hU).symm)]; exact h2
def DonePost (w : World) (base P D T : Nat) (bv : Value) (m : Bd) (s : PS) (e : Ending) (w' : World) : Prop := e = .returned (.tuple #[]) ∧ PA w' base P D T bv m s ∧ Below base w w' ∧ TKept w w'
theorem drewN_below {w : World} (B n : Nat) : Below B w (w.drewN n) := ⟨rfl, rfl, rfl, Nat.le_refl _, fun _ _ => rfl⟩
set_option maxRecDepth 100000 in
theorem after_any (w : World) (base P D T : Nat) (bv : Value) (m : Bd) (s : PS) (o : Op) (r : List Op) (h : PA w base P D T bv m s) (hs : s.stack = o :: r) (hl : s.stack.length ≤ 1000000) :
    Calls Tryd.prog 133 #[ptrV P] w (DonePost w base P D T bv m { s with stack := afterS s.stack }) := by
  obtain ⟨tv, sv, os, ns, h⟩ := h
  obtain ⟨b, q, rfl, ho⟩ := h.top hs
  have hlq : q.length ≤ 1000000 := by have := h.len; simp at this; omega
  have TP := Lib.hid (top_any w base P D T b bv tv sv m s q ns h hlq)
  have hbase : base ≤ b := h.lowO b (by simp)
  have H := Lib.hid h
  have HS := Lib.hid hs
  unfold DonePost
  rw [hs]
  simp only [afterS, aftO]
  by_cases hid : o.id < 0
  · have t1 : decide (o.id < 0) = true := decide_eq_true hid
    rw [if_pos hid]
    clear h hs hl ho
    go_enter Tryd.func133, Tryd.ntmps133
    go_wp2_with fail
    refine TP.out.mono ?_
    rintro e w1 ⟨rfl, n, rfl⟩
    have hD := H.out.drewN n
    have hBD : Below base w (w.drewN n) := drewN_below base n
    have hTD : TKept w (w.drewN n) := (TKept.refl w).drew n
    generalize w.drewN n = W at hD hBD hTD ⊢
    obtain ⟨b', q', e, ho⟩ := hD.top HS.out
    obtain ⟨rfl, rfl⟩ : b = b' ∧ q = q' := by simpa using e
    have c0 := ho.c0
    have c2 := ho.c2
    have f2 := ho.fz 2
    have h1 := hD.setTop (o' := { o with st := 4 }) (j := 2) (u := .int .i64 4) HS.out rfl
    have hb1 := hBD.setCell (p := ⟨b, 2, none⟩) hbase (.int .i64 4)
    have hbW := heap_lt ho
    have hT1 := hTD.set (p := ⟨b, 2, none⟩) ho (by decide) (.int .i64 4)
    have h2 := h1.setTop (o := { o with st := 4 }) (o' := { o with st := 5 }) (j := 2) (u := .int .i64 5) rfl rfl
    have HF : Hid (PA ((W.setCell ⟨b, 2, none⟩ (.int .i64 4)).setCell ⟨b, 2, none⟩ (.int .i64 5)) base P D T bv m { s with stack := { o with st := 5 } :: r } ∧ Below base w ((W.setCell ⟨b, 2, none⟩ (.int .i64 4)).setCell ⟨b, 2, none⟩ (.int .i64 5)) ∧ TKept w ((W.setCell ⟨b, 2, none⟩ (.int .i64 4)).setCell ⟨b, 2, none⟩ (.int .i64 5))) := Lib.hid ⟨⟨_, _, _, _, h2⟩, hb1.setCell (p := ⟨b, 2, none⟩) hbase (.int .i64 5), hT1.set (p := ⟨b, 2, none⟩) (h1.ops 0 b { o with st := 4 } rfl rfl) (by decide) (.int .i64 5)⟩
    clear h2
    clear h1 hb1 hD hBD hTD hT1 ho e H HS TP hid hbase
    go_wp2
    go_end0
    exact ⟨rfl, HF.out⟩
  · have t1 : decide (o.id < 0) = false := decide_eq_false hid
    rw [if_neg hid]
    clear h hs hl ho
    go_enter Tryd.func133, Tryd.ntmps133
    go_wp2_with fail
    refine TP.out.mono ?_
    rintro e w1 ⟨rfl, n, rfl⟩
    have hD := H.out.drewN n
    have hBD : Below base w (w.drewN n) := drewN_below base n
    have hTD : TKept w (w.drewN n) := (TKept.refl w).drew n
    generalize w.drewN n = W at hD hBD hTD ⊢
    obtain ⟨b', q', e, ho⟩ := hD.top HS.out
    obtain ⟨rfl, rfl⟩ : b = b' ∧ q = q' := by simpa using e
    have c0 := ho.c0
    have c2 := ho.c2
    have f2 := ho.fz 2
    have h1 := hD.setTop (o' := { o with st := 4 }) (j := 2) (u := .int .i64 4) HS.out rfl
    have hb1 := hBD.setCell (p := ⟨b, 2, none⟩) hbase (.int .i64 4)
    have hbW := heap_lt ho
    have hT1 := hTD.set (p := ⟨b, 2, none⟩) ho (by decide) (.int .i64 4)
    have HF : Hid (PA (W.setCell ⟨b, 2, none⟩ (.int .i64 4)) base P D T bv m { s with stack := { o with st := 4 } :: r } ∧ Below base w (W.setCell ⟨b, 2, none⟩ (.int .i64 4)) ∧ TKept w (W.setCell ⟨b, 2, none⟩ (.int .i64 4))) := Lib.hid ⟨⟨_, _, _, _, h1⟩, hb1, hT1⟩
    clear h1 hb1 hD hBD hTD hT1 ho e H HS TP hid hbase
    go_wp2
    go_end0
    exact ⟨rfl, HF.out⟩
set_option maxRecDepth 100000 in
set_option maxHeartbeats 4000000 in
theorem pop_any (w : World) (base P D T : Nat) (bv : Value) (m : Bd) (s : PS) (o p : Op) (r : List Op) (h : PA w base P D T bv m s) (hs : s.stack = o :: p :: r) (hl : s.stack.length ≤ 1000000) :
    Calls Tryd.prog 98 #[ptrV P] w (DonePost w base P D T bv m { s with stack := afterS (p :: r) }) := by
  obtain ⟨tv, sv, os, ns, h⟩ := h
  obtain ⟨b, q, rfl, ho⟩ := h.top hs
  have hlq : q.length = r.length + 1 := by have := h.len; rw [hs] at this; simpa using this
  have hlr : r.length + 2 ≤ 1000000 := by rw [hs] at hl; simpa using hl
  obtain ⟨g, cap, rfl, _, hcap, hmax⟩ := h.slice
  have H := Lib.hid h
  have HS := Lib.hid hs
  have c5 := h.c5
  have f5 := h.fP 5
  have h1 : PAt (w.setCell ⟨P, 5, none⟩ (.slice (some ⟨g, 0, none⟩) q.length cap)).drew base P D T bv m { s with stack := p :: r } tv (.slice (some ⟨g, 0, none⟩) q.length cap) q ns := (h.popTop hs rfl).keep (fun _ _ _ => rfl)
  have hP : base ≤ P := h.lowP
  have hPw := heap_lt h.box
  have AF := Lib.hid (after_any _ base P D T bv m { s with stack := p :: r } p r ⟨_, _, _, _, h1⟩ rfl (by simp; omega))
  have HB : Hid (Below base w (w.setCell ⟨P, 5, none⟩ (.slice (some ⟨g, 0, none⟩) q.length cap)).drew) := Lib.hid (((Below.refl base w).setCell (p := ⟨P, 5, none⟩) hP (.slice (some ⟨g, 0, none⟩) q.length cap)).drew)
  have HTP : Hid (TKept w (w.setCell ⟨P, 5, none⟩ (.slice (some ⟨g, 0, none⟩) q.length cap)).drew) := Lib.hid ((TKept.refl w).set (p := ⟨P, 5, none⟩) h.box (by decide) (.slice (some ⟨g, 0, none⟩) q.length cap))
  generalize q.length = k at *
  have q1 : IntKind.i64.wrap (k : Int) = (k : Int) := IntWalk.i64_in _ (by omega)
  have q2 : IntKind.i64.wrap ((k : Int) + 1 - 1) = (k : Int) := IntWalk.i64_in _ (by omega) |>.trans (by omega)
  have q3 : (k : Int) ≤ (cap : Int) := by omega
  clear h hs hl ho h1 hP hlq hlr hmax
  go_enter Tryd.func98, Tryd.ntmps98
  go_wp2_with fail
  go_region
  go_wp2_with fail
  refine AF.out.mono ?_
  rintro e w1 ⟨rfl, hp, hb, ht⟩
  have HF := Lib.hid (HB.out.trans hb)
  have HTF := Lib.hid (HTP.out.trans ht)
  have HP := Lib.hid hp
  clear hp hb ht
  go_wp2
  go_end0
  exact ⟨rfl, HP.out, HF.out, HTF.out⟩
end Go.Proofs.YtmhfbdeeebbloaaDoor
