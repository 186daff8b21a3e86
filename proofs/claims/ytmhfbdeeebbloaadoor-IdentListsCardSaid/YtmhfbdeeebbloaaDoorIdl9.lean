/- slices.Compact at fingerprints: what lies in the row meanwhile. -/
import Derived.Test.YtmhfbdeeebbloaaDoorIdl8
import Derived.Deep.MidRow
namespace Go.Proofs.YtmhfbdeeebbloaaDoor
open Go.RowKit
theorem compL_snoc {α : Type} [DecidableEq α] : ∀ (l : List α) (x : α), compL (l ++ [x]) = if l.getLast? = some x then compL l else compL l ++ [x]
  | [], x => by simp [compL]
  | [a], x => by
    by_cases h : a = x
    · subst h; simp [compL]
    · simp [compL, h]
  | a :: b :: t, x => by
    have ih := compL_snoc (b :: t) x
    have e : (a :: b :: t).getLast? = (b :: t).getLast? := by simp [List.getLast?_cons_cons]
    rw [e]
    by_cases hab : a = b
    · have e1 : compL (a :: b :: t ++ [x]) = compL (b :: t ++ [x]) := by simp [compL, hab]
      have e2 : compL (a :: b :: t) = compL (b :: t) := by simp [compL, hab]
      rw [e1, e2]; exact ih
    · have e1 : compL (a :: b :: t ++ [x]) = a :: compL (b :: t ++ [x]) := by simp [compL, hab]
      have e2 : compL (a :: b :: t) = a :: compL (b :: t) := by simp [compL, hab]
      rw [e1, e2, ih]
      split <;> simp
theorem compL_step {l : List Pr} {p : Nat} {x y : Pr} (hx : l[p + 1]? = some x) (hy : l[p]? = some y) : compL (l.take (p + 2)) = if x = y then compL (l.take (p + 1)) else compL (l.take (p + 1)) ++ [x] := by
  have hl := (List.getElem?_eq_some_iff.1 hx).1
  have hx' := (List.getElem?_eq_some_iff.1 hx).2
  have hl2 := (List.getElem?_eq_some_iff.1 hy).1
  have e1 : l.take (p + 2) = l.take (p + 1) ++ [x] := by rw [List.take_succ_eq_append_getElem hl, hx']
  have e2 : (l.take (p + 1)).getLast? = some y := by
    rw [List.getLast?_eq_getElem?, List.length_take, Nat.min_eq_left (by omega), Nat.add_sub_cancel, List.getElem?_take_of_lt (by omega), hy]
  rw [e1, compL_snoc, e2]
  by_cases h : x = y
  · rw [if_pos h, if_pos (by rw [h])]
  · rw [if_neg h, if_neg (fun e => h (Option.some.inj e).symm)]
/-- The row of n fingerprints in block g; nothing else has turned. -/
structure RowC (w0 w : World) (g n : Nat) (q : List Pr) : Prop where
  len : q.length = n
  row : RowP w g 0 q
  here : w.there g 0 (n * 32)
  only : w0.grownBy w (some g)
theorem OwnP.rowC {w : World} {base g cap : Nat} {ps : List Pr} (h : OwnP w base g cap ps) : RowC w w g ps.length ps where
  len := rfl
  row := h.row
  here := fun j hj => by
    have hc : (pflat ps)[j]? = some ((pflat ps)[j]'(by rw [pflat_len]; exact hj)) := List.getElem?_eq_getElem _
    have := h.row.cells j _ hc
    exact ⟨by rw [this]; rfl, by rw [Nat.zero_add]; exact World.ownsRow.frozenAt h j⟩
  only := World.grownBy.refl _ _
theorem below_setC {B : Nat} {a : World} (b : Nat) (hb : B ≤ b) : ∀ (vs : List Value) (o : Nat) {w : World}, Below B a w → Below B a (w.setCells b o vs)
  | [], _, _, h => h
  | v :: r, o, _, h => below_setC b hb r (o + 1) (h.setCell (p := ⟨b, o, none⟩) hb v)
theorem heap_setC (b k : Nat) (hk : k ≠ b) : ∀ (vs : List Value) (o : Nat) (w : World), (w.setCells b o vs).heap[k]? = w.heap[k]?
  | [], _, _ => rfl
  | v :: r, o, w => (heap_setC b k hk r (o + 1) _).trans (Below.heap_setCell w ⟨b, o, none⟩ v k hk)
theorem grownBy_setCells {w0 w : World} {g : Nat} (h : w0.grownBy w (some g)) (o : Nat) (vs : List Value) : w0.grownBy (w.setCells g o vs) (some g) := by
  have hb := below_setC (B := 0) g (Nat.zero_le _) vs o (Below.refl 0 w)
  exact ⟨hb.os.trans h.os, hb.tape.trans h.tape, hb.output.trans h.output, Nat.le_trans h.size hb.size, fun k hk2 hne => (heap_setC g k (fun e => hne (by rw [e])) vs o w).trans (h.block k hk2 hne)⟩
theorem RowC.drewN {w0 w : World} {g n : Nat} {q : List Pr} (h : RowC w0 w g n q) (m : Nat) : RowC w0 (w.drewN m) g n q := ⟨h.len, h.row, h.here, ⟨h.only.os, h.only.tape, h.only.output, h.only.size, h.only.block⟩⟩
theorem RowC.put {w0 w : World} {g n : Nat} {q : List Pr} (h : RowC w0 w g n q) {k : Nat} (hk : k < n) (y : Pr) : RowC w0 (w.setCells g (k * 32) (encP y)) g n (q.set k y) where
  len := by rw [List.length_set]; exact h.len
  here := World.there_setCells h.here _ _ _
  only := grownBy_setCells h.only _ _
  row := fun j x hx i hi => by
    by_cases e : j = k
    · subst e
      have hx2 : x = y := by
        have := (List.getElem?_eq_some_iff.1 hx)
        obtain ⟨h1, h2⟩ := this
        rw [List.getElem_set_self] at h2; exact h2.symm
      subst hx2
      have := World.cell?_setCells_in g (encP x) (j * 32) w (fun m hm => by
        rw [encP_len] at hm
        have := (h.here (j * 32 + m) (by have := Nat.mul_le_mul_right 32 (show j + 1 ≤ n from hk); omega)).1
        rw [Nat.zero_add] at this; exact this) i (by rw [encP_len]; exact hi)
      rw [Nat.zero_add, this, ← List.getElem?_eq_getElem, encP_get x i hi]
    · rw [List.getElem?_set_ne (fun e2 => e e2.symm)] at hx
      rw [World.cell?_setCells_out g (encP y) (k * 32) w _ (fun _ _ => by
        rw [encP_len]
        show 0 + j * 32 + i < k * 32 ∨ k * 32 + 32 ≤ 0 + j * 32 + i
        omega)]
      exact h.row j x hx i hi
theorem RowC.spot {w0 w : World} {g n : Nat} {q : List Pr} (h : RowC w0 w g n q) {k : Nat} (hk : k < n) : w.there g (k * 32) 32 := fun j hj => by
  have := h.here (k * 32 + j) (by have := Nat.mul_le_mul_right 32 (show k + 1 ≤ n from hk); omega)
  rw [Nat.zero_add] at this; exact this
theorem RowC.load {w0 w : World} {g n : Nat} {q : List Pr} (h : RowC w0 w g n q) {j : Nat} {x : Pr} (hx : q[j]? = some x) : (loadVar 23 ⟨g, j * 32, none⟩).run Tryd.prog w = .ok (.agg (prV x)) w := by
  have := h.row.load hx
  rw [Nat.zero_add] at this; exact this
theorem prV_list (x : Pr) : (prV x).toList = encP x := by rw [← prV_enc]
/-- The tail cleared. -/
theorem RowC.clear {w0 w : World} {g n : Nat} {q : List Pr} (h : RowC w0 w g n q) {k m c : Nat} (hm : k + m = n) :
    ∃ w', (∀ ty, (Builtin.clear_ #[32] ty #[.slice (some ⟨g, k * 32, none⟩) m c]).run Tryd.prog w = .ok (.tuple #[]) w') ∧ RowP w' g 0 (q.take k) ∧ w0.grownBy w' (some g) := by
  by_cases h0 : m = 0
  · subst h0
    exact ⟨w, fun ty => by simp [Builtin.clear_, run_underlying Tryd.underlying32], h.row.take k, h.only⟩
  · obtain ⟨i, hi, hz, hsz, hby⟩ := info_parts elPr.hi
    obtain ⟨vs, hvs⟩ : ∃ vs, (Builtin.zeroCells (Value.agg (Array.replicate 32 (.int .u8 0))).cells m).toList = vs := ⟨_, rfl⟩
    have hvl : vs.length = m * 32 := by rw [← hvs]; simp [Builtin.zeroCells, Value.cells]
    have hv1 : ∀ v ∈ vs, v.oneCell' = true := by
      intro v hv
      rw [← hvs] at hv
      simp only [Builtin.zeroCells, Value.cells, Array.toList_map, List.mem_map] at hv
      obtain ⟨t, _, rfl⟩ := hv
      have : t % 32 < 32 := Nat.mod_lt _ (by decide)
      simp [this, Value.oneCell']
    have hst := run_storeCells_cells (P := Tryd.prog) g (k * 32) vs 0 w (fun j hj => by
      have := (h.here (k * 32 + j) (by omega)).1
      rw [Nat.zero_add] at this; exact this) (fun j hj => by
      have := (h.here (k * 32 + j) (by omega)).2
      rw [Nat.zero_add] at this; exact this) hv1
    simp only [Nat.add_zero] at hst
    refine ⟨w.setCells g (k * 32) vs, fun ty => ?_, ?_, grownBy_setCells h.only _ _⟩
    · obtain ⟨m', rfl⟩ : ∃ m', m = m' + 1 := ⟨m - 1, by omega⟩
      simp [Builtin.clear_, run_underlying Tryd.underlying32, zeroValue, typeInfo, hi, hz, hvs, hst]
    · intro j x hx i hi
      rw [List.getElem?_take] at hx
      split at hx
      · rw [World.cell?_setCells_out g vs (k * 32) w _ (fun _ _ => by left; show 0 + j * 32 + i < k * 32; omega)]
        exact h.row j x hx i hi
      · cases hx
theorem quiet_neqRow {P : Program} {C : World → Prop} {a : Act} {o : Oper} {K : Act → Prop} {t : TypeId} {ca cb : Array Value} {r : Bool} {yt : TypeId} (hg : P.eqGuardType P.depth t = false) (hq : ∀ w, (Op.equalIn 10000 t (.agg ca) (.agg cb)).run P w = .ok r w) (x y : Operand) (h : o.op = .binOp .neq t x y yt) (hx : a.eval x = .agg ca) (hy : a.eval y = .agg cb) (hk : K (a.put o.dst (.bool (!r)))) : o.quiet P a C K :=
  ⟨.bool (!r), fun w hw => by
    unfold Oper.quietAt
    have hq' : (Op.equal t (.agg ca) (.agg cb)).run P w = .ok r w := hq w
    rw [show (execOp a.eval o).run P w = .ok (.value (.bool (!r))) w from by simp [execOp, h, hx, hy, eqGuard, binOp, hg, Sem.run_bind, hq', Result.andThen]]
    exact ⟨rfl, rfl⟩, hk⟩
end Go.Proofs.YtmhfbdeeebbloaaDoor
