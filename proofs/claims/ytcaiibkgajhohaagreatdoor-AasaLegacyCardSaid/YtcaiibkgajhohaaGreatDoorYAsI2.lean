/- Texts put together. -/
import Derived.Test.YtcaiibkgajhohaaGreatDoorYAsI0f
import Derived.Test.YtcaiibkgajhohaaGreatDoorYAsG3f
namespace Go.Proofs.YtcaiibkgajhohaaGreatDoor
open Go.RowKit
theorem putObj_only (T : Nat → Prop) (w : World) (m : Nat) (o : Obj) (h : T m) : Only T w (w.putObj m o) := ⟨rfl, rfl, rfl, by simp, fun k _ hn => World.putObj_heap_other (fun e => hn (by rw [e]; exact h))⟩
/-- The loop's mark, if there is one, is taken away. -/
def outW (M : Option Nat) (w : World) : World := match M with
 | none => w
 | some m => w.putObj m (.deferred none)
/-- The end of a function that holds such a loop. -/
theorem postM {F : Fence} {n : Nat} {P : Program} {fn : Func} {R : Ending → World → Prop} {a : Act} {w : World} (M : Option Nat) {v : Value} {w' : World} (hd : a.defers = M.toList.map fun m => { target := .collected m, args := #[] })
    (hm : ∀ m, M = some m → w.heap[m]? = some (.deferred (some []))) (hw : w' = outW M w) (hr : (results fn a.tmps).run P w' = .ok v w') (h : R (.returned v) w') : bodyPostM F n P fn R .ret a w := by
 show LeavesInM F n P fn a.tmps R a.defers .returning w
 rw [hd]
 cases M with
 | none => subst hw; exact ⟨v, hr, h⟩
 | some m => subst hw; exact ⟨by simp, .inl ⟨m, _, rfl, run_takeDeferred (hm m rfl), ⟨v, hr, h⟩⟩⟩
/-- A function that gathers a row in a box: at the end of world w lie a box with the reader, and one with the row. -/
structure GSt (W0 Wv : World) (vv : Value) (D : Nat) (w : World) (rb X B : Nat) (ty e : TypeId) (k : Nat) (M : Option Nat) (st : RdSt) (v : Value) (n : Nat) (ds : List Dat) (wr : World) : Prop where
 re : ReA W0 Wv vv wr D st
 only : Only (fun b => b = W0.heap.size) w wr
 rbox : wr.heap[rb]? = some (.cells #[ptrV W0.heap.size] 67 (0, 0))
 box : wr.heap[X]? = some (.cells #[v] ty (0, 0))
 row : RowD B e k wr v n ds
 low : Wv.heap.size ≤ w.heap.size
 rlow : w.heap.size ≤ rb
 xlow : w.heap.size ≤ X
 rlt : rb < B
 xlt : X < B
 rx : rb ≠ X
 mark : ∀ m, M = some m → B ≤ m ∧ wr.heap[m]? = some (.deferred (some []))
section
variable {W0 Wv w wr w' : World} {vv v : Value} {D rb X B k n : Nat} {ty e : TypeId} {M : Option Nat} {st st' : RdSt} {ds : List Dat}
theorem GSt.w0 (h : GSt W0 Wv vv D w rb X B ty e k M st v n ds wr) : W0.heap.size < w.heap.size := Nat.lt_of_lt_of_le h.re.vars.lt h.low
theorem GSt.turn {T : Nat → Prop} (h : GSt W0 Wv vv D w rb X B ty e k M st v n ds wr) (hr : ReA W0 Wv vv w' D st') (ho : Only T wr w') (hT : ∀ b, T b → b = W0.heap.size) : GSt W0 Wv vv D w rb X B ty e k M st' v n ds w' := by
 have h0 := h.w0
 have h1 := h.rlow
 have h2 := h.xlow
 have h3 := h.rlt
 exact ⟨hr, h.only.trans (ho.wide (fun b _ hb => hT b hb)), oblock ho h.rbox (fun t => by have := hT _ t; omega), oblock ho h.box (fun t => by have := hT _ t; omega), h.row.turn ho (fun b hb => by have := hT b hb; omega), h.low, h.rlow, h.xlow, h.rlt, h.xlt, h.rx, fun m hm => ⟨(h.mark m hm).1, oblock ho (h.mark m hm).2 (fun t => by have := hT _ t; have := (h.mark m hm).1; omega)⟩⟩
theorem GSt.call (h : GSt W0 Wv vv D w rb X B ty e k M st v n ds wr) (hp : RePost W0 Wv vv wr D st' w') : GSt W0 Wv vv D w rb X B ty e k M st' v n ds w' := h.turn hp.re hp.only (fun _ h => h)
theorem GSt.ext (h : GSt W0 Wv vv D w rb X B ty e k M st v n ds wr) (hb : Below wr.heap.size wr w') : GSt W0 Wv vv D w rb X B ty e k M st v n ds w' := h.call (RePost.of h.re hb)
theorem own_cells {w : World} {B n k g : Nat} {e : TypeId} {v : Value} {cs : List Value} (h : w.ownsRow B e k v n cs) (hg : v.ownBlock = some g) : ∃ c t f, w.heap[g]? = some (.cells c t f) := by
 rcases h.2 with ⟨rfl, _⟩ | ⟨g', cap, cur, rfl, _, hc, _⟩
 · cases hg
 · cases hg; exact ⟨_, _, _, hc⟩
/-- Another row is in the box. -/
theorem GSt.put {v2 : Value} {n2 : Nat} {ds2 : List Dat} {w2 : World} (h : GSt W0 Wv vv D w rb X B ty e k M st v n ds wr) (hr : ReA W0 Wv vv w2 D st') (ho : Only (fun b => b = W0.heap.size ∨ v.ownBlock = some b) wr w2) (h2 : RowD B e k w2 v2 n2 ds2) : GSt W0 Wv vv D w rb X B ty e k M st' v2 n2 ds2 (w2.setCell ⟨X, 0, none⟩ v2) := by
 have h0 := h.w0
 have hl := h.low
 have h1 := h.rlow
 have hx := h.xlow
 have h3 := h.xlt
 have h4 := h.rlt
 have hv := h.row.lt
 have hbx : w2.heap[X]? = some (.cells #[v] ty (0, 0)) := oblock ho h.box (by rintro (t | t); omega; have := (hv _ t).1; omega)
 have hs : Only (fun b => b = X) w2 (w2.setCell ⟨X, 0, none⟩ v2) := (Only.refl (fun b => b = X) w2).set (p := ⟨X, 0, none⟩) (fun _ => rfl) v2
 refine ⟨hr.set (Nat.le_trans hl hx) 0 v2, ?_, oblock hs (oblock ho h.rbox (by rintro (t | t); omega; have := (hv _ t).1; omega)) h.rx, ?_, h2.turn hs (fun b hb => by omega), hl, h1, hx, h4, h3, h.rx, fun m hm => ⟨(h.mark m hm).1, ?_⟩⟩
 · refine (((h.only.wide (T' := fun b => b = W0.heap.size ∨ v.ownBlock = some b ∨ b = X) (fun _ _ t => .inl t)).trans (ho.wide (fun _ _ t => t.imp id .inl))).trans (hs.wide (fun _ _ t => .inr (.inr t)))).wide (fun b hb t => ?_)
   rcases t with t | t | t
   · exact t
   · have := (hv b t).1; omega
   · omega
 · have := Go.Joins.block_setCell hbx (i := 0) v2
   exact this
 · have hm2 := h.mark m hm
   refine oblock hs (oblock ho hm2.2 ?_) (by have := hm2.1; omega)
   rintro (t | t)
   · have := hm2.1; omega
   · obtain ⟨cells, hc, _⟩ := h.row
     obtain ⟨c, ty2, f, hc⟩ := own_cells hc t
     rw [hm2.2] at hc; cases hc
theorem GSt.none_ (h : GSt W0 Wv vv D w rb X B ty e k M st v n ds wr) : GSt W0 Wv vv D w rb X B ty e k M st (.slice none 0 0) 0 [] (wr.setCell ⟨X, 0, none⟩ (.slice none 0 0)) := h.put h.re (Only.refl _ _) RowD.nil
theorem GSt.rcell (h : GSt W0 Wv vv D w rb X B ty e k M st v n ds wr) : wr.cell? ⟨rb, 0, none⟩ = some (ptrV W0.heap.size) := Lib.cell_of_heap h.rbox 0
theorem GSt.cell (h : GSt W0 Wv vv D w rb X B ty e k M st v n ds wr) : wr.cell? ⟨X, 0, none⟩ = some v ∧ wr.frozen? ⟨X, 0, none⟩ = false := ⟨Lib.cell_of_heap h.box 0, Go.Joins.unfrozen_of_block h.box 0⟩
theorem GSt.marked {m : Nat} (h : GSt W0 Wv vv D w rb X B ty e k none st v n ds wr) (hm : B ≤ m) (hd : wr.heap[m]? = some (.deferred (some []))) : GSt W0 Wv vv D w rb X B ty e k (some m) st v n ds wr :=
 ⟨h.re, h.only, h.rbox, h.box, h.row, h.low, h.rlow, h.xlow, h.rlt, h.xlt, h.rx, fun j hj => by cases hj; exact ⟨hm, hd⟩⟩
theorem own_of {B k n : Nat} {e : TypeId} {w : World} {v : Value} {ds : List Dat} (h : RowD B e k w v n ds) : w.ownsRow B e k v n h.choose := h.choose_spec.1
/-- An element is appended, and the row stored. -/
theorem GSt.push {news : List Value} {dn : List Dat} {o : Obj} {v2 : Value} {w2 : World} (h : GSt W0 Wv vv D w rb X B ty e k M st v n ds wr) (hn : Rds (OffRow B wr v) wr news dn) (hown : w2.ownsRow B e k v2 (n + 1) (h.row.choose ++ news)) (hg : (wr.alloc o).grownBy w2 v.ownBlock) (hat : v.ownBlock = v2.ownBlock ∨ v2.ownBlock = some (wr.heap.size + 1)) :
    GSt W0 Wv vv D w rb X B ty e k M st v2 (n + 1) (ds ++ dn) (w2.setCell ⟨X, 0, none⟩ v2) ∧ Only (fun b => b = X ∨ B ≤ b) wr (w2.setCell ⟨X, 0, none⟩ v2) ∧ w2.cell? ⟨X, 0, none⟩ = some v ∧ w2.frozen? ⟨X, 0, none⟩ = false := by
 have h0 := h.w0
 have hl := h.low
 have h1 := h.rlow
 have h3 := h.xlt
 have h4 := h.rlt
 have hv := h.row.lt
 have ho1 : Only (fun b => False ∨ v.ownBlock = some b) wr w2 := (Only.refl (fun _ => False) wr).push (own_of h.row) hg
 have hR : RowD B e k w2 v2 (n + 1) (ds ++ dn) := RowD.push h.row.choose_spec.2 hn hown hg hat
 have hre : ReA W0 Wv vv w2 D st := h.re.turn ho1 (fun j hj => by rcases hj with t | t; exact t.elim; have := (hv j t).1; omega)
 have hbx : w2.heap[X]? = some (.cells #[v] ty (0, 0)) := oblock ho1 h.box (by rintro (t | t); exact t; have := (hv _ t).1; omega)
 refine ⟨h.put hre (ho1.wide (fun _ _ t => by rcases t with t | t; exact t.elim; exact .inr t)) hR, (ho1.wide (fun j _ t => by rcases t with t | t; exact t.elim; exact .inr (hv j t).1)).set (p := ⟨X, 0, none⟩) (fun _ => .inl rfl) v2, Lib.cell_of_heap hbx 0, Go.Joins.unfrozen_of_block hbx 0⟩
theorem GSt.far {o : Obj} {w2 : World} (h : GSt W0 Wv vv D w rb X B ty e k M st v n ds wr) (hg : (wr.alloc o).grownBy w2 v.ownBlock) : w2.cell? ⟨X, 0, none⟩ = some v ∧ w2.frozen? ⟨X, 0, none⟩ = false := by
 have h3 := h.xlt
 have hv := h.row.lt
 have hbx : w2.heap[X]? = some (.cells #[v] ty (0, 0)) := oblock ((Only.refl (fun _ => False) wr).push (own_of h.row) hg) h.box (by rintro (t | t); exact t; have := (hv _ t).1; omega)
 exact ⟨Lib.cell_of_heap hbx 0, Go.Joins.unfrozen_of_block hbx 0⟩
/-- A row whose elements read no memory. -/
def RowF (B : Nat) (e : TypeId) (k : Nat) (w : World) (v : Value) (n : Nat) (ds : List Dat) : Prop := ∃ cells, w.ownsRow B e k v n cells ∧ Rds (fun _ => False) w cells ds
theorem RowF.rowD (h : RowF B e k wr v n ds) : RowD B e k wr v n ds := by
 obtain ⟨cells, h1, h2⟩ := h
 exact ⟨cells, h1, h2.mono (fun _ h => h.elim) (fun _ h => h.elim)⟩
theorem RowF.turn {T : Nat → Prop} (h : RowF B e k wr v n ds) (ho : Only T wr w') (hT : ∀ g, v.ownBlock = some g → ¬ T g) : RowF B e k w' v n ds := by
 obtain ⟨cells, h1, h2⟩ := h
 exact ⟨cells, aown_ext h1 (fun g hg => ho.block g (h1.lt g hg).2 (hT g hg)) (Nat.le_refl _), h2.mono (fun _ h => h.elim) (fun _ h => h)⟩
theorem RowF.nil : RowF B e k wr (.slice none 0 0) 0 [] := ⟨[], World.ownsRow_nil wr B e k, Rds.nil⟩
theorem GSt.pushF {cells news : List Value} {dn : List Dat} {o : Obj} {v2 : Value} {w2 : World} (h : GSt W0 Wv vv D w rb X B ty e k M st v n ds wr) (h1 : wr.ownsRow B e k v n cells) (h2 : Rds (fun _ => False) wr cells ds) (hn : Rds (fun _ => False) wr news dn) (hown : w2.ownsRow B e k v2 (n + 1) (cells ++ news)) (hg : (wr.alloc o).grownBy w2 v.ownBlock) :
    GSt W0 Wv vv D w rb X B ty e k M st v2 (n + 1) (ds ++ dn) (w2.setCell ⟨X, 0, none⟩ v2) ∧ RowF B e k (w2.setCell ⟨X, 0, none⟩ v2) v2 (n + 1) (ds ++ dn) := by
 have h0 := h.w0
 have hl := h.low
 have hx := h.rlow
 have h3 := h.xlt
 have h4 := h.rlt
 have ho1 : Only (fun b => False ∨ v.ownBlock = some b) wr w2 := (Only.refl (fun _ => False) wr).push h1 hg
 have hF : RowF B e k w2 v2 (n + 1) (ds ++ dn) := ⟨_, hown, (h2.append hn).mono (fun _ t => t.elim) (fun _ t => t)⟩
 have hre : ReA W0 Wv vv w2 D st := h.re.turn ho1 (fun j hj => by rcases hj with t | t; exact t.elim; have := (h1.lt j t).1; omega)
 exact ⟨h.put hre (ho1.wide (fun _ _ t => by rcases t with t | t; exact t.elim; exact .inr t)) hF.rowD, hF.turn ((Only.refl (fun b => b = X) w2).set (p := ⟨X, 0, none⟩) (fun _ => rfl) v2) (fun g hgg t => by have := (hown.lt g hgg).1; omega)⟩
/-- A block of others is turned. -/
theorem GSt.others {l : Nat} (o : Obj) (h : GSt W0 Wv vv D w rb X B ty e k none st v n ds wr) (hf : RowF B e k wr v n ds) (hl : B ≤ l) (hv : v.ownBlock ≠ some l) : GSt W0 Wv vv D w rb X B ty e k none st v n ds (wr.putObj l o) ∧ RowF B e k (wr.putObj l o) v n ds := by
 have h0 := h.w0
 have hlo := h.low
 have h1 := h.rlow
 have hx := h.xlow
 have h3 := h.xlt
 have h4 := h.rlt
 have ho := putObj_only (fun b => b = l) wr l o rfl
 have hF := hf.turn ho (fun g hg e => hv (by rw [hg, e]))
 exact ⟨⟨h.re.turn ho (fun k hk => by omega), ⟨h.only.os, h.only.tape, h.only.output, by have := h.only.size; simpa using this, fun k hk hn => (World.putObj_heap_other (by omega)).trans (h.only.block k hk hn)⟩, oblock ho h.rbox (by omega), oblock ho h.box (by omega), hF.rowD, hlo, h1, hx, h4, h3, h.rx, fun m hm => by cases hm⟩, hF⟩
/-- What such a function leaves. -/
def GaPost (W0 Wv : World) (vv : Value) (w : World) (D k : Nat) (ds : List Dat) (st : RdSt) (e : Ending) (w' : World) : Prop := ∃ v, e = .returned v ∧ v.oneCell' = true ∧ Rd (Fresh w w') w' v (.list k ds) ∧ RePost W0 Wv vv w D st w'
theorem GSt.fin (h : GSt W0 Wv vv D w rb X B ty e k M st v n ds wr) (hf : M = none ∨ RowF B e k wr v n ds) : GaPost W0 Wv vv w D k ds st (.returned v) (outW M wr) := by
 have h0 := h.w0
 have hlo := h.low
 have h1 := h.rlow
 have h4 := h.rlt
 have fr : ∀ W, Rd (fun b => B ≤ b ∧ b < W.heap.size) W v (.list k ds) → Rd (Fresh w W) W v (.list k ds) := fun W hr => hr.wide (fun b hb => ⟨by have := hb.1; omega, hb.2⟩)
 have hone : v.oneCell' = true := by
  obtain ⟨cells, hc, _⟩ := h.row
  exact own_one hc
 cases M with
 | none => exact ⟨v, rfl, hone, fr _ h.row.rd, h.re, h.only⟩
 | some m =>
   obtain ⟨hm1, hm2⟩ := h.mark m rfl
   have hF : RowF B e k wr v n ds := by
    rcases hf with hf | hf
    · cases hf
    · exact hf
   have ho := putObj_only (fun b => b = m) wr m (.deferred none) rfl
   have hF2 := hF.turn ho (fun g hg e => by
    obtain ⟨cells, hc, _⟩ := h.row
    obtain ⟨c, t, f, hc⟩ := own_cells hc hg
    rw [e, hm2] at hc; cases hc)
   exact ⟨v, rfl, hone, fr _ hF2.rowD.rd, h.re.turn ho (fun k hk => by omega), ⟨h.only.os, h.only.tape, h.only.output, by have := h.only.size; simpa [outW] using this, fun k hk hn => (World.putObj_heap_other (by omega)).trans (h.only.block k hk hn)⟩⟩
theorem GSt.end0 (h : GSt W0 Wv vv D w rb X B ty e k M st v n ds wr) (hf : M = none ∨ RowF B e k wr v n ds) : ∃ W', W' = outW M wr ∧ W'.cell? ⟨X, 0, none⟩ = some v ∧ (∀ m, M = some m → wr.heap[m]? = some (.deferred (some []))) ∧ GaPost W0 Wv vv w D k ds st (.returned v) W' := by
 have hx := h.xlt
 refine ⟨_, rfl, ?_, fun m hm => (h.mark m hm).2, h.fin hf⟩
 cases M with
 | none => exact Lib.cell_of_heap h.box 0
 | some m =>
   have hm := (h.mark m rfl).1
   exact Lib.cell_of_heap ((World.putObj_heap_other (by omega)).trans h.box) 0
/-- The row is returned. -/
theorem GSt.end_ (h : GSt W0 Wv vv D w rb X B ty e k M st v n ds wr) (hf : M = none ∨ RowF B e k wr v n ds) : ∃ W', W' = outW M (wr.setCell ⟨X, 0, none⟩ v) ∧ W'.cell? ⟨X, 0, none⟩ = some v ∧ (∀ m, M = some m → (wr.setCell ⟨X, 0, none⟩ v).heap[m]? = some (.deferred (some []))) ∧ GaPost W0 Wv vv w D k ds st (.returned v) W' := by
 have hx := h.xlt
 have hl := h.row.lt
 exact GSt.end0 (h.put h.re (Only.refl _ _) h.row) (hf.imp id (fun hF => hF.turn ((Only.refl (fun b => b = X) wr).set (p := ⟨X, 0, none⟩) (fun _ => rfl) v) (fun g hg e => by have := (hl g hg).1; omega)))
/-- Between two rounds of a loop over texts that gathers a row. -/
def GJ (W0 Wv : World) (vv : Value) (D : Nat) (w : World) (rb X B : Nat) (ty e : TypeId) (k n : Nat) (ds : List Dat) (Z : Nat → Prop) (st : RdSt) (W : World) : Prop :=
 ∃ v, (GSt W0 Wv vv D w rb X B ty e k none st v n ds W ∧ RowF B e k W v n ds) ∧ ∀ k, Z k → k < W.heap.size ∧ k ≠ W0.heap.size ∧ k ≠ X ∧ v.ownBlock ≠ some k
theorem GJ.keep {Z : Nat → Prop} (h : GJ W0 Wv vv D w rb X B ty e k n ds Z st wr) (hp : RePost W0 Wv vv wr D st' w') : GJ W0 Wv vv D w rb X B ty e k n ds (moreZ Z wr w') st' w' := by
 obtain ⟨v, ⟨hg, hf⟩, hz⟩ := h
 have h0 := hg.w0
 have h1 := hg.rlow
 have h4 := hg.rlt
 have hl := hf.rowD.lt
 have hx := heap_lt hg.box
 have hr := hg.re.lt
 refine ⟨v, ⟨hg.call hp, hf.turn hp.only (fun g hgg e => by have := (hl g hgg).1; omega)⟩, fun j hj => ?_⟩
 rcases hj with hj | hj
 · obtain ⟨a, b, c, d⟩ := hz j hj
   exact ⟨Nat.lt_of_lt_of_le a hp.only.size, b, c, d⟩
 · exact ⟨hj.2, by omega, by omega, fun e => by have := (hl j e).2; omega⟩
theorem GJ.put {Z : Nat → Prop} {l : Nat} (o : Obj) (h : GJ W0 Wv vv D w rb X B ty e k n ds Z st wr) (hZ : Z l) (hl : B ≤ l) : GJ W0 Wv vv D w rb X B ty e k n ds Z st (wr.putObj l o) := by
 obtain ⟨v, ⟨hg, hf⟩, hz⟩ := h
 exact ⟨v, hg.others o hf hl (hz l hZ).2.2.2, fun j hj => by have := hz j hj; simpa using this⟩
theorem GJ.at0 {Z : Nat → Prop} (hg : GSt W0 Wv vv D w rb X B ty e k none st v n ds wr) (hf : RowF B e k wr v n ds) (hz : ∀ k, Z k → wr.heap.size ≤ k) (hb : Below wr.heap.size wr w') (hZ : ∀ k, Z k → k < w'.heap.size) : GJ W0 Wv vv D w rb X B ty e k n ds Z st w' := by
 have hl := hf.rowD.lt
 have hx := heap_lt hg.box
 have hr := hg.re.lt
 refine ⟨v, ⟨hg.ext hb, hf.turn (T := fun _ => False) (Only.of hb) (fun _ _ h => h)⟩, fun j hj => ?_⟩
 have := hz j hj
 exact ⟨hZ j hj, by omega, by omega, fun e => by have := (hl j e).2; omega⟩
end
end Go.Proofs.YtcaiibkgajhohaaGreatDoor
