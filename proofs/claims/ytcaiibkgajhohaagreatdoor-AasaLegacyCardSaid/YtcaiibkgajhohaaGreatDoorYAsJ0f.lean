/- Texts put together. -/
import Derived.Test.YtcaiibkgajhohaaGreatDoorYAsI7f
import Derived.Test.YtcaiibkgajhohaaGreatDoorYArena0s
import Derived.Test.YtcaiibkgajhohaaGreatDoorYScan4s
import Derived.Test.YtcaiibkgajhohaaGreatDoorYQuo0f
namespace Go.Proofs.YtcaiibkgajhohaaGreatDoor
open Go.RowKit
theorem cell_live {w : World} {a : Addr} {x : Value} (h : w.cell? a = some x) : ∃ c t f, w.heap[a.block]? = some (.cells c t f) := by
 unfold World.cell? at h
 split at h
 · exact ⟨_, _, _, by assumption⟩
 · cases h
def Live (S : Nat → Prop) (w : World) (b : Nat) : Prop := S b ∧ ∃ c t f, w.heap[b]? = some (.cells c t f)
theorem live_rd {S : Nat → Prop} {w : World} {v : Value} {d : Dat} (h : Rd S w v d) (hd : (∃ t, d = .str t) ∨ ∃ l : List ByteArray, d = .list 1 (l.map .str)) : Rd (Live S w) w v d := by
 rcases hd with ⟨t, rfl⟩ | ⟨l, rfl⟩
 · rw [h.str_inv]; exact .str _
 · generalize hds : l.map Dat.str = ds at h
   cases h with
   | list0 a c _ hac => exact .list0 _ _ _ hac
   | list b off n c _ _ f hS hn hnc hl hc hd =>
     refine .list b off n c 1 ds f ⟨hS, cell_live (hc 0 (by omega))⟩ hn hnc hl hc (fun j hj => ?_)
     have hj' := hd j hj
     obtain ⟨t, ht⟩ : ∃ t, ds[j] = .str t := by subst hds; simp
     rw [ht] at hj' ⊢
     rw [hj'.str_inv]
     exact .str _
theorem va_live {S : Nat → Prop} {w : World} {cells : List Value} {vars : List VaA} (h : Rds S w cells (vars.flatMap vaD)) : Rds (Live S w) w cells (vars.flatMap vaD) :=
 ⟨h.1, fun j u d hu hd => live_rd (h.2 j u d hu hd) (by
  obtain ⟨v, _, hv⟩ := List.mem_flatMap.1 (List.mem_of_getElem? hd)
  simp only [vaD, List.mem_cons, List.not_mem_nil, or_false] at hv
  rcases hv with rfl | rfl
  · exact .inl ⟨_, rfl⟩
  · exact .inr ⟨_, rfl⟩)⟩
section
variable {W0 Wv W6 W w w' w4 wr : World} {vv v : Value} {D N : Nat} {key : ByteArray} {st st' : RdSt} {l : List ByteArray} {marks : List Nat}
/-- What the reader's variables leaves. -/
def VrPost (W0 w : World) (D : Nat) (st : RdSt) (e : Ending) (w' : World) : Prop := e = .returned (.tuple #[]) ∧ (∃ Wv vv, ReA W0 Wv vv w' D st) ∧ Only (fun b => b = W0.heap.size) w w'
def MkS (w4 : World) (marks : List Nat) (wr : World) : Prop := (∀ m ∈ marks, w4.heap.size ≤ m ∧ wr.heap[m]? = some (.deferred (some []))) ∧ marks.Nodup
theorem own_mark {g m : Nat} {k n B : Nat} {e : TypeId} {cs : List Value} {d : Option (List Deferred)} (h : wr.ownsRow B e k v n cs) (hg : v.ownBlock = some g) (hm : wr.heap[m]? = some (.deferred d)) : g ≠ m := by
 rintro rfl
 obtain ⟨c, t, f, hc⟩ := own_cells h hg
 rw [hc] at hm; cases hm
theorem VrPost.of (h : ReA W0 Wv vv wr D st) (h4 : Only (fun b => b = W0.heap.size) w w4) (ho : Only (fun b => b = W0.heap.size) w4 wr) (hm : MkS w4 marks wr) (hw : W0.heap.size < w.heap.size) : VrPost W0 w D st (.returned (.tuple #[])) (outWs marks wr) := by
 have o' := outWs_only (fun b => b ∈ marks) marks wr (fun m h => h)
 obtain ⟨w', hw'⟩ : ∃ w', outWs marks wr = w' := ⟨_, rfl⟩
 rw [hw'] at o' ⊢
 have z4 := h4.size
 have zr := ho.size
 have hmk : ∀ m ∈ marks, W0.heap.size < m := fun m hmm => by have := (hm.1 m hmm).1; omega
 obtain ⟨cells, h1, h2⟩ := h.vars.row.turn h.only (fun b e => by omega)
 obtain ⟨ev, hx, he⟩ := h.blk
 refine ⟨rfl, ⟨w', vv, ⟨Below.trans h.below (o'.below (B := W0.heap.size) (by omega) (fun k hk => by have := hmk k hk; omega)), by have := o'.size; omega, cells, ?_, ?_⟩, Only.refl _ _, ev, oblock o' hx (fun e => by have := hmk _ e; omega), he⟩, ?_⟩
 · exact aown_ext h1 (fun g hg => o'.block g (h1.lt g hg).2 (fun e => own_mark h1 hg (hm.1 g e).2 rfl)) (Nat.le_refl _)
 · exact (va_live h2).mono (fun b hb => o'.block b hb.1.2.1 (fun e => by
     obtain ⟨c, t, f, hc⟩ := hb.2
     rw [(hm.1 b e).2] at hc; cases hc)) (fun b hb => ⟨hb.1.1, Nat.lt_of_lt_of_le hb.1.2.1 o'.size, hb.1.2.2⟩)
 · refine (((h4.trans ho).wide (T' := fun b => b = W0.heap.size ∨ b ∈ marks) (fun _ _ e => .inl e)).trans (o'.wide (fun _ _ e => .inr e))).wide (fun b hb e => ?_)
   rcases e with e | e
   · exact e
   · have := (hm.1 b e).1; omega
theorem VaSt.o4 (h : VaSt W0 Wv vv D W6 N key st v l W) (ho : Only (fun b => b = W0.heap.size) w4 wr) (hb : Below wr.heap.size wr W6) (hN : wr.heap.size ≤ N) : Only (fun b => b = W0.heap.size) w4 W := by
 have z := ho.size
 refine (((ho.trans (Only.of hb)).wide (T' := fun b => b = W0.heap.size ∨ b = N) (fun _ _ e => .inl e)).trans h.only).wide (fun b hb e => ?_)
 rcases e with e | e
 · exact e
 · omega
theorem VaSt.mk_cons {M : Nat} (h : VaSt W0 Wv vv D W6 N key st v l W) (ho : Only (fun b => b = W0.heap.size) w4 wr) (hb : Below wr.heap.size wr W6) (hN : wr.heap.size ≤ N) (h4 : W0.heap.size < w4.heap.size) (hm : MkS w4 marks wr) (hM : W6.heap.size ≤ M) (hd : W.heap[M]? = some (.deferred (some []))) : MkS w4 (M :: marks) W := by
 have z := ho.size
 have z1 := hb.size
 refine ⟨fun m hmm => ?_, List.nodup_cons.2 ⟨fun e => ?_, hm.2⟩⟩
 · rcases List.mem_cons.1 hmm with rfl | e
   · exact ⟨by omega, hd⟩
   · obtain ⟨a, b⟩ := hm.1 m e
     have hl := heap_lt b
     exact ⟨a, (h.only.block m (by omega) (by omega)).trans ((hb.block m hl).trans b)⟩
 · have := heap_lt (hm.1 M e).2
   omega
theorem MkS.keep {T : Nat → Prop} (hm : MkS w4 marks wr) (ho : Only T wr w') (hT : ∀ m ∈ marks, ¬ T m) : MkS w4 marks w' := ⟨fun m h => ⟨(hm.1 m h).1, oblock ho (hm.1 m h).2 (hT m h)⟩, hm.2⟩
/-- A variable is appended. -/
theorem VaSt.add {cells : List Value} {o : Obj} {v2 : Value} {w2 : World} (h : VaSt W0 Wv vv D W6 N key st v l W) (h1 : W.ownsRow (W0.heap.size + 1) 103 2 vv st.vars.length cells) (h2 : Rds (OffRow (W0.heap.size + 1) W vv) W cells (st.vars.flatMap vaD)) (hown : w2.ownsRow (W0.heap.size + 1) 103 2 v2 (st.vars.length + 1) (cells ++ [.string key, v])) (hg : (W.alloc o).grownBy w2 vv.ownBlock) (hat : vv.ownBlock = v2.ownBlock ∨ v2.ownBlock = some (W.heap.size + 1)) :
    ReA W0 (w2.setCell ⟨W0.heap.size, 1, none⟩ v2) v2 (w2.setCell ⟨W0.heap.size, 1, none⟩ v2) D ⟨st.bad, st.vars ++ [⟨key, l⟩]⟩ ∧ Only (fun b => b = W0.heap.size ∨ vv.ownBlock = some b) W (w2.setCell ⟨W0.heap.size, 1, none⟩ v2) ∧ w2.cell? ⟨W0.heap.size, 1, none⟩ = some vv ∧ w2.frozen? ⟨W0.heap.size, 1, none⟩ = false := by
 have h0 := h.w0
 have hi := h.hi
 have hlo := h.low
 have hvl := h.re.vars.row.lt
 have hW : W0.heap.size < W.heap.size := h.re.lt
 have ho1 : Only (fun b => False ∨ vv.ownBlock = some b) W w2 := (Only.refl (fun _ => False) W).push h1 hg
 obtain ⟨tc, r1, r2⟩ := h.row
 have r3 := r1.lt
 have hn : Rds (OffRow (W0.heap.size + 1) W vv) W [.string key, v] (vaD ⟨key, l⟩) := by
  refine .cons (.str _) (.cons ?_ .nil)
  have := h.row.rowD.rd
  exact this.wide (fun b hb => ⟨by omega, hb.2, fun e => by have := (hvl b e).2; omega⟩)
 have hR := RowD.push h2 hn hown hg hat
 obtain ⟨ev, hx, he⟩ := h.re.blk
 have hx2 : w2.heap[W0.heap.size]? = some (.cells #[ptrV D, vv, ev] 69 (0, 0)) := oblock ho1 hx (by rintro (e | e); exact e; have := (hvl _ e).1; omega)
 have hs : Only (fun b => b = W0.heap.size) w2 (w2.setCell ⟨W0.heap.size, 1, none⟩ v2) := (Only.refl (fun b => b = W0.heap.size) w2).set (p := ⟨W0.heap.size, 1, none⟩) (fun _ => rfl) v2
 have hO : Only (fun b => b = W0.heap.size ∨ vv.ownBlock = some b) W (w2.setCell ⟨W0.heap.size, 1, none⟩ v2) := (ho1.wide (fun _ _ e => by rcases e with e | e; exact e.elim; exact .inr e)).trans (hs.wide (fun _ _ e => .inl e))
 refine ⟨⟨⟨?_, ?_, ?_⟩, Only.refl _ _, ev, ?_, he⟩, hO, Lib.cell_of_heap hx2 1, Go.Joins.unfrozen_of_block hx2 1⟩
 · exact Below.trans h.re.below (hO.below (B := W0.heap.size) (by omega) (fun k hk => by
     rcases hk with e | e
     · omega
     · have := (hvl k e).1; omega))
 · have := hO.size; omega
 · show RowD _ _ _ _ _ (st.vars ++ [_]).length ((st.vars ++ [_]).flatMap vaD)
   rw [List.length_append, List.flatMap_append]
   have := hR.turn hs (fun b e => by omega)
   simpa using this
 · exact Go.Joins.block_setCell hx2 (i := 1) v2
theorem VaSt.add' {cells : List Value} {o : Obj} {v2 : Value} {w2 : World} (h : VaSt W0 Wv vv D W6 N key st v l W) (h1 : W.ownsRow (W0.heap.size + 1) 103 2 vv st.vars.length cells) (h2 : Rds (OffRow (W0.heap.size + 1) W vv) W cells (st.vars.flatMap vaD)) (hown : w2.ownsRow (W0.heap.size + 1) 103 2 v2 (st.vars.length + 1) (cells ++ [.string key, v])) (hg : (W.alloc o).grownBy w2 vv.ownBlock) (hat : vv.ownBlock = v2.ownBlock ∨ v2.ownBlock = some (W.heap.size + 1)) :
    ReA W0 (w2.setCell ⟨W0.heap.size, 1, none⟩ v2) v2 (w2.setCell ⟨W0.heap.size, 1, none⟩ v2) D ⟨st.bad, st.vars ++ [⟨key, l⟩]⟩ ∧ Only (fun b => b = W0.heap.size ∨ vv.ownBlock = some b) W (w2.setCell ⟨W0.heap.size, 1, none⟩ v2) ∧ w2.cell? ⟨W0.heap.size, 1, none⟩ = some vv ∧ w2.frozen? ⟨W0.heap.size, 1, none⟩ = false ∧ (vv.ownBlock = v2.ownBlock ∨ v2.ownBlock = some (W.heap.size + 1)) :=
 let ⟨a, b, c, d⟩ := h.add h1 h2 hown hg hat
 ⟨a, b, c, d, hat⟩
end
end Go.Proofs.YtcaiibkgajhohaaGreatDoor
namespace Go.Proofs.YtcaiibkgajhohaaGreatDoor
open Go.RowKit
theorem elDe : ElemTy Tryz.prog 24 35 2 48 (.agg #[.slice none 0 0, .slice none 0 0]) := ⟨Tryz.underlying24, by kernel_rfl, rfl, by decide⟩
/-- Details under way: a row that lies from world w5 on. -/
structure DlSt (W0 Wv : World) (vv : Value) (D : Nat) (w5 : World) (X : Nat) (a b : Bool) (st : RdSt) (v : Value) (acc : List DeA) (wr : World) : Prop where
 re : ReA W0 Wv vv wr D st
 only : Only (fun b => b = W0.heap.size) w5 wr
 box : wr.heap[X]? = some (.cells #[.bool a, .bool b] 75 (0, 0))
 row : RowD w5.heap.size 35 2 wr v acc.length (acc.flatMap deD)
 low : Wv.heap.size ≤ w5.heap.size
 xlt : X < w5.heap.size
 x0 : X ≠ W0.heap.size
section
variable {W0 Wv w5 w wr w' : World} {vv v v2 : Value} {D X : Nat} {a b : Bool} {st st' : RdSt} {acc : List DeA}
theorem DlSt.r0 (h : DlSt W0 Wv vv D w5 X a b st v acc wr) : W0.heap.size < w5.heap.size := Nat.lt_of_lt_of_le h.re.vars.lt h.low
theorem DlSt.call (h : DlSt W0 Wv vv D w5 X a b st v acc wr) (hp : RePost W0 Wv vv wr D st' w') : DlSt W0 Wv vv D w5 X a b st' v acc w' := by
 have h0 := h.r0
 exact ⟨hp.re, h.only.trans hp.only, oblock hp.only h.box h.x0, h.row.turn hp.only (fun b e => by omega), h.low, h.xlt, h.x0⟩
theorem DlSt.ext (h : DlSt W0 Wv vv D w5 X a b st v acc wr) (hb : Below wr.heap.size wr w') : DlSt W0 Wv vv D w5 X a b st v acc w' := h.call (RePost.of h.re hb)
theorem DlSt.cells (h : DlSt W0 Wv vv D w5 X a b st v acc wr) : wr.cell? ⟨X, 0, none⟩ = some (.bool a) ∧ wr.cell? ⟨X, 1, none⟩ = some (.bool b) := ⟨Lib.cell_of_heap h.box 0, Lib.cell_of_heap h.box 1⟩
/-- A detail is appended. -/
theorem DlSt.push {news : List Value} {x : DeA} {o : Obj} (h : DlSt W0 Wv vv D w5 X a b st v acc wr) (hn : Rds (OffRow w5.heap.size wr v) wr news (deD x)) (hown : w'.ownsRow w5.heap.size 35 2 v2 (acc.length + 1) (h.row.choose ++ news)) (hg : (wr.alloc o).grownBy w' v.ownBlock) (hat : v.ownBlock = v2.ownBlock ∨ v2.ownBlock = some (wr.heap.size + 1)) : DlSt W0 Wv vv D w5 X a b st v2 (acc ++ [x]) w' := by
 have h0 := h.r0
 have hx := h.xlt
 have hl := h.low
 have hv := h.row.lt
 have ho1 : Only (fun b => False ∨ v.ownBlock = some b) wr w' := (Only.refl (fun _ => False) wr).push (own_of h.row) hg
 have hR := RowD.push h.row.choose_spec.2 hn hown hg hat
 refine ⟨h.re.turn ho1 (fun j hj => by rcases hj with e | e; exact e.elim; have := (hv j e).1; omega), ?_, oblock ho1 h.box (by rintro (e | e); exact e; have := (hv _ e).1; omega), ?_, hl, hx, h.x0⟩
 · refine ((h.only.wide (T' := fun b => b = W0.heap.size ∨ v.ownBlock = some b) (fun _ _ e => .inl e)).trans (ho1.wide (fun _ _ e => by rcases e with e | e; exact e.elim; exact .inr e))).wide (fun b hb e => ?_)
   rcases e with e | e
   · exact e
   · have := (hv b e).1; omega
 · rw [List.length_append, List.flatMap_append]
   simpa using hR
theorem DlSt.start (h : ReA W0 Wv vv w5 D st) (hx : w5.heap[X]? = some (.cells #[.bool a, .bool b] 75 (0, 0))) (h0 : X ≠ W0.heap.size) : DlSt W0 Wv vv D w5 X a b st (.slice none 0 0) [] w5 := ⟨h, Only.refl _ _, hx, RowD.nil, h.only.size, heap_lt hx, h0⟩
/-- The row is returned. -/
theorem DlSt.fin (h : DlSt W0 Wv vv D w5 X a b st v acc wr) (hw : Only (fun b => b = W0.heap.size) w w5) : GaPost W0 Wv vv w D 2 (acc.flatMap deD) st (.returned v) wr := by
 have hs := hw.size
 obtain ⟨cells, hc, _⟩ := h.row
 exact ⟨v, rfl, own_one hc, h.row.rd.wide (fun b hb => ⟨by omega, hb.2⟩), h.re, hw.trans h.only⟩
theorem ga_nil (h : ReA W0 Wv vv wr D st) (ho : Only (fun b => b = W0.heap.size) w wr) : GaPost W0 Wv vv w D 2 (([] : List DeA).flatMap deD) st (.returned (.slice none 0 0)) wr := ⟨_, rfl, rfl, .list0 _ _ _ (fun _ => rfl), h, ho⟩
/-- What the call of detail leaves: the row as it was, and a detail that lies behind it. -/
theorem DlSt.detail {r : DeA × RdSt} {e : Ending} (h : DlSt W0 Wv vv D w5 X a b st v acc wr) (hp : DtPost W0 Wv vv wr D r e w') : ∃ (a1 : Option Addr) (n1 c1 : Nat) (a2 : Option Addr) (n2 c2 : Nat), e = .returned (.agg #[.slice a1 n1 c1, .slice a2 n2 c2]) ∧ DlSt W0 Wv vv D w5 X a b r.2 v acc w' ∧ Rds (OffRow w5.heap.size w' v) w' [.slice a1 n1 c1, .slice a2 n2 c2] (deD r.1) := by
 obtain ⟨va, vr, rfl, _, _, hr, hp⟩ := hp
 have hv := h.row.lt
 have hl := h.only.size
 have hf := Rds.fresh (B := w5.heap.size) (v := v) hr hl (fun g hg => (hv g hg).2)
 have h1 := hr.2 0 _ _ rfl rfl
 have h2 := hr.2 1 _ _ rfl rfl
 obtain ⟨a1, n1, c1, rfl, _⟩ := h1.list_inv
 obtain ⟨a2, n2, c2, rfl, _⟩ := h2.list_inv
 exact ⟨a1, n1, c1, a2, n2, c2, rfl, h.call hp, hf⟩
end
end Go.Proofs.YtcaiibkgajhohaaGreatDoor
namespace Go.Proofs.YtcaiibkgajhohaaGreatDoor
open Go.RowKit
/-- A text that is characters' bytes. -/
def RightB (s : ByteArray) : Prop := ∃ cs, charsS s 0 [] = .ok cs
theorem rightB_nil : RightB ⟨#[]⟩ := ⟨[], charsS_end (by decide)⟩
theorem strOf_right {cs : List Nat} (h : AllRight cs) : RightB (strOf cs) := by
 refine ⟨cs, ?_⟩
 have := charsS_puts (Q := strOf cs) cs 0 [] h (fun m x hx => ?_) (by rw [strOf_size]; omega)
 · simpa using this
 · rw [Nat.zero_add]
   have hx2 : x < 256 := by
    obtain ⟨c, hc, hxc⟩ := List.mem_flatMap.1 (List.mem_of_getElem? hx)
    exact putN_lt (right_lt (h c hc)) x hxc
   unfold byteAt strOf
   simp only [List.getElem?_toArray, List.getElem?_map, hx, Option.map_some, Option.getD_some]
   simp; omega
theorem tok_right {B : ByteArray} {t : Tok} {x : ByteArray} (h : textTok B t = some x) : RightB x := by
 unfold textTok at h
 split at h
 · split at h
   · split at h
     · rename_i z hz
       cases h
       exact strOf_right (textS_right hz)
     · cases h
   · cases h
 · cases h
/-- The nodes and keys that stand in what is being read. -/
def GOK (R : ByteArray → Prop) (Q : JN → Prop) (s : PS) : Prop := (∀ x ∈ s.js, Q x) ∧ (∀ o ∈ s.stack, R o.key)
theorem kindS_lt {a k : Int} (h : kindS a = some k) : 0 ≤ k ∧ k ≤ 6 := by
 unfold kindS at h
 repeat' split at h
 all_goals cases h
 all_goals decide
section
variable {R : ByteArray → Prop} {Q : JN → Prop} (h0 : R ⟨#[]⟩)
theorem gok_cons {o : Op} {r : List Op} (h1 : R o.key) (h2 : ∀ p ∈ r, R p.key) : ∀ p ∈ o :: r, R p.key := fun p hp => by
 rcases List.mem_cons.1 hp with rfl | hp
 · exact h1
 · exact h2 p hp
theorem gok_after {r : List Op} (h : ∀ o ∈ r, R o.key) : ∀ o ∈ afterS r, R o.key := by
 cases r with
 | nil => exact h
 | cons o r => exact gok_cons (show R (aftO o).key from h o (by simp)) (fun p hp => h p (by simp [hp]))
include h0
theorem take_gok {B : ByteArray} {m : Bd} {s s' : PS} {t : Tok} (hK : ∀ t x, textTok B t = some x → R x) (hN : ∀ (o : Op) (k : Int) (t : Tok), R o.key → 0 ≤ k ∧ k ≤ 6 → Q (nodeS B o k t)) (hk : GOK R Q s) (h : takeS B m s t = .ok s') : GOK R Q s' := by
 unfold takeS at h
 cases hs : s.stack with
 | nil => rw [hs] at h; cases h; exact hk
 | cons o r =>
   rw [hs] at h
   simp only at h
   have ho : R o.key := hk.2 o (by rw [hs]; simp)
   have hr : ∀ p ∈ r, R p.key := fun p hp => hk.2 p (by rw [hs]; simp [hp])
   have hw : ∀ {b : PS}, (wrongS t : Sc PS) = .ok b → GOK R Q b := fun h => by unfold wrongS at h; split at h <;> cases h
   have hv : valueS B m s o r t = .ok s' → GOK R Q s' := fun h => by
    unfold valueS at h
    split at h
    · exact hw h
    · rename_i kk hkk
      have hkk := kindS_lt hkk
      split at h
      · cases h
      · split at h
        · cases h
          exact ⟨fun x hx => by
           rcases List.mem_append.1 hx with hx | hx
           · exact hk.1 x hx
           · rw [List.mem_singleton.1 hx]; exact hN _ _ _ ho hkk, gok_after (gok_cons ho hr)⟩
        · split at h
          · cases h
          · cases h
            exact ⟨fun x hx => by
             rcases List.mem_append.1 hx with hx | hx
             · exact hk.1 x hx
             · rw [List.mem_singleton.1 hx]; exact hN _ _ _ ho hkk, gok_cons h0 (gok_cons ho hr)⟩
   have hy : keyS B s o r t = .ok s' → GOK R Q s' := fun h => by
    unfold keyS at h
    split at h
    · exact hw h
    · split at h
      · rename_i x hx
        cases h
        exact ⟨hk.1, gok_cons (hK _ _ hx) hr⟩
      · cases h
   have hb : betweenS s o r t = .ok s' → GOK R Q s' := fun h => by
    unfold betweenS at h
    split at h
    · cases h; exact ⟨hk.1, gok_after hr⟩
    · split at h
      · exact hw h
      · cases h; exact ⟨hk.1, gok_cons ho hr⟩
   split at h
   · split at h
     · cases h; exact hk
     · exact hw h
   · split at h
     · split at h
       · cases h; exact ⟨hk.1, gok_cons ho hr⟩
       · exact hw h
     · split at h
       · exact hb h
       · split at h
         · split at h
           · cases h; exact ⟨hk.1, gok_after hr⟩
           · split at h
             · exact hy h
             · exact hv h
         · split at h
           · exact hy h
           · exact hv h
theorem run_gok {B : ByteArray} {m : Bd} (hK : ∀ t x, textTok B t = some x → R x) (hN : ∀ (o : Op) (k : Int) (t : Tok), R o.key → 0 ≤ k ∧ k ≤ 6 → Q (nodeS B o k t)) : ∀ f i s s', GOK R Q s → runF B m f i s = .ok s' → GOK R Q s'
 | 0, i, s, s', hk, h => by cases h; exact hk
 | f + 1, i, s, s', hk, h => by
   rw [runF] at h
   obtain ⟨t, hn, h⟩ := Sc.bind_eq_ok h
   obtain ⟨s2, ht, h⟩ := Sc.bind_eq_ok h
   have h2 := take_gok h0 hK hN hk ht
   split at h
   · cases h; exact h2
   · exact run_gok hK hN f _ s2 s' h2 h
end
/-- A node of a text of so many bytes: its texts are characters' bytes, and not long. -/
structure NodeOK (K : Nat) (x : JN) : Prop where
 key : RightB x.key
 text : x.kind = 4 → RightB x.text
 lo : 0 ≤ x.kind
 hi : x.kind ≤ 6
 ks : x.key.size ≤ K
 ts : x.text.size ≤ K
theorem textTok_le {B : ByteArray} {t : Tok} {x : ByteArray} (h : textTok B t = some x) : x.size ≤ 4 * B.size := by
 unfold textTok at h
 split at h
 · rename_i y hy
   split at h
   · rename_i hc
     split at h
     · rename_i z hz
       cases h
       have hs := tok_shape hy
       obtain ⟨rfl, h7⟩ := hc
       have := textS_len (by omega) hz
       have := strOf_le z.1
       omega
     · cases h
   · cases h
 · cases h
theorem parse_nodes {B : ByteArray} {m : Bd} {s : PS} (h : parseS B m = .ok s) : ∀ x ∈ s.js, NodeOK (4 * B.size) x := by
 unfold parseS at h
 split at h
 · cases h
 · refine (run_gok (R := fun y => RightB y ∧ y.size ≤ 4 * B.size) (Q := NodeOK (4 * B.size)) ⟨rightB_nil, Nat.zero_le _⟩ (fun t x hx => ⟨tok_right hx, textTok_le hx⟩) (fun o k t ho hk => ?_) _ _ _ _ ⟨fun x hx => by simp [ps0] at hx, fun o ho => by simp [ps0] at ho; subst ho; exact ⟨rightB_nil, Nat.zero_le _⟩⟩ h).1
   have hkey : RightB (nodeS B o k t).key ∧ (nodeS B o k t).key.size ≤ 4 * B.size := by
    unfold nodeS
    simp only
    split
    · exact ho
    · exact ⟨rightB_nil, Nat.zero_le _⟩
   refine ⟨hkey.1, fun h4 => ?_, hk.1, hk.2, hkey.2, ?_⟩
   · have h4 : k = 4 := h4
     show RightB (textN B k t)
     unfold textN
     rw [if_pos h4]
     cases ht : textTok B t with
     | none => exact rightB_nil
     | some x => exact tok_right ht
   · show (textN B k t).size ≤ _
     unfold textN
     split
     · cases ht : textTok B t with
       | none => exact Nat.zero_le _
       | some x => exact textTok_le ht
     · split
       · rw [ByteArray.size_extract]; omega
       · exact Nat.zero_le _
end Go.Proofs.YtcaiibkgajhohaaGreatDoor
