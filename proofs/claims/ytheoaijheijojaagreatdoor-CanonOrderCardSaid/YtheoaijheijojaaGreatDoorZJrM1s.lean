/- JrM1, JrM2 in one text (a claim holds at most 60 files). -/
import Derived.Test.YtheoaijheijojaaGreatDoorZJrP0s
namespace Go.Proofs.YtheoaijheijojaaGreatDoor
section
open Go.RowKit
section
variable {w w' : World} {base E D X : Nat} {bv nv uv : Value} {m : Bd} {s s' : RS} {cs : Array Value} {fr : Nat × Nat}
theorem REye.tok (h : REye w base E D bv m s nv uv) (hX : w.heap[X]? = some (.cells cs 79 fr)) (j : Nat) (u : Value) : REye (w.setCell ⟨X, j, none⟩ u) base E D bv m s nv uv := by
  have hk : ∀ k, k ≠ X → (w.setCell ⟨X, j, none⟩ u).heap[k]? = w.heap[k]? := fun k hk => Below.heap_setCell _ _ _ _ hk
  exact ⟨by rw [hk E (ne_type h.box hX (by decide))]; exact h.box, h.rd.other hX hk (by decide) (by decide) (by decide), h.low⟩
theorem RE.tok (h : RE w base E D bv m s) (hX : w.heap[X]? = some (.cells cs 79 fr)) (j : Nat) (u : Value) : RE (w.setCell ⟨X, j, none⟩ u) base E D bv m s := by
  obtain ⟨nv, uv, h⟩ := h
  exact ⟨nv, uv, h.tok hX j u⟩
theorem RE.tok3 (h : RE w base E D bv m s) (hX : w.heap[X]? = some (.cells cs 79 fr)) (a b c : Value) : RE (((w.setCell ⟨X, 0, none⟩ a).setCell ⟨X, 1, none⟩ b).setCell ⟨X, 2, none⟩ c) base E D bv m s :=
  ((h.tok hX 0 a).tok (Go.Joins.block_setCell hX (i := 0) a) 1 b).tok (Go.Joins.block_setCell (Go.Joins.block_setCell hX (i := 0) a) (i := 1) b) 2 c
theorem TKept.fresh (h : TKept w w') {p : Addr} (hp : w.heap.size ≤ p.block) (u : Value) : TKept w (w'.setCell p u) := fun k ds f hk => by
  rw [Below.heap_setCell _ _ _ _ (show k ≠ p.block by have := heap_lt hk; omega)]; exact h k ds f hk
end
def ReDone (w : World) (base E D : Nat) (bv : Value) (m : Bd) (s : RS) (e : Ending) (w' : World) : Prop := e = .returned (.tuple #[]) ∧ RE w' base E D bv m s ∧ Below base w w' ∧ TKept w w'
set_option maxRecDepth 100000 in
theorem rfail_any (w : World) (base E D : Nat) (bv : Value) (m : Bd) (s : RS) (k a : Int) (h : RE w base E D bv m s) (h0 : s.err = 0) :
    Calls Tryz.prog 36 #[ptrV E, .int .i64 k, .int .i64 a] w (ReDone w base E D bv m { s with err := k, to_ := a }) := by
  obtain ⟨nv, uv, h⟩ := h
  obtain ⟨sa, se, st, sj, su⟩ := s
  simp only at h0
  subst h0
  have c6 : w.cell? ⟨E, 6, none⟩ = some (.int .i64 0) := h.c 6
  have c7 : w.cell? ⟨E, 7, none⟩ = some (.int .i64 st) := h.c 7
  have f6 := h.f 6
  have f7 := h.f 7
  have zE := h.lt
  have h1 := h.set (s' := ⟨sa, k, st, sj, su⟩) 6 (.int .i64 k) rfl rfl rfl
  have h2 := h1.set (s' := ⟨sa, k, a, sj, su⟩) 7 (.int .i64 a) rfl rfl rfl
  have f7' := h1.f 7
  have HF : Hid (RE ((w.setCell ⟨E, 6, none⟩ (.int .i64 k)).setCell ⟨E, 7, none⟩ (.int .i64 a)) base E D bv m ⟨sa, k, a, sj, su⟩ ∧ Below base w ((w.setCell ⟨E, 6, none⟩ (.int .i64 k)).setCell ⟨E, 7, none⟩ (.int .i64 a)) ∧ TKept w ((w.setCell ⟨E, 6, none⟩ (.int .i64 k)).setCell ⟨E, 7, none⟩ (.int .i64 a))) :=
    Lib.hid ⟨⟨_, _, h2⟩, ((Below.refl base w).setCell (p := ⟨E, 6, none⟩) h.low _).setCell (p := ⟨E, 7, none⟩) h.low _, ((TKept.refl w).set (p := ⟨E, 6, none⟩) h.box (by decide) _).set (p := ⟨E, 7, none⟩) h1.box (by decide) _⟩
  clear h h1 h2
  go_enter Tryz.func36, Tryz.ntmps36
  go_wp2
  go_end0
  exact ⟨rfl, HF.out⟩
set_option maxRecDepth 100000 in
theorem rwrong_any (w : World) (base E D : Nat) (bv : Value) (m : Bd) (s : RS) (t : Tok) (h : RE w base E D bv m s) (h0 : s.err = 0) :
    Calls Tryz.prog 70 #[ptrV E, .agg #[.int .i64 t.kind, .int .i64 t.fr, .int .i64 t.to]] w (ReDone w base E D bv m { s with err := if t.kind = 0 then 10 else 11, to_ := t.fr }) := by
  have hb1 : ∀ o : Obj, Below w.heap.size w (w.alloc o) := fun o => ext_alloc (Below.refl _ _) o
  have HZ : Hid (∀ o : Obj, Below base w (w.alloc o)) := Lib.hid (fun o => (hb1 o).mono (by obtain ⟨_, _, h⟩ := h; have := h.low; have := h.lt; omega))
  have FL := Lib.hid (fun (o : Obj) k => rfail_any (w.alloc o) base E D bv m s k t.fr (h.below (hb1 o)) h0)
  have HT := Lib.hid (fun o : Obj => TKept.of (hb1 o))
  obtain ⟨tk, tf, tt⟩ := t
  simp only at FL
  clear h hb1
  by_cases hk : tk = 0
  · have t1 : (tk == 0) = true := beq_iff_eq.2 hk
    rw [if_pos hk]
    clear hk
    go_enter Tryz.func70, Tryz.ntmps70
    go_wp2_with fail
    refine (FL.out _ _).mono ?_
    rintro e w1 ⟨rfl, hr, hb, ht⟩
    have HR := Lib.hid hr; have HB := Lib.hid ((HZ.out _).trans hb); have HT := Lib.hid ((HT.out _).trans ht)
    clear hr hb ht
    go_wp2
    go_end0
    exact ⟨rfl, HR.out, HB.out, HT.out⟩
  · have t1 : (tk == 0) = false := beq_eq_false_iff_ne.2 hk
    rw [if_neg hk]
    clear hk
    go_enter Tryz.func70, Tryz.ntmps70
    go_wp2_with fail
    refine (FL.out _ _).mono ?_
    rintro e w1 ⟨rfl, hr, hb, ht⟩
    have HR := Lib.hid hr; have HB := Lib.hid ((HZ.out _).trans hb); have HT := Lib.hid ((HT.out _).trans ht)
    clear hr hb ht
    go_wp2
    go_end0
    exact ⟨rfl, HR.out, HB.out, HT.out⟩
def NxPost7 (w : World) (base E D : Nat) (bv : Value) (m : Bd) (s : RS) (r : Sc Tok) (e : Ending) (w' : World) : Prop := match r with
  | .ok t => e = .returned (.agg #[.int .i64 t.kind, .int .i64 t.fr, .int .i64 t.to]) ∧ RE w' base E D bv m s ∧ Below base w w' ∧ TKept w w'
  | .no k p => e = .returned (.agg #[.int .i64 0, .int .i64 0, .int .i64 0]) ∧ RE w' base E D bv m { s with err := k, to_ := p } ∧ Below base w w' ∧ TKept w w'
theorem RE.low {w : World} {base E D : Nat} {bv : Value} {m : Bd} {s : RS} (h : RE w base E D bv m s) : base ≤ w.heap.size := by obtain ⟨_, _, h⟩ := h; have := h.low; have := h.lt; omega
theorem TKept.three {a b : World} (_h : TKept a b) {X : Nat} {cs : Array Value} {f : Nat × Nat} (hX : b.heap[X]? = some (.cells cs 79 f)) (x y z : Value) : (((b.setCell ⟨X, 0, none⟩ x).setCell ⟨X, 1, none⟩ y).setCell ⟨X, 2, none⟩ z).heap[X]? = some (.cells (((cs.setIfInBounds 0 x).setIfInBounds 1 y).setIfInBounds 2 z) 79 f) :=
  Go.Joins.block_setCell (Go.Joins.block_setCell (Go.Joins.block_setCell hX (i := 0) x) (i := 1) y) (i := 2) z
theorem TKept.fresh3 {w w' : World} (h : TKept w w') {X : Nat} (hp : w.heap.size ≤ X) (x y z : Value) : TKept w (((w'.setCell ⟨X, 0, none⟩ x).setCell ⟨X, 1, none⟩ y).setCell ⟨X, 2, none⟩ z) :=
  ((h.fresh (p := ⟨X, 0, none⟩) hp x).fresh (p := ⟨X, 1, none⟩) hp y).fresh (p := ⟨X, 2, none⟩) hp z
theorem below_fresh3 {B X : Nat} {w w' : World} (h : Below B w w') (hX : B ≤ X) (x y z : Value) : Below B w (((w'.setCell ⟨X, 0, none⟩ x).setCell ⟨X, 1, none⟩ y).setCell ⟨X, 2, none⟩ z) :=
  ((h.setCell (p := ⟨X, 0, none⟩) hX x).setCell (p := ⟨X, 1, none⟩) hX y).setCell (p := ⟨X, 2, none⟩) hX z
/-- Behind the document's Next: its token lies in a box of its own. -/
structure NxCut (w wx : World) (X : Nat) (ta tb tc : Int) : Prop where
  bl : Below w.heap.size w wx
  tok : wx.heap[X]? = some (.cells #[.int .i64 ta, .int .i64 tb, .int .i64 tc] 79 (0, 0))
  low : w.heap.size < X
  res : wx.heap[w.heap.size]? = some (.cells #[.int .i64 0, .int .i64 0, .int .i64 0] 79 (0, 0))
set_option maxRecDepth 100000 in
set_option maxHeartbeats 16000000 in
theorem rnext7_any (w0 w : World) (E D : Nat) (bv : Value) (B : ByteArray) (m : Bd) (s : RS) (h : RE w w0.heap.size E D bv m s) (hc : PC w0 w bv B) (hz : B.size ≤ 1000000) (h0 : s.err = 0) :
    Calls Tryz.prog 35 #[ptrV E] w (NxPost7 w w0.heap.size E D bv m s (nextI B s.at_)) := by
  obtain ⟨W1, hW1⟩ : ∃ W, w.alloc (.cells #[.int .i64 0, .int .i64 0, .int .i64 0] 79) = W := ⟨_, rfl⟩
  have b1 : Below w.heap.size w W1 := by rw [← hW1]; exact ext_alloc (Below.refl _ _) _
  have x1 : W1.heap[w.heap.size]? = some (.cells #[.int .i64 0, .int .i64 0, .int .i64 0] 79 (0, 0)) := by rw [← hW1]; exact heap_alloc_new w _
  have z1 : w.heap.size < W1.heap.size := by rw [← hW1]; simp
  have hlow := h.low
  have h1 := h.below b1
  have NX := Lib.hid (fun W (hW : Below w.heap.size w W) => rnx_any bv B s.at_ W ((hc.rd.ext hc.bl).ext hW) hz)
  have H := Lib.hid h; have HX1 := Lib.hid x1; have HB1 := Lib.hid b1
  obtain ⟨nv, uv, hE⟩ := h1
  have zE := hE.lt
  have e0 : W1.cell? ⟨E, 0, none⟩ = some bv := hE.c 0
  have e1 : W1.cell? ⟨E, 1, none⟩ = some (.int .i64 s.at_) := hE.c 1
  obtain ⟨r, hr⟩ : ∃ r, nextI B s.at_ = r := ⟨_, rfl⟩
  obtain ⟨ta, tb, tc, k, p, hv⟩ : ∃ ta tb tc k p : Int, rnV r = .tuple #[.agg #[.int .i64 ta, .int .i64 tb, .int .i64 tc], .int .i64 k, .int .i64 p] := by
    cases r <;> exact ⟨_, _, _, _, _, rfl⟩
  have NX : Hid (∀ W, Below w.heap.size w W → Calls Tryz.prog 73 #[bv, .int .i64 s.at_] W fun e w' => e = .returned (.tuple #[.agg #[.int .i64 ta, .int .i64 tb, .int .i64 tc], .int .i64 k, .int .i64 p]) ∧ Below W.heap.size W w') := Lib.hid (fun W hW => by
    have := NX.out W hW
    unfold RnPost at this
    rw [hr, hv] at this
    exact this)
  have HV := Lib.hid hv; have HR := Lib.hid hr; have H0 := Lib.hid h0
  rw [hr]
  clear h hc b1 x1 hE hv hr h0
  go_enter Tryz.func35, Tryz.ntmps35
  go_wp2_with fail
  clear hW1
  go_cut [3, 4, 5] (fun s3 s4 s5 wx => ∃ X, s3 = ptrV X ∧ s4 = .int .i64 k ∧ s5 = .int .i64 p ∧ NxCut w wx X ta tb tc)
  case first =>
    go_region_with (go_at_call 73; refine (NX.out _ (by first | exact ext_drewN 1 HB1.out | exact ext_drewN 1 (ext_alloc HB1.out _))).mono ?_; rintro e w4 ⟨rfl, hb4⟩; have HB4 := Lib.hid hb4; have kq := fun hz => bcell1 hb4 (b := W1.heap.size) hz; have kfq := fun hz => bfrozen1 hb4 (b := W1.heap.size) hz; have z4 := hb4.size; clear hb4)
    all_goals
      try clear kq kfq
      go_wp2
      go_meet
      first
      | exact ⟨_, rfl, rfl, rfl, ext_alloc (ext_trans (ext_drewN 1 HB1.out) HB4.out) _, heap_alloc_new _ _, Nat.lt_of_lt_of_le z1 z4, by rw [Below.heap_alloc _ _ _ (Nat.lt_of_lt_of_le z1 z4), HB4.out.block _ z1]; exact HX1.out⟩
      | (have hX := (HB4.out.block W1.heap.size (by simp)).trans (heap_alloc_new W1 _)
         refine ⟨_, rfl, rfl, rfl, below_fresh3 (ext_trans (ext_drewN 1 (ext_alloc HB1.out _)) HB4.out) (Nat.le_of_lt z1) _ _ _, TKept.three (TKept.refl _) hX _ _ _, z1, ?_⟩
         have hne : w.heap.size ≠ W1.heap.size := Nat.ne_of_lt z1
         rw [Below.heap_setCell _ _ _ _ hne, Below.heap_setCell _ _ _ _ hne, Below.heap_setCell _ _ _ _ hne, HB4.out.block _ (by simp; omega)]
         exact (Below.heap_alloc W1 _ _ z1).trans HX1.out)
  case rest =>
    obtain ⟨X, rfl, rfl, rfl, hcx⟩ := hcut
    have HC := Lib.hid hcx
    have HRE := Lib.hid (H.out.below hcx.bl)
    have kx := fun j => show wc.cell? ⟨X, j, none⟩ = (#[.int .i64 ta, .int .i64 tb, .int .i64 tc] : Array Value)[j]? by simp [World.cell?, hcx.tok]
    have kr := fun j => show wc.cell? ⟨w.heap.size, j, none⟩ = (#[.int .i64 0, .int .i64 0, .int .i64 0] : Array Value)[j]? by simp [World.cell?, hcx.res]
    have fr := fun j => Go.Joins.unfrozen_of_block hcx.res j
    have zr := heap_lt hcx.res
    cases r with
    | ok t =>
      have hv := HV.out
      simp only [rnV, Value.tuple.injEq, Array.mk.injEq, List.cons.injEq, Value.agg.injEq, Value.int.injEq, true_and, and_true] at hv
      obtain ⟨⟨rfl, rfl, rfl⟩, rfl, rfl⟩ := hv
      obtain ⟨tk, tf, tt⟩ := t
      have HF : Hid (NxPost7 w w0.heap.size E D bv m s (.ok ⟨tk, tf, tt⟩) (.returned (.agg #[.int .i64 tk, .int .i64 tf, .int .i64 tt])) (((wc.setCell ⟨w.heap.size, 0, none⟩ (.int .i64 tk)).setCell ⟨w.heap.size, 1, none⟩ (.int .i64 tf)).setCell ⟨w.heap.size, 2, none⟩ (.int .i64 tt))) :=
        Lib.hid ⟨rfl, HRE.out.tok3 hcx.res _ _ _, below_fresh3 (hcx.bl.mono hlow) hlow _ _ _, (TKept.of hcx.bl).fresh3 (Nat.le_refl _) _ _ _⟩
      clear hcx zE e0 e1
      simp only at kx
      go_wp2
      refine bodyPost_ret (v := .agg #[.int .i64 tk, .int .i64 tf, .int .i64 tt]) (by simp [results, Tryz.results35, go_sem, kr]) rfl HF.out
    | no kk pp =>
      have hv := HV.out
      simp only [rnV, Value.tuple.injEq, Array.mk.injEq, List.cons.injEq, Value.agg.injEq, Value.int.injEq, true_and, and_true] at hv
      obtain ⟨⟨rfl, rfl, rfl⟩, rfl, rfl⟩ := hv
      have hk := nextI_pos HR.out
      have t1 : ((kk : Int) != 0) = true := bne_iff_ne.2 (by omega)
      have FL := Lib.hid (rfail_any wc w0.heap.size E D bv m s kk pp HRE.out H0.out)
      clear hcx zE e0 e1 hk
      go_wp2_with fail
      refine FL.out.mono ?_
      rintro e w5 ⟨rfl, hre, hb5, ht5⟩
      have hx5 := ht5 _ _ _ HC.out.tok
      have hr5 := ht5 _ _ _ HC.out.res
      have kx := fun j => show w5.cell? ⟨X, j, none⟩ = (#[.int .i64 0, .int .i64 0, .int .i64 0] : Array Value)[j]? by simp [World.cell?, hx5]
      have kr := fun j => show w5.cell? ⟨w.heap.size, j, none⟩ = (#[.int .i64 0, .int .i64 0, .int .i64 0] : Array Value)[j]? by simp [World.cell?, hr5]
      have fr := fun j => Go.Joins.unfrozen_of_block hr5 j
      have zr := heap_lt hr5
      have HF : Hid (NxPost7 w w0.heap.size E D bv m s (.no kk pp) (.returned (.agg #[.int .i64 0, .int .i64 0, .int .i64 0])) (((w5.setCell ⟨w.heap.size, 0, none⟩ (.int .i64 0)).setCell ⟨w.heap.size, 1, none⟩ (.int .i64 0)).setCell ⟨w.heap.size, 2, none⟩ (.int .i64 0))) :=
        Lib.hid ⟨rfl, hre.tok3 hr5 _ _ _, below_fresh3 ((HC.out.bl.mono hlow).trans hb5) hlow _ _ _, ((TKept.of HC.out.bl).trans ht5).fresh3 (Nat.le_refl _) _ _ _⟩
      clear hre hb5 ht5 hx5 hr5
      go_wp2
      refine bodyPost_ret (v := .agg #[.int .i64 0, .int .i64 0, .int .i64 0]) (by simp [results, Tryz.results35, go_sem, kr]) rfl HF.out
end
section
open Go.RowKit
section
variable {w : World} {base E D : Nat} {bv : Value} {m : Bd} {s : RS}
theorem RE.c0 (h : RE w base E D bv m s) : w.cell? ⟨E, 0, none⟩ = some bv := by obtain ⟨_, _, h⟩ := h; exact h.c 0
theorem RE.c1 (h : RE w base E D bv m s) : w.cell? ⟨E, 1, none⟩ = some (.int .i64 s.at_) := by obtain ⟨_, _, h⟩ := h; exact h.c 1
theorem RE.c3 (h : RE w base E D bv m s) : w.cell? ⟨E, 3, none⟩ = some (.int .i64 m.deep) := by obtain ⟨_, _, h⟩ := h; exact h.c 3
theorem RE.c4 (h : RE w base E D bv m s) : w.cell? ⟨E, 4, none⟩ = some (.int .i64 m.nodes) := by obtain ⟨_, _, h⟩ := h; exact h.c 4
theorem RE.c5 (h : RE w base E D bv m s) : w.cell? ⟨E, 5, none⟩ = some (ptrV D) := by obtain ⟨_, _, h⟩ := h; exact h.c 5
theorem RE.c6 (h : RE w base E D bv m s) : w.cell? ⟨E, 6, none⟩ = some (.int .i64 s.err) := by obtain ⟨_, _, h⟩ := h; exact h.c 6
theorem RE.c7 (h : RE w base E D bv m s) : w.cell? ⟨E, 7, none⟩ = some (.int .i64 s.to_) := by obtain ⟨_, _, h⟩ := h; exact h.c 7
theorem RE.f (h : RE w base E D bv m s) (j : Nat) : w.frozen? ⟨E, j, none⟩ = false := by obtain ⟨_, _, h⟩ := h; exact h.f j
theorem RE.lt (h : RE w base E D bv m s) : E < w.heap.size := by obtain ⟨_, _, h⟩ := h; exact h.lt
theorem RE.lowE (h : RE w base E D bv m s) : base ≤ E := by obtain ⟨_, _, h⟩ := h; exact h.low
theorem RE.setAt (h : RE w base E D bv m s) (i : Int) : RE (w.setCell ⟨E, 1, none⟩ (.int .i64 i)) base E D bv m { s with at_ := i } := by
  obtain ⟨nv, uv, h⟩ := h
  exact ⟨nv, uv, h.set 1 (.int .i64 i) rfl rfl rfl⟩
theorem TKept.setE {a : World} (h : TKept a w) (hE : RE w base E D bv m s) (j : Nat) (u : Value) : TKept a (w.setCell ⟨E, j, none⟩ u) := by
  obtain ⟨nv, uv, hE⟩ := hE
  exact h.set (p := ⟨E, j, none⟩) hE.box (by decide) u
theorem drewN_heapB {B : Nat} {a b : World} (h : Below B a b) (n : Nat) : Below B a (b.drewN n) := ⟨h.os, h.tape, h.output, h.size, h.block⟩
end
def RBad (w : World) (base E D : Nat) (bv : Value) (_B : ByteArray) (m : Bd) (R : Sc PS) : Prop := ∃ (k : Nat) (p : Int) (s' : RS), k ≠ 0 ∧ s'.err = k ∧ s'.to_ = p ∧ RE w base E D bv m s' ∧ R = .no k p
def RKey (w : World) (base E D : Nat) (bv : Value) (B : ByteArray) (m : Bd) (s : RS) (o : Op) (r : List Op) (e : Ending) (w' : World) : Prop := ∃ x : ByteArray, e = .returned (.string x) ∧ Below base w w' ∧ TKept w w' ∧
  (RBad w' base E D bv B m (runS B m s.at_ ⟨s.js, upsN s.ups, o :: r⟩) ∨
   (∃ i' : Nat, s.at_ < i' ∧ i' ≤ B.size ∧ RE w' base E D bv m { s with at_ := i' } ∧ runS B m s.at_ ⟨s.js, upsN s.ups, o :: r⟩ = runS B m i' ⟨s.js, upsN s.ups, { o with st := 1, key := x } :: r⟩))
set_option maxRecDepth 100000 in
set_option maxHeartbeats 16000000 in
theorem rkey_any (w0 w : World) (E D : Nat) (bv : Value) (B : ByteArray) (m : Bd) (s : RS) (o : Op) (r : List Op) (h : RE w w0.heap.size E D bv m s) (hc : PC w0 w bv B) (hz : B.size ≤ 1000000) (h0 : s.err = 0) (hw : WantK B m s.at_ s.js (upsN s.ups) o r) :
    Calls Tryz.prog 108 #[ptrV E] w (RKey w w0.heap.size E D bv B m s o r) := by
  have NX := rnext7_any w0 w E D bv B m s h hc hz h0
  obtain ⟨R, hR⟩ : ∃ R, runS B m s.at_ ⟨s.js, upsN s.ups, o :: r⟩ = R := ⟨_, rfl⟩
  have HR := Lib.hid hR; have HC := Lib.hid hc; have H0 := Lib.hid h0; have HW := Lib.hid hw
  have hlow := hc.bl.size
  unfold RKey
  rw [hR]
  clear h hc h0 hw hR
  cases hn : nextI B s.at_ with
  | no k p =>
    rw [hn] at NX
    have hk := nextI_pos hn
    have hrun : R = .no k p := by rw [← HR.out]; exact run_stop hn
    have t1 : ((k : Int) != 0) = true := bne_iff_ne.2 (by omega)
    have NX := Lib.hid NX; have HK := Lib.hid hk; have HRN := Lib.hid hrun
    clear hn hk hrun
    go_enter Tryz.func108, Tryz.ntmps108
    go_wp2_with fail
    refine NX.out.mono ?_
    rintro e w1 ⟨rfl, hre, hb1, ht1⟩
    have c6 := hre.c6
    have zE := hre.lt
    simp only at c6
    have hl1 := hre.low
    have HF : Hid (∀ ob : Obj, Below w0.heap.size w (w1.alloc ob) ∧ TKept w (w1.alloc ob) ∧ RBad (w1.alloc ob) w0.heap.size E D bv B m R) := Lib.hid (fun ob => ⟨hb1.alloc hl1 ob, ht1.alloc ob, k, p, _, HK.out, rfl, rfl, hre.below (ext_alloc (Below.refl _ _) ob), HRN.out⟩)
    clear hre hb1 ht1
    go_wp2
    go_ret
    exact ⟨_, rfl, (HF.out _).1, (HF.out _).2.1, .inl (HF.out _).2.2⟩
  | ok t =>
    rw [hn] at NX
    have hsh := tok_shape hn
    have NX := Lib.hid NX
    by_cases h7 : t.kind = 7
    · obtain ⟨x, hx⟩ := text_is hn h7
      have hrun := k_text HW.out hn h7 hx
      rw [HR.out] at hrun
      have HRN := Lib.hid hrun; have HX := Lib.hid hx; have HSH := Lib.hid hsh
      obtain ⟨tk, tf, tt⟩ := t
      simp only at h7
      subst h7
      have NX2 : Calls Tryz.prog 35 #[ptrV E] w fun e w' => e = .returned (.agg #[.int .i64 7, .int .i64 tf, .int .i64 tt]) ∧ RE w' w0.heap.size E D bv m s ∧ Below w0.heap.size w w' ∧ TKept w w' := NX.out
      have NX := Lib.hid NX2
      clear hn hx hrun hsh NX2
      go_enter Tryz.func108, Tryz.ntmps108
      go_wp2_with fail
      refine NX.out.mono ?_
      rintro e w1 ⟨rfl, hre, hb1, ht1⟩
      obtain ⟨W2, hW2⟩ : ∃ W, w1.alloc (.cells #[.int .i64 7, .int .i64 tf, .int .i64 tt] 79) = W := ⟨_, rfl⟩
      have hx2 : W2.heap[w1.heap.size]? = some (.cells #[.int .i64 7, .int .i64 tf, .int .i64 tt] 79 (0, 0)) := by rw [← hW2]; exact heap_alloc_new w1 _
      have b12 : Below w1.heap.size w1 W2 := by rw [← hW2]; exact ext_alloc (Below.refl _ _) _
      have hre2 := hre.below b12
      have hl1 := hre.low
      have hb2 := hb1.trans (b12.mono hl1)
      have ht2 := ht1.trans (TKept.of b12)
      have hcp := HC.out.step hb2
      have TX := Lib.hid (fun n => by
        have := rftext_any bv B ⟨7, tf, tt⟩ (W2.drewN n) ((hcp.rd.ext hcp.bl).ext (drewN_below _ n)) hz
        unfold RtPost at this
        rw [HX.out] at this
        exact this)
      have zX := heap_lt hx2
      have c0 := hre2.c0
      have c1 := hre2.c1
      have c6 := hre2.c6
      have f1 := hre2.f 1
      rw [H0.out] at c6
      have zE := hre2.lt
      have kx := fun j => show W2.cell? ⟨w1.heap.size, j, none⟩ = (#[.int .i64 7, .int .i64 tf, .int .i64 tt] : Array Value)[j]? by simp [World.cell?, hx2]
      have HRE := Lib.hid hre2; have HB := Lib.hid hb2; have HT := Lib.hid ht2; have HX2 := Lib.hid hx2; have HCP := Lib.hid hcp
      clear hre hb1 ht1 b12 hre2 hb2 ht2 hx2 hcp
      go_wp2_with fail
      clear hW2
      go_cut [4] (fun s4 wx => s4 = .string x ∧ Below W2.heap.size W2 wx)
      case first =>
        go_region_with (go_at_call 71; refine (TX.out _).mono ?_; rintro e w4 ⟨rfl, hb4⟩; have HB4 := Lib.hid hb4; clear hb4)
        all_goals
          go_wp2
          go_meet
          exact ⟨rfl, ext_trans (ext_drewN 1 (Below.refl _ _)) HB4.out⟩
      case rest =>
        obtain ⟨rfl, hbc⟩ := hcut
        have kx := fun j => (bcell1 hbc zX j).trans (kx j)
        have c1' := (bcell1 hbc zE 1).trans c1
        have f1' := (bfrozen1 hbc zE 1).trans f1
        have zEc : E < wc.heap.size := Nat.lt_of_lt_of_le zE hbc.size
        have hre3 := HRE.out.below hbc
        have hb3 := HB.out.trans (hbc.mono HRE.out.low)
        have ht3 := HT.out.trans (TKept.of hbc)
        have hre4 := hre3.setAt tt
        have hb4 := hb3.setCell (p := ⟨E, 1, none⟩) hre3.lowE (.int .i64 tt)
        have ht4 := ht3.setE hre3 1 (.int .i64 tt)
        have NY := rnext7_any w0 _ E D bv B m _ hre4 (HC.out.step hb4) hz H0.out
        have HB4 := Lib.hid hb4; have HT4 := Lib.hid ht4
        simp only at NY
        clear hbc hre3 hb3 ht3 hre4 hb4 ht4 c0 c1 c6 f1 zE
        cases hn2 : nextI B tt with
        | no k p =>
          rw [hn2] at NY
          have hk := nextI_pos hn2
          have hrun : R = .no k p := by rw [HRN.out]; exact run_stop hn2
          have t1 : ((k : Int) == 0) = false := beq_eq_false_iff_ne.2 (by omega)
          have NY := Lib.hid NY; have HK := Lib.hid hk; have HRN := Lib.hid hrun
          clear hn2 hk hrun
          go_wp2_with fail
          refine NY.out.mono ?_
          rintro e w5 ⟨rfl, hre, hb5, ht5⟩
          have c6 := hre.c6
          have c1 := hre.c1
          have f1 := hre.f 1
          have zE := hre.lt
          simp only at c6 c1
          have hl5 := hre.low
          have HF : Hid (∀ ob : Obj, Below w0.heap.size w ((w5.setCell ⟨E, 1, none⟩ (.int .i64 0)).alloc ob) ∧ TKept w ((w5.setCell ⟨E, 1, none⟩ (.int .i64 0)).alloc ob) ∧ RBad ((w5.setCell ⟨E, 1, none⟩ (.int .i64 0)).alloc ob) w0.heap.size E D bv B m R) := Lib.hid (fun ob => by
            have hl6 : w0.heap.size ≤ (w5.setCell ⟨E, 1, none⟩ (.int .i64 0)).heap.size := by simpa using hl5
            exact ⟨((HB4.out.trans hb5).setCell (p := ⟨E, 1, none⟩) hre.lowE _).alloc hl6 ob, ((HT4.out.trans ht5).setE hre 1 _).alloc ob, k, p, _, HK.out, rfl, rfl, (hre.setAt 0).below (ext_alloc (Below.refl _ _) ob), HRN.out⟩)
          clear hre hb5 ht5
          go_wp2
          go_ret
          exact ⟨_, rfl, (HF.out _).1, (HF.out _).2.1, .inl (HF.out _).2.2⟩
        | ok t2 =>
          rw [hn2] at NY
          have hsh2 := tok_shape hn2
          by_cases h5 : t2.kind = 5
          · have hrun : R = _ := HRN.out.trans (k_colon (m := m) (js := s.js) (ups := upsN s.ups) (o := { o with st := 3, key := x }) (r := r) rfl hn2 h5)
            have HRN := Lib.hid hrun; have HS2 := Lib.hid hsh2
            obtain ⟨uk, uf, ut⟩ := t2
            (try simp only at h5 HS2)
            subst h5
            have NY2 : Calls Tryz.prog 35 #[ptrV E] _ fun e w' => e = .returned (.agg #[.int .i64 5, .int .i64 uf, .int .i64 ut]) ∧ RE w' w0.heap.size E D bv m { s with at_ := tt } ∧ Below w0.heap.size (wc.setCell ⟨E, 1, none⟩ (.int .i64 tt)) w' ∧ TKept (wc.setCell ⟨E, 1, none⟩ (.int .i64 tt)) w' := NY
            have NY := Lib.hid NY2
            clear hn2 hrun hsh2 NY2
            go_wp2_with fail
            refine NY.out.mono ?_
            rintro e w5 ⟨rfl, hre, hb5, ht5⟩
            have c6 := hre.c6
            have c1 := hre.c1
            have f1 := hre.f 1
            have zE := hre.lt
            (try simp only at c6 c1)
            rw [H0.out] at c6
            have hl5 := hre.low
            have HF : Hid (∀ ob : Obj, Below w0.heap.size w ((w5.setCell ⟨E, 1, none⟩ (.int .i64 ut)).alloc ob) ∧ TKept w ((w5.setCell ⟨E, 1, none⟩ (.int .i64 ut)).alloc ob) ∧ RE ((w5.setCell ⟨E, 1, none⟩ (.int .i64 ut)).alloc ob) w0.heap.size E D bv m { s with at_ := ut }) := Lib.hid (fun ob => by
              have hl6 : w0.heap.size ≤ (w5.setCell ⟨E, 1, none⟩ (.int .i64 ut)).heap.size := by simpa using hl5
              exact ⟨((HB4.out.trans hb5).setCell (p := ⟨E, 1, none⟩) hre.lowE _).alloc hl6 ob, ((HT4.out.trans ht5).setE hre 1 _).alloc ob, (hre.setAt ut).below (ext_alloc (Below.refl _ _) ob)⟩)
            clear hre hb5 ht5
            go_wp2
            go_ret
            have h1 := HSH.out; have h2 := HS2.out
            (try simp only at h1 h2)
            refine ⟨_, rfl, (HF.out _).1, (HF.out _).2.1, .inr ⟨ut.toNat, by omega, by omega, ?_, ?_⟩⟩
            · rw [show ((ut.toNat : Nat) : Int) = ut by omega]; exact (HF.out _).2.2
            · rw [show ((ut.toNat : Nat) : Int) = ut by omega]; exact HRN.out
          · have hrun : R = _ := HRN.out.trans (k_no (m := m) (js := s.js) (ups := upsN s.ups) (o := { o with st := 3, key := x }) (r := r) rfl hn2 h5)
            have HRN := Lib.hid hrun
            obtain ⟨uk, uf, ut⟩ := t2
            (try simp only at h5)
            have t5 : (uk != 5) = true := bne_iff_ne.2 h5
            have NY2 : Calls Tryz.prog 35 #[ptrV E] _ fun e w' => e = .returned (.agg #[.int .i64 uk, .int .i64 uf, .int .i64 ut]) ∧ RE w' w0.heap.size E D bv m { s with at_ := tt } ∧ Below w0.heap.size (wc.setCell ⟨E, 1, none⟩ (.int .i64 tt)) w' ∧ TKept (wc.setCell ⟨E, 1, none⟩ (.int .i64 tt)) w' := NY
            have NY := Lib.hid NY2
            clear hn2 hrun hsh2 NY2 h5
            go_wp2_with fail
            refine NY.out.mono ?_
            rintro e w5 ⟨rfl, hre, hb5, ht5⟩
            have c6 := hre.c6
            have zE := hre.lt
            (try simp only at c6)
            rw [H0.out] at c6
            have hl5 := hre.low
            obtain ⟨W6, hW6⟩ : ∃ W, w5.alloc (.cells #[.int .i64 uk, .int .i64 uf, .int .i64 ut] 79) = W := ⟨_, rfl⟩
            have b56 : Below w5.heap.size w5 W6 := by rw [← hW6]; exact ext_alloc (Below.refl _ _) _
            have hx6 : W6.heap[w5.heap.size]? = some (.cells #[.int .i64 uk, .int .i64 uf, .int .i64 ut] 79 (0, 0)) := by rw [← hW6]; exact heap_alloc_new w5 _
            have hra := hre.below b56
            have kx6 := fun j => show W6.cell? ⟨w5.heap.size, j, none⟩ = (#[.int .i64 uk, .int .i64 uf, .int .i64 ut] : Array Value)[j]? by simp [World.cell?, hx6]
            have c6' := (bcell1 b56 zE 6).trans c6
            have HB6 := Lib.hid ((HB4.out.trans hb5).trans (b56.mono hl5)); have HT6 := Lib.hid ((HT4.out.trans ht5).trans (TKept.of b56)); have HX6 := Lib.hid hx6
            have WR := Lib.hid (rwrong_any W6 w0.heap.size E D bv m { s with at_ := tt } ⟨uk, uf, ut⟩ hra H0.out)
            clear hre hb5 ht5 b56 hx6 hra
            go_wp2_with fail
            clear hW6
            refine WR.out.mono ?_
            rintro e w7 ⟨rfl, hre, hb7, ht7⟩
            have hx7 := ht7 _ _ _ HX6.out
            have kx7 := fun j => show w7.cell? ⟨w5.heap.size, j, none⟩ = (#[.int .i64 uk, .int .i64 uf, .int .i64 ut] : Array Value)[j]? by simp [World.cell?, hx7]
            have c1 := hre.c1
            have f1 := hre.f 1
            have zE := hre.lt
            simp only at c1
            have HF : Hid (Below w0.heap.size w (w7.setCell ⟨E, 1, none⟩ (.int .i64 ut)) ∧ TKept w (w7.setCell ⟨E, 1, none⟩ (.int .i64 ut)) ∧ RBad (w7.setCell ⟨E, 1, none⟩ (.int .i64 ut)) w0.heap.size E D bv B m R) :=
              Lib.hid ⟨(HB6.out.trans hb7).setCell (p := ⟨E, 1, none⟩) hre.lowE _, (HT6.out.trans ht7).setE hre 1 _, if uk = 0 then 10 else 11, uf, _, by split <;> decide, by show (if uk = 0 then (10 : Int) else 11) = _; split <;> rfl, rfl, hre.setAt ut, HRN.out⟩
            clear hre hb7 ht7 hx7 kx6 c6'
            go_wp2
            go_ret
            exact ⟨_, rfl, HF.out.1, HF.out.2.1, .inl HF.out.2.2⟩
    · have hrun := k_wrong HW.out hn h7
      rw [HR.out] at hrun
      have HRN := Lib.hid hrun
      obtain ⟨tk, tf, tt⟩ := t
      simp only at h7 HRN
      have t7 : (tk != 7) = true := bne_iff_ne.2 h7
      have NX2 : Calls Tryz.prog 35 #[ptrV E] w fun e w' => e = .returned (.agg #[.int .i64 tk, .int .i64 tf, .int .i64 tt]) ∧ RE w' w0.heap.size E D bv m s ∧ Below w0.heap.size w w' ∧ TKept w w' := NX.out
      have NX := Lib.hid NX2
      clear hn hrun hsh NX2 h7
      go_enter Tryz.func108, Tryz.ntmps108
      go_wp2_with fail
      refine NX.out.mono ?_
      rintro e w1 ⟨rfl, hre, hb1, ht1⟩
      have c6 := hre.c6
      have zE := hre.lt
      rw [H0.out] at c6
      have hl1 := hre.low
      have WR := Lib.hid (fun ob => rwrong_any (w1.alloc ob) w0.heap.size E D bv m s ⟨tk, tf, tt⟩ (hre.below (ext_alloc (Below.refl _ _) ob)) H0.out)
      have HB := Lib.hid (fun ob => hb1.alloc hl1 ob); have HT := Lib.hid (fun ob => ht1.alloc ob)
      clear hre hb1 ht1
      go_wp2_with fail
      refine (WR.out _).mono ?_
      rintro e w7 ⟨rfl, hre, hb7, ht7⟩
      have HF : Hid (Below w0.heap.size w w7 ∧ TKept w w7 ∧ RBad w7 w0.heap.size E D bv B m R) :=
        Lib.hid ⟨(HB.out _).trans hb7, (HT.out _).trans ht7, if tk = 0 then 10 else 11, tf, _, by split <;> decide, by show (if tk = 0 then (10 : Int) else 11) = _; split <;> rfl, rfl, hre, HRN.out⟩
      clear hre hb7 ht7
      go_wp2
      go_ret
      exact ⟨_, rfl, HF.out.1, HF.out.2.1, .inl HF.out.2.2⟩
end
end Go.Proofs.YtheoaijheijojaaGreatDoor
