/- Texts put together. -/
import Derived.Test.YtcaiibkgajhohaaGreatDoorYAsBf
import Derived.Test.YtcaiibkgajhohaaGreatDoorYAsH2f
import Derived.Test.YtcaiibkgajhohaaGreatDoorYTxtWs
import Derived.RangeFuncNested
import Derived.RangeFuncBound
import Derived.RangeFuncCalls
import Derived.RangeFuncLeaves
import Derived.Shelf.Abstract
import Derived.Shelf.RegionOpen
import Derived.WalkKit
import Derived.OwnWalkIn
import Derived.TacticsInMore
import Derived.LoopNIn
import Derived.LoopIn
namespace Go.Proofs.YtcaiibkgajhohaaGreatDoor
open Go.RowKit
/-- Blocks that lie as they lay. -/
def KeepZ (Z : Nat → Prop) (W W' : World) : Prop := W.heap.size ≤ W'.heap.size ∧ ∀ k, Z k → W'.heap[k]? = W.heap[k]?
theorem KeepZ.refl (Z : Nat → Prop) (W : World) : KeepZ Z W W := ⟨Nat.le_refl _, fun _ _ => rfl⟩
theorem KeepZ.trans {Z : Nat → Prop} {a b c : World} (h : KeepZ Z a b) (k : KeepZ Z b c) : KeepZ Z a c := ⟨Nat.le_trans h.1 k.1, fun j hj => (k.2 j hj).trans (h.2 j hj)⟩
theorem KeepZ.only {Z T : Nat → Prop} {a b : World} (h : Only T a b) (hZ : ∀ k, Z k → k < a.heap.size ∧ ¬ T k) : KeepZ Z a b := ⟨h.size, fun k hk => h.block k (hZ k hk).1 (hZ k hk).2⟩
def moreZ (Z : Nat → Prop) (W W' : World) : Nat → Prop := fun k => Z k ∨ (W.heap.size ≤ k ∧ k < W'.heap.size)
/-- How a round is left: it goes on, or the function returns. -/
def roundQ (Z : Nat → Prop) (good leave : World → Prop) (W : World) : Exit → Act → World → Prop
 | .normal, _, W' => KeepZ Z W W' ∧ good W'
 | .ret, _, W' => KeepZ Z W W' ∧ leave W'
 | _, _, _ => False
/-- What a call of yield comes to. -/
def yieldQ (Z : Nat → Prop) (good leave : World → Prop) (W : World) (e : Ending) (W' : World) : Prop := (e = .returned (.bool true) ∧ KeepZ Z W W' ∧ good W') ∨ (e = .returned (.bool false) ∧ leave W')
/-- The caller's word between two rounds: it minds no step of the reader's. Z: blocks of others. -/
structure Tells (W0 Wv : World) (vv : Value) (D : Nat) {β : Type} (J : (Nat → Prop) → β → RdSt → World → Prop) : Prop where
 re : ∀ {Z b st W}, J Z b st W → ReA W0 Wv vv W D st
 keep : ∀ {Z b st st' W W'}, J Z b st W → RePost W0 Wv vv W D st' W' → J (moreZ Z W W') b st' W'
 zlt : ∀ {Z b st W}, J Z b st W → ∀ k, Z k → k < W.heap.size ∧ k ≠ W0.heap.size
def ItPost {β : Type} (Z : Nat → Prop) (J Jx : (Nat → Prop) → β → RdSt → World → Prop) (R : Bool × β × RdSt) (e : Ending) (W' : World) : Prop := (∃ v, e = .returned v) ∧ ∃ Z', (∀ k, Z k → Z' k) ∧ ((R.1 = true ∧ J Z' R.2.1 R.2.2 W') ∨ (R.1 = false ∧ ∃ Z0, Jx Z0 R.2.1 R.2.2 W'))
/-- What an iterator over texts promises. R: what has come of the caller's steps. -/
def TextsAt (W0 Wv : World) (vv : Value) (D : Nat) (n gf : Nat) (lb : Array Value) (own : Nat → Prop) {β : Type} (cnt : β → Nat) (step : β → RdSt → Nat → ByteArray → Bool × β × RdSt) (b0 : β) (st0 : RdSt) (R : Bool × β × RdSt) (w : World) : Prop :=
 ∀ (l : Nat) (J Jx : (Nat → Prop) → β → RdSt → World → Prop) (Z : Nat → Prop) (W : World), Below w.heap.size w W → Tells W0 Wv vv D J → (∀ k, own k → Z k) →
  (∀ Z b st k t W, J Z b st W → st.bad = false → t.size ≤ 1100000 → cnt b < cnt b0 + 100000 → YieldAt Fence.wide (n - 1) Tryz.prog l #[.int .i64 (k : Nat), .string t] W (yieldQ Z (fun W' => (step b st k t).1 = true ∧ J Z (step b st k t).2.1 (step b st k t).2.2 W') (fun W' => (step b st k t).1 = false ∧ Jx Z (step b st k t).2.1 (step b st k t).2.2 W') W)) →
  J Z b0 st0 W →
  CallsIn Fence.wide n Tryz.prog gf (#[.func (.yield l) #[] #[]] ++ lb) W (ItPost Z J Jx R)
section
variable {W0 Wv : World} {vv : Value} {D : Nat}
/-- The statement 'for k, t := range texts { .. }'. -/
theorem range_texts {β : Type} {n gf rs : Nat} {lb : Array Value} {own : Nat → Prop} {cnt : β → Nat} {step : β → RdSt → Nat → ByteArray → Bool × β × RdSt} {b0 : β} {st0 : RdSt} {R : Bool × β × RdSt} {J Jx : (Nat → Prop) → β → RdSt → World → Prop} {Z0 : Nat → Prop}
    {g : Operand} {ps : Array Tmp} {assign body : Code} {Q : Exit → Act → World → Prop} {a : Act} {w : World} (hrs : w.heap.size = rs)
    (hg : a.eval g = .func (.func gf) #[] lb) (eg : ∀ args w, (callFunc gf args).run Tryz.prog w = .ok (.enter gf args) w) (hps : ps.size = 2)
    (hT : TextsAt W0 Wv vv D (n - 1) gf lb own cnt step b0 st0 R w) (hJ : Tells W0 Wv vv D J)
    (hput : ∀ Z b st W l o, J Z b st W → Z l → rs ≤ l → J Z b st (W.putObj l o)) (hputx : ∀ Z b st W l o, Jx Z b st W → Z l → rs ≤ l → Jx Z b st (W.putObj l o))
    (hZ : ∀ k, own k → Z0 k) (h0 : J Z0 b0 st0 w) 
    (hround : ∀ (l k : Nat) (t : ByteArray) (W : World),
      assign.wpIn (Fence.wide.inRound l) (n - 1 - 1) Tryz.prog (Exit.then (fun a₁ W' => W' = W ∧ ∀ Z b st W2, J Z b st W2 → st.bad = false → t.size ≤ 1100000 → cnt b < cnt b0 + 100000 → body.wpIn (Fence.wide.inRound l) (n - 1 - 1) Tryz.prog (roundQ Z (fun W' => (step b st k t).1 = true ∧ J Z (step b st k t).2.1 (step b st k t).2.2 W') (fun W' => (step b st k t).1 = false ∧ Jx Z (step b st k t).2.1 (step b st k t).2.2 W') W2) a₁ W2) (fun _ _ _ => False))
       { tmps := (ps.zip #[.int .i64 (k : Nat), .string t]).foldl (fun t (p, v) => t.setIfInBounds p v) a.tmps, defers := [] } W)
    (hdone : ∀ (M : Nat) Z (W : World), rs ≤ M → R.1 = true → J Z R.2.1 R.2.2 W → W.heap[M]? = some (.deferred (some [])) → Q .normal { a with defers := { target := .collected M, args := #[] } :: a.defers } W)
    (hstop : ∀ (M : Nat) Z (W : World), rs ≤ M → R.1 = false → Jx Z R.2.1 R.2.2 W → W.heap[M]? = some (.deferred (some [])) → Code.ret.wpIn Fence.wide n Tryz.prog Q { a with defers := { target := .collected M, args := #[] } :: a.defers } W) :
    (Code.rangeFunc g ps assign body).wpIn Fence.wide n Tryz.prog Q a w := by
 subst hrs
 refine wpIn_rangeFunc ?_
 intro fn hfn
 obtain ⟨rec, hrec⟩ : ∃ rec : LoopState → Option Code → Loop, rec = fun st pe => { state := st, pending := pe, fn, tmps := a.tmps, params := ps, assign, body, defers := w.heap.size } := ⟨_, rfl⟩
 obtain ⟨W1, hW1⟩ : ∃ W1, (w.alloc (.deferred (some []))).alloc (.loop (rec .ready none)) = W1 := ⟨_, rfl⟩
 have hL1 : W1.heap[w.heap.size + 1]? = some (.loop (rec .ready none)) := by
  rw [← hW1]; have := World.alloc_heap_new (w.alloc (.deferred (some []))) (.loop (rec .ready none)); rwa [World.size_alloc] at this
 have hK1 : W1.heap[w.heap.size]? = some (.deferred (some [])) := by
  rw [← hW1]; exact (Below.heap_alloc _ _ _ (by simp)).trans (World.alloc_heap_new w _)
 have hb1 : Below w.heap.size w W1 := by rw [← hW1]; exact ext_alloc (ext_alloc (Below.refl _ w) _) _
 have hz1 : W1.heap.size = w.heap.size + 2 := by rw [← hW1]; simp
 have hI1 : J (moreZ Z0 w W1) b0 st0 W1 := hJ.keep h0 (RePost.of (hJ.re h0) hb1)
 refine ⟨w.heap.size + 1, [{ target := .collected w.heap.size, args := #[] }], W1, { target := .fn (.func gf) lb, args := #[.func (.yield (w.heap.size + 1)) #[] #[]] }, W1, gf,
  #[.func (.yield (w.heap.size + 1)) #[] #[]] ++ lb, W1, ?_, ?_, ?_, ?_, fun h => (by cases h), ?_⟩
 · rw [← hW1, hrec]; exact run_enterLoop_outer _ _ _ _ _
 · simp only [resolve, hg]
   simp [go_sem]
 · intro f' hf'; exact trivial
 · simp [invoke, go_sem, eg]
 · refine (hT (w.heap.size + 1)
     (fun Z b st W => J Z b st W ∧ (Z (w.heap.size + 1) ∧ Z w.heap.size) ∧ W.heap[w.heap.size + 1]? = some (.loop (rec .ready none)) ∧ W.heap[w.heap.size]? = some (.deferred (some [])))
     (fun Z b st W => Jx Z b st W ∧ (Z (w.heap.size + 1) ∧ Z w.heap.size) ∧ W.heap[w.heap.size + 1]? = some (.loop (rec .done (some .ret))) ∧ W.heap[w.heap.size]? = some (.deferred (some [])))
     (moreZ Z0 w W1) W1 hb1 ⟨fun h => hJ.re h.1, fun {Z b st st' W W'} h hp => ?_, fun h => hJ.zlt h.1⟩ (fun k hk => .inl (hZ k hk)) ?_ ⟨hI1, ⟨.inr ⟨by omega, by omega⟩, .inr ⟨by omega, by omega⟩⟩, hL1, hK1⟩).mono ?_
   · obtain ⟨hj, ⟨z1, z2⟩, hl, hk⟩ := h
     have n1 := hJ.zlt hj _ z1
     have n2 := hJ.zlt hj _ z2
     exact ⟨hJ.keep hj hp, ⟨.inl z1, .inl z2⟩, (hp.only.block _ n1.1 n1.2).trans hl, (hp.only.block _ n2.1 n2.2).trans hk⟩
   · rintro Z b st k t W ⟨hj, ⟨z1, z2⟩, hl, hk⟩ hb ht hcn
     have hlt : w.heap.size + 1 < W.heap.size := (Array.getElem?_eq_some_iff.1 hl).1
     have hy := run_yield (P := Tryz.prog) (args := #[.int .i64 (k : Nat), .string t]) hl (by rw [hrec]; exact hps.symm)
     rw [hrec] at hy
     refine ⟨fn, _, assign, body, hy, roundIn_of_wpIn trivial (wpIn_mono (hround _ k t W) ?_)⟩
     have hl2 : (W.putObj (w.heap.size + 1) (.loop { rec .ready none with state := .busy })).heap[w.heap.size + 1]? = some (.loop { rec .ready none with state := .busy }) := World.putObj_heap_same hlt
     rintro e0 a1 W0' hq
     cases e0
     case' normal => skip
     all_goals first | exact hq.elim | skip
     obtain ⟨hw0, hbody⟩ := hq
     rw [hw0]
     refine ⟨_, run_beginRound hl (by rw [hrec]), wpIn_mono (hbody Z b st _ (hput _ _ _ _ _ _ hj z1 (by omega)) hb ht hcn) ?_⟩
     rintro e a3 W3 hp
     cases e with
     | normal =>
       obtain ⟨hk3, hs3, hi3⟩ := hp
       have hl3 := (hk3.2 _ z1).trans hl2
       have hr := run_endRound (P := Tryz.prog) none hl3
       have e2 : (W3.putObj (w.heap.size + 1) (.loop (rec .ready none))).heap[w.heap.size + 1]? = some (.loop (rec .ready none)) := World.putObj_heap_same (Array.getElem?_eq_some_iff.1 hl3).1
       have ho : ∀ j, j ≠ w.heap.size + 1 → Z j → (W3.putObj (w.heap.size + 1) (.loop (rec .ready none))).heap[j]? = W.heap[j]? := fun j hj hz => (World.putObj_heap_other hj).trans ((hk3.2 j hz).trans (World.putObj_heap_other hj))
       refine ⟨_, _, hr, .inl ⟨rfl, ⟨?_, fun j hz => ?_⟩, hs3, ?_⟩⟩
       · have := hk3.1; simpa using this
       · by_cases e : j = w.heap.size + 1
         · subst e
           rw [hrec] at e2 hl ⊢
           exact e2.trans hl.symm
         · have := ho j e hz
           rw [hrec] at this ⊢
           exact this
       · have h1 := hput _ _ _ _ (w.heap.size + 1) (.loop (rec .ready none)) hi3 z1 (by omega)
         have h2 := (ho w.heap.size (by omega) z2).trans hk
         rw [hrec] at h1 h2 e2 ⊢
         exact ⟨h1, ⟨z1, z2⟩, e2, h2⟩
     | ret =>
       obtain ⟨hk3, hs3, hi3⟩ := hp
       have hl3 := (hk3.2 _ z1).trans hl2
       have hr := run_endRound (P := Tryz.prog) (some .ret) hl3
       have e2 : (W3.putObj (w.heap.size + 1) (.loop (rec .done (some .ret)))).heap[w.heap.size + 1]? = some (.loop (rec .done (some .ret))) := World.putObj_heap_same (Array.getElem?_eq_some_iff.1 hl3).1
       have h1 := hputx _ _ _ _ (w.heap.size + 1) (.loop (rec .done (some .ret))) hi3 z1 (by omega)
       have h2 : (W3.putObj (w.heap.size + 1) (.loop (rec .done (some .ret)))).heap[w.heap.size]? = some (.deferred (some [])) := (World.putObj_heap_other (by omega)).trans ((hk3.2 _ z2).trans ((World.putObj_heap_other (by omega)).trans hk))
       refine ⟨_, _, hr, .inr ⟨rfl, hs3, ?_⟩⟩
       rw [hrec] at h1 h2 e2 ⊢
       exact ⟨h1, ⟨z1, z2⟩, e2, h2⟩
     | exit id => exact hp.elim
     | goto t => exact hp.elim
     | panic ch => exact hp.elim
     | outgrown => exact hp.elim
   · rintro e W2 ⟨⟨v, rfl⟩, Z', _, (⟨hR, hj, ⟨z1, z2⟩, hl, hk⟩ | ⟨hR, Z3, hj, ⟨z1, z2⟩, hl, hk⟩)⟩
     · have hr := run_endLoop (P := Tryz.prog) hl (by rw [hrec]; simp)
       have hq := hdone w.heap.size Z' _ (Nat.le_refl _) hR (hput _ _ _ _ (w.heap.size + 1) (.loop { rec .ready none with state := .exhausted }) hj z1 (by omega)) ((World.putObj_heap_other (by omega)).trans hk)
       rw [hrec] at hr hq
       exact ⟨none, _, hr, hq⟩
     · have hr := run_endLoop (P := Tryz.prog) hl (by rw [hrec]; simp)
       have hq := hstop w.heap.size Z3 _ (Nat.le_refl _) hR (hputx _ _ _ _ (w.heap.size + 1) (.loop { rec .done (some .ret) with state := .exhausted }) hj z1 (by omega)) ((World.putObj_heap_other (by omega)).trans hk)
       rw [hrec] at hr hq
       exact ⟨some .ret, _, hr, hq⟩
end
end Go.Proofs.YtcaiibkgajhohaaGreatDoor
namespace Go.Proofs.YtcaiibkgajhohaaGreatDoor
open Go.RowKit
attribute [local go_sem] Oper.semAt_some
/-- The caller's steps over a list of texts, until one is none, or the caller leaves. -/
def stepsF {β : Type} (js : List JN) (step : β → RdSt → Nat → ByteArray → Bool × β × RdSt) : List Nat → β → RdSt → Bool × β × RdSt
 | [], b, st => (true, b, st)
 | k :: l, b, st => if (txtA js st k).2.bad = true then (true, b, (txtA js st k).2) else bif (step b (txtA js st k).2 k (txtA js st k).1).1 then stepsF js step l (step b (txtA js st k).2 k (txtA js st k).1).2.1 (step b (txtA js st k).2 k (txtA js st k).1).2.2 else step b (txtA js st k).2 k (txtA js st k).1
def stepsA {β : Type} (js : List JN) (ups : List Nat) (step : β → RdSt → Nat → ByteArray → Bool × β × RdSt) (b : β) (st : RdSt) (id : Nat) : Bool × β × RdSt := if (isA js st id 5).1 = true then stepsF js step (kids ups id) b (isA js st id 5).2 else (true, b, (isA js st id 5).2)
section
variable {W0 Wv : World} {vv : Value} {base D T : Nat} {s : PS} {nodes : Int} {tv : Value} {ns : List ANode}
def TxtsRel {β : Type} (cnt : β → Nat) (c0 : Nat) (step : β → RdSt → Nat → ByteArray → Bool × β × RdSt) (J : (Nat → Prop) → β → RdSt → World → Prop) (js : List JN) (rb W0s : Nat) (ms : List Nat) (ao : Option Addr) (Z0 : Nat → Prop) (R : Bool × β × RdSt) (k : Value) (wr : World) : Prop :=
 ∃ (j : Nat) (b : β) (st : RdSt) (Z : Nat → Prop), k = .int .i64 j ∧ j ≤ ms.length ∧ cnt b ≤ c0 + j ∧ J Z b st wr ∧ (∀ k, Z0 k → Z k) ∧ Z rb ∧ wr.heap[rb]? = some (.cells #[ptrV W0s] 67 (0, 0)) ∧
  (∀ (j m : Nat), ms[j]? = some m → ∃ b o, ao = some ⟨b, o, none⟩ ∧ Z b ∧ wr.cell? ⟨b, o + j, none⟩ = some (.int .i64 m)) ∧ stepsF js step (ms.drop j) b st = R
set_option maxRecDepth 100000 in
set_option maxHeartbeats 16000000 in
/-- aasa.reader.texts's closure -/
theorem texts1_any {β : Type} {n : Nat} (cnt : β → Nat) (step : β → RdSt → Nat → ByteArray → Bool × β × RdSt) (hV : PView W0 base D T s nodes tv ns) (hT : ∀ id, (txtA0 s.js id).size ≤ 1100000) (hcnt : ∀ b st k t, cnt (step b st k t).2.1 ≤ cnt b + 1) (b0 : β) (st0 : RdSt) (id rb ib : Nat) (w : World)
    (hr : w.heap[rb]? = some (.cells #[ptrV W0.heap.size] 67 (0, 0))) (hi : w.heap[ib]? = some (.cells #[.int .i64 id] 3 (0, 0))) :
    TextsAt W0 Wv vv D n 95 #[.pointer (some ⟨rb, 0, none⟩), .pointer (some ⟨ib, 0, none⟩)] (fun k => k = rb ∨ k = ib) cnt step b0 st0 (stepsA s.js s.ups step b0 st0 id) w := by
 intro l J Jx Z W hW hJ hZ hY h0
 have X1 := (hW.block _ (heap_lt hr)).trans hr
 have X2 := (hW.block _ (heap_lt hi)).trans hi
 have IS := Lib.hid (ris_any hV st0 id 5 W (hJ.re h0))
 unfold stepsA
 obtain ⟨r, hre⟩ : ∃ r, isA s.js st0 id 5 = r := ⟨_, rfl⟩
 have hI : (isA s.js st0 id 5).1 = true → kindA s.js id = 5 := fun h => by
  unfold isA at h
  simp at h
  exact h.2
 rw [hre] at IS hI ⊢
 have c1 := Lib.cell_of_heap X1 0; have c2 := Lib.cell_of_heap X2 0
 have Z1 := hZ rb (.inl rfl); have Z2 := hZ ib (.inr rfl)
 refine callsIn_wide.2 ?_
 cases hr1 : r.1 with
 | false =>
   rw [hr1] at IS
   rw [if_neg (by decide)]
   have HJ := Lib.hid hJ; have H0 := Lib.hid h0
   obtain ⟨Q, hQ⟩ : ∃ Q, ItPost Z J Jx (true, b0, r.2) = Q := ⟨_, rfl⟩
   rw [hQ]
   have HQ := Lib.hid hQ
   clear hY hJ h0 hI hre hr1 hV hT hr hi hW hQ
   go_enter Tryz.func95, Tryz.ntmps95
   go_wp2_with fail
   refine IS.out.mono ?_
   rintro e w2 ⟨rfl, hp⟩
   have HP := Lib.hid (HJ.out.keep H0.out hp)
   clear hp
   go_wp2
   refine bodyPost_ret (results_none rfl _ _ _) rfl ?_
   rw [← HQ.out]
   exact ⟨⟨_, rfl⟩, _, fun _ h => .inl h, .inl ⟨rfl, HP.out⟩⟩
 | true =>
   have hk := hI hr1
   have hc := (chk_kind s.js id 5 (by decide)).2 (.inl hk)
   rw [hr1] at IS
   rw [if_pos rfl]
   have IT := Lib.hid (fun W (hR : ReA W0 Wv vv W D r.2) => items_p (hR.view hV) id)
   rw [Int.toNat_natCast] at IT
   have TX := Lib.hid (fun st k W (hR : ReA W0 Wv vv W D st) => rtextA_any hV st k W hR)
   have TZ := Lib.hid (fun st k => txtA_size hT st k)
   have hkl := hV.kids_len id
   obtain ⟨ms, hmse⟩ : ∃ ms, kids s.ups id = ms := ⟨_, rfl⟩
   rw [hmse] at IT hkl ⊢
   obtain ⟨R, hR⟩ : ∃ R, stepsF s.js step ms b0 r.2 = R := ⟨_, rfl⟩
   rw [hR]
   have HJ := Lib.hid hJ; have H0 := Lib.hid h0; have HC := Lib.hid hc; have HCN := Lib.hid hcnt; have HR := Lib.hid hR; have HY := Lib.hid hY; have HZ := Lib.hid (And.intro Z1 Z2)
   have HX := Lib.hid (And.intro X1 X2)
   obtain ⟨Q, hQ⟩ : ∃ Q, ItPost Z J Jx R = Q := ⟨_, rfl⟩
   rw [hQ]
   have HQ := Lib.hid hQ
   clear hY hJ h0 hI hre hr1 hV hT hr hi hW hk hc hmse hR hQ Z1 Z2 X1 X2 hZ hcnt
   go_enter Tryz.func95, Tryz.ntmps95
   go_wp2_with fail
   refine IS.out.mono ?_
   rintro e w2 ⟨rfl, hp⟩
   have J2 := Lib.hid (HJ.out.keep H0.out hp)
   have r2 := HJ.out.zlt H0.out rb HZ.out.1
   have i2 := HJ.out.zlt H0.out ib HZ.out.2
   have X1 := (hp.only.block _ r2.1 r2.2).trans HX.out.1
   have X2 := (hp.only.block _ i2.1 i2.2).trans HX.out.2
   obtain ⟨ev, d0, _, _, _, _⟩ := hp.re.cells
   have d1 := Lib.cell_of_heap X1 0; have d2 := Lib.cell_of_heap X2 0
   have P2 := Lib.hid hp
   have XX := Lib.hid (And.intro X1 X2)
   have IT2 := Lib.hid (IT.out w2.drew (hp.re.ext (Below.drew (Below.refl _ w2))))
   clear hp r2 i2 X1 X2
   go_wp2_with fail
   go_region_held3 (fun W' => W'.cell? ⟨rb, 0, none⟩ = some (ptrV W0.heap.size) ∧ W'.cell? ⟨ib, 0, none⟩ = some (.int .i64 id) ∧ W'.cell? ⟨W0.heap.size, 0, none⟩ = some (ptrV D)) (first | assumption | exact ⟨d1, d2, d0⟩) (first
    | (go_at_call 59
       refine IT2.out.mono ?_
       intro e w4 hp
       obtain ⟨v, u, rfl, he, hg, _, hb4⟩ := hp
       obtain rfl := he.none HC.out
       obtain ⟨ao, c, rfl, _, _, hcl⟩ := (hg HC.out).nats_inv
       have HCL := Lib.hid hcl
       have B4 := Lib.hid (show Below w2.heap.size w2 w4 from (Below.drew (Below.refl _ w2)).trans hb4)
       clear he hg hb4 hcl
       have hkk := And.intro ((bcell1 B4.out (heap_lt XX.out.1) 0).trans d1) (And.intro ((bcell1 B4.out (heap_lt XX.out.2) 0).trans d2) ((bcell1 B4.out P2.out.re.lt 0).trans d0))))
   have J4 := Lib.hid (HJ.out.keep J2.out (RePost.of (HJ.out.re J2.out) B4.out))
   have X4 := Lib.hid ((B4.out.block _ (heap_lt XX.out.1)).trans XX.out.1)
   have CL : Hid (∀ (j m : Nat), ms[j]? = some m → ∃ b o, ao = some ⟨b, o, none⟩ ∧ moreZ (moreZ Z W w2) w2 w4 b ∧ w4.cell? ⟨b, o + j, none⟩ = some (.int .i64 m)) := Lib.hid (fun j m hm => by
    obtain ⟨hj, rfl⟩ := List.getElem?_eq_some_iff.1 hm
    obtain ⟨b, o, h1, h2, h3⟩ := HCL.out (by omega)
    exact ⟨b, o, h1, .inr h2, h3 j hj⟩)
   obtain ⟨nn, hnn⟩ : ∃ n, ms.length = n := ⟨_, rfl⟩
   have HN := Lib.hid hnn
   rw [hnn] at hkl ⊢
   clear hkk hnn d0 d1 d2 HCL
   go_wp2_with fail
   go_loopw [24] (TxtsRel cnt (cnt b0) step J s.js rb W0.heap.size ms ao Z R) (fun k _ => nn - (intOf k).toNat)
   case atStart => exact ⟨0, b0, r.2, _, rfl, Nat.zero_le _, Nat.le_refl _, J4.out, fun _ h => .inl (.inl h), .inl (.inl HZ.out.1), X4.out, CL.out, by rw [List.drop_zero]; exact HR.out⟩
   case round =>
    obtain ⟨j, b, st, Zc, rfl, hj, hcn, hJc, hz0, hzr, hx, hcl, hr⟩ := hrel
    rw [HN.out] at hj
    by_cases hlt : j < nn
    · have t1 : decide ((j : Int) < (nn : Int)) = true := decide_eq_true (by omega)
      have t1' : decide (j < nn) = true := decide_eq_true hlt
      have q1 : IntKind.i64.wrap ((j : Int) + 1) = (j : Int) + 1 := IntWalk.i64_in _ (by omega)
      obtain ⟨m, hm⟩ := get_ex ms j (by rw [HN.out]; exact hlt)
      rw [drop_get hm, stepsF] at hr
      obtain ⟨bb, o, rfl, zb, e0⟩ := hcl j m hm
      have c0 := Lib.cell_of_heap hx 0
      have TXm := Lib.hid (TX.out st m wr (HJ.out.re hJc))
      have tz := TZ.out st m
      obtain ⟨tx, htx⟩ : ∃ tx, txtA s.js st m = tx := ⟨_, rfl⟩
      rw [htx] at TXm hr tz
      have HJC := Lib.hid hJc; have HRR := Lib.hid hr; have HCL := Lib.hid hcl; have HX := Lib.hid hx; have HZZ := Lib.hid (And.intro hz0 hzr)
      clear hm htx hr hJc hcl hx hz0 hzr zb
      refine (wpIn_wide (n := n)).1 ?_
      gi_wp2_with fail
      refine ⟨trivial, fun h => (by cases h), (callsIn_wide.2 TXm.out).mono ?_⟩
      rintro e w5 ⟨rfl, hp⟩
      have r5 := HJ.out.zlt HJC.out rb HZZ.out.2
      have X5 := (hp.only.block _ r5.1 r5.2).trans HX.out
      have J5 := Lib.hid (HJ.out.keep HJC.out hp)
      have K5 := Lib.hid (KeepZ.only hp.only (HJ.out.zlt HJC.out))
      have c0 := Lib.cell_of_heap X5 0
      have HX5 := Lib.hid X5
      obtain ⟨ev, e0, e1, e2, _, hev⟩ := hp.re.cells
      clear hp r5 X5
      obtain ⟨tt, ts⟩ := tx
      rcases hev with ⟨hb, rfl⟩ | ⟨hb, bf, rfl⟩
      · obtain ⟨fn, tmps, assign, body, hy, hR⟩ := HY.out _ b ts m tt w5 J5.out hb tz (by have := hkl; omega)
        have hr := HRR.out
        dsimp only at hr
        rw [if_neg (by rw [hb]; decide)] at hr
        have HRS := Lib.hid hr
        have HRD := Lib.hid hR
        clear hr hR hb
        gi_wp2_with fail
        refine ⟨fun h => (by cases h), HRD.out.mono ?_⟩
        rintro e w6 (⟨rfl, hk, hs, hj6⟩ | ⟨rfl, hs, hj6⟩)
        · have hr := HRS.out
          rw [hs, cond_true] at hr
          have RL := Lib.hid (show TxtsRel cnt (cnt b0) step J s.js rb W0.heap.size ms (some ⟨bb, o, none⟩) Z R (.int .i64 ((j : Int) + 1)) w6 from ⟨j + 1, _, _, _, by go_num, by rw [HN.out]; omega, Nat.le_trans (HCN.out b ts m tt) (by omega), hj6, fun k hk => .inl (HZZ.out.1 k hk), .inl HZZ.out.2, (hk.2 _ (.inl HZZ.out.2)).trans HX5.out, fun i q hq => by
           obtain ⟨b1, o1, h1, h2, h3⟩ := HCL.out i q hq
           exact ⟨b1, o1, h1, .inl h2, (cell_keep (hk.2 _ (.inl h2))).trans ((cell_keep (K5.out.2 _ h2)).trans h3)⟩, hr⟩)
          clear hk hs hj6 hr
          gi_wp2
          refine ⟨?_, by simp [intOf]; omega⟩
          have R := RL.out
          first | exact R | ((repeat apply Exists.intro); exact ⟨R, rfl⟩)
        · have hr := HRS.out
          rw [hs, cond_false] at hr
          subst hr
          have HP := Lib.hid (And.intro hs hj6)
          clear hs hj6
          gi_wp2
          refine bodyPost_ret (results_none rfl _ _ _) rfl ?_
          rw [← HQ.out]
          exact ⟨⟨_, rfl⟩, Z, fun _ h => h, .inr ⟨HP.out.1, _, HP.out.2⟩⟩
      · have hr := HRR.out
        dsimp only at hr
        rw [if_pos hb] at hr
        subst hr
        clear hb
        gi_wp2
        refine ⟨fun _ h => (by cases h), ?_⟩
        gi_wp2
        refine bodyPost_ret (results_none rfl _ _ _) rfl ?_
        rw [← HQ.out]
        exact ⟨⟨_, rfl⟩, _, fun k hk => .inl (HZZ.out.1 k hk), .inl ⟨rfl, J5.out⟩⟩
    · have t1 : decide ((j : Int) < (nn : Int)) = false := decide_eq_false (by omega)
      have t1' : decide (j < nn) = false := decide_eq_false hlt
      rw [List.drop_eq_nil_of_le (by rw [HN.out]; omega), stepsF] at hr
      subst hr
      have HJC := Lib.hid hJc; have HZZ := Lib.hid hz0
      clear hJc hz0 hzr hx hcl hlt
      go_wp2
      go_end0
      rw [← HQ.out]
      exact ⟨⟨_, rfl⟩, _, fun k hk => HZZ.out k hk, .inl ⟨rfl, HJC.out⟩⟩
/-- aasa.reader.texts -/
theorem rtexts_any (A : Nat) (id : Int) (w : World) : Calls Tryz.prog 57 #[ptrV A, .int .i64 id] w fun e w' => e = .returned (.func (.func 95) #[] #[.pointer (some ⟨w.heap.size, 0, none⟩), .pointer (some ⟨w.heap.size + 1, 0, none⟩)]) ∧ w' = (w.alloc (.cells #[ptrV A] 67)).alloc (.cells #[.int .i64 id] 3) := by
 go_enter Tryz.func57, Tryz.ntmps57
 go_wp2
 go_ret
 exact ⟨rfl, rfl⟩
end
end Go.Proofs.YtcaiibkgajhohaaGreatDoor
