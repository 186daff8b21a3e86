/- Texts put together. -/
import Derived.Test.YtcaiibkgajhohaaGreatDoorYAsI4
import Derived.Test.YtcaiibkgajhohaaGreatDoorYAsI2
import Derived.Test.YtcaiibkgajhohaaGreatDoorYAsH2f
namespace Go.Proofs.YtcaiibkgajhohaaGreatDoor
open Go.RowKit
section
variable {W0 Wv : World} {vv : Value} {base D T : Nat} {s : PS} {nodes : Int} {tv : Value} {ns : List ANode}
/-- What a detail leaves. -/
def DtPost (W0 Wv : World) (vv : Value) (w : World) (D : Nat) (r : DeA × RdSt) (e : Ending) (w' : World) : Prop := ∃ va vr : Value, e = .returned (.agg #[va, vr]) ∧ va.oneCell' = true ∧ vr.oneCell' = true ∧ Rds (Fresh w w') w' [va, vr] (deD r.1) ∧ RePost W0 Wv vv w D r.2 w'
theorem rd_far {a b w w' : World} {T : Nat → Prop} {v : Value} {d : Dat} (h : Rd (Fresh a b) b v d) (ho : Only T b w') (hT : ∀ k, T k → k < a.heap.size ∨ b.heap.size ≤ k) (hw : w.heap.size ≤ a.heap.size) : Rd (Fresh w w') w' v d :=
 h.mono (fun k hk => ho.block k hk.2 (fun t => by have := hT k t; have h1 := hk.1; have h2 := hk.2; omega)) (fun k hk => ⟨Nat.le_trans hw hk.1, Nat.lt_of_lt_of_le hk.2 ho.size⟩)
set_option maxRecDepth 100000 in
set_option maxHeartbeats 4000000 in
/-- aasa.reader.detail -/
theorem rdetail_any (hV : PView W0 base D T s nodes tv ns) (hS : SEnv W0) (hT : ∀ id, (txtA0 s.js id).size ≤ 1100000) (st : RdSt) (id : Nat) (key : ByteArray) (keyed a b : Bool) (w : World) (h : ReA W0 Wv vv w D st) (hk : key.size ≤ 1100000) :
    Calls Tryz.prog 61 #[ptrV W0.heap.size, .int .i64 id, .string key, .bool keyed, .agg #[.bool a, .bool b]] w (DtPost W0 Wv vv w D (detailA asK s.js s.ups st id key keyed a b)) := by
 have IS := Lib.hid (fun W (hR : ReA W0 Wv vv W D st) => ris_any hV st id 6 W hR)
 unfold detailA
 have hvl := h.only.size
 have H := Lib.hid h
 have BX := Lib.hid (boxes2 w (.bool a) (.bool b) (.slice none 0 0) (.slice none 0 0) 75 35)
 have h0l := h.vars.lt
 have h0w : W0.heap.size ≠ w.heap.size := by omega
 have h0w1 : W0.heap.size ≠ w.heap.size + 1 := by omega
 obtain ⟨r, hr⟩ : ∃ r, isA s.js st id 6 = r := ⟨_, rfl⟩
 rw [hr] at IS ⊢
 cases hr1 : r.1 with
 | false =>
   rw [hr1] at IS
   rw [if_neg (by decide)]
   clear hr hr1 h hV hS hT hk
   go_enter Tryz.func61, Tryz.ntmps61
   go_wp2_with fail
   obtain ⟨Wa, hWa⟩ : ∃ Wa, ((w.alloc (Obj.cells #[Value.bool a, Value.bool b] 75)).alloc (Obj.cells #[.slice none 0 0, .slice none 0 0] 35)) = Wa := ⟨_, rfl⟩
   rw [hWa] at BX ⊢
   have P1 := Lib.hid (RePost.of H.out BX.out.2.2)
   clear hWa
   refine (IS.out Wa P1.out.re).mono ?_
   rintro e w2 ⟨rfl, hp⟩
   have Y6 := oblock hp.only BX.out.2.1 (Ne.symm h0w1)
   have c60 := Lib.cell_of_heap Y6 0; have c61 := Lib.cell_of_heap Y6 1
   have g6 := fun i => Go.Joins.unfrozen_of_block Y6 i
   have HP := Lib.hid (((P1.out.trans hp).set hvl (Nat.le_succ _) 0 (.slice none 0 0)).set hvl (Nat.le_succ _) 1 (.slice none 0 0))
   clear Y6 hp
   go_wp2
   refine bodyPost_ret (v := .agg #[.slice none 0 0, .slice none 0 0]) (by simp [results, Tryz.results61, go_sem, c60, c61]) rfl ⟨_, _, rfl, rfl, rfl, ?_, HP.out⟩
   exact .cons (.list0 _ _ _ (fun _ => rfl)) (.cons (.list0 _ _ _ (fun _ => rfl)) .nil)
 | true =>
   rw [hr1] at IS
   rw [if_pos rfl]
   dsimp only
   have AP := Lib.hid (fun W (hR : ReA W0 Wv vv W D r.2) => rapps_any hV hT r.2 id key keyed W hR hk)
   obtain ⟨p, hp⟩ : ∃ p, appsA s.js s.ups r.2 id key keyed = p := ⟨_, rfl⟩
   rw [hp] at AP ⊢
   have DF := Lib.hid (fun W (hR : ReA W0 Wv vv W D p.2) => rdefaults_any hV p.2 id a b W hR)
   obtain ⟨d, hd⟩ : ∃ d, defaultsA s.js s.ups p.2 id a b = d := ⟨_, rfl⟩
   rw [hd] at DF ⊢
   have RU := Lib.hid (fun W (hR : ReA W0 Wv vv W D d.2) => rrules_any hV hS hT d.2 id d.1.1 d.1.2 W hR)
   obtain ⟨q, hq⟩ : ∃ q, rulesA asK s.js s.ups d.2 id d.1.1 d.1.2 = q := ⟨_, rfl⟩
   rw [hq] at RU ⊢
   clear hr hr1 h hV hS hT hk hp hd hq
   go_enter Tryz.func61, Tryz.ntmps61
   go_wp2_with fail
   obtain ⟨Wa, hWa⟩ : ∃ Wa, ((w.alloc (Obj.cells #[Value.bool a, Value.bool b] 75)).alloc (Obj.cells #[.slice none 0 0, .slice none 0 0] 35)) = Wa := ⟨_, rfl⟩
   rw [hWa] at BX ⊢
   have P1 := Lib.hid (RePost.of H.out BX.out.2.2)
   clear hWa
   refine (IS.out Wa P1.out.re).mono ?_
   rintro e w2 ⟨rfl, hp⟩
   have X5 := Lib.hid (oblock hp.only BX.out.1 (Ne.symm h0w))
   have X6 := Lib.hid (oblock hp.only BX.out.2.1 (Ne.symm h0w1))
   have P2 := Lib.hid (P1.out.trans hp)
   clear hp
   go_wp2_with fail
   refine (AP.out w2 P2.out.re).mono ?_
   intro e w3 hg
   obtain ⟨va, rfl, _, hra, hp⟩ := hg
   obtain ⟨aoA, nA, cA, rfl, _⟩ := hra.list_inv
   have Y5 := oblock hp.only X5.out (Ne.symm h0w)
   have Y6 := Lib.hid (oblock hp.only X6.out (Ne.symm h0w1))
   have P3 := Lib.hid (P2.out.trans hp)
   have RA := Lib.hid hra
   have X7 := heap_alloc_new w3 (.cells #[.slice aoA nA cA, .slice none 0 0] 35)
   have B7 := ext_alloc (Below.refl _ w3) (.cells #[.slice aoA nA cA, .slice none 0 0] 35)
   obtain ⟨W4, hW4⟩ : ∃ W4, w3.alloc (.cells #[.slice aoA nA cA, .slice none 0 0] 35) = W4 := ⟨_, rfl⟩
   obtain ⟨X, hX⟩ : ∃ X, w3.heap.size = X := ⟨_, rfl⟩
   rw [hW4] at X7 B7
   rw [hX] at X7
   have HW4 := Lib.hid hW4
   have HX := Lib.hid hX
   have zw3 := heap_lt Y5
   have Y6 := Lib.hid ((B7.block _ (heap_lt Y6.out)).trans Y6.out)
   have B7 := Lib.hid B7
   have P4 := Lib.hid (P3.out.more B7.out)
   have X7 := Lib.hid X7
   have c50 := Lib.cell_of_heap Y5 0; have c51 := Lib.cell_of_heap Y5 1
   have hX0 : W0.heap.size ≠ X := by have := P3.out.only.size; omega
   have z2 := heap_lt X6.out
   have z4 := heap_lt X7.out
   have z3 := P3.out.only.size
   have hXw : w2.heap.size ≤ X := by have := hp.only.size; omega
   have HX3 := Lib.hid (show X = w3.heap.size from HX.out.symm)
   clear hp hra hW4 hX
   go_wp2_with fail
   rw [HW4.out]
   simp only [HX.out]
   refine (DF.out W4 P4.out.re).mono ?_
   rintro e w5 ⟨rfl, hp⟩
   have Y6 := Lib.hid (oblock hp.only Y6.out (Ne.symm h0w1))
   have X7 := Lib.hid (oblock hp.only X7.out (Ne.symm hX0))
   have O5 := Lib.hid ((Only.of (T := fun k => k = W0.heap.size) B7.out).trans hp.only)
   have P5 := Lib.hid (P4.out.trans hp)
   clear hp c50 c51
   go_wp2_with fail
   refine (RU.out w5 P5.out.re).mono ?_
   intro e w6 hg
   obtain ⟨vr, rfl, _, hrr, hp⟩ := hg
   obtain ⟨aoR, nR, cR, rfl, _⟩ := hrr.list_inv
   have Z6 := oblock hp.only Y6.out (Ne.symm h0w1)
   have Z7 := oblock hp.only X7.out (Ne.symm hX0)
   have z5 := heap_lt X7.out
   have hX6 : X ≠ w.heap.size + 1 := by omega
   have hX6' : w.heap.size + 1 ≠ X := by omega
   have c60 := Lib.cell_of_heap Z6 0; have c61 := Lib.cell_of_heap Z6 1
   have g6 := fun i => Go.Joins.unfrozen_of_block Z6 i
   have c70 := Lib.cell_of_heap Z7 0; have c71 := Lib.cell_of_heap Z7 1
   have g7 := fun i => Go.Joins.unfrozen_of_block Z7 i
   have HP := Lib.hid ((((P5.out.trans hp).set hvl (show w.heap.size ≤ X by omega) 1 (.slice aoR nR cR)).set hvl (Nat.le_succ _) 0 (.slice aoA nA cA)).set hvl (Nat.le_succ _) 1 (.slice aoR nR cR))
   have O6 : Only (fun k => k = W0.heap.size ∨ k = w.heap.size + 1 ∨ k = X) w3 _ := ((((O5.out.trans hp.only).wide (fun _ _ e => .inl e)).set (p := ⟨X, 1, none⟩) (fun _ => .inr (.inr rfl)) (.slice aoR nR cR)).set (p := ⟨w.heap.size + 1, 0, none⟩) (fun _ => .inr (.inl rfl)) (.slice aoA nA cA)).set (p := ⟨w.heap.size + 1, 1, none⟩) (fun _ => .inr (.inl rfl)) (.slice aoR nR cR)
   have O7 : Only (fun k => k = w.heap.size + 1 ∨ k = X) w6 _ := (((Only.refl _ w6).set (p := ⟨X, 1, none⟩) (fun _ => .inr rfl) (.slice aoR nR cR)).set (p := ⟨w.heap.size + 1, 0, none⟩) (fun _ => .inl rfl) (.slice aoA nA cA)).set (p := ⟨w.heap.size + 1, 1, none⟩) (fun _ => .inl rfl) (.slice aoR nR cR)
   have h3 := HX3.out
   have R1 := Lib.hid (rd_far (w := w) RA.out O6 (fun k hk => by rcases hk with e | e | e <;> omega) (by omega))
   have R2 := Lib.hid (rd_far (w := w) hrr O7 (fun k hk => by rcases hk with e | e <;> omega) (by omega))
   clear hp Z6 Z7 hrr O6 O7 h3
   go_wp2
   refine bodyPost_ret (v := .agg #[.slice aoA nA cA, .slice aoR nR cR]) (by simp [results, Tryz.results61, go_sem, c60, c61]) rfl ⟨_, _, rfl, rfl, rfl, .cons R1.out (.cons R2.out .nil), HP.out⟩
end
end Go.Proofs.YtcaiibkgajhohaaGreatDoor
namespace Go.Proofs.YtcaiibkgajhohaaGreatDoor
open Go.RowKit
def marksD (ms : List Nat) : List Deferred := ms.map fun m => { target := .collected m, args := #[] }
def outWs : List Nat → World → World
 | [], w => w
 | m :: ms, w => outWs ms (w.putObj m (.deferred none))
theorem outWs_only (T : Nat → Prop) : ∀ (ms : List Nat) (w : World), (∀ m ∈ ms, T m) → Only T w (outWs ms w)
 | [], w, _ => Only.refl _ w
 | m :: ms, w, h => (putObj_only T w m _ (h m (List.mem_cons_self ..))).trans (outWs_only T ms _ (fun k hk => h k (List.mem_cons_of_mem _ hk)))
theorem leavesMs {F : Fence} {n : Nat} {P : Program} {fn : Func} {tmps : Array Value} {R : Ending → World → Prop} : ∀ (ms : List Nat) (w : World), ms.Nodup → (∀ m ∈ ms, w.heap[m]? = some (.deferred (some []))) → (∃ v, (results fn tmps).run P (outWs ms w) = .ok v (outWs ms w) ∧ R (.returned v) (outWs ms w)) → LeavesInM F n P fn tmps R (marksD ms) .returning w
 | [], _, _, _, h => h
 | m :: ms, w, nd, hm, h => by
   refine ⟨by simp, .inl ⟨m, _, rfl, run_takeDeferred (hm m (List.mem_cons_self ..)), leavesMs ms _ (List.nodup_cons.1 nd).2 (fun k hk => ?_) h⟩⟩
   exact (World.putObj_heap_other (fun e => (List.nodup_cons.1 nd).1 (by rw [← e]; exact hk))).trans (hm k (List.mem_cons_of_mem _ hk))
theorem postMs {F : Fence} {n : Nat} {P : Program} {fn : Func} {R : Ending → World → Prop} {a : Act} {w : World} (ms : List Nat) {v : Value} (hd : a.defers = marksD ms) (nd : ms.Nodup) (hm : ∀ m ∈ ms, w.heap[m]? = some (.deferred (some [])))
    (hr : (results fn a.tmps).run P (outWs ms w) = .ok v (outWs ms w)) (h : R (.returned v) (outWs ms w)) : bodyPostM F n P fn R .ret a w ∧ bodyPostM F n P fn R .normal a w := by
 have := leavesMs (F := F) (n := n) ms w nd hm ⟨v, hr, h⟩
 rw [← hd] at this
 exact ⟨this, this⟩
def stepVa (l : List ByteArray) (st : RdSt) (_ : Nat) (t : ByteArray) : Bool × List ByteArray × RdSt := (true, l ++ [t], st)
theorem vals_steps (js : List JN) : ∀ (ks : List Nat) (l : List ByteArray) (s : RdSt), stepsF js stepVa ks l s = (true, (textsF js ks s l).1, (textsF js ks s l).2)
 | [], _, _ => rfl
 | k :: ks, l, s => by
   rw [stepsF, textsF]
   by_cases h : (txtA js s k).2.bad = true
   · rw [if_pos h, if_pos h]
   · rw [if_neg h, if_neg h]
     exact vals_steps js ks _ _
theorem vals_stepsA (js : List JN) (ups : List Nat) (s : RdSt) (k : Nat) : stepsA js ups stepVa [] s k = (true, (textsA js ups s k).1, (textsA js ups s k).2) := by
 unfold stepsA textsA
 split
 · exact vals_steps js _ _ _
 · rfl
theorem textsF_size {js : List JN} (hT : ∀ id, (txtA0 js id).size ≤ 1100000) : ∀ (ks : List Nat) (s : RdSt) (l : List ByteArray), (∀ t ∈ l, t.size ≤ 1100000) → (∀ t ∈ (textsF js ks s l).1, t.size ≤ 1100000) ∧ (textsF js ks s l).1.length ≤ l.length + ks.length
 | [], _, _, h => ⟨h, Nat.le_refl _⟩
 | k :: ks, s, l, h => by
   rw [textsF]
   split
   · exact ⟨h, Nat.le_add_right _ _⟩
   · have := textsF_size hT ks (txtA js s k).2 (l ++ [(txtA js s k).1]) (fun t ht => by
       rcases List.mem_append.1 ht with ht | ht
       · exact h t ht
       · rw [List.mem_singleton.1 ht]; exact txtA_size hT s k)
     refine ⟨this.1, Nat.le_trans this.2 ?_⟩
     rw [List.length_append, List.length_cons, List.length_cons, List.length_nil]; omega
theorem textsA_size {js : List JN} {ups : List Nat} (hT : ∀ id, (txtA0 js id).size ≤ 1100000) (hk : ∀ k, (kids ups k).length ≤ 100000) (s : RdSt) (k : Nat) : (∀ t ∈ (textsA js ups s k).1, t.size ≤ 1100000) ∧ (textsA js ups s k).1.length ≤ 100000 := by
 unfold textsA
 split
 · have := textsF_size hT (kids ups k) (isA js s k 5).2 [] (fun t ht => by cases ht)
   exact ⟨this.1, Nat.le_trans this.2 (by have := hk k; simp; omega)⟩
 · exact ⟨fun t ht => (by cases ht), Nat.zero_le _⟩
/-- A variable under way, in a box at N; W6: the world behind the box. -/
structure VaSt (W0 Wv : World) (vv : Value) (D : Nat) (W6 : World) (N : Nat) (key : ByteArray) (st : RdSt) (v : Value) (l : List ByteArray) (W : World) : Prop where
 re : ReA W0 Wv vv W D st
 only : Only (fun b => b = W0.heap.size ∨ b = N) W6 W
 box : W.heap[N]? = some (.cells #[.string key, v] 103 (0, 0))
 row : RowF W6.heap.size 9 1 W v l.length (l.map .str)
 low : Wv.heap.size ≤ N
 hi : N < W6.heap.size
section
variable {W0 Wv W6 W w' : World} {vv v : Value} {D N : Nat} {key : ByteArray} {st st' : RdSt} {l : List ByteArray}
theorem VaSt.w0 (h : VaSt W0 Wv vv D W6 N key st v l W) : W0.heap.size < N := Nat.lt_of_lt_of_le h.re.vars.lt h.low
theorem VaSt.call (h : VaSt W0 Wv vv D W6 N key st v l W) (hp : RePost W0 Wv vv W D st' w') : VaSt W0 Wv vv D W6 N key st' v l w' := by
 have h0 := h.w0
 have h1 := h.hi
 exact ⟨hp.re, h.only.trans (hp.only.wide (fun _ _ t => .inl t)), oblock hp.only h.box (by omega), h.row.turn hp.only (fun g hg e => by have := (h.row.rowD.lt g hg).1; omega), h.low, h.hi⟩
theorem VaSt.ext (h : VaSt W0 Wv vv D W6 N key st v l W) (hb : Below W.heap.size W w') : VaSt W0 Wv vv D W6 N key st v l w' := h.call (RePost.of h.re hb)
def VaJ (W0 Wv : World) (vv : Value) (D : Nat) (W6 : World) (N : Nat) (key : ByteArray) (Z : Nat → Prop) (l : List ByteArray) (st : RdSt) (W : World) : Prop := ∃ v, VaSt W0 Wv vv D W6 N key st v l W ∧ ∀ k, Z k → k < W.heap.size ∧ k ≠ W0.heap.size ∧ k ≠ N ∧ v.ownBlock ≠ some k
theorem VaJ.tells : Tells W0 Wv vv D (VaJ W0 Wv vv D W6 N key) := by
 refine ⟨fun h => by obtain ⟨v, h, _⟩ := h; exact h.re, fun {Z b st st' W W'} h hp => ?_, fun h k hk => by obtain ⟨v, _, hz⟩ := h; exact ⟨(hz k hk).1, (hz k hk).2.1⟩⟩
 obtain ⟨v, h, hz⟩ := h
 have h0 := h.w0
 have hx := heap_lt h.box
 have hl := h.row.rowD.lt
 refine ⟨v, h.call hp, fun j hj => ?_⟩
 rcases hj with hj | hj
 · obtain ⟨a, b, c, d⟩ := hz j hj
   exact ⟨Nat.lt_of_lt_of_le a hp.only.size, b, c, d⟩
 · exact ⟨hj.2, by omega, by omega, fun e => by have := (hl j e).2; omega⟩
theorem VaJ.put {Z : Nat → Prop} {m : Nat} (o : Obj) (h : VaJ W0 Wv vv D W6 N key Z l st W) (hZ : Z m) (hm : W6.heap.size ≤ m) : VaJ W0 Wv vv D W6 N key Z l st (W.putObj m o) := by
 obtain ⟨v, h, hz⟩ := h
 have h0 := h.w0
 have h1 := h.hi
 have hlo := h.low
 have ho := putObj_only (fun b => b = m) W m o rfl
 exact ⟨v, ⟨h.re.turn ho (fun k hk => by omega), ⟨h.only.os, h.only.tape, h.only.output, by have := h.only.size; simpa using this, fun k hk hn => (World.putObj_heap_other (by omega)).trans (h.only.block k hk hn)⟩, oblock ho h.box (by omega), h.row.turn ho (fun g hg e => (hz m hZ).2.2.2 (by rw [hg, e])), hlo, h1⟩, fun j hj => by have := hz j hj; simpa using this⟩
/-- A value is appended. -/
theorem VaSt.push {cells : List Value} {t : ByteArray} {o : Obj} {v2 : Value} {w2 : World} (h : VaSt W0 Wv vv D W6 N key st v l W) (h1 : W.ownsRow W6.heap.size 9 1 v l.length cells) (h2 : Rds (fun _ => False) W cells (l.map .str)) (hown : w2.ownsRow W6.heap.size 9 1 v2 (l.length + 1) (cells ++ [.string t])) (hg : (W.alloc o).grownBy w2 v.ownBlock) :
    VaSt W0 Wv vv D W6 N key st v2 (l ++ [t]) (w2.setCell ⟨N, 1, none⟩ v2) ∧ w2.cell? ⟨N, 1, none⟩ = some v ∧ w2.frozen? ⟨N, 1, none⟩ = false := by
 have h0 := h.w0
 have hlo := h.low
 have hi := h.hi
 have ho1 : Only (fun b => False ∨ v.ownBlock = some b) W w2 := (Only.refl (fun _ => False) W).push h1 hg
 have hF : RowF W6.heap.size 9 1 w2 v2 (l.length + 1) (l.map .str ++ [.str t]) := ⟨_, hown, (h2.append (.cons (.str t) .nil)).mono (fun _ e => e.elim) (fun _ e => e)⟩
 have hbx : w2.heap[N]? = some (.cells #[.string key, v] 103 (0, 0)) := oblock ho1 h.box (by rintro (e | e); exact e; have := (h1.lt _ e).1; omega)
 have hs : Only (fun b => b = N) w2 (w2.setCell ⟨N, 1, none⟩ v2) := (Only.refl (fun b => b = N) w2).set (p := ⟨N, 1, none⟩) (fun _ => rfl) v2
 refine ⟨⟨(h.re.turn ho1 (fun j hj => by rcases hj with e | e; exact e.elim; have := (h1.lt j e).1; omega)).set hlo 1 v2, ?_, ?_, ?_, hlo, hi⟩, Lib.cell_of_heap hbx 1, Go.Joins.unfrozen_of_block hbx 1⟩
 · refine (((h.only.wide (T' := fun b => (b = W0.heap.size ∨ b = N) ∨ v.ownBlock = some b) (fun _ _ e => .inl e)).trans (ho1.wide (fun _ _ e => by rcases e with e | e; exact e.elim; exact .inr e))).trans (hs.wide (fun _ _ e => .inl (.inr e)))).wide (fun b hb e => ?_)
   rcases e with e | e
   · exact e
   · have := (h1.lt b e).1; omega
 · have := Go.Joins.block_setCell hbx (i := 1) v2
   exact this
 · have := hF.turn hs (fun g hgg e => by have := (hown.lt g hgg).1; omega)
   rw [List.length_append, List.map_append]
   exact this
end
end Go.Proofs.YtcaiibkgajhohaaGreatDoor
