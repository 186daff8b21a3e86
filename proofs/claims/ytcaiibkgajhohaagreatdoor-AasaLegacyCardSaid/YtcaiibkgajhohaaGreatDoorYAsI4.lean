/- Texts put together. -/
import Derived.Test.YtcaiibkgajhohaaGreatDoorYAsI3
import Derived.Maps.OwnIn
namespace Go.Proofs.YtcaiibkgajhohaaGreatDoor
open Go.RowKit
attribute [local go_sem] Oper.semAt_some
def stepPa (l : List RuA) (st : RdSt) (_ : Nat) (t : ByteArray) : Bool × List RuA × RdSt := match legacyA asK t with
 | none => (false, [], st.fail)
 | some x => (true, l ++ [x], st)
theorem paths_steps (js : List JN) : ∀ (ks : List Nat) (l : List RuA) (s : RdSt), ((bif (stepsF js stepPa ks l s).1 then (stepsF js stepPa ks l s).2.1 else []), (stepsF js stepPa ks l s).2.2) = pathF asK js ks s l
 | [], _, _ => rfl
 | k :: ks, l, s => by
   rw [stepsF, pathF]
   by_cases h : (txtA js s k).2.bad = true
   · rw [if_pos h, if_pos h]; rfl
   · rw [if_neg h, if_neg h]
     unfold stepPa
     cases hb : legacyA asK (txtA js s k).1 with
     | none => rfl
     | some x => exact paths_steps js ks _ _
theorem stepPa_len (b : List RuA) (st : RdSt) (k : Nat) (t : ByteArray) : (stepPa b st k t).2.1.length ≤ b.length + 1 := by
 unfold stepPa
 cases legacyA asK t with
 | none => exact Nat.zero_le _
 | some x => simp
theorem wpListIn_app1At {F : Fence} {nF : Nat} {P : Program} (w : World) {ops : Array Oper} {rest : List Oper} {o : Oper} {a : Act} {Q : Exit → Act → World → Prop} (arr : Array Value) (te : TypeId) (hgd : o.guard = none) (s x : Operand) (t : TypeId)
    (ho : o.op = .call { callee := .builtin .append, args := #[s, x], argTypes := #[t, t] })
    (base : Nat) {e : TypeId} {z : Value} {size bytes : Nat} (T : ElemTy P t e size bytes z)
    (v : Value) (n : Nat) (xs : List Value) (hs : a.eval s = v) (hown : w.ownsRow base e size v n xs) (hx : a.eval x = .slice (some ⟨w.heap.size, 0, none⟩) 1 1)
    (hsz : arr.size = size) (h1 : ∀ u ∈ arr.toList, u.oneCell' = true)
    (h63 : n + 1 ≤ maxLen) (hbytes : (n + 1) * bytes ≤ 140737488355328) (hbase : base ≤ w.heap.size)
    (hK : ∀ v' w', w'.ownsRow base e size v' (n + 1) (xs ++ arr.toList) → (w.alloc (.cells arr te)).grownBy w' v.ownBlock → (v.ownBlock = v'.ownBlock ∨ v'.ownBlock = some (w.heap.size + 1)) → wpListIn F nF P ops Q rest (a.put o.dst v') w') : wpListIn F nF P ops Q (o :: rest) a (w.alloc (.cells arr te)) := by
 obtain ⟨i, hi, hz, hsz2, hby⟩ := info_parts T.hi
 exact wpListIn_append_own_at _ hgd s x t ho base e i z size bytes T.ht hi hz hsz2 hby T.hz T.h0 v n xs hs (hown.alloc _) ⟨w.heap.size, 0, none⟩ 1 1 arr.toList hx (by simp [hsz]) (World.news_of_block (heap_alloc_new w _)) h1 h63 hbytes (by simp; omega) (fun v' w' a1 a2 _ a3 => hK v' w' a1 a2 (by simpa [eq_comm] using a3))
theorem lg_cases (t : ByteArray) : (lgE t = [] ∧ legacyA asK t = some (lgA t)) ∨ (lgE t ≠ [] ∧ legacyA asK t = none) := by
 cases h : globE (notR t) with
 | nil => exact .inl ⟨(lg_ok h).1, by unfold lgA; rw [(lg_ok h).2]; rfl⟩
 | cons x c => exact .inr ⟨by rw [(lg_no h).1]; simp, (lg_no h).2⟩
theorem lgA_rds {S : Nat → Prop} {w : World} (t : ByteArray) : Rds S w (ruC (lgA t) (.slice none 0 0)).toList (ruD (lgA t)) := by
 have hi : (lgA t).items = [] := by
  unfold lgA legacyA
  split <;> rfl
 have hd : ruD (lgA t) = [.str (lgA t).path, .str (lgA t).query, .str (lgA t).frag, .bool (lgA t).hasPath, .bool (lgA t).hasQuery, .bool (lgA t).hasFrag, .list 3 [], .bool (lgA t).exclude, .bool (lgA t).fold, .bool (lgA t).decoded] := by unfold ruD; rw [hi]; rfl
 rw [hd]
 exact .cons (.str _) (.cons (.str _) (.cons (.str _) (.cons (.bool _) (.cons (.bool _) (.cons (.bool _) (.cons (.list0 _ _ _ (fun _ => rfl)) (.cons (.bool _) (.cons (.bool _) (.cons (.bool _) .nil)))))))))
theorem elRu : ElemTy Tryz.prog 33 40 10 88 (.agg (ruC ru0 (.slice none 0 0))) := ⟨Tryz.underlying33, by kernel_rfl, rfl, by decide⟩
theorem GSt.higher {W0 Wv w wr : World} {vv : Value} {D rb X B B' k : Nat} {ty e : TypeId} {st : RdSt} (h : GSt W0 Wv vv D w rb X B ty e k none st (.slice none 0 0) 0 [] wr) (h1 : rb < B') (h2 : X < B') : GSt W0 Wv vv D w rb X B' ty e k none st (.slice none 0 0) 0 [] wr :=
 ⟨h.re, h.only, h.rbox, h.box, RowD.nil, h.low, h.rlow, h.xlow, h1, h2, h.rx, fun m hm => by cases hm⟩
section
variable {W0 Wv : World} {vv : Value} {base D T : Nat} {s : PS} {nodes : Int} {tv : Value} {ns : List ANode}
abbrev USt (W0 Wv : World) (vv : Value) (D : Nat) (w : World) (B : Nat) (M : Option Nat) (st : RdSt) (v : Value) (l : List RuA) (wr : World) : Prop :=
 GSt W0 Wv vv D w w.heap.size (w.heap.size + 2) B 33 40 10 M st v l.length (l.flatMap ruD) wr
theorem USt.snoc {w wr : World} {B : Nat} {M : Option Nat} {st : RdSt} {v : Value} {l : List RuA} {x : RuA} (h : GSt W0 Wv vv D w w.heap.size (w.heap.size + 2) B 33 40 10 M st v (l.length + 1) (l.flatMap ruD ++ ruD x) wr) : USt W0 Wv vv D w B M st v (l ++ [x]) wr := by
 show GSt _ _ _ _ _ _ _ _ _ _ _ _ _ _ (l ++ [x]).length ((l ++ [x]).flatMap ruD) _
 rw [List.length_append, List.flatMap_append]
 simpa using h
def SKeep (W0s b0 : Nat) (a b : Bool) (W' : World) : Prop := W'.cell? ⟨b0, 0, none⟩ = some (ptrV W0s) ∧ W'.cell? ⟨b0 + 1, 0, none⟩ = some (.bool a) ∧ W'.cell? ⟨b0 + 1, 1, none⟩ = some (.bool b)
theorem skeep_of {W0s b0 : Nat} {a b : Bool} {w : World} {T1 : TypeId} (h1 : w.heap[b0]? = some (.cells #[ptrV W0s] T1 (0, 0))) (h2 : w.heap[b0 + 1]? = some (.cells #[.bool a, .bool b] 75 (0, 0))) : SKeep W0s b0 a b w := ⟨Lib.cell_of_heap h1 0, Lib.cell_of_heap h2 0, Lib.cell_of_heap h2 1⟩
theorem keep_alloc {W0s b0 : Nat} {a b : Bool} {w : World} {T1 : TypeId} (h1 : w.heap[b0]? = some (.cells #[ptrV W0s] T1 (0, 0))) (h2 : w.heap[b0 + 1]? = some (.cells #[.bool a, .bool b] 75 (0, 0))) : SKeep W0s b0 a b w ∧ ∀ o, SKeep W0s b0 a b (w.alloc o) :=
 ⟨skeep_of h1 h2, fun o => skeep_of ((Below.heap_alloc _ o _ (heap_lt h1)).trans h1) ((Below.heap_alloc _ o _ (heap_lt h2)).trans h2)⟩
theorem keep_grown {w wr w2 : World} {B : Nat} {M : Option Nat} {st : RdSt} {v : Value} {n : Nat} {ds : List Dat} {a b : Bool} {o : Obj} (h : GSt W0 Wv vv D w w.heap.size (w.heap.size + 2) B 33 40 10 M st v n ds wr) (h2 : wr.heap[w.heap.size + 1]? = some (.cells #[.bool a, .bool b] 75 (0, 0))) (hg : (wr.alloc o).grownBy w2 v.ownBlock) (hB : ¬ (w.heap.size + 1 = w.heap.size + 2 ∨ B ≤ w.heap.size + 1)) : SKeep W0.heap.size w.heap.size a b w2 ∧ ∀ u, SKeep W0.heap.size w.heap.size a b (w2.setCell ⟨w.heap.size + 2, 0, none⟩ u) := by
 have hv := h.row.lt
 have ho := (Only.refl (fun _ => False) wr).push (own_of h.row) hg
 have e1 := oblock ho h.rbox (by rintro (t | t); exact t; have := (hv _ t).1; omega)
 have e2 := oblock ho h2 (by rintro (t | t); exact t; have := (hv _ t).1; omega)
 exact ⟨skeep_of e1 e2, fun u => skeep_of ((Below.heap_setCell _ ⟨w.heap.size + 2, 0, none⟩ u _ (show w.heap.size ≠ w.heap.size + 2 by omega)).trans e1) ((Below.heap_setCell _ ⟨w.heap.size + 2, 0, none⟩ u _ (show w.heap.size + 1 ≠ w.heap.size + 2 by omega)).trans e2)⟩
theorem box3 (w : World) (a b c : Array Value) (Ta Tb Tc : TypeId) : ∃ W, ((w.alloc (.cells a Ta)).alloc (.cells b Tb)).alloc (.cells c Tc) = W ∧ W.heap[w.heap.size]? = some (.cells a Ta (0, 0)) ∧ W.heap[w.heap.size + 1]? = some (.cells b Tb (0, 0)) ∧ W.heap[w.heap.size + 2]? = some (.cells c Tc (0, 0)) ∧ Below w.heap.size w W ∧ W.heap.size = w.heap.size + 3 := by
 have h := boxesN w a b Ta Tb
 have h3 := heap_alloc_new ((w.alloc (.cells a Ta)).alloc (.cells b Tb)) (.cells c Tc)
 have hb := ext_alloc (Below.refl _ ((w.alloc (.cells a Ta)).alloc (.cells b Tb))) (.cells c Tc)
 refine ⟨_, rfl, (hb.block _ (heap_lt h.1)).trans h.1, (hb.block _ (heap_lt h.2.1)).trans h.2.1, by simpa using h3, ext_alloc h.2.2 _, by simp⟩
theorem few_good {s : RdSt} {n most : Nat} (h : (fewA s n most).1 = true) : (fewA s n most).2.bad = false := by
 unfold fewA at h ⊢
 simpa using h
def UJ (W0 Wv : World) (vv : Value) (D : Nat) (w : World) (Z : Nat → Prop) (l : List RuA) (st : RdSt) (W : World) : Prop := GJ W0 Wv vv D w w.heap.size (w.heap.size + 2) (w.heap.size + 3) 33 40 10 l.length (l.flatMap ruD) Z st W
theorem UJ.tells (w : World) : Tells W0 Wv vv D (UJ W0 Wv vv D w) := ⟨fun h => by obtain ⟨v, ⟨hg, _⟩, _⟩ := h; exact hg.re, fun h hp => GJ.keep h hp, fun h k hk => by obtain ⟨v, _, hz⟩ := h; exact ⟨(hz k hk).1, (hz k hk).2.1⟩⟩
def CpRel (W0 Wv : World) (vv : Value) (js : List JN) (ups : List Nat) (w w4 : World) (D : Nat) (a b : Bool) (ms : List Nat) (R : List RuA × RdSt) (k : Value) (wr : World) : Prop :=
 ∃ (j : Nat) (s1 : RdSt) (acc : List RuA) (v : Value), k = .int .i64 j ∧ j ≤ ms.length ∧ acc.length ≤ j ∧ USt W0 Wv vv D w w4.heap.size none s1 v acc wr ∧ wr.heap[w.heap.size + 1]? = some (.cells #[.bool a, .bool b] 75 (0, 0)) ∧ Only (fun b => b = W0.heap.size ∨ b = w.heap.size + 2) w4 wr ∧ compF asK js ups (ms.drop j) s1 a b acc = R
set_option maxRecDepth 100000 in
set_option maxHeartbeats 16000000 in
/-- aasa.reader.rules -/
theorem rrules_any (hV : PView W0 base D T s nodes tv ns) (hS : SEnv W0) (hT : ∀ id, (txtA0 s.js id).size ≤ 1100000) (st : RdSt) (id : Nat) (a b : Bool) (w : World) (h : ReA W0 Wv vv w D st) :
    Calls Tryz.prog 100 #[ptrV W0.heap.size, .int .i64 id, .agg #[.bool a, .bool b]] w (GaPost W0 Wv vv w D 10 ((rulesA asK s.js s.ups st id a b).1.flatMap ruD) (rulesA asK s.js s.ups st id a b).2) := by
 obtain ⟨Wa, hWa, x0, x1, x2, hbw, hza⟩ := box3 w #[ptrV W0.heap.size] #[.bool a, .bool b] #[.slice none 0 0] 67 75 33
 have hvl := h.only.size
 have h0l := h.vars.lt
 have S0 : USt W0 Wv vv D w (w.heap.size + 3) none st (.slice none 0 0) [] Wa := ⟨h.ext hbw, Only.of hbw, x0, x2, RowD.nil, hvl, Nat.le_refl _, by omega, by omega, by omega, by omega, fun m hm => by cases hm⟩
 refine callsIn_wide.1 (callsIn_of_wp_marks (n := 3) Tryz.func100 rfl trivial ?_ rfl)
 simp only [Tryz.ntmps100, List.size_toArray, List.length_cons, List.length_nil, Nat.reduceAdd, Nat.reduceSub, Array.replicate_succ, Array.replicate_zero, List.push_toArray, List.append_toArray, List.nil_append, List.cons_append]
 refine wpIn_wide.2 ?_
 obtain ⟨RR, hRR⟩ : ∃ RR, rulesA asK s.js s.ups st id a b = RR := ⟨_, rfl⟩
 rw [hRR]
 unfold rulesA at hRR
 have ME := Lib.hid (fun st key W (hR : ReA W0 Wv vv W D st) => rmember_any hV st id key W hR)
 have IT := Lib.hid (fun st (k : Nat) W (hR : ReA W0 Wv vv W D st) => items_p (hR.view hV) k)
 have IS := Lib.hid (fun st k W (hR : ReA W0 Wv vv W D st) => ris_any hV st k 5 W hR)
 have FW := Lib.hid (fun st (k : Nat) ao n c W (hR : ReA W0 Wv vv W D st) => rfew_any hV st k ao n c 512 W hR)
 have HKL := Lib.hid (fun k => hV.kids_len k)
 obtain ⟨me, hme⟩ : ∃ me, memA s.js s.ups st id kCmp = me := ⟨_, rfl⟩
 have MEc := ME.out st kCmp Wa S0.re
 rw [hme] at hRR MEc
 have MEc := Lib.hid MEc
 have c4 := S0.rcell
 have HS := Lib.hid S0
 have HX1 := Lib.hid x1
 cases me with
 | some k =>
   dsimp only at hRR
   unfold memV at MEc
   have CM := Lib.hid (fun st m W (hR : ReA W0 Wv vv W D st) => rcomponent_any hV hS hT st m a b W hR)
   clear S0 x0 x1 x2 hme h
   go_wp2_with fail
   clear hWa
   refine MEc.out.mono ?_
   rintro e w2 ⟨rfl, hb2⟩
   have HS := Lib.hid (HS.out.ext hb2)
   have HX1 := Lib.hid ((hb2.block _ (heap_lt HX1.out)).trans HX1.out)
   have c4 := HS.out.rcell
   obtain ⟨ev, e0, e1, e2, _, hev⟩ := HS.out.re.cells
   have HX2 := Lib.hid (heap_lt HS.out.box)
   have ITk := Lib.hid (IT.out st k w2 HS.out.re)
   clear hb2 hev
   go_wp2_with fail
   refine ITk.out.mono ?_
   intro e w3 hp
   obtain ⟨vl, u, rfl, he, hg, hgb, hb3⟩ := hp
   have HS := Lib.hid (HS.out.ext hb3)
   have HX1 := Lib.hid ((hb3.block _ (heap_lt HX1.out)).trans HX1.out)
   have c4 := HS.out.rcell
   have ISk := Lib.hid (IS.out st k w3 HS.out.re)
   obtain ⟨r, hr⟩ : ∃ r, isA s.js st k 5 = r := ⟨_, rfl⟩
   have hI : (isA s.js st k 5).1 = true → kindA s.js k = 5 := fun h => by
    unfold isA at h
    simp at h
    exact h.2
   unfold listA at hRR
   rw [hr] at ISk hI hRR
   have B3 := Lib.hid hb3
   cases hr1 : r.1 with
   | false =>
     rw [hr1] at ISk hRR
     have HRR := Lib.hid (show RR = ([], r.2) from hRR.symm)
     clear hb3 he hg hgb hI hr hr1 hRR e0 e1 e2
     go_wp2_with fail
     refine ISk.out.mono ?_
     rintro e w4 ⟨rfl, hp⟩
     have hS := HS.out.call hp
     have x8 := hS.cell
     obtain ⟨W', hw, hc, hm, hpp⟩ := hS.none_.end0 (.inl rfl)
     have x8c := x8.1; have x8f := x8.2
     obtain ⟨vq, hpp, hc⟩ : ∃ vq, GaPost W0 Wv vv w D 10 (RR.1.flatMap ruD) RR.2 (.returned vq) W' ∧ W'.cell? ⟨w.heap.size + 2, 0, none⟩ = some vq := ⟨_, by rw [HRR.out]; exact hpp, hc⟩
     have HP := Lib.hid (And.intro hm (And.intro hw hpp))
     clear hp hS x8 hw hm hpp
     go_wp2
     exact postM none rfl HP.out.1 HP.out.2.1 (by simp [results, Tryz.results100, go_sem, hc]) HP.out.2.2
   | true =>
     have hk := hI hr1
     have hc := (chk_kind s.js k 5 (by decide)).2 (.inl hk)
     obtain rfl := he.none hc
     obtain ⟨ao, c, rfl, _, _, hcl⟩ := (hg hc).nats_inv
     rw [Int.toNat_natCast] at hcl ⊢
     rw [hr1, if_pos rfl] at hRR
     rw [hr1] at ISk
     have hkl := HKL.out k
     obtain ⟨ms, hms⟩ : ∃ ms, kids s.ups k = ms := ⟨_, rfl⟩
     rw [hms] at hRR hkl hcl ⊢
     have FWk := Lib.hid (fun W hR => FW.out r.2 k ao ms.length c W hR)
     obtain ⟨q, hq⟩ : ∃ q, fewA r.2 ms.length 512 = q := ⟨_, rfl⟩
     rw [hq] at hRR
     rw [hq] at FWk
     have CL : Hid (∀ (j m : Nat), ms[j]? = some m → ∃ b o, ao = some ⟨b, o, none⟩ ∧ w2.heap.size ≤ b ∧ b < w3.heap.size ∧ w3.cell? ⟨b, o + j, none⟩ = some (.int .i64 m)) := Lib.hid (fun j m hm => by
      obtain ⟨hj, rfl⟩ := List.getElem?_eq_some_iff.1 hm
      obtain ⟨b, o, h1, h2, h3⟩ := hcl (by omega)
      exact ⟨b, o, h1, h2.1, h2.2, h3 j hj⟩)
     obtain ⟨nn, hnn⟩ : ∃ n, ms.length = n := ⟨_, rfl⟩
     have HN := Lib.hid hnn
     rw [hnn] at FWk hkl ⊢
     clear hb3 he hg hgb hI hr hr1 e0 e1 e2 hk hc hcl hms hnn hq
     go_wp2_with fail
     refine ISk.out.mono ?_
     rintro e w4 ⟨rfl, hp⟩
     have HS := Lib.hid (HS.out.call hp)
     have HX1 := Lib.hid (oblock hp.only HX1.out (by omega))
     have B4 := Lib.hid hp.only
     have c4 := HS.out.rcell
     have FW4 := Lib.hid (FWk.out w4 HS.out.re)
     clear hp
     go_wp2_with fail
     refine FW4.out.mono ?_
     rintro e w5 ⟨rfl, hp⟩
     have HS := Lib.hid (HS.out.call hp)
     have HX1 := Lib.hid (oblock hp.only HX1.out (by omega))
     have B5 := Lib.hid (B4.out.trans hp.only)
     have c4 := HS.out.rcell
     have x8 := HS.out.cell
     have x8c := x8.1; have x8f := x8.2
     clear hp x8
     cases hq1 : q.1 with
     | false =>
       rw [hq1, if_neg (by decide)] at hRR
       have HRR := Lib.hid (show RR = ([], q.2) from hRR.symm)
       obtain ⟨W', hw, hc, hm, hpp⟩ := HS.out.none_.end0 (.inl rfl)
       obtain ⟨vq, hpp, hc⟩ : ∃ vq, GaPost W0 Wv vv w D 10 (RR.1.flatMap ruD) RR.2 (.returned vq) W' ∧ W'.cell? ⟨w.heap.size + 2, 0, none⟩ = some vq := ⟨_, by rw [HRR.out]; exact hpp, hc⟩
       have HP := Lib.hid (And.intro hm (And.intro hw hpp))
       clear hw hm hpp hq1 hRR
       go_wp2
       exact postM none rfl HP.out.1 HP.out.2.1 (by simp [results, Tryz.results100, go_sem, hc]) HP.out.2.2
     | true =>
       rw [hq1, if_pos rfl] at hRR
       have HRR := Lib.hid hRR
       clear hq1 hRR x8c x8f
       go_wp2_with fail
       go_loopw [50] (CpRel W0 Wv vv s.js s.ups w w5 D a b ms RR) (fun k _ => nn - (intOf k).toNat)
       case atStart => exact ⟨0, q.2, [], _, rfl, Nat.zero_le _, Nat.zero_le _, HS.out.higher (heap_lt HS.out.rbox) (heap_lt HS.out.box), HX1.out, Only.refl _ _, by rw [List.drop_zero]; exact HRR.out⟩
       case round =>
        obtain ⟨j, s1, acc, v, rfl, hj, hal, hs, hx, ho, hr⟩ := hrel
        rw [HN.out] at hj
        by_cases hlt : j < nn
        · have t1 : decide ((j : Int) < (nn : Int)) = true := decide_eq_true (by omega)
          have t1' : decide (j < nn) = true := decide_eq_true hlt
          have q1 : IntKind.i64.wrap ((j : Int) + 1) = (j : Int) + 1 := IntWalk.i64_in _ (by omega)
          obtain ⟨m, hm⟩ := get_ex ms j (by rw [HN.out]; exact hlt)
          rw [drop_get hm, compF] at hr
          obtain ⟨bb, o, rfl, h1, h2, h3⟩ := CL.out j m hm
          have z0 := HS.out.w0
          have z1 := HX2.out
          have e0 : wr.cell? ⟨bb, o + j, none⟩ = some (.int .i64 m) := (ho.cellX (Nat.lt_of_lt_of_le h2 B5.out.size) (by omega) (o + j)).trans ((B5.out.cellX h2 (by omega) (o + j)).trans h3)
          have CMm := Lib.hid (CM.out s1 m)
          obtain ⟨cm, hcm⟩ : ∃ cm, componentA asK s.js s.ups s1 m a b = cm := ⟨_, rfl⟩
          rw [hcm] at CMm hr
          obtain ⟨i0, hi0, hz0, hz1, hz2⟩ := info_parts elRu.hi
          have HS1 := Lib.hid (hs.ext (Below.drew (Below.refl _ wr))); have HO := Lib.hid ho.drew; have HRR1 := Lib.hid hr
          have cX := hs.cell.1
          have cR := hs.rcell
          have f0 := Lib.cell_of_heap hx 0; have f1 := Lib.cell_of_heap hx 1
          have HXF := Lib.hid hx
          have hvl : acc.length + 1 ≤ 100001 := by omega
          have HO5 := Lib.hid ho.size
          have hXF2 : Hid (¬ (w.heap.size + 1 = w.heap.size + 2 ∨ w5.heap.size ≤ w.heap.size + 1)) := Lib.hid (by have := heap_lt HX1.out; omega)
          have hXF := Lib.hid (show w.heap.size + 1 ≠ W0.heap.size by omega)
          have zX : w.heap.size + 2 < wr.heap.size := heap_lt hs.box
          clear hcm hr hs ho hm h1 h2 h3 hx z0 z1
          go_wp2_with fail
          refine wp_region_noPanic ?_
          refine wp_region_held_drew (S := SKeep W0.heap.size w.heap.size a b) (by kernel_rfl) ⟨cR, f0, f1⟩ (fun hHeld => ?_)
          refine wpAnyH_take (i := 1) (oi := _) (v := ptrV W0.heap.size) rfl (by kernel_rfl) (by kernel_rfl) (by kernel_rfl) (fun _ _ _ h => h) (Or.inl ⟨by rfl, ?_⟩) hHeld ?_
          · intro w hSw; obtain ⟨y0, y1, y2⟩ := hSw; go_simp
          try simp only [Act.put, List.setIfInBounds_toArray, List.set_cons_zero, List.set_cons_succ, List.getElem_toArray, List.getElem_cons_zero, List.getElem_cons_succ]
          refine wpAnyH_take (i := 2) (oi := _) (v := .int .i64 (m : Nat)) rfl (by kernel_rfl) (by kernel_rfl) (by kernel_rfl) (fun _ _ _ h => h) (Or.inl ⟨by rfl, ?_⟩) hHeld ?_
          · intro w hSw; obtain ⟨y0, y1, y2⟩ := hSw; go_simp
          try simp only [Act.put, List.setIfInBounds_toArray, List.set_cons_zero, List.set_cons_succ, List.getElem_toArray, List.getElem_cons_zero, List.getElem_cons_succ]
          refine wpAnyH_take (i := 3) (oi := _) (v := .agg #[.bool a, .bool b]) rfl (by kernel_rfl) (by kernel_rfl) (by kernel_rfl) (fun _ _ _ h => h) (Or.inl ⟨by rfl, ?_⟩) hHeld ?_
          · intro w hSw; obtain ⟨y0, y1, y2⟩ := hSw; go_simp
          try simp only [Act.put, List.setIfInBounds_toArray, List.set_cons_zero, List.set_cons_succ, List.getElem_toArray, List.getElem_cons_zero, List.getElem_cons_succ]
          refine wpAnyH_ready (rs := [0, 4]) (by kernel_rfl) (by simp) ?_
          refine (AllReadyH.cons (o := _) rfl (fun K hK => ?_) (AllReadyH.cons (o := _) rfl (fun K hK => ?_) AllReadyH.nil))
          focus (
           go_simp
           refine hK.out _ _ hHeld (fun hHeld => ?_)
           clear hK K
           try simp only [Act.put, List.setIfInBounds_toArray, List.set_cons_zero, List.set_cons_succ, List.getElem_toArray, List.getElem_cons_zero, List.getElem_cons_succ]
           refine wpAnyH_ready (rs := [4]) (by kernel_rfl) (by simp) ?_
           refine (AllReadyH.cons (o := _) rfl (fun K hK => ?_) AllReadyH.nil))
          all_goals (
           go_simp
           go_at_call 130
           refine (CMm.out _ HS1.out.re).mono ?_
           intro e w6 hp6
           obtain ⟨v6, rfl, ho6, hr6, hp6⟩ := hp6
           have HO := Lib.hid (HO.out.trans (hp6.only.wide (fun _ _ h => .inl h)))
           have HN6 := Lib.hid (hr6.fresh (B := w5.heap.size) (v := v) HO5.out (fun g hg => (HS1.out.row.lt g hg).2))
           have HS1 := Lib.hid (HS1.out.call hp6)
           have HXF := Lib.hid (oblock hp6.only HXF.out hXF.out)
           have cX := HS1.out.cell.1
           have zX := heap_lt HS1.out.box
           have HKK := Lib.hid (keep_alloc HS1.out.rbox HXF.out)
           have HO6 := Lib.hid ho6
           clear hp6 hr6 ho6
           simp only [ruC]
           go_wp2_with fail
           refine hK.out _ _ HKK.out.1 (fun hHeld => ?_)
           clear hK K
           try simp only [Act.put, List.setIfInBounds_toArray, List.set_cons_zero, List.set_cons_succ, List.getElem_toArray, List.getElem_cons_zero, List.getElem_cons_succ])
          rotate_left
          focus (
           refine wpAnyH_ready (rs := [0, 5]) (by kernel_rfl) (by simp) ?_
           refine (AllReadyH.cons (o := _) rfl (fun K hK => ?_) (AllReadyH.cons (o := _) rfl (fun K hK => ?_) AllReadyH.nil)))
          focus (
           go_simp
           refine hK.out _ _ hHeld (fun hHeld => ?_)
           clear hK K
           try simp only [Act.put, List.setIfInBounds_toArray, List.set_cons_zero, List.set_cons_succ, List.getElem_toArray, List.getElem_cons_zero, List.getElem_cons_succ]
           refine wpAnyH_ready (rs := [5]) (by kernel_rfl) (by simp) ?_
           refine (AllReadyH.cons (o := _) rfl (fun K hK => ?_) AllReadyH.nil))
          rotate_left 2
          focus (
           refine wpAnyH_ready (rs := [5]) (by kernel_rfl) (by simp) ?_
           refine (AllReadyH.cons (o := _) rfl (fun K hK => ?_) AllReadyH.nil))
          all_goals (
           go_simp
           refine hK.out _ _ (HKK.out.2 _) (fun hHeld => ?_)
           clear hK K
           try simp only [Act.put, List.setIfInBounds_toArray, List.set_cons_zero, List.set_cons_succ, List.getElem_toArray, List.getElem_cons_zero, List.getElem_cons_succ])
          rotate_left 2
          focus (
           refine wpAnyH_ready (rs := [0]) (by kernel_rfl) (by simp) ?_
           refine (AllReadyH.cons (o := _) rfl (fun K hK => ?_) AllReadyH.nil)
           go_simp
           refine hK.out _ _ hHeld (fun hHeld => ?_)
           clear hK K
           try simp only [Act.put, List.setIfInBounds_toArray, List.set_cons_zero, List.set_cons_succ, List.getElem_toArray, List.getElem_cons_zero, List.getElem_cons_succ])
          all_goals (
           refine wpAnyH_ready (rs := [6]) (by kernel_rfl) (by simp) ?_
           refine (AllReadyH.cons (o := _) rfl (fun K hK => ?_) AllReadyH.nil)
           refine step_append_lies _ (by rfl) _ _ _ (by rfl) w5.heap.size 40 i0 _ 10 88 Tryz.underlying33 hi0 hz0 hz1 hz2 rfl (by omega) v acc.length _ (by rfl) ((own_of HS1.out.row).alloc _) ⟨_, 0, none⟩ 1 1 (ruC cm.1 v6).toList (by rfl) (by rfl) (World.news_of_block (cs := ruC cm.1 v6) (t := 40) (fr := (0, 0)) (heap_alloc_new _ _)) (ru_ones cm.1 HO6.out) (by omega) (by unfold maxLen; omega) (by omega) (by have := HO.out.size; simp; omega) _ rfl ?_
           intro g' cap' w7 hown7 hgrow hat hlt7
           have cX := (HS1.out.far hgrow).1
           have fX := (HS1.out.far hgrow).2
           have HK7 := Lib.hid (keep_grown HS1.out HXF.out hgrow hXF2.out)
           have HAPP := Lib.hid (And.intro hown7 (And.intro hgrow hat))
           clear hown7 hgrow hat hlt7
           refine hK.out _ _ HK7.out.1 (fun hHeld => ?_)
           clear hK K
           try simp only [Act.put, List.setIfInBounds_toArray, List.set_cons_zero, List.set_cons_succ, List.getElem_toArray, List.getElem_cons_zero, List.getElem_cons_succ]
           refine wpAnyH_ready (rs := [7]) (by kernel_rfl) (by simp) ?_
           refine (AllReadyH.cons (o := _) rfl (fun K hK => ?_) AllReadyH.nil)
           go_simp
           refine hK.out _ _ (HK7.out.2 _) (fun hHeld => ?_)
           clear hK K
           try simp only [Act.put, List.setIfInBounds_toArray, List.set_cons_zero, List.set_cons_succ, List.getElem_toArray, List.getElem_cons_zero, List.getElem_cons_succ]
           refine wpAnyH_done (by kernel_rfl) ?_ _)
          all_goals (
           refine NoPanic.normal ?_
           obtain ⟨a1, a2, a3⟩ := HAPP.out
           obtain ⟨hp1, hp2, _, _⟩ := HS1.out.push HN6.out a1 a2 (a3.imp (fun h => h) (fun h => by show some g' = _; rw [h]; simp))
           have RL := Lib.hid (show CpRel W0 Wv vv s.js s.ups w w5 D a b ms RR (.int .i64 ((j : Int) + 1)) _ from ⟨j + 1, cm.2, acc ++ [cm.1], _, by go_num, by rw [HN.out]; omega, by simp; omega, USt.snoc hp1, oblock hp2 HXF.out hXF2.out, HO.out.row hp2, HRR1.out⟩)
           clear a1 a2 a3 hp1 hp2
           go_wp2
           refine ⟨?_, by simp [intOf]; omega⟩
           have R := RL.out
           first | exact R | ((repeat apply Exists.intro); exact ⟨R, rfl⟩))
        · have t1 : decide ((j : Int) < (nn : Int)) = false := decide_eq_false (by omega)
          have t1' : decide (j < nn) = false := decide_eq_false hlt
          rw [List.drop_eq_nil_of_le (by rw [HN.out]; omega), compF] at hr
          have HRX := Lib.hid (show RR = (acc, s1) from hr.symm)
          obtain ⟨aof, capf, rfl, _⟩ := aown_form (own_of hs.row)
          obtain ⟨W', hw, hc, hm, hpp⟩ := hs.end_ (.inl rfl)
          obtain ⟨vq, hpp, hc⟩ : ∃ vq, GaPost W0 Wv vv w D 10 (RR.1.flatMap ruD) RR.2 (.returned vq) W' ∧ W'.cell? ⟨w.heap.size + 2, 0, none⟩ = some vq := ⟨_, by rw [HRX.out]; exact hpp, hc⟩
          have HP := Lib.hid (And.intro hm (And.intro hw hpp))
          have x8 := hs.cell
          have c4 := hs.rcell
          have x8c := x8.1; have x8f := x8.2
          clear hs hx ho hr hw hm hpp x8 hlt
          go_wp2
          exact postM none rfl HP.out.1 HP.out.2.1 (by simp [results, Tryz.results100, go_sem, hc]) HP.out.2.2
 | none =>
   dsimp only at hRR
   unfold memV at MEc
   clear S0 x0 x1 x2 hme h
   go_wp2_with fail
   clear hWa
   refine MEc.out.mono ?_
   rintro e w2 ⟨rfl, hb2⟩
   have HS := Lib.hid (HS.out.ext hb2)
   have c4 := HS.out.rcell
   obtain ⟨me2, hme2⟩ : ∃ me2, memA s.js s.ups st id kPth = me2 := ⟨_, rfl⟩
   have MEd := Lib.hid (ME.out st kPth w2 HS.out.re)
   rw [hme2] at hRR MEd
   clear hb2 hme2
   go_wp2_with fail
   refine MEd.out.mono ?_
   rintro e w3 ⟨rfl, hb3⟩
   have HS := Lib.hid (HS.out.ext hb3)
   have c4 := HS.out.rcell
   obtain ⟨ev, e0, e1, e2, _, hev⟩ := HS.out.re.cells
   clear hb3 hev
   cases me2 with
   | none =>
     have HRR := Lib.hid (show RR = ([], st) from hRR.symm)
     have ITk := Lib.hid (IT.out st 0 w3 HS.out.re)
     clear hRR
     unfold memV
     go_wp2_with fail
     refine ITk.out.mono ?_
     intro e w4 hp
     obtain ⟨vl, u, rfl, _, _, _, hb4⟩ := hp
     have hS := HS.out.ext hb4
     have x8 := hS.cell
     obtain ⟨W', hw, hc, hm, hpp⟩ := hS.none_.end0 (.inl rfl)
     have x8c := x8.1; have x8f := x8.2
     obtain ⟨vq, hpp, hc⟩ : ∃ vq, GaPost W0 Wv vv w D 10 (RR.1.flatMap ruD) RR.2 (.returned vq) W' ∧ W'.cell? ⟨w.heap.size + 2, 0, none⟩ = some vq := ⟨_, by rw [HRR.out]; exact hpp, hc⟩
     have HP := Lib.hid (And.intro hm (And.intro hw hpp))
     clear hb4 hS x8 hw hm hpp e0 e1 e2 c4
     go_wp2
     exact postM none rfl HP.out.1 HP.out.2.1 (by simp [results, Tryz.results100, go_sem, hc]) HP.out.2.2
   | some k =>
     have HX2 := Lib.hid (heap_lt HS.out.box)
     have ITk := Lib.hid (IT.out st k w3 HS.out.re)
     unfold memV
     go_wp2_with fail
     refine ITk.out.mono ?_
     intro e w4 hp
     obtain ⟨vl, u, rfl, he, hg, hgb, hb4⟩ := hp
     have HS := Lib.hid (HS.out.ext hb4)
     have c4 := HS.out.rcell
     have ISk := Lib.hid (IS.out st k w4 HS.out.re)
     obtain ⟨r, hr⟩ : ∃ r, isA s.js st k 5 = r := ⟨_, rfl⟩
     have hI : (isA s.js st k 5).1 = true → kindA s.js k = 5 := fun h => by
      unfold isA at h
      simp at h
      exact h.2
     unfold listA at hRR
     rw [hr] at ISk hI hRR
     have B3 := Lib.hid hb4
     cases hr1 : r.1 with
     | false =>
       rw [hr1] at ISk hRR
       have HRR := Lib.hid (show RR = ([], r.2) from hRR.symm)
       clear hb4 he hg hgb hI hr hr1 hRR e0 e1 e2
       go_wp2_with fail
       refine ISk.out.mono ?_
       rintro e w5 ⟨rfl, hp⟩
       have hS := HS.out.call hp
       have x8 := hS.cell
       obtain ⟨W', hw, hc, hm, hpp⟩ := hS.none_.end0 (.inl rfl)
       have x8c := x8.1; have x8f := x8.2
       obtain ⟨vq, hpp, hc⟩ : ∃ vq, GaPost W0 Wv vv w D 10 (RR.1.flatMap ruD) RR.2 (.returned vq) W' ∧ W'.cell? ⟨w.heap.size + 2, 0, none⟩ = some vq := ⟨_, by rw [HRR.out]; exact hpp, hc⟩
       have HP := Lib.hid (And.intro hm (And.intro hw hpp))
       clear hp hS x8 hw hm hpp
       go_wp2
       exact postM none rfl HP.out.1 HP.out.2.1 (by simp [results, Tryz.results100, go_sem, hc]) HP.out.2.2
     | true =>
       have hk := hI hr1
       have hc := (chk_kind s.js k 5 (by decide)).2 (.inl hk)
       obtain rfl := he.none hc
       obtain ⟨ao, c, rfl, _, _, hcl⟩ := (hg hc).nats_inv
       rw [Int.toNat_natCast] at hcl ⊢
       rw [hr1, if_pos rfl] at hRR
       rw [hr1] at ISk
       have hkl := HKL.out k
       obtain ⟨ms, hms⟩ : ∃ ms, kids s.ups k = ms := ⟨_, rfl⟩
       rw [hms] at hRR hkl hcl ⊢
       have FWk := Lib.hid (fun W hR => FW.out r.2 k ao ms.length c W hR)
       obtain ⟨q, hq⟩ : ∃ q, fewA r.2 ms.length 512 = q := ⟨_, rfl⟩
       rw [hq] at hRR
       rw [hq] at FWk
       have CL : Hid (∀ (j m : Nat), ms[j]? = some m → ∃ b o, ao = some ⟨b, o, none⟩ ∧ w3.heap.size ≤ b ∧ b < w4.heap.size ∧ w4.cell? ⟨b, o + j, none⟩ = some (.int .i64 m)) := Lib.hid (fun j m hm => by
        obtain ⟨hj, rfl⟩ := List.getElem?_eq_some_iff.1 hm
        obtain ⟨b, o, h1, h2, h3⟩ := hcl (by omega)
        exact ⟨b, o, h1, h2.1, h2.2, h3 j hj⟩)
       have HK5 := Lib.hid (And.intro hk (And.intro hms (And.intro hr hq)))
       obtain ⟨nn, hnn⟩ : ∃ n, ms.length = n := ⟨_, rfl⟩
       have HN := Lib.hid hnn
       rw [hnn] at FWk hkl ⊢
       clear hb4 he hg hgb hI hr hr1 e0 e1 e2 hk hc hcl hms hnn hq
       go_wp2_with fail
       refine ISk.out.mono ?_
       rintro e w5 ⟨rfl, hp⟩
       have HS := Lib.hid (HS.out.call hp)
       have B4 := Lib.hid hp.only
       have c4 := HS.out.rcell
       have FW4 := Lib.hid (FWk.out w5 HS.out.re)
       clear hp
       go_wp2_with fail
       refine FW4.out.mono ?_
       rintro e w6 ⟨rfl, hp⟩
       have HS := Lib.hid (HS.out.call hp)
       have B5 := Lib.hid (B4.out.trans hp.only)
       have c4 := HS.out.rcell
       have x8 := HS.out.cell
       have x8c := x8.1; have x8f := x8.2
       clear hp x8
       cases hq1 : q.1 with
       | false =>
         rw [hq1, if_neg (by decide)] at hRR
         have HRR := Lib.hid (show RR = ([], q.2) from hRR.symm)
         obtain ⟨W', hw, hc, hm, hpp⟩ := HS.out.none_.end0 (.inl rfl)
         obtain ⟨vq, hpp, hc⟩ : ∃ vq, GaPost W0 Wv vv w D 10 (RR.1.flatMap ruD) RR.2 (.returned vq) W' ∧ W'.cell? ⟨w.heap.size + 2, 0, none⟩ = some vq := ⟨_, by rw [HRR.out]; exact hpp, hc⟩
         have HP := Lib.hid (And.intro hm (And.intro hw hpp))
         clear hw hm hpp hq1 hRR
         go_wp2
         exact postM none rfl HP.out.1 HP.out.2.1 (by simp [results, Tryz.results100, go_sem, hc]) HP.out.2.2
       | true =>
         rw [hq1, if_pos rfl] at hRR
         have HRR := Lib.hid hRR
         clear hRR
         go_wp2_with fail
         refine (rtexts_any W0.heap.size k w6).mono ?_
         rintro e w7 ⟨rfl, rfl⟩
         have BT := boxesN w6 #[ptrV W0.heap.size] #[.int .i64 k] 67 3
         obtain ⟨W7, hW7⟩ : ∃ W7, ((w6.alloc (.cells #[ptrV W0.heap.size] 67)).alloc (.cells #[.int .i64 k] 3)) = W7 := ⟨_, rfl⟩
         rw [hW7] at BT
         obtain ⟨qb, hqb⟩ : ∃ qb, w6.heap.size = qb := ⟨_, rfl⟩
         obtain ⟨qb1, hqb1⟩ : ∃ qb1, qb + 1 = qb1 := ⟨_, rfl⟩
         have H0 := Lib.hid (show UJ W0 Wv vv D w (fun j => j = qb ∨ j = qb1) [] q.2 W7 from GJ.at0 HS.out RowF.nil (by omega) BT.2.2 (by have := heap_lt BT.2.1; omega))
         rw [hqb, hqb1] at BT
         have TT := Lib.hid (texts1_any (vv := vv) (Wv := Wv) (n := 2) List.length stepPa hV hT stepPa_len [] q.2 k qb qb1 W7 BT.1 BT.2.1)
         obtain ⟨R, hR⟩ : ∃ R, stepsA s.js s.ups stepPa [] q.2 k = R := ⟨_, rfl⟩
         have HA : Hid (((bif R.1 then R.2.1 else []), R.2.2) = RR) := Lib.hid (by
          obtain ⟨k5, kms, _, kq⟩ := HK5.out
          have hb := few_good (s := r.2) (n := ms.length) (most := 512)
          rw [kq] at hb
          have hb := hb hq1
          rw [← hR, ← HRR.out, ← kms]
          unfold stepsA
          rw [isA_good hb k5, if_pos rfl]
          exact paths_steps _ _ _ _)
         rw [hR] at TT
         have h4 : w.heap.size + 3 ≤ W7.heap.size := by have := heap_lt HS.out.box; have := BT.2.2.size; have := heap_lt BT.2.1; omega
         clear BT hR x8c x8f
         go_wp2_with fail
         refine (wpIn_wide (n := 3)).1 ?_
         refine range_texts (W0 := W0) (Wv := Wv) (vv := vv) (D := D) (gf := 95) (lb := #[.pointer (some ⟨qb, 0, none⟩), .pointer (some ⟨qb1, 0, none⟩)]) (own := fun j => j = qb ∨ j = qb1) (cnt := List.length) (step := stepPa) (b0 := []) (st0 := q.2) (R := R) (J := UJ W0 Wv vv D w) (Jx := fun Z _ st W => UJ W0 Wv vv D w Z [] st W) (Z0 := fun j => j = qb ∨ j = qb1) rfl rfl (enters_of Tryz.func95 (by kernel_rfl) rfl) rfl TT.out (UJ.tells w)
          (fun Z b st W l o h hz hl => GJ.put o h hz (by omega)) (fun Z b st W l o h hz hl => GJ.put o h hz (by omega)) (fun _ h => h) H0.out ?_ ?_ ?_
         · intro lr k2 t W
           gi_wp2
           refine ⟨trivial, fun Z b st W2 hJ hb ht hcn => ?_⟩
           obtain ⟨vb, ⟨hg, hf⟩, hz⟩ := hJ
           have c4 := hg.rcell; have c8 := hg.cell.1
           obtain ⟨aob, capb, rfl, _⟩ := aown_form (own_of hg.row)
           have LG := Lib.hid (legacy_any t W2 (hS.ext hg.re.below) ht)
           have LC := lg_cases t
           have LR := Lib.hid (fun W => lgA_rds (S := fun _ => False) (w := W) t)
           have hst : stepPa b st k2 t = match (motive := Option RuA → Bool × List RuA × RdSt) legacyA asK t with | none => (false, [], st.fail) | some x => (true, b ++ [x], st) := rfl
           have HSB := Lib.hid (And.intro (And.intro hg hf) hz)
           obtain ⟨SP, hSP⟩ : ∃ SP, stepPa b st k2 t = SP := ⟨_, rfl⟩
           rw [hSP]
           have HSP := Lib.hid (hSP.symm.trans hst)
           have FL := Lib.hid (fun W x (hR : ReA W0 Wv vv W D st) => rfail_any hV st k2 85 x W hR)
           have hbl : b.length < 100000 := by simpa using hcn
           clear hg hf hz hst hSP hb ht hcn
           gi_wp2_with fail
           refine ⟨trivial, (CallsIn.inRound lr (callsIn_wide.2 LG.out)).mono ?_⟩
           rintro e w5 ⟨u, rfl, he, hb5⟩
           obtain ⟨x, hx⟩ : ∃ x, lgA t = x := ⟨_, rfl⟩
           rw [hx] at LC LR ⊢
           have X5 := heap_alloc_new w5 (.cells (ruC x (.slice none 0 0)) 40)
           have hb6 := ext_alloc hb5 (.cells (ruC x (.slice none 0 0)) 40)
           have EA : ErA w5 u (lgE t) := he
           have hS6 := HSB.out.1.1.ext hb6
           have hF6 := HSB.out.1.2.turn (T := fun _ => False) (Only.of hb6) (fun _ _ h => h)
           have c4 := hS6.rcell; have c8 := hS6.cell.1; have f8 := hS6.cell.2
           obtain ⟨cells, ho6, hd6⟩ := hF6
           have y : ∀ j, (w5.alloc (.cells (ruC x (.slice none 0 0)) 40)).cell? ⟨w5.heap.size, j, none⟩ = (#[.string x.path, .string x.query, .string x.frag, .bool x.hasPath, .bool x.hasQuery, .bool x.hasFrag, .slice none 0 0, .bool x.exclude, .bool x.fold, .bool x.decoded] : Array Value)[j]? := fun j => Lib.cell_of_heap X5 j
           obtain ⟨W6, hW6⟩ : ∃ W6, w5.alloc (.cells #[.string x.path, .string x.query, .string x.frag, .bool x.hasPath, .bool x.hasQuery, .bool x.hasFrag, .slice none 0 0, .bool x.exclude, .bool x.fold, .bool x.decoded] 40) = W6 := ⟨_, rfl⟩
           rw [show w5.alloc (.cells (ruC x (.slice none 0 0)) 40) = W6 from hW6] at hb6 hS6 ho6 hd6 c4 c8 f8 y
           have HS6 := Lib.hid hS6
           have B6 := Lib.hid hb6
           have HO6 := Lib.hid ho6; have HD6 := Lib.hid hd6
           simp only [ruC]
           rcases LC with ⟨l1, l2⟩ | ⟨l1, l2⟩
           · rw [l1] at EA
             obtain ⟨_, rfl⟩ | ⟨l3, _⟩ := erA_inv EA
             · have HL2 := Lib.hid l2
               have hsz : w.heap.size + 3 ≤ W6.heap.size := Nat.le_trans (heap_lt HS6.out.box) (Nat.le_refl _)
               clear he hb5 EA X5 hb6 hS6 ho6 hd6 l1 l2 hx
               gi_wp2_with (gi_at_builtin; refine wpListIn_app1At W6 #[.string x.path, .string x.query, .string x.frag, .bool x.hasPath, .bool x.hasQuery, .bool x.hasFrag, .slice none 0 0, .bool x.exclude, .bool x.fold, .bool x.decoded] 40 rfl _ _ 33 rfl (w.heap.size + 3) elRu _ _ _ rfl HO6.out rfl rfl ?_ ?_ ?_ ?_ ?_)
               · repeat' apply And.intro
                 all_goals rfl
               · unfold maxLen; omega
               · omega
               · intro v8 w8 hown8 hgrow8 hat8
                 obtain ⟨ao8, cap8, rfl, _⟩ := aown_form hown8
                 obtain ⟨hp1, hp2⟩ := HS6.out.pushF HO6.out HD6.out (LR.out W6) hown8 hgrow8
                 have cX := (HS6.out.far hgrow8).1
                 have fX := (HS6.out.far hgrow8).2
                 obtain ⟨W8, hW8⟩ : ∃ W8, w8.setCell ⟨w.heap.size + 2, 0, none⟩ (.slice ao8 (b.length + 1) cap8) = W8 := ⟨_, rfl⟩
                 have ho8 : Only (fun j => False ∨ (Value.slice aob b.length capb).ownBlock = some j) W2 w8 := (Only.of (T := fun _ => False) B6.out).push HO6.out hgrow8
                 have hkz : KeepZ Z W2 W8 := by
                  rw [← hW8]
                  exact (KeepZ.only ho8 (fun j hj => ⟨(HSB.out.2 j hj).1, by rintro (t | t); exact t; exact (HSB.out.2 j hj).2.2.2 t⟩)).trans ⟨by simp, fun j hj => Below.heap_setCell _ _ _ _ (HSB.out.2 j hj).2.2.1⟩
                 rw [hW8] at hp1 hp2
                 have hz8 : ∀ j, Z j → j < W8.heap.size ∧ j ≠ W0.heap.size ∧ j ≠ w.heap.size + 2 ∧ (Value.slice ao8 (b.length + 1) cap8).ownBlock ≠ some j := fun j hj => by
                  obtain ⟨z1, z2, z3, z4⟩ := HSB.out.2 j hj
                  refine ⟨Nat.lt_of_lt_of_le z1 hkz.1, z2, z3, fun e => ?_⟩
                  rcases hat8 with t | t
                  · rw [← t] at e; exact z4 e
                  · rw [t] at e; cases e; have := B6.out.size; omega
                 have hUJ : UJ W0 Wv vv D w Z (b ++ [x]) st W8 := by
                  refine ⟨_, ⟨USt.snoc hp1, ?_⟩, hz8⟩
                  rw [List.length_append, List.flatMap_append]
                  simpa using hp2
                 have HQ := Lib.hid (And.intro hkz hUJ)
                 clear hown8 hgrow8 hat8 hp1 hp2 ho8 hkz hz8 hUJ
                 gi_wp2
                 refine ⟨HQ.out.1, ?_⟩
                 rw [HSP.out, HL2.out]
                 exact ⟨rfl, HQ.out.2⟩
             · exact absurd rfl l3
           · obtain ⟨l3, _⟩ | ⟨_, pf, rfl⟩ := erA_inv EA
             · exact absurd l3 l1
             · have FLc := Lib.hid (FL.out W6 (.pointer (some pf)) HS6.out.re)
               have HL2 := Lib.hid l2
               clear he hb5 EA X5 hb6 hS6 ho6 hd6 l1 l2 hx y
               gi_wp2_with fail
               refine ⟨trivial, (CallsIn.inRound lr (callsIn_wide.2 FLc.out)).mono ?_⟩
               rintro e w7 ⟨rfl, hp⟩
               have hS7 := HS6.out.call hp
               have cX := hS7.cell.1; have fX := hS7.cell.2
               have hkz : KeepZ Z W2 (w7.setCell ⟨w.heap.size + 2, 0, none⟩ (.slice none 0 0)) := (KeepZ.only ((Only.of B6.out).trans hp.only) (fun j hj => ⟨(HSB.out.2 j hj).1, (HSB.out.2 j hj).2.1⟩)).trans ⟨by simp, fun j hj => Below.heap_setCell _ _ _ _ (HSB.out.2 j hj).2.2.1⟩
               have hUJ : UJ W0 Wv vv D w Z [] st.fail (w7.setCell ⟨w.heap.size + 2, 0, none⟩ (.slice none 0 0)) := ⟨_, ⟨hS7.none_, RowF.nil⟩, fun j hj => by have := HSB.out.2 j hj; exact ⟨Nat.lt_of_lt_of_le this.1 hkz.1, this.2.1, this.2.2.1, nofun⟩⟩
               have HQ := Lib.hid (And.intro hkz hUJ)
               clear hp hS7 hkz hUJ
               gi_wp2
               refine ⟨HQ.out.1, ?_⟩
               rw [HSP.out, HL2.out]
               exact ⟨rfl, HQ.out.2⟩
         · intro m Z W hm hR1 hJ hd
           obtain ⟨vb, ⟨hg, hf⟩, _⟩ := hJ
           have hA := HA.out
           rw [hR1, cond_true] at hA
           obtain ⟨aob, capb, rfl, _⟩ := aown_form (own_of hg.row)
           have hgm := hg.marked (by omega) hd
           obtain ⟨W', hw, hc, hm2, hpp⟩ := hgm.end_ (.inr hf)
           obtain ⟨vq, hpp, hc⟩ : ∃ vq, GaPost W0 Wv vv w D 10 (RR.1.flatMap ruD) RR.2 (.returned vq) W' ∧ W'.cell? ⟨w.heap.size + 2, 0, none⟩ = some vq := ⟨_, by rw [← hA]; exact hpp, hc⟩
           have HP := Lib.hid (And.intro hm2 (And.intro hw hpp))
           have cX := hgm.cell.1; have fX := hgm.cell.2
           clear hg hf hm hR1 hd hA hgm hw hm2 hpp
           go_wp2
           exact postM (some m) rfl HP.out.1 HP.out.2.1 (by simp [results, Tryz.results100, go_sem, hc]) HP.out.2.2
         · intro m Z W hm hR1 hJ hd
           obtain ⟨vb, ⟨hg, hf⟩, _⟩ := hJ
           have hA := HA.out
           rw [hR1, cond_false] at hA
           have hgm := hg.marked (by omega) hd
           obtain ⟨W', hw, hc, hm2, hpp⟩ := hgm.end0 (.inr hf)
           obtain ⟨vq, hpp, hc⟩ : ∃ vq, GaPost W0 Wv vv w D 10 (RR.1.flatMap ruD) RR.2 (.returned vq) W' ∧ W'.cell? ⟨w.heap.size + 2, 0, none⟩ = some vq := ⟨_, by rw [← hA]; exact hpp, hc⟩
           have HP := Lib.hid (And.intro hm2 (And.intro hw hpp))
           clear hg hf hm hR1 hd hA hgm hw hm2 hpp
           refine wpIn_wide.2 ?_
           go_wp2
           exact postM (some m) rfl HP.out.1 HP.out.2.1 (by simp [results, Tryz.results100, go_sem, hc]) HP.out.2.2
end
end Go.Proofs.YtcaiibkgajhohaaGreatDoor
