/- Texts put together. -/
import Derived.Test.YtcaiibkgajhohaaGreatDoorYAsH2f
namespace Go.Proofs.YtcaiibkgajhohaaGreatDoor
open Go.RowKit
theorem ru_info : (Tryz.prog.info? 40).map (·.size) = some 10 := by kernel_rfl
theorem ru_load {x : RuA} {v : Value} {b : Nat} {w : World} (h : w.heap[b]? = some (.cells (ruC x v) 40 (0, 0))) : (loadVar 40 ⟨b, 0, none⟩).run Tryz.prog w = .ok (.agg (ruC x v)) w :=
 run_loadVar_row _ _ 40 40 _ (0, 0) _ h Tryz.underlying40 rfl ru_info
theorem ru_ones (x : RuA) {v : Value} (hv : v.oneCell' = true) : ∀ u ∈ (ruC x v).toList, u.oneCell' = true := by
 intro u hu
 simp only [ruC, List.mem_cons, List.not_mem_nil, or_false] at hu
 rcases hu with rfl | rfl | rfl | rfl | rfl | rfl | rfl | rfl | rfl | rfl <;> first | rfl | exact hv
theorem ru_store {x y : RuA} {v u : Value} {b : Nat} {w : World} (h : w.heap[b]? = some (.cells (ruC y u) 40 (0, 0))) (hv : v.oneCell' = true) : (storeVar 40 ⟨b, 0, none⟩ (.agg (ruC x v))).run Tryz.prog w = .ok () (w.setRow b (ruC x v)) :=
 run_storeVar_row (P := Tryz.prog) w b 40 40 (ruC y u) (ruC x v) h ru_info rfl (by
  rw [Array.all_eq_true_iff_forall_mem]
  intro z hz
  exact ru_ones x hv z (by simpa using hz))
theorem own_one {w : World} {B n k : Nat} {e : TypeId} {v : Value} {cs : List Value} (h : w.ownsRow B e k v n cs) : v.oneCell' = true := by
 rcases h.2 with ⟨rfl, _⟩ | ⟨g, cap, cur, rfl, _⟩ <;> rfl
theorem itC_rds {S : Nat → Prop} {w : World} : ∀ l : List ItA, Rds S w (l.flatMap itC) (l.flatMap itD)
 | [] => Rds.nil
 | i :: l => by
   rw [List.flatMap_cons, List.flatMap_cons]
   exact Rds.append (.cons (.str _) (.cons (.str _) (.cons (.bool _) .nil))) (itC_rds l)
theorem set2 {w : World} {b X : Nat} (h : b ≠ X) (i j : Nat) (u v : Value) : ((w.setCell ⟨X, i, none⟩ u).setCell ⟨X, j, none⟩ v).heap[b]? = w.heap[b]? := (Below.heap_setCell _ ⟨X, j, none⟩ v b h).trans (Below.heap_setCell w ⟨X, i, none⟩ u b h)
section
variable {W0 Wv wr : World} {vv vI : Value} {L D X : Nat} {st : RdSt} {x : RuA} {base T : Nat} {s : PS} {nodes : Int} {tv : Value} {ns : List ANode}
theorem QSt.rds (h : QSt W0 Wv vv L D X st x vI wr) : Rds (fun b => L ≤ b ∧ b < wr.heap.size) wr (ruC x vI).toList (ruD x) :=
 .cons (.str _) (.cons (.str _) (.cons (.str _) (.cons (.bool _) (.cons (.bool _) (.cons (.bool _) (.cons (rd_owned h.row (itC_rds _) h.row.lt) (.cons (.bool _) (.cons (.bool _) (.cons (.bool _) .nil)))))))))
theorem QSt.load (h : QSt W0 Wv vv L D X st x vI wr) : (loadVar 40 ⟨X, 0, none⟩).run Tryz.prog wr = .ok (.agg (ruC x vI)) wr := ru_load h.rule
theorem QSt.store (h : QSt W0 Wv vv L D X st x vI wr) : (storeVar 40 ⟨X, 0, none⟩ (.agg (ruC x vI))).run Tryz.prog wr = .ok () wr := by
 have := ru_store h.rule (x := x) (v := vI) (own_one h.row)
 rwa [row_same h.rule] at this
/-- What the reader's component leaves. -/
def CmPost (W0 Wv : World) (vv : Value) (w : World) (D : Nat) (r : RuA × RdSt) (e : Ending) (w' : World) : Prop := ∃ v, e = .returned (.agg (ruC r.1 v)) ∧ v.oneCell' = true ∧ Rds (Fresh w w') w' (ruC r.1 v).toList (ruD r.1) ∧ RePost W0 Wv vv w D r.2 w'
theorem CmPost.of {w : World} (h : QSt W0 Wv vv L D X st x vI wr) (hL : w.heap.size ≤ L) (ho : Only (fun b => b = W0.heap.size ∨ b = X) w wr) (hX : w.heap.size ≤ X) : CmPost W0 Wv vv w D (x, st) (.returned (.agg (ruC x vI))) wr :=
 ⟨_, rfl, own_one h.row, h.rds.mono (fun _ _ => rfl) (fun b hb => ⟨Nat.le_trans hL hb.1, hb.2⟩), h.re, ho.wide (fun k hk h => by rcases h with h | h; exact h; omega)⟩
set_option maxRecDepth 100000 in
set_option maxHeartbeats 16000000 in
/-- aasa.reader.component -/
theorem rcomponent_any (hV : PView W0 base D T s nodes tv ns) (hS : SEnv W0) (hT : ∀ id, (txtA0 s.js id).size ≤ 1100000) (st : RdSt) (id : Nat) (a b : Bool) (w : World) (h : ReA W0 Wv vv w D st) :
    Calls Tryz.prog 130 #[ptrV W0.heap.size, .int .i64 id, .agg #[.bool a, .bool b]] w (CmPost W0 Wv vv w D (componentA asK s.js s.ups st id a b)) := by
 have BX := boxesN w #[.bool a, .bool b] (ruC ru0 (.slice none 0 0)) 75 40
 have hvl := h.only.size
 have h0l := h.vars.lt
 obtain ⟨Wa, hWa⟩ : ∃ Wa, ((w.alloc (.cells #[.bool a, .bool b] 75)).alloc (.cells #[.string ⟨#[]⟩, .string ⟨#[]⟩, .string ⟨#[]⟩, .bool false, .bool false, .bool false, .slice none 0 0, .bool false, .bool false, .bool false] 40)) = Wa := ⟨_, rfl⟩
 rw [show (w.alloc (.cells #[.bool a, .bool b] 75)).alloc (.cells (ruC ru0 (.slice none 0 0)) 40) = Wa from hWa] at BX
 have hza : Wa.heap.size = w.heap.size + 2 := by rw [← hWa]; simp
 obtain ⟨X, hX⟩ : ∃ X, w.heap.size + 1 = X := ⟨_, rfl⟩
 rw [hX] at BX
 have QA : QSt W0 Wv vv (X + 1) D X st ru0 (.slice none 0 0) Wa := ⟨h.ext BX.2.2, BX.2.1, World.ownsRow_nil _ _ _ _, by omega, by omega⟩
 have HQ := Lib.hid QA; have HB := Lib.hid BX.1
 have HO := Lib.hid (Only.of (T := fun b => b = W0.heap.size ∨ b = X) BX.2.2)
 have IS := Lib.hid (ris_any hV st id 6 Wa QA.re)
 obtain ⟨RR, hRR⟩ : ∃ RR, componentA asK s.js s.ups st id a b = RR := ⟨_, rfl⟩
 rw [hRR]
 unfold componentA at hRR
 obtain ⟨r, hre⟩ : ∃ r, isA s.js st id 6 = r := ⟨_, rfl⟩
 rw [hre] at IS hRR
 cases hr1 : r.1 with
 | false =>
   rw [hr1] at IS
   rw [hr1, if_neg (by decide)] at hRR
   have HRR := Lib.hid hRR
   clear h QA BX hre hr1 hV hS hT hRR
   go_enter Tryz.func130, Tryz.ntmps130
   go_wp2_with fail
   clear hWa
   refine IS.out.mono ?_
   rintro e w2 ⟨rfl, hp⟩
   have Q2 := HQ.out.call hp
   have hld := Q2.load
   have hst := Q2.store
   have HP := Lib.hid (CmPost.of Q2 (by omega) (HO.out.trans (hp.only.wide (fun _ _ h => .inl h))) (by omega))
   clear hp Q2
   go_wp2_with ((with_reducible show wpList _ _ _ (_ :: _) _ _); first | (refine ld_arr 40 X _ hld _ rfl rfl rfl ?_) | (refine st_arr 40 X _ hst _ _ rfl rfl rfl rfl ?_))
   (try simp only [Exit.inBlock, Exit.then])
   refine bodyPost_ret (v := .agg (ruC ru0 (.slice none 0 0))) (by simp [results, Tryz.results130, asAddr, hld, Act.put]) rfl ?_
   rw [← HRR.out]
   exact HP.out
 | true =>
   rw [hr1] at IS
   rw [hr1, if_pos rfl] at hRR
   dsimp only at hRR
   have PT := Lib.hid (fun st key W (hR : ReA W0 Wv vv W D st) => rpatternA_any hV hS hT st id key W hR)
   have QU := Lib.hid (fun st x W (hx : x.items = []) (hX : X < W.heap.size) (hq : QSt W0 Wv vv W.heap.size D X st x (.slice none 0 0) W) => rquery_any hV hS hT st id x W hx hX hq)
   have FL := Lib.hid (fun st key p W (hR : ReA W0 Wv vv W D st) => rflag_any hV st id key p W hR)
   have FS := Lib.hid (fun st W (hR : ReA W0 Wv vv W D st) => rflags_any hV st id a b W hR)
   have ME := Lib.hid (fun st W (hR : ReA W0 Wv vv W D st) => rmember_any hV st id kCom W hR)
   have TX := Lib.hid (fun st k W (hR : ReA W0 Wv vv W D st) => rtextA_any hV st k W hR)
   obtain ⟨p, hp1⟩ : ∃ p, patternA asK s.js s.ups r.2 id kSl = p := ⟨_, rfl⟩
   have PT1 := Lib.hid (show ∀ W, ReA W0 Wv vv W D r.2 → _ from fun W hR => by have h := PT.out r.2 kSl W hR; rw [hp1] at h; exact h)
   rw [hp1] at hRR
   obtain ⟨q, hq1⟩ : ∃ q, queryA asK s.js s.ups p.2 id { ru0 with path := p.1.1, hasPath := p.1.2 } = q := ⟨_, rfl⟩
   have QU1 := Lib.hid (show ∀ W, X < W.heap.size → QSt W0 Wv vv W.heap.size D X p.2 { ru0 with path := p.1.1, hasPath := p.1.2 } (.slice none 0 0) W → _ from fun W hX hq => by have h := QU.out p.2 { ru0 with path := p.1.1, hasPath := p.1.2 } W rfl hX hq; rw [hq1] at h; exact h)
   rw [hq1] at hRR
   obtain ⟨h2, hh1⟩ : ∃ h2, patternA asK s.js s.ups q.2 id kHa = h2 := ⟨_, rfl⟩
   have PT2 := Lib.hid (show ∀ W, ReA W0 Wv vv W D q.2 → _ from fun W hR => by have h := PT.out q.2 kHa W hR; rw [hh1] at h; exact h)
   rw [hh1] at hRR
   obtain ⟨e2, he1⟩ : ∃ e2, flagA s.js s.ups h2.2 id kExc false = e2 := ⟨_, rfl⟩
   have FL1 := Lib.hid (show ∀ W, ReA W0 Wv vv W D h2.2 → _ from fun W hR => by have h := FL.out h2.2 kExc false W hR; rw [he1] at h; exact h)
   rw [he1] at hRR
   obtain ⟨f, hf1⟩ : ∃ f, flagsA s.js s.ups e2.2 id a b kCase kPct = f := ⟨_, rfl⟩
   have FS1 := Lib.hid (show ∀ W, ReA W0 Wv vv W D e2.2 → _ from fun W hR => by have h := FS.out e2.2 W hR; rw [hf1] at h; exact h)
   rw [hf1] at hRR
   have ME1 := Lib.hid (ME.out f.2)
   obtain ⟨me, hme⟩ : ∃ me, memA s.js s.ups f.2 id kCom = me := ⟨_, rfl⟩
   rw [hme] at ME1 hRR
   have HRR := Lib.hid hRR
   clear h QA BX hre hr1 hV hS hT hRR hp1 hq1 hh1 he1 hf1 hme PT QU FL FS ME
   go_enter Tryz.func130, Tryz.ntmps130
   go_wp2_with fail
   clear hWa
   refine IS.out.mono ?_
   rintro e w2 ⟨rfl, hp⟩
   have HQ := Lib.hid (HQ.out.call hp); have HO := Lib.hid (HO.out.trans (hp.only.wide (fun _ _ h => .inl h)))
   have HB := Lib.hid (oblock hp.only HB.out (by omega))
   have PTc := Lib.hid (PT1.out w2 HQ.out.re)
   clear hp
   go_wp2_with fail
   refine PTc.out.mono ?_
   rintro e w3 ⟨rfl, hp⟩
   have Q3 := HQ.out.call hp
   have c0 := Q3.cell 0; have c3 := Q3.cell 3; have f0 := Q3.fz 0; have f3 := Q3.fz 3
   have Q3 := (Q3.put 0 (.string p.1.1) (x' := { ru0 with path := p.1.1 }) rfl rfl).put 3 (.bool p.1.2) (x' := { ru0 with path := p.1.1, hasPath := p.1.2 }) rfl rfl
   have HO := Lib.hid (((HO.out.trans (hp.only.wide (fun _ _ h => .inl h))).set (p := ⟨X, 0, none⟩) (fun _ => .inr rfl) (.string p.1.1)).set (p := ⟨X, 3, none⟩) (fun _ => .inr rfl) (.bool p.1.2))
   have HB := Lib.hid ((set2 (show w.heap.size ≠ X by omega) 0 3 (.string p.1.1) (.bool p.1.2)).trans (oblock hp.only HB.out (by omega)))
   clear hp
   obtain ⟨W3, hW3⟩ : ∃ W3, (w3.setCell ⟨X, 0, none⟩ (.string p.1.1)).setCell ⟨X, 3, none⟩ (.bool p.1.2) = W3 := ⟨_, rfl⟩
   rw [hW3] at Q3 HO HB
   have HQ := Lib.hid Q3
   have QUc := Lib.hid (QU1.out W3 (heap_lt Q3.rule) ⟨Q3.re, Q3.rule, World.ownsRow_nil _ _ _ _, Q3.low, heap_lt Q3.rule⟩)
   clear Q3
   go_wp2_with fail
   clear hW3 c0 c3 f0 f3
   refine QUc.out.mono ?_
   rintro e w4 ⟨rfl, ho, v, Q4⟩
   have HQ := Lib.hid (Q4.lower (L' := X + 1) (heap_lt HQ.out.rule) (Nat.lt_succ_self X))
   have HB := Lib.hid (oblock ho HB.out (by rintro (h | h) <;> omega))
   have HO := Lib.hid (HO.out.trans ho)
   have PTc := Lib.hid (PT2.out w4 HQ.out.re)
   clear ho Q4
   go_wp2_with fail
   refine PTc.out.mono ?_
   rintro e w5 ⟨rfl, hp⟩
   have Q5 := HQ.out.call hp
   have c0 := Q5.cell 2; have c3 := Q5.cell 5; have f0 := Q5.fz 2; have f3 := Q5.fz 5
   simp only [ruC, List.getElem?_toArray, List.getElem?_cons_succ, List.getElem?_cons_zero] at c0 c3
   have Q5 := (Q5.put 2 (.string h2.1.1) (x' := { q.1 with frag := h2.1.1 }) rfl rfl).put 5 (.bool h2.1.2) (x' := { q.1 with frag := h2.1.1, hasFrag := h2.1.2 }) rfl rfl
   have HO := Lib.hid (((HO.out.trans (hp.only.wide (fun _ _ h => .inl h))).set (p := ⟨X, 2, none⟩) (fun _ => .inr rfl) (.string h2.1.1)).set (p := ⟨X, 5, none⟩) (fun _ => .inr rfl) (.bool h2.1.2))
   have HB := Lib.hid ((set2 (show w.heap.size ≠ X by omega) 2 5 (.string h2.1.1) (.bool h2.1.2)).trans (oblock hp.only HB.out (by omega)))
   clear hp
   obtain ⟨W5, hW5⟩ : ∃ W5, (w5.setCell ⟨X, 2, none⟩ (.string h2.1.1)).setCell ⟨X, 5, none⟩ (.bool h2.1.2) = W5 := ⟨_, rfl⟩
   rw [hW5] at Q5 HO HB
   have HQ := Lib.hid Q5
   have FLc := Lib.hid (FL1.out W5 Q5.re)
   clear Q5
   go_wp2_with fail
   clear hW5 c0 c3 f0 f3
   refine FLc.out.mono ?_
   rintro e w6 ⟨rfl, hp⟩
   have Q6 := HQ.out.call hp
   have c0 := Q6.cell 7; have f0 := Q6.fz 7
   simp only [ruC, List.getElem?_toArray, List.getElem?_cons_succ, List.getElem?_cons_zero] at c0
   have Q6 := Q6.put 7 (.bool e2.1) (x' := { q.1 with frag := h2.1.1, hasFrag := h2.1.2, exclude := e2.1 }) rfl rfl
   have HO := Lib.hid ((HO.out.trans (hp.only.wide (fun _ _ h => .inl h))).set (p := ⟨X, 7, none⟩) (fun _ => .inr rfl) (.bool e2.1))
   have B6 := (Below.heap_setCell w6 ⟨X, 7, none⟩ (.bool e2.1) _ (show w.heap.size ≠ X by omega)).trans (oblock hp.only HB.out (by omega))
   clear hp
   obtain ⟨W6, hW6⟩ : ∃ W6, w6.setCell ⟨X, 7, none⟩ (.bool e2.1) = W6 := ⟨_, rfl⟩
   rw [hW6] at Q6 HO B6
   have b0 := Lib.cell_of_heap B6 0; have b1 := Lib.cell_of_heap B6 1
   have HQ := Lib.hid Q6
   have FSc := Lib.hid (FS1.out W6 Q6.re)
   clear Q6 B6
   go_wp2_with fail
   clear hW6 c0 f0 b0 b1
   refine FSc.out.mono ?_
   rintro e w7 ⟨rfl, hp⟩
   have bx := ext_alloc (Below.refl _ w7) (.cells #[.bool f.1.1, .bool f.1.2] 75)
   have Q8 := (HQ.out.call hp).ext bx
   have HO := Lib.hid ((HO.out.trans (hp.only.wide (fun _ _ h => .inl h))).trans (Only.of bx))
   have nx := heap_alloc_new w7 (.cells #[.bool f.1.1, .bool f.1.2] 75)
   have nX : X < w7.heap.size := heap_lt (HQ.out.call hp).rule
   obtain ⟨W8, hW8⟩ : ∃ W8, w7.alloc (.cells #[.bool f.1.1, .bool f.1.2] 75) = W8 := ⟨_, rfl⟩
   obtain ⟨N, hN⟩ : ∃ N, w7.heap.size = N := ⟨_, rfl⟩
   rw [hW8] at Q8 HO nx
   rw [hN] at nx nX
   have hXN : X ≠ N := by omega
   have n0 := Lib.cell_of_heap nx 0; have n1 := Lib.cell_of_heap nx 1
   have c8 := Q8.cell 8; have c9 := Q8.cell 9; have f8 := Q8.fz 8; have f9 := Q8.fz 9
   simp only [ruC, List.getElem?_toArray, List.getElem?_cons_succ, List.getElem?_cons_zero] at c8 c9
   have HQ := Lib.hid Q8
   clear Q8 hp bx nx
   go_wp2_with fail
   clear hW8 hN
   go_region
   have Q9 := (HQ.out.put 8 (.bool (!f.1.1)) (x' := { q.1 with frag := h2.1.1, hasFrag := h2.1.2, exclude := e2.1, fold := !f.1.1 }) rfl rfl).put 9 (.bool (!f.1.2)) (x' := { q.1 with frag := h2.1.1, hasFrag := h2.1.2, exclude := e2.1, fold := !f.1.1, decoded := !f.1.2 }) rfl rfl
   have HO := Lib.hid ((HO.out.set (p := ⟨X, 8, none⟩) (fun _ => .inr rfl) (.bool (!f.1.1))).set (p := ⟨X, 9, none⟩) (fun _ => .inr rfl) (.bool (!f.1.2)))
   have Q9 := Q9.drew
   have HO := Lib.hid HO.out.drew
   obtain ⟨W9, hW9⟩ : ∃ W9, ((W8.setCell ⟨X, 8, none⟩ (.bool (!f.1.1))).setCell ⟨X, 9, none⟩ (.bool (!f.1.2))).drew = W9 := ⟨_, rfl⟩
   rw [hW9] at Q9 HO
   have HQ := Lib.hid Q9
   have MEc := Lib.hid (ME1.out W9 Q9.re)
   clear Q9 n0 n1 c8 c9 f8 f9
   obtain ⟨xf, hxf⟩ : ∃ xf : RuA, { q.1 with frag := h2.1.1, hasFrag := h2.1.2, exclude := e2.1, fold := !f.1.1, decoded := !f.1.2 } = xf := ⟨_, rfl⟩
   have hRR := HRR.out
   rw [hxf] at HQ
   have HRX : Hid (RR = (xf, match (motive := Option Nat → RdSt) me with | none => f.2 | some k => (txtA s.js f.2 k).2)) := Lib.hid (by rw [← hxf, ← hRR]; rfl)
   clear hRR hxf
   cases me with
   | none =>
     unfold memV at MEc
     go_wp2_with fail
     clear hW9
     refine MEc.out.mono ?_
     rintro e wa ⟨rfl, hba⟩
     have Qa := HQ.out.ext hba
     have hld := Qa.load
     have hst := Qa.store
     have HP := Lib.hid (CmPost.of Qa (by omega) (HO.out.trans (Only.of hba)) (by omega))
     clear hba Qa
     go_wp2_with ((with_reducible show wpList _ _ _ (_ :: _) _ _); first | (refine ld_arr 40 X _ hld _ rfl rfl rfl ?_) | (refine st_arr 40 X _ hst _ _ rfl rfl rfl rfl ?_))
     (try simp only [Exit.inBlock, Exit.then])
     refine bodyPost_ret (v := .agg (ruC xf v)) (by simp [results, Tryz.results130, asAddr, hld, Act.put]) rfl ?_
     rw [HRX.out]
     exact HP.out
   | some k =>
     unfold memV at MEc
     have TXk := Lib.hid (TX.out f.2 k)
     go_wp2_with fail
     clear hW9
     refine MEc.out.mono ?_
     rintro e wa ⟨rfl, hba⟩
     have HQ := Lib.hid (HQ.out.ext hba)
     have HO := Lib.hid (HO.out.trans (Only.of hba))
     have TXc := Lib.hid (TXk.out wa HQ.out.re)
     clear hba
     go_wp2_with fail
     refine TXc.out.mono ?_
     rintro e wb ⟨rfl, hp⟩
     have Qb := HQ.out.call hp
     have hld := Qb.load
     have hst := Qb.store
     have HP := Lib.hid (CmPost.of Qb (by omega) (HO.out.trans (hp.only.wide (fun _ _ h => .inl h))) (by omega))
     clear hp Qb
     go_wp2_with ((with_reducible show wpList _ _ _ (_ :: _) _ _); first | (refine ld_arr 40 X _ hld _ rfl rfl rfl ?_) | (refine st_arr 40 X _ hst _ _ rfl rfl rfl rfl ?_))
     (try simp only [Exit.inBlock, Exit.then])
     refine bodyPost_ret (v := .agg (ruC xf v)) (by simp [results, Tryz.results130, asAddr, hld, Act.put]) rfl ?_
     rw [HRX.out]
     exact HP.out
end
end Go.Proofs.YtcaiibkgajhohaaGreatDoor
