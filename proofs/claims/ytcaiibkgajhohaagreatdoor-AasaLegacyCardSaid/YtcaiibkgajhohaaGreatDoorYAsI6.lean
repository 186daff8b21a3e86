/- Texts put together. -/
import Derived.Test.YtcaiibkgajhohaaGreatDoorYAsJ0f
import Derived.Test.YtcaiibkgajhohaaGreatDoorYAsI4
namespace Go.Proofs.YtcaiibkgajhohaaGreatDoor
open Go.RowKit
attribute [local go_sem] Oper.semAt_some
theorem elVar : ElemTy Tryz.prog 25 103 2 40 (.agg #[.string ⟨#[]⟩, .slice none 0 0]) := ⟨Tryz.underlying25, by kernel_rfl, rfl, by decide⟩
theorem elStA : ElemTy Tryz.prog 96 9 1 16 (.string ⟨#[]⟩) := ⟨Tryz.underlying96, by kernel_rfl, rfl, by decide⟩
section
variable {W0 Wv : World} {vv : Value} {base D T : Nat} {s : PS} {nodes : Int} {tv : Value} {ns : List ANode}
def VlRel (W0 : World) (js : List JN) (ups : List Nat) (w4 : World) (D : Nat) (ms : List Nat) (R : RdSt) (marks : List Nat) (k : Value) (wr : World) : Prop :=
 ∃ (j : Nat) (s1 : RdSt) (Wv : World) (vv : Value), k = .int .i64 j ∧ j ≤ ms.length ∧ s1.vars.length ≤ j ∧ ReA W0 Wv vv wr D s1 ∧ Only (fun b => b = W0.heap.size) w4 wr ∧ (∀ g, vv.ownBlock = some g → w4.heap.size ≤ g) ∧ MkS w4 marks wr ∧ varF asK js ups (ms.drop j) s1 = R
theorem VlRel.next {W6 W w4 wr w9 : World} {vj v2 v : Value} {D N M j : Nat} {key : ByteArray} {tl : List ByteArray} {b : Bool} {vs : List VaA} {marks : List Nat} {js : List JN} {ups ms : List Nat} {R : RdSt} {cells : List Value} (hv : VaSt W0 Wv vj D W6 N key ⟨b, vs⟩ v tl W) (hm : MkS w4 (M :: marks) W) (ho : Only (fun b => b = W0.heap.size) w4 wr) (hb : Below wr.heap.size wr W6) (hN : wr.heap.size ≤ N) (h4 : W0.heap.size < w4.heap.size) (hvb : ∀ g, vj.ownBlock = some g → w4.heap.size ≤ g)
    (h1 : W.ownsRow (W0.heap.size + 1) 103 2 vj vs.length cells) (hre : ReA W0 w9 v2 w9 D ⟨b, vs ++ [⟨key, tl⟩]⟩) (ho9 : Only (fun b => b = W0.heap.size ∨ vj.ownBlock = some b) W w9) (hat : vj.ownBlock = v2.ownBlock ∨ v2.ownBlock = some (W.heap.size + 1)) (hj : j < ms.length) (hl : vs.length ≤ j) (hr : varF asK js ups (ms.drop (j + 1)) ⟨b, vs ++ [⟨key, tl⟩]⟩ = R) : VlRel W0 js ups w4 D ms R (M :: marks) (.int .i64 ((j : Int) + 1)) w9 := by
 have z1 := ho.size
 have z2 := hb.size
 have z3 := hv.only.size
 refine ⟨j + 1, _, _, _, by simp, hj, by simp; omega, hre, ((((hv.o4 ho hb hN).wide (T' := fun b => b = W0.heap.size ∨ vj.ownBlock = some b) (fun _ _ e => .inl e)).trans ho9).wide (fun b hb e => ?_)), fun g hg => ?_, hm.keep ho9 (fun k hk e => ?_), hr⟩
 · rcases e with e | e
   · exact e
   · have := hvb b e; omega
 · rcases hat with e | e
   · exact hvb g (e.trans hg)
   · rw [e] at hg; cases hg; omega
 · have h1' := hm.1 k hk
   rcases e with e | e
   · omega
   · exact own_mark h1 e h1'.2 rfl
set_option maxRecDepth 100000 in
set_option maxHeartbeats 16000000 in
/-- aasa.reader.variables -/
theorem rvariables_any (hV : PView W0 base D T s nodes tv ns) (hS : SEnv W0) (hT : ∀ id, (txtA0 s.js id).size ≤ 1100000) (hK : ∀ k, (keyA s.js k).size ≤ 1100000) (st : RdSt) (id : Nat) (w : World) (h : ReA W0 Wv (.slice none 0 0) w D st) (hvs : st.vars = []) :
    Calls Tryz.prog 30 #[ptrV W0.heap.size, .int .i64 id] w (VrPost W0 w D (varsA asK s.js s.ups st id)) := by
 refine callsIn_wide.1 (callsIn_of_wp_marks (n := 3) Tryz.func30 rfl trivial ?_ rfl)
 simp only [Tryz.ntmps30, List.size_toArray, List.length_cons, List.length_nil, Nat.reduceAdd, Nat.reduceSub, Array.replicate_succ, Array.replicate_zero, List.push_toArray, List.append_toArray, List.nil_append, List.cons_append]
 refine wpIn_wide.2 ?_
 obtain ⟨RR, hRR⟩ : ∃ RR, varsA asK s.js s.ups st id = RR := ⟨_, rfl⟩
 rw [hRR]
 unfold varsA at hRR
 have hwl := h.lt
 have ME := Lib.hid (rmember_any hV st id kSub w h)
 obtain ⟨me, hme⟩ : ∃ me, memA s.js s.ups st id kSub = me := ⟨_, rfl⟩
 rw [hme] at ME hRR
 have H := Lib.hid h
 cases me with
 | none =>
   unfold memV at ME
   have HRR := Lib.hid (show RR = st from hRR.symm)
   clear hme hRR h
   go_wp2_with fail
   refine ME.out.mono ?_
   rintro e w2 ⟨rfl, hb2⟩
   have HP := Lib.hid (show VrPost W0 w D RR (.returned (.tuple #[])) w2 by rw [HRR.out]; exact ⟨rfl, ⟨_, _, H.out.ext hb2⟩, Only.of hb2⟩)
   clear hb2
   go_wp2
   exact (postMs [] rfl .nil (fun _ h => by cases h) (results_none rfl _ _ _) HP.out).1
 | some k =>
   unfold memV at ME
   dsimp only at hRR
   have IS := Lib.hid (fun W (hR : ReA W0 Wv (.slice none 0 0) W D st) => ris_any hV st k 6 W hR)
   obtain ⟨r, hr⟩ : ∃ r, isA s.js st k 6 = r := ⟨_, rfl⟩
   have hI : (isA s.js st k 6).1 = true → kindA s.js k = 6 := fun h => by
    unfold isA at h
    simp at h
    exact h.2
   have hrv : r.2.vars = [] := by rw [← hr]; exact hvs
   rw [hr] at IS hRR hI
   cases hr1 : r.1 with
   | false =>
     rw [hr1] at IS hRR
     have HRR := Lib.hid (show RR = r.2 from hRR.symm)
     clear hme hRR h hr hr1 hI
     go_wp2_with fail
     refine ME.out.mono ?_
     rintro e w2 ⟨rfl, hb2⟩
     have IS2 := Lib.hid (IS.out w2 (H.out.ext hb2))
     have B2 := Lib.hid hb2
     clear hb2
     go_wp2_with fail
     refine IS2.out.mono ?_
     rintro e w3 ⟨rfl, hp⟩
     have HP := Lib.hid (show VrPost W0 w D RR (.returned (.tuple #[])) w3 by rw [HRR.out]; exact ⟨rfl, ⟨_, _, hp.re⟩, (Only.of B2.out).trans hp.only⟩)
     clear hp
     go_wp2
     exact (postMs [] rfl .nil (fun _ h => by cases h) (results_none rfl _ _ _) HP.out).1
   | true =>
     rw [hr1, if_pos rfl] at hRR
     rw [hr1] at IS
     have hk := hI hr1
     have hc := (chk_kind s.js k 6 (by decide)).2 (.inl hk)
     have MS := Lib.hid (fun W (hR : ReA W0 Wv (.slice none 0 0) W D r.2) => members_p (hR.view hV) k)
     rw [Int.toNat_natCast] at MS
     have hms := hV.mem_len k
     obtain ⟨ms, hmse⟩ : ∃ ms, membersS s.js (kids s.ups k) = ms := ⟨_, rfl⟩
     rw [hmse] at MS hms hRR
     have WR := Lib.hid (fun W (hR : ReA W0 Wv (.slice none 0 0) W D r.2) => rwrong_any hV r.2 k 15 W hR)
     have HC := Lib.hid hc
     have HVS := Lib.hid hrv
     have HRR := Lib.hid hRR
     clear hme hRR h hr hr1 hI hk hc hmse hrv hvs
     go_wp2_with fail
     refine ME.out.mono ?_
     rintro e w2 ⟨rfl, hb2⟩
     have IS2 := Lib.hid (IS.out w2 (H.out.ext hb2))
     have B2 := Lib.hid hb2
     clear hb2
     go_wp2_with fail
     refine IS2.out.mono ?_
     rintro e w3 ⟨rfl, hp⟩
     have H3 := Lib.hid hp.re
     have O3 := Lib.hid ((Only.of (T := fun b => b = W0.heap.size) B2.out).trans hp.only)
     obtain ⟨ev, c0, c1, c2, _, _⟩ := hp.re.cells
     have MS3 := Lib.hid (MS.out w3 hp.re)
     clear hp
     go_wp2_with fail
     refine MS3.out.mono ?_
     intro e w4 hp
     obtain ⟨v, u, rfl, he, hg, _, hb4⟩ := hp
     obtain rfl := he.none HC.out
     have hl := hg HC.out
     obtain ⟨ao, c, rfl, _, _, hcl⟩ := hl.nats_inv
     have H4 := Lib.hid (H3.out.ext hb4)
     have O4 := Lib.hid (O3.out.trans (Only.of hb4))
     have CL : Hid (∀ (j m : Nat), ms[j]? = some m → ∃ b o, ao = some ⟨b, o, none⟩ ∧ b ≠ W0.heap.size ∧ b < w4.heap.size ∧ w4.cell? ⟨b, o + j, none⟩ = some (.int .i64 m)) := Lib.hid (fun j m hm => by
      obtain ⟨hj, rfl⟩ := List.getElem?_eq_some_iff.1 hm
      obtain ⟨b, o, h1, h2, h3⟩ := hcl (by omega)
      have := H3.out.lt
      exact ⟨b, o, h1, by have := h2.1; omega, h2.2, h3 j hj⟩)
     obtain ⟨n, hn⟩ : ∃ n, ms.length = n := ⟨_, rfl⟩
     have HN := Lib.hid hn
     have WR4 := Lib.hid (WR.out w4 H4.out)
     have hRR := HRR.out
     rw [hn] at hms ⊢ hRR
     clear hb4 he hg hl hcl hn c0 c1 c2
     obtain ⟨s5, hs5⟩ : ∃ s5 : RdSt, ⟨r.2.bad || decide (64 < n), r.2.vars⟩ = s5 := ⟨_, rfl⟩
     rw [hs5] at hRR
     rw [flag_bad] at hs5
     have hv5 : s5.vars = [] := by rw [← hs5, ← HVS.out]; split <;> rfl
     have HR5 := Lib.hid hRR
     have HV5 := Lib.hid hv5
     clear hv5 hRR
     by_cases h64 : 64 < n
     case' pos =>
      have t1 : decide ((64 : Int) < (n : Int)) = true := decide_eq_true (by omega)
      have t1' : decide (64 < n) = true := decide_eq_true h64
      rw [t1', if_pos rfl] at hs5
      go_wp2_with fail
      refine WR4.out.mono ?_
      rintro e w5 ⟨rfl, hp⟩
      rw [hs5] at hp
      have H5 := Lib.hid hp.re
      have O5 := Lib.hid hp.only
      clear hp hs5 h64
      go_wp2_with fail
     case' neg =>
      have t1 : decide ((64 : Int) < (n : Int)) = false := decide_eq_false (by omega)
      have t1' : decide (64 < n) = false := decide_eq_false h64
      rw [t1', if_neg (by decide)] at hs5
      have H5 := Lib.hid (hs5 ▸ H4.out)
      have O5 := Lib.hid (Only.refl (fun b => b = W0.heap.size) w4)
      clear hs5 h64
      go_wp2_with fail
     all_goals (
      refine wp_loop (fun a w7 => ∃ (marks : List Nat) (u1 u2 u3 u4 u5 u6 u7 u8 u9 u10 u11 u12 u13 u14 u15 u16 u17 u18 u19 u20 u21 u22 u23 u24 u25 u26 u27 u28 u29 u30 u31 u32 u33 u34 u35 u36 u37 u38 u39 u40 u41 u42 u45 u46 u47 u48 u49 u50 u51 u52 u53 u54 u55 u56 u57 u58 u59 u60 u61 u62 u63 u64 u65 u66 u67 u68 u69 u70 u71 u72 u73 u74 u75 u76 u77 u78 u79 u80 u81 u82 u83 u84 u85 u86 u87 u88 : Value), VlRel W0 s.js s.ups w4 D ms RR marks u45 w7 ∧ a = { tmps := #[ptrV W0.heap.size, u1, u2, u3, u4, u5, u6, u7, u8, u9, u10, u11, u12, u13, u14, u15, u16, u17, u18, u19, u20, u21, u22, u23, u24, u25, u26, u27, u28, u29, u30, u31, u32, u33, u34, u35, u36, u37, u38, u39, u40, u41, u42, .slice ao n c, .int .i64 n, u45, u46, u47, u48, u49, u50, u51, u52, u53, u54, u55, u56, u57, u58, u59, u60, u61, u62, u63, u64, u65, u66, u67, u68, u69, u70, u71, u72, u73, u74, u75, u76, u77, u78, u79, u80, u81, u82, u83, u84, u85, u86, u87, u88], defers := marksD marks }) (fun a _ => n - (intOf (a.tmps.getD 45 undef)).toNat) ?_ ?_
      · refine ⟨[], ?_⟩
        (repeat apply Exists.intro)
        exact ⟨⟨0, s5, Wv, _, rfl, Nat.zero_le _, by rw [HV5.out]; exact Nat.zero_le _, H5.out, O5.out, (fun g h => by cases h), ⟨(fun m h => by cases h), .nil⟩, by rw [List.drop_zero]; exact HR5.out⟩, rfl⟩
      intro a wr hinv
      obtain ⟨marks, h⟩ := hinv
      obtain ⟨u1, h⟩ := h; obtain ⟨u2, h⟩ := h; obtain ⟨u3, h⟩ := h; obtain ⟨u4, h⟩ := h; obtain ⟨u5, h⟩ := h; obtain ⟨u6, h⟩ := h; obtain ⟨u7, h⟩ := h; obtain ⟨u8, h⟩ := h
      obtain ⟨u9, h⟩ := h; obtain ⟨u10, h⟩ := h; obtain ⟨u11, h⟩ := h; obtain ⟨u12, h⟩ := h; obtain ⟨u13, h⟩ := h; obtain ⟨u14, h⟩ := h; obtain ⟨u15, h⟩ := h; obtain ⟨u16, h⟩ := h
      obtain ⟨u17, h⟩ := h; obtain ⟨u18, h⟩ := h; obtain ⟨u19, h⟩ := h; obtain ⟨u20, h⟩ := h; obtain ⟨u21, h⟩ := h; obtain ⟨u22, h⟩ := h; obtain ⟨u23, h⟩ := h; obtain ⟨u24, h⟩ := h
      obtain ⟨u25, h⟩ := h; obtain ⟨u26, h⟩ := h; obtain ⟨u27, h⟩ := h; obtain ⟨u28, h⟩ := h; obtain ⟨u29, h⟩ := h; obtain ⟨u30, h⟩ := h; obtain ⟨u31, h⟩ := h; obtain ⟨u32, h⟩ := h
      obtain ⟨u33, h⟩ := h; obtain ⟨u34, h⟩ := h; obtain ⟨u35, h⟩ := h; obtain ⟨u36, h⟩ := h; obtain ⟨u37, h⟩ := h; obtain ⟨u38, h⟩ := h; obtain ⟨u39, h⟩ := h; obtain ⟨u40, h⟩ := h
      obtain ⟨u41, h⟩ := h; obtain ⟨u42, h⟩ := h; obtain ⟨u45, h⟩ := h; obtain ⟨u46, h⟩ := h; obtain ⟨u47, h⟩ := h; obtain ⟨u48, h⟩ := h; obtain ⟨u49, h⟩ := h; obtain ⟨u50, h⟩ := h
      obtain ⟨u51, h⟩ := h; obtain ⟨u52, h⟩ := h; obtain ⟨u53, h⟩ := h; obtain ⟨u54, h⟩ := h; obtain ⟨u55, h⟩ := h; obtain ⟨u56, h⟩ := h; obtain ⟨u57, h⟩ := h; obtain ⟨u58, h⟩ := h
      obtain ⟨u59, h⟩ := h; obtain ⟨u60, h⟩ := h; obtain ⟨u61, h⟩ := h; obtain ⟨u62, h⟩ := h; obtain ⟨u63, h⟩ := h; obtain ⟨u64, h⟩ := h; obtain ⟨u65, h⟩ := h; obtain ⟨u66, h⟩ := h
      obtain ⟨u67, h⟩ := h; obtain ⟨u68, h⟩ := h; obtain ⟨u69, h⟩ := h; obtain ⟨u70, h⟩ := h; obtain ⟨u71, h⟩ := h; obtain ⟨u72, h⟩ := h; obtain ⟨u73, h⟩ := h; obtain ⟨u74, h⟩ := h
      obtain ⟨u75, h⟩ := h; obtain ⟨u76, h⟩ := h; obtain ⟨u77, h⟩ := h; obtain ⟨u78, h⟩ := h; obtain ⟨u79, h⟩ := h; obtain ⟨u80, h⟩ := h; obtain ⟨u81, h⟩ := h; obtain ⟨u82, h⟩ := h
      obtain ⟨u83, h⟩ := h; obtain ⟨u84, h⟩ := h; obtain ⟨u85, h⟩ := h; obtain ⟨u86, h⟩ := h; obtain ⟨u87, h⟩ := h; obtain ⟨u88, h⟩ := h
      obtain ⟨hrel, ha⟩ := h
      subst ha
      try dsimp only
      obtain ⟨j, s1, Wj, vj, rfl, hj, hvj, hre, ho, hvb, hmk, hr⟩ := hrel
      rw [HN.out] at hj
      by_cases hlt : j < n
      · have t1 : decide ((j : Int) < (n : Int)) = true := decide_eq_true (by omega)
        have t1' : decide (j < n) = true := decide_eq_true hlt
        have q1 : IntKind.i64.wrap ((j : Int) + 1) = (j : Int) + 1 := IntWalk.i64_in _ (by omega)
        obtain ⟨m, hm⟩ := get_ex ms j (by rw [HN.out]; exact hlt)
        rw [drop_get hm, varF] at hr
        obtain ⟨bb, o, rfl, h1, h2, h3⟩ := CL.out j m hm
        have e0 := (ho.cellX h2 h1 (o + j)).trans h3
        have KY := Lib.hid (rkeyA_any (vv := vj) hV s1 m wr hre)
        obtain ⟨key, hkey⟩ : ∃ key, keyA s.js m = key := ⟨_, rfl⟩
        rw [hkey] at KY hr
        have hksz : key.size ≤ 1100000 := by rw [← hkey]; exact hK m
        have HRE := Lib.hid hre; have HO := Lib.hid ho; have HRR1 := Lib.hid hr; have HMK := Lib.hid hmk; have HVB := Lib.hid hvb
        have HVJ := Lib.hid hvj
        have HKZ := Lib.hid hksz
        clear hkey hr hre ho hmk hvb hm h1 h2 h3 hvj hksz
        go_wp2_with fail
        refine KY.out.mono ?_
        rintro e wk ⟨rfl, hbk⟩
        have X6 := heap_alloc_new wk (.cells #[.string key, .slice none 0 0] 103)
        have B6 := ext_alloc hbk (.cells #[.string key, .slice none 0 0] 103)
        obtain ⟨W6, hW6⟩ : ∃ W6, wk.alloc (.cells #[.string key, .slice none 0 0] 103) = W6 := ⟨_, rfl⟩
        obtain ⟨N, hN⟩ : ∃ N, wk.heap.size = N := ⟨_, rfl⟩
        rw [hW6] at X6 B6
        rw [hN] at X6
        have HLN := Lib.hid (show wr.heap.size ≤ N by have := hbk.size; omega)
        have hlo : Wj.heap.size ≤ N := by have := HRE.out.only.size; have := hbk.size; omega
        have V6 := Lib.hid (show VaSt W0 Wj vj D W6 N key s1 (.slice none 0 0) [] W6 from ⟨HRE.out.ext B6, Only.refl _ _, X6, RowF.nil, hlo, heap_lt X6⟩)
        have HB6 := Lib.hid B6
        have HW6 := Lib.hid hW6; have HNN := Lib.hid hN
        clear X6 B6 hbk hW6 hN hlo
        go_wp2_with fail
        rw [HW6.out]
        simp only [HNN.out]
        refine (rtexts_any W0.heap.size m W6).mono ?_
        rintro e w7 ⟨rfl, rfl⟩
        have BT := boxesN W6 #[ptrV W0.heap.size] #[.int .i64 m] 67 3
        obtain ⟨W7, hW7⟩ : ∃ W7, ((W6.alloc (.cells #[ptrV W0.heap.size] 67)).alloc (.cells #[.int .i64 m] 3)) = W7 := ⟨_, rfl⟩
        rw [hW7] at BT
        obtain ⟨qb, hqb⟩ : ∃ qb, W6.heap.size = qb := ⟨_, rfl⟩
        obtain ⟨qb1, hqb1⟩ : ∃ qb1, qb + 1 = qb1 := ⟨_, rfl⟩
        have H0 := Lib.hid (show VaJ W0 Wj vj D W6 N key (fun j => j = qb ∨ j = qb1) [] s1 W7 from by
         refine ⟨_, V6.out.ext BT.2.2, fun j hj => ?_⟩
         have z1 := heap_lt BT.2.1
         have z2 := V6.out.hi
         have z3 := V6.out.w0
         refine ⟨by omega, by omega, by omega, nofun⟩)
        rw [hqb, hqb1] at BT
        have TT := Lib.hid (texts1_any (vv := vj) (Wv := Wj) (n := 2) List.length stepVa hV hT (fun b _ _ _ => by simp [stepVa]) [] s1 m qb qb1 W7 BT.1 BT.2.1)
        obtain ⟨tl, htl⟩ : ∃ tl, (textsA s.js s.ups s1 m).1 = tl := ⟨_, rfl⟩
        obtain ⟨s2, hs2⟩ : ∃ s2, (textsA s.js s.ups s1 m).2 = s2 := ⟨_, rfl⟩
        have HTZ := Lib.hid (show (∀ t ∈ tl, t.size ≤ 1100000) ∧ tl.length ≤ 100000 by rw [← htl]; exact textsA_size hT (fun k => hV.kids_len k) s1 m)
        have hR := vals_stepsA s.js s.ups s1 m
        have HVL := Lib.hid (show s2.vars.length ≤ j by rw [← hs2, (textsA_kp s.js s.ups s1 m).vars]; exact HVJ.out)
        have hr1 := HRR1.out
        rw [htl, hs2] at hR hr1
        rw [hR] at TT
        have HRR2 := Lib.hid hr1
        have h4 : W6.heap.size ≤ W7.heap.size := BT.2.2.size
        clear BT hR htl hs2 hr1
        go_wp2_with fail
        refine (wpIn_wide (n := 3)).1 ?_
        refine range_texts (W0 := W0) (Wv := Wj) (vv := vj) (D := D) (gf := 95) (lb := #[.pointer (some ⟨qb, 0, none⟩), .pointer (some ⟨qb1, 0, none⟩)]) (own := fun j => j = qb ∨ j = qb1) (cnt := List.length) (step := stepVa) (b0 := []) (st0 := s1) (R := (true, tl, s2)) (J := VaJ W0 Wj vj D W6 N key) (Jx := fun _ _ _ _ => False) (Z0 := fun j => j = qb ∨ j = qb1) rfl rfl (enters_of Tryz.func95 (by kernel_rfl) rfl) rfl TT.out VaJ.tells
         (fun Z b st W l o h hz hl => VaJ.put o h hz (by omega)) (fun Z b st W l o h hz hl => h) (fun _ h => h) H0.out ?_ ?_ ?_
        · intro lr k2 t W
          gi_wp2
          refine ⟨trivial, fun Z b st W2 hJ hb ht hcn => ?_⟩
          obtain ⟨vb, hv2, hz⟩ := hJ
          obtain ⟨cells, o1, o2⟩ := hv2.row
          obtain ⟨aob, capb, rfl, _⟩ := aown_form o1
          have c1 := Lib.cell_of_heap hv2.box 1
          have HO6 := Lib.hid (And.intro o1 o2)
          have HSB := Lib.hid (And.intro hv2 hz)
          have hbl : b.length < 100000 := by simpa using hcn
          have hsz : W6.heap.size ≤ W2.heap.size := hv2.only.size
          clear hv2 hz o1 o2 hb ht hcn
          gi_wp2_with (gi_at_builtin; refine wpListIn_app1At W2 #[.string t] 9 rfl _ _ 96 rfl W6.heap.size elStA _ _ _ rfl HO6.out.1 rfl rfl ?_ ?_ ?_ ?_ ?_)
          · rfl
          · unfold maxLen; omega
          · omega
          · exact hqb ▸ hsz
          · intro v8 w8 hown8 hgrow8 hat8
            rw [← hqb] at hown8
            obtain ⟨ao8, cap8, rfl, _⟩ := aown_form hown8
            obtain ⟨hp1, cX, fX⟩ := HSB.out.1.push HO6.out.1 HO6.out.2 hown8 hgrow8
            have ho8 : Only (fun j => False ∨ (Value.slice aob b.length capb).ownBlock = some j) W2 w8 := (Only.refl (fun _ => False) W2).push HO6.out.1 hgrow8
            obtain ⟨W8, hW8⟩ : ∃ W8, w8.setCell ⟨N, 1, none⟩ (.slice ao8 (b.length + 1) cap8) = W8 := ⟨_, rfl⟩
            have hkz : KeepZ Z W2 W8 := by
             rw [← hW8]
             exact (KeepZ.only ho8 (fun j hj => ⟨(HSB.out.2 j hj).1, by rintro (t | t); exact t; exact (HSB.out.2 j hj).2.2.2 t⟩)).trans ⟨by simp, fun j hj => Below.heap_setCell _ _ _ _ (HSB.out.2 j hj).2.2.1⟩
            rw [hW8] at hp1
            have hz8 : ∀ j, Z j → j < W8.heap.size ∧ j ≠ W0.heap.size ∧ j ≠ N ∧ (Value.slice ao8 (b.length + 1) cap8).ownBlock ≠ some j := fun j hj => by
             obtain ⟨z1, z2, z3, z4⟩ := HSB.out.2 j hj
             refine ⟨Nat.lt_of_lt_of_le z1 hkz.1, z2, z3, fun e => ?_⟩
             rcases hat8 with t | t
             · rw [← t] at e; exact z4 e
             · rw [t] at e; cases e; omega
            have HQ := Lib.hid (And.intro hkz (show VaJ W0 Wj vj D W6 N key Z (b ++ [t]) st W8 from ⟨_, hp1, hz8⟩))
            clear hown8 hgrow8 hat8 hp1 ho8 hkz hz8
            gi_wp2
            refine ⟨HQ.out.1, rfl, ?_⟩
            exact HQ.out.2
        · intro M Z W hM _ hJ hd
          obtain ⟨vt, hv, _⟩ := hJ
          have HV := Lib.hid hv
          have HM := Lib.hid (hv.mk_cons HO.out HB6.out HLN.out H4.out.lt HMK.out (Nat.le_trans h4 hM) hd)
          obtain ⟨ev, c0, c1, c2, _, hev⟩ := hv.re.cells
          clear hv hd hM
          rcases hev with ⟨hb, rfl⟩ | ⟨hb, bE, rfl⟩
          · have hr3 := HRR2.out
            rw [hb, if_neg (by decide), Bool.false_or] at hr3
            have hbv : s2 = ⟨false, s2.vars⟩ := by cases s2; cases hb; rfl
            obtain ⟨q, hq⟩ : ∃ q, okVarB ⟨key, tl⟩ = q := ⟨_, rfl⟩
            rw [show asK.okVar ⟨key, tl⟩ = q from hq] at hr3
            obtain ⟨aot, capt, hvt, _⟩ := aown_form HV.out.row.choose_spec.1
            have CK := Lib.hid (scheckVar_any ⟨key, tl⟩ vt W (hS.ext HV.out.re.below) (HV.out.row.rowD.rd.wide (fun b h => h.2)) HKZ.out HTZ.out.1 (Nat.le_trans HTZ.out.2 (by decide)))
            rw [hq] at CK
            subst hvt
            have b0 := Lib.cell_of_heap HV.out.box 0; have b1 := Lib.cell_of_heap HV.out.box 1
            have HST := Lib.hid (show (q = true → (⟨!q, s2.vars⟩ : RdSt) = s2) ∧ (q = false → (⟨!q, s2.vars⟩ : RdSt) = s2.fail) from ⟨fun e => by rw [e]; exact hbv.symm, fun e => by rw [e]; rfl⟩)
            have FL := Lib.hid (fun W x (hR : ReA W0 Wj vj W D s2) => rfail_any hV s2 m 85 x W hR)
            have HRR3 := Lib.hid hr3
            clear hb hbv hq hr3
            go_wp2_with fail
            refine CK.out.mono ?_
            rintro e w5 ⟨c5, ⟨hb5, u, rfl, he⟩, hok⟩
            have HV5 := Lib.hid (HV.out.ext hb5)
            have HM5 := Lib.hid (HM.out.keep (Only.of (T := fun _ => False) hb5) (fun _ _ h => h))
            obtain ⟨rfl, rfl⟩ | ⟨hc, pE, rfl⟩ := erA_inv he
            case' inl =>
             have HVF := Lib.hid (show VaSt W0 Wj vj D W6 N key ⟨!q, s2.vars⟩ (.slice aot tl.length capt) tl w5 by rw [HST.out.1 (hok.1 rfl)]; exact HV5.out)
             have HMF := Lib.hid HM5.out
             clear hb5 he hok c0 c1 c2 b0 b1
             go_wp2_with fail
            case' inr =>
             have hq : q = false := by
              cases q with
              | false => rfl
              | true => exact absurd (hok.2 rfl) hc
             have WRP := Lib.hid (wrap_any 11 0 _ c5 w5 he)
             have HB4 := Lib.hid (ext_alloc (Below.refl _ w5) (.cells #[.int .i64 11, .int .i64 0, .iface 85 (.pointer (some pE))] 89))
             have FL4 := Lib.hid (FL.out _ (.pointer (some ⟨w5.heap.size, 0, none⟩)) (HV5.out.re.ext HB4.out))
             have HQ := Lib.hid hq
             clear hb5 he hok hc c0 c1 c2 b0 b1 hq
             go_wp2_with fail
             refine WRP.out.mono ?_
             rintro e w6 ⟨rfl, rfl⟩
             go_wp2_with fail
             refine FL4.out.mono ?_
             rintro e w7' ⟨rfl, hp⟩
             have HVF := Lib.hid (show VaSt W0 Wj vj D W6 N key ⟨!q, s2.vars⟩ (.slice aot tl.length capt) tl w7' by rw [HST.out.2 HQ.out]; exact (HV5.out.ext HB4.out).call hp)
             have HMF := Lib.hid ((HM5.out.keep (Only.of (T := fun _ => False) HB4.out) (fun _ _ h => h)).keep hp.only (fun k hk e => by have := (HM5.out.1 k hk).1; have := H4.out.lt; omega))
             clear hp
             go_wp2_with fail
            all_goals (
             have HVD := Lib.hid (HVF.out.ext (Below.drew (Below.refl _ _)))
             have HMD := Lib.hid (HMF.out.keep (Only.of (T := fun _ => False) (Below.drew (Below.refl _ _))) (fun _ _ h => h))
             have HRW := Lib.hid (HVD.out.re.vars.row.turn HVD.out.re.only (fun b e => by omega))
             obtain ⟨i0, hi0, hz0, hz1, hz2⟩ := info_parts elVar.hi
             obtain ⟨aoj, capj, hvj, _⟩ := aown_form (own_of HRW.out)
             obtain ⟨ev, r0, r1, r2, _, _⟩ := HVF.out.re.cells
             have b0 := Lib.cell_of_heap HVF.out.box 0; have b1 := Lib.cell_of_heap HVF.out.box 1
             have zR := HVF.out.re.lt
             have zN := heap_lt HVF.out.box
             have hvl : s2.vars.length + 1 ≤ 100001 := by have := HVL.out; omega
             subst hvj
             go_wp2_with fail
             refine wp_region_noPanic ?_
             go_region_law (
              (refine step_append_lies _ (by rfl) _ _ _ (by rfl) (W0.heap.size + 1) 103 i0 _ 2 40 Tryz.underlying25 hi0 hz0 hz1 hz2 rfl (by omega) (.slice aoj s2.vars.length capj) s2.vars.length _ (by rfl) ((own_of HRW.out).alloc _) ⟨_, 0, none⟩ 1 1 [.string key, .slice aot tl.length capt] (by rfl) (by rfl) (World.news_of_block (cs := #[.string key, .slice aot tl.length capt]) (t := 103) (fr := (0, 0)) (heap_alloc_new _ _)) (by simp [Value.oneCell']) (by omega) (by unfold maxLen; omega) (by omega) (by have := HVD.out.re.lt; simp; omega) _ rfl ?_)
              intro g' cap' w9 hown9 hgrow9 hat9 hlt9
              obtain ⟨hre9, ho9, cX, fX, hat'⟩ := HVD.out.add' (own_of HRW.out) HRW.out.choose_spec.2 hown9 hgrow9 (hat9.imp (fun h => h) (fun h => by show some g' = _; rw [h]; simp))
              have HRE9 := Lib.hid hre9; have HO9 := Lib.hid ho9; have HAT := Lib.hid hat'
              clear hown9 hgrow9 hat9 hlt9 hre9 ho9)
             all_goals (
              refine NoPanic.normal ?_
              have RL := Lib.hid (VlRel.next (R := RR) (js := s.js) (ups := s.ups) (ms := ms) (j := j) HVD.out HMD.out HO.out HB6.out HLN.out H4.out.lt HVB.out (own_of HRW.out) HRE9.out HO9.out HAT.out (by rw [HN.out]; exact hlt) HVL.out HRR3.out)
              go_wp2
              refine ⟨⟨M :: marks, ?_⟩, by simp [intOf]; omega⟩
              have R := RL.out
              (repeat apply Exists.intro)
              exact ⟨R, rfl⟩))
          · have hr3 := HRR2.out
            rw [hb, if_pos rfl] at hr3
            have HP := Lib.hid (show VrPost W0 w D RR (.returned (.tuple #[])) (outWs (M :: marks) W) by rw [← hr3]; exact VrPost.of HV.out.re O4.out (HV.out.o4 HO.out HB6.out HLN.out) HM.out hwl)
            clear hr3
            go_wp2
            exact (postMs (M :: marks) rfl HM.out.2 (fun m h => (HM.out.1 m h).2) (results_none rfl _ _ _) HP.out).1
        · intro M Z W _ hR1
          cases hR1
      · have t1 : decide ((j : Int) < (n : Int)) = false := decide_eq_false (by omega)
        have t1' : decide (j < n) = false := decide_eq_false hlt
        rw [List.drop_eq_nil_of_le (by rw [HN.out]; omega), varF] at hr
        have HP := Lib.hid (show VrPost W0 w D RR (.returned (.tuple #[])) (outWs marks wr) by rw [← hr]; exact VrPost.of hre O4.out ho hmk hwl)
        have HMK := Lib.hid hmk
        clear hre ho hr hmk hvb hlt
        go_wp2
        exact (postMs marks rfl HMK.out.2 (fun m h => (HMK.out.1 m h).2) (results_none rfl _ _ _) HP.out).2)
end
end Go.Proofs.YtcaiibkgajhohaaGreatDoor
