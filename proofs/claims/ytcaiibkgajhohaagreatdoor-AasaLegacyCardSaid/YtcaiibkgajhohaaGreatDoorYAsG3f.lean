/- Texts put together. -/
import Derived.Test.YtcaiibkgajhohaaGreatDoorYAsG2
import Derived.Test.YtcaiibkgajhohaaGreatDoorYQuo0f
import Derived.Test.YtcaiibkgajhohaaGreatDoorYAppAt0f
namespace Go.Proofs.YtcaiibkgajhohaaGreatDoor
open Go.RowKit
theorem ext_list (s : ByteArray) (i j : Nat) : (s.extract i j).data.toList = (s.data.toList.take j).drop i := by
 rw [ByteArray.data_extract, Array.toList_extract, List.extract_eq_take_drop]
 simp [List.drop_take]
theorem ba_ext {a b : ByteArray} (h : a.data.toList = b.data.toList) : a = b := by
 cases a; cases b
 simpa using Array.toList_inj.1 h
theorem not_pre (t : ByteArray) : Go.Lib.hasPrefix t.data.toList [78, 79, 84, 32] = notB t := by
 unfold Go.Lib.hasPrefix notB
 rw [Bool.eq_iff_iff, decide_eq_true_eq, List.isPrefixOf_iff_prefix, List.prefix_iff_eq_take]
 have e : (t.extract 0 4).data.toList = t.data.toList.take 4 := by rw [ext_list, List.drop_zero]
 constructor
 · intro h; exact ba_ext (e.trans h.symm)
 · intro h; show [78, 79, 84, 32] = t.data.toList.take 4
   rw [← e, h]
theorem not_trim (t : ByteArray) : (⟨(Go.Lib.trimPrefix t.data.toList [78, 79, 84, 32]).toArray⟩ : ByteArray) = notR t := by
 unfold Go.Lib.trimPrefix notR
 rw [not_pre]
 by_cases h : notB t = true
 · rw [if_pos h, if_pos h]
   refine ba_ext ?_
   rw [ext_list, List.take_of_length_le (by simp)]; rfl
 · rw [if_neg h, if_neg h]
theorem notR_size (t : ByteArray) : (notR t).size ≤ t.size := by
 unfold notR
 split
 · rw [ByteArray.size_extract]; omega
 · exact Nat.le_refl _
def lgE (t : ByteArray) : List (Int × Int) := match globE (notR t) with
 | [] => []
 | x :: c => (11, 0) :: x :: c
def lgA (t : ByteArray) : RuA := (legacyA asK t).getD ru0
theorem lg_ok {t : ByteArray} (h : globE (notR t) = []) : lgE t = [] ∧ legacyA asK t = some { ru0 with path := notR t, hasPath := true, exclude := notB t } := by
 unfold lgE legacyA
 rw [h]
 refine ⟨rfl, ?_⟩
 rw [if_pos (show asK.okGlob (notR t) = true by show okGlobB (notR t) = true; unfold okGlobB; rw [h]; rfl)]
theorem lg_no {t : ByteArray} {x : Int × Int} {c : List (Int × Int)} (h : globE (notR t) = x :: c) : lgE t = (11, 0) :: x :: c ∧ legacyA asK t = none := by
 unfold lgE legacyA
 rw [h]
 refine ⟨rfl, ?_⟩
 rw [if_neg (show ¬ asK.okGlob (notR t) = true by show ¬ okGlobB (notR t) = true; unfold okGlobB; rw [h]; simp)]
def LgPost (w : World) (t : ByteArray) (e : Ending) (w' : World) : Prop := ∃ u, e = .returned (.tuple #[.agg (ruC (lgA t) (.slice none 0 0)), u]) ∧ ErA w' u (lgE t) ∧ Below w.heap.size w w'
set_option maxRecDepth 100000 in
set_option maxHeartbeats 4000000 in
/-- aasa.Legacy -/
theorem legacy_any (t : ByteArray) (w : World) (hE : SEnv w) (ht : t.size ≤ 1100000) : Calls Tryz.prog 13 #[.string t] w (LgPost w t) := by
 have CP := Lib.hid (fun W => (show Calls Tryz.prog 33 #[.string t, .string ⟨#[78, 79, 84, 32]⟩] W fun e w' => e = .returned (.tuple #[.string (notR t), .bool (notB t)]) ∧ w' = W from by
  have h := Tryz.strings_CutPrefix t ⟨#[78, 79, 84, 32]⟩ W
  rw [show (⟨#[78, 79, 84, 32]⟩ : ByteArray).data.toList = [78, 79, 84, 32] from rfl, not_trim, not_pre] at h
  exact h))
 have hx := heap_alloc_new w (.cells (ruC ru0 (.slice none 0 0)) 40)
 have hb := ext_alloc (Below.refl _ w) (.cells (ruC ru0 (.slice none 0 0)) 40)
 obtain ⟨Wa, hWa⟩ : ∃ Wa, w.alloc (.cells #[.string ⟨#[]⟩, .string ⟨#[]⟩, .string ⟨#[]⟩, .bool false, .bool false, .bool false, .slice none 0 0, .bool false, .bool false, .bool false] 40) = Wa := ⟨_, rfl⟩
 rw [show w.alloc (.cells (ruC ru0 (.slice none 0 0)) 40) = Wa from hWa] at hx hb
 have GC := Lib.hid (gcheck_any (notR t) Wa (hE.ut.ext hb) (Nat.le_trans (notR_size t) ht))
 have LO := Lib.hid (lg_ok (t := t))
 have LN := Lib.hid (fun x c => lg_no (t := t) (x := x) (c := c))
 have HX := Lib.hid hx; have HB := Lib.hid hb
 obtain ⟨p, hp⟩ : ∃ p, notR t = p := ⟨_, rfl⟩
 obtain ⟨ex, hex⟩ : ∃ ex, notB t = ex := ⟨_, rfl⟩
 rw [hp] at CP GC LO LN
 rw [hex] at CP LO
 clear hE ht hx hb hp hex
 go_enter Tryz.func13, Tryz.ntmps13
 go_wp2_with fail
 clear hWa
 refine (CP.out _).mono ?_
 rintro e w1 ⟨rfl, rfl⟩
 go_wp2_with fail
 refine GC.out.mono ?_
 rintro e w2 ⟨hb2, u, rfl, he⟩
 have X2 := (hb2.block _ (heap_lt HX.out)).trans HX.out
 have B2 := Lib.hid (ext_trans HB.out hb2)
 have HC := Lib.hid he
 obtain ⟨hc, rfl⟩ | ⟨hc, pf, rfl⟩ := erA_inv he
 · have hl := LO.out hc
   have hst := ru_store (x := { ru0 with path := p, hasPath := true, exclude := ex }) (v := .slice none 0 0) X2 rfl
   have hld := ru_load (setRow_heap (c := ruC { ru0 with path := p, hasPath := true, exclude := ex } (.slice none 0 0)) X2)
   have HP : Hid (LgPost w t (.returned (.tuple #[.agg (ruC { ru0 with path := p, hasPath := true, exclude := ex } (.slice none 0 0)), .nilIface])) (w2.setRow w.heap.size (ruC { ru0 with path := p, hasPath := true, exclude := ex } (.slice none 0 0)))) := Lib.hid ⟨_, by unfold lgA; rw [hl.2]; rfl, by rw [hl.1]; exact ErA.nil, setRow_below B2.out (Nat.le_refl _)⟩
   clear hl hb2 he hc X2
   go_wp2_with ((with_reducible show wpList _ _ _ (_ :: _) _ _); refine st_arr 40 w.heap.size _ hst _ _ rfl rfl rfl rfl ?_)
   (try simp only [Exit.inBlock, Exit.then])
   refine bodyPost_ret (v := .tuple #[.agg (ruC { ru0 with path := p, hasPath := true, exclude := ex } (.slice none 0 0)), .nilIface]) (by simp [results, Tryz.results13, asAddr, Result.andThen, hld]) rfl HP.out
 · obtain ⟨x, c, hxc⟩ : ∃ x c, globE p = x :: c := by
     cases h : globE p with
     | nil => exact absurd h hc
     | cons x c => exact ⟨x, c, rfl⟩
   have hl := LN.out x c hxc
   have WR := Lib.hid (wrap_any 11 0 _ (globE p) w2 he)
   have HF := Rd.fault (k := 11) (a := 0) he
   have hb3 := ext_alloc (Below.refl _ w2) (.cells #[.int .i64 11, .int .i64 0, .iface 85 (.pointer (some pf))] 89)
   have X3 := (hb3.block _ (heap_lt X2)).trans X2
   have hst := ru_store (x := ru0) (v := .slice none 0 0) X3 rfl
   rw [row_same X3] at hst
   have hld := ru_load X3
   have HP : Hid (LgPost w t (.returned (.tuple #[.agg (ruC ru0 (.slice none 0 0)), .iface 85 (.pointer (some ⟨w2.heap.size, 0, none⟩))])) (w2.alloc (.cells #[.int .i64 11, .int .i64 0, .iface 85 (.pointer (some pf))] 89))) := Lib.hid ⟨_, by unfold lgA; rw [hl.2]; rfl, by rw [hl.1, ← hxc]; exact HF, ext_trans B2.out hb3⟩
   clear hl hb2 he hc X2 X3 hb3 HF hxc
   go_wp2_with fail
   refine WR.out.mono ?_
   rintro e w3 ⟨rfl, rfl⟩
   go_wp2_with ((with_reducible show wpList _ _ _ (_ :: _) _ _); refine st_arr 40 w.heap.size _ hst _ _ rfl rfl rfl rfl ?_)
   (try simp only [Exit.inBlock, Exit.then])
   refine bodyPost_ret (v := .tuple #[.agg (ruC ru0 (.slice none 0 0)), .iface 85 (.pointer (some ⟨w2.heap.size, 0, none⟩))]) (by simp [results, Tryz.results13, asAddr, Result.andThen, hld]) rfl HP.out
end Go.Proofs.YtcaiibkgajhohaaGreatDoor
namespace Go.Proofs.YtcaiibkgajhohaaGreatDoor
open Go.RowKit
theorem wpList_app1At {P : Program} (w : World) {ops : Array Oper} {rest : List Oper} {o : Oper} {a : Act} {Q : Exit → Act → World → Prop} (arr : Array Value) (te : TypeId) (hgd : o.guard = none) (s x : Operand) (t : TypeId)
    (ho : o.op = .call { callee := .builtin .append, args := #[s, x], argTypes := #[t, t] })
    (base : Nat) {e : TypeId} {z : Value} {size bytes : Nat} (T : ElemTy P t e size bytes z)
    (v : Value) (n : Nat) (xs : List Value) (hs : a.eval s = v) (hown : w.ownsRow base e size v n xs) (hx : a.eval x = .slice (some ⟨w.heap.size, 0, none⟩) 1 1)
    (hsz : arr.size = size) (h1 : ∀ u ∈ arr.toList, u.oneCell' = true)
    (h63 : n + 1 ≤ maxLen) (hbytes : (n + 1) * bytes ≤ 140737488355328) (hbase : base ≤ w.heap.size)
    (hK : ∀ v' w', w'.ownsRow base e size v' (n + 1) (xs ++ arr.toList) → (w.alloc (.cells arr te)).grownBy w' v.ownBlock → (v.ownBlock = v'.ownBlock ∨ v'.ownBlock = some (w.heap.size + 1)) → wpList P ops Q rest (a.put o.dst v') w') : wpList P ops Q (o :: rest) a (w.alloc (.cells arr te)) :=
 wpList_appAt _ hgd s x t ho base T v n xs hs (hown.alloc _) ⟨w.heap.size, 0, none⟩ 1 1 arr.toList hx (by simp [hsz]) (World.news_of_block (heap_alloc_new w _)) h1 h63 hbytes (by simp; omega) (fun v' w' a1 a2 a3 => hK v' w' a1 a2 (by simpa [eq_comm] using a3))
def appC (a : AppA) : List Value := [.string a.team, .string a.bundle]
theorem elApp : ElemTy Tryz.prog 32 37 2 32 (.agg #[.string ⟨#[]⟩, .string ⟨#[]⟩]) := ⟨Tryz.underlying32, by kernel_rfl, rfl, by decide⟩
/-- A row of apps that a call owns. -/
abbrev RowA (B : Nat) (w : World) (v : Value) (l : List AppA) : Prop := w.ownsRow B 37 2 v l.length (l.flatMap appC)
/-- Nothing but the reader and a row has turned; the row lies where it lay, or is new. -/
structure Grew (W0 w w' : World) (v v2 : Value) : Prop where
 only : Only (fun b => b = W0.heap.size ∨ v.ownBlock = some b) w w'
 at_ : v.ownBlock = v2.ownBlock ∨ ∀ g, v2.ownBlock = some g → w.heap.size ≤ g
theorem Only.push {T : Nat → Prop} {a b c : World} {v : Value} {o : Obj} {B n k : Nat} {e : TypeId} {xs : List Value} (h : Only T a b) (_ho : b.ownsRow B e k v n xs) (hg : (b.alloc o).grownBy c v.ownBlock) : Only (fun b => T b ∨ v.ownBlock = some b) a c :=
 ((h.wide (T' := fun b => T b ∨ v.ownBlock = some b) (fun _ _ h => .inl h)).alloc o).grown hg (fun _ h _ => .inr h)
section
variable {W0 Wv : World} {vv : Value} {base D T : Nat} {s : PS} {nodes : Int} {tv : Value} {ns : List ANode}
def ApPost (W0 Wv : World) (vv : Value) (w : World) (D B : Nat) (v : Value) (r : List AppA × RdSt) (e : Ending) (w' : World) : Prop := ∃ v2, e = .returned v2 ∧ RowA B w' v2 r.1 ∧ ReA W0 Wv vv w' D r.2 ∧ Grew W0 w w' v v2
theorem ApPost.of {w w1 w2 : World} {B : Nat} {v v2 : Value} {o : Obj} {st : RdSt} {l : List AppA} {a : AppA} (hp : RePost W0 Wv vv w D st w1) (hr : RowA B w v l) (hB : Wv.heap.size ≤ B) (hown : w2.ownsRow B 37 2 v2 (l.length + 1) (l.flatMap appC ++ appC a)) (hg : (w1.alloc o).grownBy w2 v.ownBlock) (hat : v.ownBlock = v2.ownBlock ∨ v2.ownBlock = some (w1.heap.size + 1)) :
    ApPost W0 Wv vv w D B v (l ++ [a], st) (.returned v2) w2 := by
 have hv : W0.heap.size < Wv.heap.size := hp.re.vars.lt
 have hr1 : RowA B w1 v l := aown_ext hr (fun g hg => hp.only.block g (hr.lt g hg).2 (fun e => by have := (hr.lt g hg).1; omega)) (Nat.le_refl _)
 refine ⟨_, rfl, ?_, ?_, hp.only.push hr1 hg, ?_⟩
 · show w2.ownsRow B _ 2 v2 (l ++ [a]).length ((l ++ [a]).flatMap appC)
   rw [List.length_append, List.flatMap_append]
   simpa using hown
 · exact hp.re.turn ((Only.refl (fun _ => False) w1).push hr1 hg) (fun k hk => by
     rcases hk with h | h
     · exact h.elim
     · have := (hr1.lt k h).1; omega)
 · rcases hat with h | h
   · exact .inl h
   · refine .inr (fun g hg => ?_)
     rw [h] at hg
     cases hg
     have := hp.only.size
     omega
set_option maxRecDepth 100000 in
set_option maxHeartbeats 4000000 in
/-- aasa.reader.app -/
theorem rapp_any (hV : PView W0 base D T s nodes tv ns) (st : RdSt) (id : Nat) (t : ByteArray) (l : List AppA) (v : Value) (B : Nat) (w : World) (h : ReA W0 Wv vv w D st) (ht : t.size ≤ 1100000) (hr : RowA B w v l) (hl : l.length ≤ 1100000) (hB : Wv.heap.size ≤ B) (hBw : B ≤ w.heap.size) :
    Calls Tryz.prog 129 #[ptrV W0.heap.size, .int .i64 id, .string t, v] w (ApPost W0 Wv vv w D B v (appA st t l)) := by
 have AP := Lib.hid (app_any t w ht)
 have FL := Lib.hid (fun W x (hR : ReA W0 Wv vv W D st) => rfail_any hV st id 85 x W hR)
 unfold appA
 have H := Lib.hid h; have HR := Lib.hid hr
 obtain ⟨R, hR⟩ : ∃ R, appR t = R := ⟨_, rfl⟩
 obtain ⟨tm, htm⟩ : ∃ x, appTeam t = x := ⟨_, rfl⟩
 obtain ⟨bn, hbn⟩ : ∃ x, appBundle t = x := ⟨_, rfl⟩
 rw [hR, htm, hbn] at AP
 rw [hR, htm, hbn]
 have hn : l.length + 1 ≤ 1100001 := by omega
 have HVV := h.vars.lt
 obtain ⟨RR, hRR⟩ : ∃ RR : List AppA × RdSt, (l ++ [⟨tm, bn⟩], ⟨st.bad || decide (R ≠ []), st.vars⟩) = RR := ⟨_, rfl⟩
 rw [hRR]
 have HRR := Lib.hid hRR
 have HV := Lib.hid HVV
 have HB2 := Lib.hid (And.intro hB hBw)
 have hm : l.length + 1 ≤ maxLen := by unfold maxLen; omega
 have hm2 : (l.length + 1) * 32 ≤ 140737488355328 := by omega
 obtain ⟨n, hnn⟩ : ∃ n, l.length = n := ⟨_, rfl⟩
 have HN := Lib.hid hnn
 rw [hnn] at hm hm2
 have HM := Lib.hid (And.intro hm hm2)
 clear h hr hR htm hbn hV hl hB HVV hRR hn hnn hBw hm hm2
 go_enter Tryz.func129, Tryz.ntmps129
 go_wp2_with fail
 refine AP.out.mono ?_
 rintro e w1 ⟨u, rfl, he, hb1⟩
 have X1 := heap_alloc_new w1 (.cells #[.string tm, .string bn] 37)
 have B1 := Lib.hid (ext_alloc hb1 (.cells #[.string tm, .string bn] 37))
 have EA : ErA w1 u R := he.wide (fun b hb => hb.2)
 obtain ⟨W1, hW1⟩ : ∃ W1, w1.alloc (.cells #[.string tm, .string bn] 37) = W1 := ⟨_, rfl⟩
 obtain ⟨K, hK⟩ : ∃ K, w1.heap.size = K := ⟨_, rfl⟩
 have EA : ErA W1 u R := by rw [← hW1]; exact EA.ext (ext_alloc (Below.refl _ _) _)
 rw [hW1] at X1 B1
 rw [hK] at X1
 have P1 := Lib.hid (RePost.of H.out B1.out)
 have kw : Hid (w.heap.size ≤ K) := Lib.hid (by rw [← hK]; exact hb1.size)
 clear he hb1
 obtain ⟨hc, rfl⟩ | ⟨hc, pf, rfl⟩ := erA_inv EA
 · have c0 := Lib.cell_of_heap X1 0; have c1 := Lib.cell_of_heap X1 1
   have R1 : RowA B W1 v l := aown_ext HR.out (fun g hg => B1.out.block g (HR.out.lt g hg).2) (Nat.le_refl _)
   have HR1 := Lib.hid R1
   have BL := Lib.hid (show B ≤ W1.heap.size from Nat.le_trans HB2.out.2 B1.out.size)
   have hRR := HRR.out
   rw [hc] at hRR
   have hst : (⟨st.bad || decide (([] : List (Int × Int)) ≠ []), st.vars⟩ : RdSt) = st := by cases st; simp
   rw [hst] at hRR
   have HRS := Lib.hid hRR
   clear EA hc X1 R1 hRR hst
   go_wp2_with (at_builtin; refine wpList_app1At W1 #[.string tm, .string bn] 37 rfl _ _ 32 rfl B elApp _ _ _ rfl HR1.out rfl rfl ?c1 ?c2 ?c3 ?c4 ?_)
   case c1 => exact ⟨rfl, rfl⟩
   case c2 => rw [HN.out]; exact HM.out.1
   case c3 => rw [HN.out]; exact HM.out.2
   case c4 => exact BL.out
   intro v2 w2 hown hg hat
   have HP := Lib.hid (ApPost.of (a := ⟨tm, bn⟩) P1.out HR.out HB2.out.1 hown hg hat)
   clear hown hg hat hW1 hK
   go_wp2
   go_ret
   rw [← HRS.out]
   exact HP.out
 · have WR := Lib.hid (wrap_any 11 0 _ R W1 EA)
   have hb4 := ext_alloc (Below.refl _ W1) (.cells #[.int .i64 11, .int .i64 0, .iface 85 (.pointer (some pf))] 89)
   have P2 := Lib.hid (P1.out.more hb4)
   have X2 := Lib.hid ((hb4.block _ (heap_lt X1)).trans X1)
   have FL2 := Lib.hid (FL.out _ (.pointer (some ⟨W1.heap.size, 0, none⟩)) P2.out.re)
   have hKW : K ≠ W0.heap.size := by have := H.out.only.size; have := HV.out; have := kw.out; omega
   have hRR := HRR.out
   rw [show (⟨st.bad || decide (R ≠ []), st.vars⟩ : RdSt) = st.fail by rw [decide_eq_true hc, Bool.or_true]; rfl] at hRR
   have HRS := Lib.hid hRR
   clear EA hc X1 hb4 hRR
   go_wp2_with fail
   clear hW1 hK
   refine WR.out.mono ?_
   rintro e w3 ⟨rfl, rfl⟩
   go_wp2_with fail
   refine FL2.out.mono ?_
   rintro e w4 ⟨rfl, hp⟩
   have P4 := Lib.hid (P2.out.trans hp)
   have X4 := oblock hp.only X2.out hKW
   have c0 := Lib.cell_of_heap X4 0; have c1 := Lib.cell_of_heap X4 1
   have HR1 := Lib.hid (show RowA B w4 v l from aown_ext HR.out (fun g hg => P4.out.only.block g (HR.out.lt g hg).2 (fun e => by have := (HR.out.lt g hg).1; have := HV.out; have := HB2.out.1; omega)) (Nat.le_refl _))
   have BL := Lib.hid (show B ≤ w4.heap.size from Nat.le_trans HB2.out.2 P4.out.only.size)
   clear hp X4
   go_wp2_with (at_builtin; refine wpList_app1At w4 #[.string tm, .string bn] 37 rfl _ _ 32 rfl B elApp _ _ _ rfl HR1.out rfl rfl ?c1 ?c2 ?c3 ?c4 ?_)
   case c1 => exact ⟨rfl, rfl⟩
   case c2 => rw [HN.out]; exact HM.out.1
   case c3 => rw [HN.out]; exact HM.out.2
   case c4 => exact BL.out
   intro v2 w2 hown hg hat
   have HP := Lib.hid (ApPost.of (a := ⟨tm, bn⟩) P4.out HR.out HB2.out.1 hown hg hat)
   clear hown hg hat
   go_wp2
   go_ret
   rw [← HRS.out]
   exact HP.out
end
end Go.Proofs.YtcaiibkgajhohaaGreatDoor
