/- Texts put together. -/
import Derived.Test.YtcaiibkgajhohaaGreatDoorYAsBf
import Derived.Test.YtcaiibkgajhohaaGreatDoorYAs7f
namespace Go.Proofs.YtcaiibkgajhohaaGreatDoor
open Go.RowKit
abbrev VP := ByteArray × Value
def encV (x : VP) : List Value := [.string x.1, x.2]
theorem encV_at (x : VP) : (encV x)[0]? = some (.string x.1) ∧ (encV x)[1]? = some x.2 := ⟨rfl, rfl⟩
theorem Rds.uncons {S : Nat → Prop} {w : World} {cells : List Value} {d : Dat} {ds : List Dat} (h : Rds S w cells (d :: ds)) : ∃ v vs, cells = v :: vs ∧ Rd S w v d ∧ Rds S w vs ds := by
 cases cells with
 | nil => exact absurd h.1 (by simp)
 | cons v vs => exact ⟨v, vs, rfl, h.2 0 v d rfl rfl, ⟨by simpa using h.1, fun j u e hu he => h.2 (j + 1) u e (by simpa using hu) (by simpa using he)⟩⟩
/-- The variables' row, in a world. -/
def RowV (w : World) (vv : Value) (vars : List VaA) : Prop := ∃ (base : Nat) (zs : List VP), w.ownsRow base 103 2 vv vars.length (zs.flatMap encV) ∧ zs.map (·.1) = vars.map (·.name)
theorem RowV.ext {w w' : World} {vv : Value} {vars : List VaA} (h : RowV w vv vars) (hb : Below w.heap.size w w') : RowV w' vv vars := by
 obtain ⟨base, zs, ho, hz⟩ := h
 exact ⟨base, zs, aown_ext ho (fun g hg => hb.block g (ho.lt g hg).2) (Nat.le_refl _), hz⟩
theorem pairs_of {S : Nat → Prop} {w : World} : ∀ (vars : List VaA) (cells : List Value), Rds S w cells (vars.flatMap vaD) → ∃ zs : List VP, cells = zs.flatMap encV ∧ zs.map (·.1) = vars.map (·.name)
 | [], cells, h => ⟨[], List.eq_nil_of_length_eq_zero h.1, rfl⟩
 | v :: vars, cells, h => by
   rw [List.flatMap_cons] at h
   obtain ⟨a, c1, rfl, ha, h1⟩ := Rds.uncons h
   obtain ⟨b, c2, rfl, _, h2⟩ := Rds.uncons h1
   obtain ⟨zs, rfl, hz⟩ := pairs_of vars c2 h2
   rw [ha.str_inv]
   exact ⟨(v.name, b) :: zs, rfl, by rw [List.map_cons, List.map_cons, hz]⟩
theorem ReA.rowV {W0 Wv w : World} {vv : Value} {D : Nat} {st : RdSt} (h : ReA W0 Wv vv w D st) : RowV w vv st.vars := by
 obtain ⟨cells, ho, hr⟩ := h.vars.row
 obtain ⟨zs, rfl, hz⟩ := pairs_of _ _ hr
 refine ⟨W0.heap.size + 1, zs, aown_ext ho (fun g hg => h.only.block g (ho.lt g hg).2 (fun e => by have := (ho.lt g hg).1; omega)) (Nat.le_refl _), hz⟩
theorem any_names (t : ByteArray) : ∀ (zs : List VP) (vars : List VaA), zs.map (·.1) = vars.map (·.name) → (zs.any fun x => decide (x.1 = t)) = (vars.any fun v => decide (v.name = t))
 | [], [], _ => rfl
 | [], _ :: _, h => by cases h
 | _ :: _, [], h => by cases h
 | z :: zs, v :: vars, h => by
   rw [List.map_cons, List.map_cons, List.cons.injEq] at h
   rw [List.any_cons, List.any_cons, any_names t zs vars h.2, h.1]
set_option maxRecDepth 100000 in
theorem valIn_any (t : ByteArray) (B : Nat) (w : World) (hB : B < w.heap.size) (hcell : w.cell? ⟨B, 0, none⟩ = some (.string t)) :
    PredBelow Tryz.prog 198 #[.pointer (some ⟨B, 0, none⟩)] (fun x => .agg (encV x).toArray) (fun x => decide (x.1 = t)) w := fun W x hb => by
 have hc : W.cell? ⟨B, 0, none⟩ = some (.string t) := (hb.cell (p := ⟨B, 0, none⟩) hB).trans hcell
 have hBW : B < W.heap.size := Nat.lt_of_lt_of_le hB hb.size
 have hne : B ≠ W.heap.size := by omega
 obtain ⟨q, hqq⟩ : ∃ q, decide (x.1 = t) = q := ⟨_, rfl⟩
 have hq : (x.1.toList == t.toList) = q := by
  by_cases e : x.1 = t
  · rw [← hqq, beqS_t e, decide_eq_true e]
  · rw [← hqq, beqS_f e, decide_eq_false e]
 show Calls Tryz.prog 198 #[.agg #[.string x.1, x.2], .pointer (some ⟨B, 0, none⟩)] W fun e w' => e = .returned (.bool (decide (x.1 = t))) ∧ Below w.heap.size w w'
 rw [hqq]
 clear hqq
 go_enter Tryz.func198, Tryz.ntmps198
 go_wp2
 go_ret
 exact ⟨rfl, hb.alloc hb.size _⟩
set_option maxRecDepth 100000 in
set_option maxHeartbeats 4000000 in
/-- subst.values -/
theorem svalues_any (vars : List VaA) (vv : Value) (t : ByteArray) (w : World) (h : RowV w vv vars) :
    Calls Tryz.prog 193 #[vv, .string t] w fun e w' => (∃ u, e = .returned (.tuple #[u, .bool (vars.any fun v => decide (v.name = t))])) ∧ Below w.heap.size w w' := by
 obtain ⟨base, zs, ho, hz⟩ := h
 rw [← any_names t zs vars hz]
 have hl : zs.length = vars.length := by have := congrArg List.length hz; simpa using this
 rw [← hl] at ho
 have eg : ∀ args w, (callFunc 198 args).run Tryz.prog w = .ok (.enter 198 args) w := enters_of Tryz.func198 (by kernel_rfl) rfl
 have HB1 := Lib.hid (ext_alloc (Below.refl _ w) (.cells #[.string t] 9))
 have HX1 := Lib.hid (heap_alloc_new w (.cells #[.string t] 9))
 rcases ho.2 with ⟨rfl, hn⟩ | ⟨g, cap, cur, rfl, hg, hcur, hnc, hcm, hcs, htk⟩
 · have hzs : zs = [] := List.eq_nil_of_length_eq_zero hn
   rw [hzs]
   rw [hzs] at ho hn
   have K : ∀ W, Calls Tryz.prog 197 #[.slice none 0 0, .func (.func 198) #[] #[.pointer (some ⟨w.heap.size, 0, none⟩)]] W fun e w' => e = .returned (.int .i64 (-1)) ∧ w' = W := fun W => by
    go_enter Tryz.func197, Tryz.ntmps197
    go_wp2_with fail
    go_loopw [8] (fun k wr => k = .int .i64 0 ∧ wr = W) (fun _ _ => 0)
    case atStart => exact ⟨rfl, rfl⟩
    case round =>
     obtain ⟨rfl, rfl⟩ := hrel
     go_wp2
     go_ret
     exact ⟨rfl, rfl⟩
   have K := Lib.hid K
   have HB := Lib.hid HB1.out
   clear eg hl hz ho hn hzs HX1
   go_enter Tryz.func193, Tryz.ntmps193
   go_wp2_with fail
   refine (K.out _).mono ?_
   rintro e w1 ⟨rfl, rfl⟩
   go_wp2
   go_ret2
   exact ⟨⟨_, rfl⟩, HB.out⟩
 · have hgl := heap_lt hcur
   have hne : g ≠ w.heap.size := by omega
   have hz9 : zs.length ≤ 9223372036854775807 := by
    have : maxLen ≤ 9223372036854775807 := by decide
    omega
   have K := fun (W : World) (hW : Below w.heap.size w W) (hB : w.heap.size < W.heap.size) (hcell : W.cell? ⟨w.heap.size, 0, none⟩ = some (.string t)) => AnyQ.slices_IndexFunc Tryz.idxVar 2 Tryz.isAgg103 Tryz.sizeOf103 encV (fun _ => rfl) (fun x => decide (x.1 = t)) 198 #[.pointer (some ⟨w.heap.size, 0, none⟩)] eg g 0 zs.length cap zs W (valIn_any t w.heap.size W hB hcell) (Nat.le_refl _) hz9 (Nat.lt_of_lt_of_le hgl hW.size) (fun j hj i v hv => by
    have h1 := bcell1 hW hgl (0 + j * 2 + i)
    rw [h1, Nat.zero_add]
    have hx : zs[j]? = some zs[j]! := by rw [getElem!_pos zs j hj]; exact List.getElem?_eq_getElem hj
    rw [row_cell (enc := encV) (k := 2) (fun _ => rfl) ho hx (List.getElem?_eq_some_iff.1 hv).1]
    exact hv)
   change ∀ (W : World) (hW : Below w.heap.size w W) (hB : w.heap.size < W.heap.size) (hcell : W.cell? ⟨w.heap.size, 0, none⟩ = some (.string t)), Calls Tryz.prog 197 _ _ _ at K
   rcases idx_get (fun x : VP => decide (x.1 = t)) zs with ⟨h1, h2⟩ | ⟨k, hk, h1, _, h2, _⟩
   · rw [h1]
     simp only [h2] at K
     have K := Lib.hid K
     clear h1 h2 eg hl hz ho hcur hcs htk hcm
     go_enter Tryz.func193, Tryz.ntmps193
     go_wp2_with fail
     refine (K.out _ HB1.out (heap_lt HX1.out) (Lib.cell_of_heap HX1.out 0)).mono ?_
     rintro e w1 ⟨rfl, hb1⟩
     have HB := Lib.hid (ext_trans HB1.out hb1)
     clear hb1
     go_wp2
     go_ret2
     exact ⟨⟨_, rfl⟩, HB.out⟩
   · rw [h1]
     simp only [h2] at K
     have K := Lib.hid K
     obtain ⟨x, hx⟩ := get_ex zs k hk
     have c1 := row_cell (enc := encV) (k := 2) (fun _ => rfl) ho hx (j := 1) (by decide)
     rw [(encV_at x).2] at c1
     have hkn : k < zs.length := hk
     obtain ⟨n, hn⟩ : ∃ n, zs.length = n := ⟨_, rfl⟩
     rw [hn] at K hkn ⊢
     have t1 : decide ((k : Int) < 0) = false := decide_eq_false (by omega)
     have t2 : ¬ (k : Int) < 0 := by omega
     have t3 : (k : Int) < (n : Int) := by omega
     have C1 := Lib.hid c1
     clear h1 h2 eg hl hz ho hcur hcs htk hcm hk hx c1 hn
     go_enter Tryz.func193, Tryz.ntmps193
     go_wp2_with fail
     refine (K.out _ HB1.out (heap_lt HX1.out) (Lib.cell_of_heap HX1.out 0)).mono ?_
     rintro e w1 ⟨rfl, hb1⟩
     have HB := Lib.hid (ext_trans HB1.out hb1)
     have d1 := (bcell1 HB.out hgl (k * 2 + 1)).trans C1.out
     clear hb1
     go_wp2
     go_ret2
     exact ⟨⟨_, rfl⟩, HB.out⟩
end Go.Proofs.YtcaiibkgajhohaaGreatDoor
namespace Go.Proofs.YtcaiibkgajhohaaGreatDoor
open Go.RowKit
theorem oblock {T : Nat → Prop} {w w' : World} {b : Nat} {o : Obj} (h : Only T w w') (hx : w.heap[b]? = some o) (hT : ¬ T b) : w'.heap[b]? = some o := (h.block b (heap_lt hx) hT).trans hx
theorem ReA.set {W0 Wv w : World} {vv : Value} {D : Nat} {st : RdSt} (h : ReA W0 Wv vv w D st) {b : Nat} (hb : Wv.heap.size ≤ b) (i : Nat) (v : Value) : ReA W0 Wv vv (w.setCell ⟨b, i, none⟩ v) D st := h.turn (T := fun k => k = b) ((Only.refl (fun k => k = b) w).set (p := ⟨b, i, none⟩) (fun _ => rfl) v) (fun k hk => by omega)
theorem RePost.set {W0 Wv w w' : World} {vv : Value} {D : Nat} {st : RdSt} (h : RePost W0 Wv vv w D st w') {b : Nat} (hv : Wv.heap.size ≤ w.heap.size) (hb : w.heap.size ≤ b) (i : Nat) (v : Value) : RePost W0 Wv vv w D st (w'.setCell ⟨b, i, none⟩ v) := ⟨h.re.set (by omega) i v, h.only.set (p := ⟨b, i, none⟩) (fun h => by simp at h; omega) v⟩
theorem boxes2 (w : World) (a b c d : Value) (T U : TypeId) : ((w.alloc (.cells #[a, b] T)).alloc (.cells #[c, d] U)).heap[w.heap.size]? = some (.cells #[a, b] T (0, 0)) ∧ ((w.alloc (.cells #[a, b] T)).alloc (.cells #[c, d] U)).heap[w.heap.size + 1]? = some (.cells #[c, d] U (0, 0)) ∧ Below w.heap.size w ((w.alloc (.cells #[a, b] T)).alloc (.cells #[c, d] U)) := by
 have h1 := heap_alloc_new w (.cells #[a, b] T)
 have h2 := heap_alloc_new (w.alloc (.cells #[a, b] T)) (.cells #[c, d] U)
 refine ⟨?_, by simpa using h2, ext_alloc (ext_alloc (Below.refl _ _) _) _⟩
 exact ((ext_alloc (Below.refl _ _) (Obj.cells #[c, d] U)).block _ (heap_lt h1)).trans h1
section
variable {W0 Wv : World} {vv : Value} {base D T : Nat} {s : PS} {nodes : Int} {tv : Value} {ns : List ANode}
set_option maxRecDepth 100000 in
set_option maxHeartbeats 4000000 in
/-- aasa.reader.flags -/
theorem rflags_any (hV : PView W0 base D T s nodes tv ns) (st : RdSt) (id : Nat) (a b : Bool) (w : World) (h : ReA W0 Wv vv w D st) :
    Calls Tryz.prog 54 #[ptrV W0.heap.size, .int .i64 id, .agg #[.bool a, .bool b]] w fun e w' => e = .returned (.agg #[.bool (flagsA s.js s.ups st id a b kCase kPct).1.1, .bool (flagsA s.js s.ups st id a b kCase kPct).1.2]) ∧ RePost W0 Wv vv w D (flagsA s.js s.ups st id a b kCase kPct).2 w' := by
 have F1 := Lib.hid (fun W (hR : ReA W0 Wv vv W D st) => rflag_any hV st id kCase a W hR)
 unfold flagsA
 dsimp only
 obtain ⟨x, hx⟩ : ∃ x, flagA s.js s.ups st id kCase a = x := ⟨_, rfl⟩
 rw [hx] at F1 ⊢
 have F2 := Lib.hid (fun W (hR : ReA W0 Wv vv W D x.2) => rflag_any hV x.2 id kPct b W hR)
 obtain ⟨y, hy⟩ : ∃ y, flagA s.js s.ups x.2 id kPct b = y := ⟨_, rfl⟩
 rw [hy] at F2 ⊢
 have hvl := h.only.size
 have h0l := h.vars.lt
 have H := Lib.hid h
 have BX := Lib.hid (boxes2 w (.bool a) (.bool b) (.bool false) (.bool false) 75 75)
 have h0w : W0.heap.size ≠ w.heap.size := by omega
 have h0w1 : W0.heap.size ≠ w.heap.size + 1 := by omega
 clear h hx hy
 go_enter Tryz.func54, Tryz.ntmps54
 go_wp2_with fail
 obtain ⟨Wa, hWa⟩ : ∃ Wa, ((w.alloc (Obj.cells #[Value.bool a, Value.bool b] 75)).alloc (Obj.cells #[Value.bool false, Value.bool false] 75)) = Wa := ⟨_, rfl⟩
 rw [hWa] at BX ⊢
 have BA := Lib.hid BX.out.2.2
 have RA := Lib.hid (H.out.ext BA.out)
 refine (F1.out Wa RA.out).mono ?_
 rintro e w1 ⟨rfl, hp⟩
 have X5 := oblock hp.only BX.out.1 (Ne.symm h0w)
 have X6 := oblock hp.only BX.out.2.1 (Ne.symm h0w1)
 have c50 := Lib.cell_of_heap X5 0; have c51 := Lib.cell_of_heap X5 1
 have g5 := fun i => Go.Joins.unfrozen_of_block X5 i
 have X5 := Lib.hid X5; have X6 := Lib.hid X6; have P1 := Lib.hid hp
 have R1 := Lib.hid (hp.re.set (b := w.heap.size) hvl 0 (.bool x.1))
 clear hp hWa
 go_wp2_with fail
 refine (F2.out _ R1.out).mono ?_
 rintro e w2 ⟨rfl, hp⟩
 have Y5 := oblock hp.only (Go.Joins.block_setCell X5.out (i := 0) (.bool x.1)) (Ne.symm h0w)
 have Y6 := oblock hp.only ((Below.heap_setCell w1 ⟨w.heap.size, 0, none⟩ (.bool x.1) (w.heap.size + 1) (by simp)).trans X6.out) (Ne.symm h0w1)
 simp at Y5
 have d50 := Lib.cell_of_heap Y5 0; have d51 := Lib.cell_of_heap Y5 1; have d60 := Lib.cell_of_heap Y6 0; have d61 := Lib.cell_of_heap Y6 1
 have f5 := fun i => Go.Joins.unfrozen_of_block Y5 i
 have f6 := fun i => Go.Joins.unfrozen_of_block Y6 i
 have Y5 := Lib.hid Y5; have Y6 := Lib.hid Y6; have P2 := Lib.hid hp
 clear hp c50 c51 g5
 have HP := Lib.hid (((((((RePost.of H.out BA.out).trans P1.out).set hvl (Nat.le_refl _) 0 (.bool x.1)).trans P2.out).set hvl (Nat.le_refl _) 1 (.bool y.1)).set hvl (Nat.le_succ _) 0 (.bool x.1)).set hvl (Nat.le_succ _) 1 (.bool y.1))
 go_wp2
 refine bodyPost_ret (v := .agg #[.bool x.1, .bool y.1]) (by simp [results, Tryz.results54, go_sem, d60, d61]) rfl ⟨rfl, HP.out⟩
set_option maxRecDepth 100000 in
set_option maxHeartbeats 4000000 in
/-- aasa.reader.defaults -/
theorem rdefaults_any (hV : PView W0 base D T s nodes tv ns) (st : RdSt) (id : Nat) (a b : Bool) (w : World) (h : ReA W0 Wv vv w D st) :
    Calls Tryz.prog 29 #[ptrV W0.heap.size, .int .i64 id, .agg #[.bool a, .bool b]] w fun e w' => e = .returned (.agg #[.bool (defaultsA s.js s.ups st id a b).1.1, .bool (defaultsA s.js s.ups st id a b).1.2]) ∧ RePost W0 Wv vv w D (defaultsA s.js s.ups st id a b).2 w' := by
 have ME := Lib.hid (fun W (hR : ReA W0 Wv vv W D st) => rmember_any hV st id kDef W hR)
 unfold defaultsA
 have hvl := h.only.size
 have H := Lib.hid h
 have BX := Lib.hid (boxes2 w (.bool a) (.bool b) (.bool false) (.bool false) 75 75)
 have h0l := h.vars.lt
 have h0w : W0.heap.size ≠ w.heap.size := by omega
 have h0w1 : W0.heap.size ≠ w.heap.size + 1 := by omega
 cases hm : memA s.js s.ups st id kDef with
 | none =>
   rw [hm] at ME
   unfold memV at ME
   clear hm h hV
   go_enter Tryz.func29, Tryz.ntmps29
   go_wp2_with fail
   obtain ⟨Wa, hWa⟩ : ∃ Wa, ((w.alloc (Obj.cells #[Value.bool a, Value.bool b] 75)).alloc (Obj.cells #[Value.bool false, Value.bool false] 75)) = Wa := ⟨_, rfl⟩
   rw [hWa] at BX ⊢
   have BA := Lib.hid BX.out.2.2
   refine (ME.out Wa (H.out.ext BA.out)).mono ?_
   rintro e w1 ⟨rfl, hb1⟩
   have X5 := (hb1.block _ (heap_lt BX.out.1)).trans BX.out.1
   have X6 := (hb1.block _ (heap_lt BX.out.2.1)).trans BX.out.2.1
   have c50 := Lib.cell_of_heap X5 0; have c51 := Lib.cell_of_heap X5 1; have c60 := Lib.cell_of_heap X6 0; have c61 := Lib.cell_of_heap X6 1
   have g6 := fun i => Go.Joins.unfrozen_of_block X6 i
   have HP := Lib.hid ((((RePost.of H.out BA.out).more hb1).set hvl (Nat.le_succ _) 0 (.bool a)).set hvl (Nat.le_succ _) 1 (.bool b))
   clear X5 X6 hb1 hWa
   go_wp2
   refine bodyPost_ret (v := .agg #[.bool a, .bool b]) (by simp [results, Tryz.results29, go_sem, c60, c61]) rfl ⟨rfl, HP.out⟩
 | some k =>
   rw [hm] at ME
   unfold memV at ME
   dsimp only at ME ⊢
   have IS := Lib.hid (fun W (hR : ReA W0 Wv vv W D st) => ris_any hV st k 6 W hR)
   obtain ⟨r, hr⟩ : ∃ r, isA s.js st k 6 = r := ⟨_, rfl⟩
   rw [hr] at IS ⊢
   cases hr1 : r.1 with
   | false =>
     rw [hr1] at IS
     rw [if_neg (by decide)]
     clear hm hr hr1 h hV
     go_enter Tryz.func29, Tryz.ntmps29
     go_wp2_with fail
     obtain ⟨Wa, hWa⟩ : ∃ Wa, ((w.alloc (Obj.cells #[Value.bool a, Value.bool b] 75)).alloc (Obj.cells #[Value.bool false, Value.bool false] 75)) = Wa := ⟨_, rfl⟩
     rw [hWa] at BX ⊢
     have BA := Lib.hid BX.out.2.2
     refine (ME.out Wa (H.out.ext BA.out)).mono ?_
     rintro e w1 ⟨rfl, hb1⟩
     have X5 := Lib.hid ((hb1.block _ (heap_lt BX.out.1)).trans BX.out.1)
     have X6 := Lib.hid ((hb1.block _ (heap_lt BX.out.2.1)).trans BX.out.2.1)
     have P1 := Lib.hid ((RePost.of H.out BA.out).more hb1)
     clear hb1 hWa
     go_wp2_with fail
     refine (IS.out w1 P1.out.re).mono ?_
     rintro e w2 ⟨rfl, hp⟩
     have Y5 := oblock hp.only X5.out (Ne.symm h0w)
     have Y6 := oblock hp.only X6.out (Ne.symm h0w1)
     have c50 := Lib.cell_of_heap Y5 0; have c51 := Lib.cell_of_heap Y5 1; have c60 := Lib.cell_of_heap Y6 0; have c61 := Lib.cell_of_heap Y6 1
     have g6 := fun i => Go.Joins.unfrozen_of_block Y6 i
     have HP := Lib.hid (((P1.out.trans hp).set hvl (Nat.le_succ _) 0 (.bool a)).set hvl (Nat.le_succ _) 1 (.bool b))
     clear Y5 Y6 hp
     go_wp2
     refine bodyPost_ret (v := .agg #[.bool a, .bool b]) (by simp [results, Tryz.results29, go_sem, c60, c61]) rfl ⟨rfl, HP.out⟩
   | true =>
     rw [hr1] at IS
     rw [if_pos rfl]
     have FL := Lib.hid (fun W (hR : ReA W0 Wv vv W D r.2) => rflags_any hV r.2 k a b W hR)
     obtain ⟨y, hy⟩ : ∃ y, flagsA s.js s.ups r.2 k a b kCase kPct = y := ⟨_, rfl⟩
     rw [hy] at FL ⊢
     clear hm hr hr1 h hV hy
     go_enter Tryz.func29, Tryz.ntmps29
     go_wp2_with fail
     obtain ⟨Wa, hWa⟩ : ∃ Wa, ((w.alloc (Obj.cells #[Value.bool a, Value.bool b] 75)).alloc (Obj.cells #[Value.bool false, Value.bool false] 75)) = Wa := ⟨_, rfl⟩
     rw [hWa] at BX ⊢
     have BA := Lib.hid BX.out.2.2
     refine (ME.out Wa (H.out.ext BA.out)).mono ?_
     rintro e w1 ⟨rfl, hb1⟩
     have X5 := Lib.hid ((hb1.block _ (heap_lt BX.out.1)).trans BX.out.1)
     have X6 := Lib.hid ((hb1.block _ (heap_lt BX.out.2.1)).trans BX.out.2.1)
     have P1 := Lib.hid ((RePost.of H.out BA.out).more hb1)
     clear hb1 hWa
     go_wp2_with fail
     refine (IS.out w1 P1.out.re).mono ?_
     rintro e w2 ⟨rfl, hp⟩
     have Y5 := oblock hp.only X5.out (Ne.symm h0w)
     have Y6 := Lib.hid (oblock hp.only X6.out (Ne.symm h0w1))
     have c50 := Lib.cell_of_heap Y5 0; have c51 := Lib.cell_of_heap Y5 1
     have P2 := Lib.hid (P1.out.trans hp)
     clear Y5 hp
     go_wp2_with fail
     refine (FL.out w2 P2.out.re).mono ?_
     rintro e w3 ⟨rfl, hp⟩
     have Z6 := oblock hp.only Y6.out (Ne.symm h0w1)
     have c60 := Lib.cell_of_heap Z6 0; have c61 := Lib.cell_of_heap Z6 1
     have g6 := fun i => Go.Joins.unfrozen_of_block Z6 i
     have HP := Lib.hid (((P2.out.trans hp).set hvl (Nat.le_succ _) 0 (.bool y.1.1)).set hvl (Nat.le_succ _) 1 (.bool y.1.2))
     clear Z6 hp c50 c51
     go_wp2
     refine bodyPost_ret (v := .agg #[.bool y.1.1, .bool y.1.2]) (by simp [results, Tryz.results29, go_sem, c60, c61]) rfl ⟨rfl, HP.out⟩
end
end Go.Proofs.YtcaiibkgajhohaaGreatDoor
