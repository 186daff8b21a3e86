/- The document's walk: a recursion. -/
import Derived.Test.YtmdalkjhlhkloaaDoorArena15
import Derived.Maps.AppendAt
namespace Go.Proofs.YtmdalkjhlhkloaaDoor
open Go.RowKit
/-- An append that tells where the row lies behind it. -/
theorem wpList_appAt {P : Program} (w : World) {ops : Array Oper} {rest : List Oper} {o : Oper} {a : Act} {Q : Exit → Act → World → Prop} (hgd : o.guard = none) (s x : Operand) (t : TypeId)
    (ho : o.op = .call { callee := .builtin .append, args := #[s, x], argTypes := #[t, t] })
    (base : Nat) {e : TypeId} {z : Value} {size bytes : Nat} (T : ElemTy P t e size bytes z)
    (v : Value) (n : Nat) (xs : List Value) (hs : a.eval s = v) (hown : w.ownsRow base e size v n xs)
    (ad : Addr) (m c : Nat) (news : List Value) (hx : a.eval x = .slice (some ad) m c) (hl : news.length = m * size)
    (hnews : ∀ (j : Nat) u, news[j]? = some u → w.cell? (ad.add j) = some u) (h1 : ∀ u ∈ news, u.oneCell' = true)
    (h63 : n + m ≤ maxLen) (hbytes : (n + m) * bytes ≤ 140737488355328) (hbase : base ≤ w.heap.size)
    (hK : ∀ v' w', w'.ownsRow base e size v' (n + m) (xs ++ news) → w.grownBy w' v.ownBlock → (v'.ownBlock = v.ownBlock ∨ v'.ownBlock = some w.heap.size) → wpList P ops Q rest (a.put o.dst v') w') : wpList P ops Q (o :: rest) a w := by
  obtain ⟨i, hi, hz, hsz, hby⟩ := info_parts T.hi
  exact wpList_append_own_at w hgd s x t ho base e i z size bytes T.ht hi hz hsz hby T.hz T.h0 v n xs hs hown ad m c news hx hl hnews h1 h63 hbytes hbase (fun v' w' a1 a2 _ a4 => hK v' w' a1 a2 a4)
def RwRel2 (ups : List Nat) (f i : Nat) (w W2 : World) (v k : Value) (wr : World) : Prop := ∃ (j : Nat) (A : List Nat), k = .int .i64 j ∧ j ≤ (kids ups i).length ∧ A = i :: ((kids ups i).take j).flatMap (pre ups f) ∧ wr.ownsRow w.heap.size 3 1 v A.length (intsV A) ∧ Below w.heap.size w wr ∧
  W2.heap.size ≤ wr.heap.size ∧ (∀ q, q < W2.heap.size → q ≠ w.heap.size → wr.heap[q]? = W2.heap[q]?) ∧ (∀ g, v.ownBlock = some g → g = w.heap.size ∨ W2.heap.size ≤ g)
theorem pre_succ (ups : List Nat) (f i : Nat) : pre ups (f + 1) i = i :: (kids ups i).flatMap (pre ups f) := rfl
theorem flat_take {l : List Nat} (g : Nat → List Nat) (j : Nat) : ((l.take j).flatMap g).length ≤ (l.flatMap g).length := by
  have h : (l.flatMap g) = (l.take j).flatMap g ++ (l.drop j).flatMap g := by rw [← List.flatMap_append, List.take_append_drop]
  rw [h, List.length_append]; omega
theorem flat_next {l : List Nat} (g : Nat → List Nat) {j c : Nat} (hc : l[j]? = some c) : (l.take (j + 1)).flatMap g = (l.take j).flatMap g ++ g c := by
  obtain ⟨hj, rfl⟩ := List.getElem?_eq_some_iff.1 hc
  rw [List.take_succ_eq_append_getElem hj, List.flatMap_append]; simp
set_option maxRecDepth 100000 in
set_option maxHeartbeats 16000000 in
theorem rwalk_in (B : Nat) (vV vU : Value) (vs us : List Int) (most : Int) (ups : List Nat) (hvl : vs.length = ups.length) (hr : RUps us ups) (hw : WfUps ups) (hm : ups.length ≤ 1000000) : ∀ (f i : Nat) (w : World), ups.length - i ≤ f → i < ups.length → RTreeAt w B vV vU vs us most →
    Calls Tryd.prog 64 #[.pointer (some ⟨B, 0, none⟩), .int .i64 i] w fun e w' => ∃ v', e = .returned v' ∧ Rd (Fresh w w') w' v' (intsD (pre ups f i)) ∧ Below w.heap.size w w'
  | 0, i, w, hf, hi, h => by omega
  | f + 1, i, w, hf, hi, h => by
    have IH := Lib.hid (rwalk_in B vV vU vs us most ups hvl hr hw hm f)
    have HH := rhas_any B vV vU vs us most i w h
    rw [decide_eq_true (by omega : 0 ≤ (i : Int) ∧ (i : Int) < (vs.length : Int))] at HH
    have hb0 := ext_alloc (Below.refl w.heap.size w) (.cells #[.int .i64 i] 3)
    have KD := rkids_in B vV vU vs us most ups i _ (h.below hb0) hvl hr hi hm
    have hrow := World.ownsRow_lit (base := w.heap.size) (e := 3) (size := 1) w #[.int .i64 i] 1 (Nat.le_refl _) (by decide) rfl
    have HK := Lib.hid KD; have HB0 := Lib.hid hb0; have HHH := Lib.hid HH; have HROW := Lib.hid hrow; have H := Lib.hid h
    have hpl := pre_length hw (f + 1) i hi
    rw [pre_succ, List.length_cons] at hpl
    have HW := Lib.hid hw; have HPL := Lib.hid hpl
    clear KD hb0 HH hrow h hvl hr hw hpl
    go_enter Tryd.func64, Tryd.ntmps64
    go_wp2_with fail
    refine HHH.out.mono ?_
    rintro e w1 ⟨rfl, rfl⟩
    go_wp2_with fail
    refine HK.out.mono ?_
    rintro e w2 ⟨vK, rfl, rK, hb2⟩
    have e0 : (kids ups i).map (fun x => Dat.int .i64 (x : Nat)) = ((kids ups i).map fun x => ((x : Nat) : Int)).map (Dat.int .i64) := by simp
    have rK' := rK
    simp only [intsD, e0] at rK'
    obtain ⟨aK, cK, rfl, _, _, hcK⟩ := rK'.ints_inv
    rw [List.length_map] at hcK ⊢
    have hbw := ext_trans HB0.out hb2
    have hz2 : w.heap.size < w2.heap.size := by have := hb2.size; simp at this; omega
    have hro := aown_ext HROW.out (fun g hg => hb2.block g (by have : g = w.heap.size := by simpa [Value.ownBlock] using hg.symm
                                                               subst this; simp)) (Nat.le_refl w.heap.size)
    have R0 : RwRel2 ups f i w w2 (.slice (some ⟨w.heap.size, 0, none⟩) 1 1) (.int .i64 0) w2 := ⟨0, [i], rfl, Nat.zero_le _, by simp, hro, hbw, Nat.le_refl _, fun _ _ _ => rfl, fun g hg => .inl (by simpa [Value.ownBlock] using hg.symm)⟩
    have hkl := kids_le ups i
    have HR0 := Lib.hid R0; have HCK := Lib.hid hcK; have HBW := Lib.hid hbw
    clear R0 hro hbw rK rK' e0 hb2 hcK
    go_wp2_with fail
    go_loopw [5, 7] (RwRel2 ups f i w w2) (fun _ k _ => (kids ups i).length - (intOf k).toNat)
    case atStart => exact HR0.out
    case round =>
      obtain ⟨j, A, rfl, hj, hA, ho, hb, hz, hkeep, hown⟩ := hrel
      obtain ⟨ao, cap, rfl, _⟩ := aown_form ho
      by_cases hlt : j < (kids ups i).length
      · have t1 : decide ((j : Int) < ((kids ups i).length : Int)) = true := decide_eq_true (by omega)
        have t1' : decide (j < (kids ups i).length) = true := decide_eq_true hlt
        obtain ⟨c, hc⟩ := get_ex (kids ups i) j hlt
        have hcm := List.mem_of_getElem? hc
        have hci := kids_gt HW.out hcm
        have hcn := (mem_kids.1 hcm).2.1
        obtain ⟨bK, oK, rfl, hSK, hcK⟩ := HCK.out (by omega)
        have x0 := hcK j (c : Nat) (by simp [hc])
        have hS1 : w.heap.size < bK ∧ bK < w2.heap.size := by
          have h1 := hSK.1; have h2 := hSK.2; simp at h1; omega
        rw [← cell_keep (hkeep bK hS1.2 (by omega))] at x0
        have hA2 : A ++ pre ups f c = i :: ((kids ups i).take (j + 1)).flatMap (pre ups f) := by rw [hA, flat_next _ hc]; rfl
        have hpos : 0 < (pre ups f c).length := List.length_pos_of_mem (pre_head (by omega) hcn)
        have hlen : A.length + (pre ups f c).length ≤ 1000000 := by
          rw [← List.length_append, hA2, List.length_cons]
          have := flat_take (l := kids ups i) (pre ups f) (j + 1)
          have := HPL.out; omega
        have HIH := Lib.hid (IH.out c wr (by omega) hcn (H.out.below hb))
        have HA2 := Lib.hid hA2; have HO := Lib.hid ho; have HB := Lib.hid hb; have HKP := Lib.hid hkeep; have HOW := Lib.hid hown
        clear hA hA2 ho hb hkeep hown hc hcK hcm hSK
        go_wp2_with fail
        refine HIH.out.mono ?_
        rintro e w3 ⟨v3, rfl, r3, hb3⟩
        obtain ⟨L, hL⟩ : ∃ L, (pre ups f c).length = L := ⟨_, rfl⟩
        have e0 : (pre ups f c).map (fun x => Dat.int .i64 (x : Nat)) = ((pre ups f c).map fun x => ((x : Nat) : Int)).map (Dat.int .i64) := by simp
        simp only [intsD, e0] at r3
        obtain ⟨a3, c3, rfl, _, _, hc3⟩ := r3.ints_inv
        rw [List.length_map, hL] at hc3 ⊢
        rw [hL] at hpos hlen
        obtain ⟨b3, o3, rfl, _, hc3⟩ := hc3 hpos
        have HO3 := Lib.hid (aown_ext HO.out (fun g hg => hb3.block g (HO.out.lt g hg).2) (Nat.le_refl _))
        have HB3 := Lib.hid hb3; have HC3 := Lib.hid hc3; have HL := Lib.hid hL
        clear hb3 hc3 hL e0 r3 HIH
        go_wp2_with (at_builtin; refine wpList_appAt w3 rfl _ _ 27 rfl w.heap.size elInt _ _ _ rfl HO3.out ⟨b3, o3, none⟩ L _ (intsV (pre ups f c)) rfl ?c1 ?c2 ?c3 ?c4 ?c5 ?c6 ?_)
        case c1 => simp [HL.out]
        case c2 =>
          intro q u hu
          rw [List.getElem?_map] at hu
          obtain ⟨x, hx, rfl⟩ := Option.map_eq_some_iff.1 hu
          rw [Addr.add_lit]
          exact HC3.out q (x : Nat) (by rw [List.getElem?_map, hx]; rfl)
        case c3 => intro u hu; obtain ⟨x, _, rfl⟩ := List.mem_map.1 hu; rfl
        case c4 => simp [maxLen]; omega
        case c5 => omega
        case c6 => exact Nat.le_trans HB.out.size HB3.out.size
        intro v4 w4 ho4 hg4 hat
        have R : RwRel2 ups f i w w2 v4 (.int .i64 (j + 1)) w4 := by
          have hzz := HB3.out.size; have hzw := hg4.size
          refine ⟨j + 1, A ++ pre ups f c, by go_num, hlt, HA2.out, ?_, ?_, by omega, fun q hq hne => ?_, fun g hg => ?_⟩
          · rw [List.length_append, HL.out]; simpa using ho4
          · exact (ext_trans HB.out HB3.out).grown hg4 (ext_trans HB.out HB3.out).size (fun q hq => (HO3.out.lt q hq).1)
          · rw [hg4.block q (by omega) (fun e => by rcases HOW.out q e.symm with h1 | h1 <;> omega), HB3.out.block q (by omega)]
            exact HKP.out q hq hne
          · rcases hat with h1 | h1
            · exact HOW.out g (h1 ▸ hg)
            · rw [h1] at hg; cases hg; exact .inr (by omega)
        have HRR := Lib.hid R
        clear R ho4 hg4 hat
        go_wp2
        refine ⟨?_, by simp [intOf] <;> omega⟩
        have R := HRR.out
        first | exact R | ((repeat apply Exists.intro); exact ⟨R, rfl⟩)
      · have t1 : decide ((j : Int) < ((kids ups i).length : Int)) = false := decide_eq_false (by omega)
        have t1' : decide (j < (kids ups i).length) = false := decide_eq_false hlt
        have hE : A = pre ups (f + 1) i := by rw [hA, pre_succ, List.take_of_length_le (by omega)]
        have HRD : Hid (Rd (Fresh w wr) wr (.slice ao A.length cap) (intsD (pre ups (f + 1) i))) := Lib.hid (by rw [← hE]; exact rd_owned ho (ints_rds _) (fun m hm => ho.lt m hm))
        have HB := Lib.hid hb
        clear hA ho hb hkeep hown hlt hE
        go_wp2
        go_ret
        exact ⟨_, rfl, HRD.out, HB.out⟩
end Go.Proofs.YtmdalkjhlhkloaaDoor
