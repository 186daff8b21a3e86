/- JsonpReads: the walk. -/
import Derived.Test.YtmhfbdeeebbloaaGreatDoorZJrM5
import Derived.Test.YtmhfbdeeebbloaaGreatDoorZJrP3
import Derived.Test.YtmhfbdeeebbloaaGreatDoorZJrD1
import Derived.Test.YtmhfbdeeebbloaaGreatDoorZJsO1s
import Derived.BigQuiet
namespace Go.Proofs.YtmhfbdeeebbloaaGreatDoor
open Go.RowKit
theorem ys_eq7 {S : Nat → Prop} {w : World} {ys : List Value} {B : ByteArray} (h : Rds S w ys (byD B)) : ys = byV B := by
  apply List.ext_getElem?
  intro i
  by_cases hi : i < ys.length
  · have hi2 : i < (byD B).length := by rw [← h.1]; exact hi
    have := h.2 i ys[i] (byD B)[i] (List.getElem?_eq_getElem hi) (List.getElem?_eq_getElem hi2)
    have hb : i < B.data.toList.length := by simpa [byD] using hi2
    have e1 : (byD B)[i] = Dat.int .u8 ((B.data.toList[i]).toNat : Nat) := by simp [byD]
    rw [e1] at this
    rw [List.getElem?_eq_getElem hi, this.int_inv, byV, List.getElem?_map, List.getElem?_eq_getElem hb]; rfl
  · rw [List.getElem?_eq_none (by omega), List.getElem?_eq_none (by have := h.1; simp only [byV, List.length_map, byD] at *; omega)]
theorem DocAt.high {w w' : World} {base D T : Nat} {s : PS} {nodes : Int} {tv : Value} {ns : List ANode} (h : DocAt w base D s nodes T tv ns) (hk : ∀ k, base ≤ k → k < w.heap.size → w'.heap[k]? = w.heap[k]?) : DocAt w' base D s nodes T tv ns :=
  ⟨by rw [hk D h.lowD (heap_lt h.doc)]; exact h.doc, h.tree.ext (fun k hk2 ht => hk k (by
    rcases ht with rfl | ht
    · exact h.lowT
    · have := (h.tree.own.lt k ht).1; have := h.lowT; omega) hk2), h.good, h.wf, h.vals, h.lowD, h.lowT⟩
/-- The copy is written over: nothing else turns. -/
def WrRel7 (n : Nat) (v : Value) (W : World) (k : Value) (wr : World) : Prop := ∃ j : Nat, k = .int .i64 j ∧ j ≤ n ∧ Only (fun b => v.ownBlock = some b) W wr ∧ ∀ g, 0 < n → v.ownBlock = some g → ∃ cs, wr.heap[g]? = some (.cells cs 5 (0, 0)) ∧ n ≤ cs.size
def NdRel (n : Nat) (W : World) (k : Value) (wr : World) : Prop := ∃ j : Nat, k = .int .i64 j ∧ j ≤ n ∧ Below W.heap.size W wr
set_option maxRecDepth 100000 in
set_option maxHeartbeats 64000000 in
theorem jsonpReads_any (v : Value) (B : ByteArray) (m : Bd) (key : ByteArray) (w : World) (he : ScEnv w) (hg : Glob w) (h : Rd (Own w) w v (bytesDB B)) :
    Calls Tryz.prog 4 #[v, .agg #[.int .i64 m.bytes, .int .i64 m.deep, .int .i64 m.nodes], .string key] w fun e w' => e = .returned (.bool true) ∧ Below w.heap.size w w' := by
  obtain ⟨a0, c0, rfl, _, _, _⟩ := h.by_inv
  obtain ⟨W0, hW0⟩ : ∃ W, w.alloc (.cells #[.int .i64 m.bytes, .int .i64 m.deep, .int .i64 m.nodes] 30) = W := ⟨_, rfl⟩
  have b0 : Below w.heap.size w W0 := by rw [← hW0]; exact ext_alloc (Below.refl _ _) _
  have z0 : w.heap.size < W0.heap.size := by rw [← hW0]; simp
  have k0 : ∀ j, W0.cell? ⟨w.heap.size, j, none⟩ = (#[.int .i64 m.bytes, .int .i64 m.deep, .int .i64 m.nodes] : Array Value)[j]? := fun j => by rw [← hW0]; simp
  have SP := Lib.hid (speaks07 W0 (he.ext b0))
  have HE := Lib.hid he; have HG := Lib.hid hg; have H1 := Lib.hid h; have HB0 := Lib.hid b0
  clear he hg h b0
  by_cases hbig : 3000 < B.size
  · have q : decide ((3000 : Int) < (B.size : Int)) = true := decide_eq_true (by omega)
    clear hbig
    go_enter Tryz.func4, Tryz.ntmps4
    go_wp2_with fail
    refine SP.out.mono ?_
    rintro e w1 ⟨rfl, hb⟩
    have HB := Lib.hid (ext_trans HB0.out hb); clear hb
    go_wp2
    go_ret
    exact ⟨rfl, HB.out⟩
  · have t1 : decide ((3000 : Int) < (B.size : Int)) = false := decide_eq_false (by omega)
    have hB : B.size ≤ 3000 := by omega
    clear hbig
    go_enter Tryz.func4, Tryz.ntmps4
    go_wp2_with fail
    clear hW0
    refine SP.out.mono ?_
    rintro e w1 ⟨rfl, hb⟩
    have k1 := fun j => (bcell1 hb z0 j).trans (k0 j)
    have z1 := Nat.lt_of_lt_of_le z0 hb.size
    have HB := Lib.hid (ext_trans HB0.out hb)
    clear hb k0 SP
    have ho0 : (w1.alloc (.cells #[] 5)).ownsRow w1.heap.size 5 1 (.slice (some ⟨w1.heap.size, 0, none⟩) 0 0) 0 [] := by
      simpa using World.ownsRow_lit (base := w1.heap.size) (e := 5) (size := 1) w1 #[] 0 (Nat.le_refl _) (by decide) rfl
    have hb0 : Below w1.heap.size w1 (w1.alloc (.cells #[] 5)) := ext_alloc (Below.refl _ _) _
    have hr0 : Rd (Own (w1.alloc (.cells #[] 5))) (w1.alloc (.cells #[] 5)) (.slice a0 B.size c0) (.list 1 (byD B)) := H1.out.ext (ext_trans HB.out hb0)
    have HO0 := Lib.hid ho0; have HBL0 := Lib.hid hb0; have HR0 := Lib.hid hr0
    clear ho0 hb0 hr0
    go_wp2_with (at_builtin; refine wpList_appD (w1.alloc (.cells #[] 5)) rfl _ _ 22 rfl w1.heap.size elByte _ _ _ rfl HO0.out _ rfl _ B.size HR0.out ?c1 ?c2 ?c3 ?c4 ?_)
    case c1 => simp [byD]
    case c2 => simp [maxLen]; omega
    case c3 => omega
    case c4 => exact HBL0.out.size
    intro v4 w4 ys ho4 hys hg4
    have hys' := ys_eq7 hys
    subst hys'
    have hb04 : Below w1.heap.size w1 w4 := HBL0.out.trans ((Below.refl _ _).grown hg4 HBL0.out.size (fun q hq => (HO0.out.lt q hq).1))
    have hr4 : Rd (Own w4) w4 v4 (bytesDB B) := by
      rw [bytesDB_eq]
      exact rd_owned ho4 (by simpa using byV_rds B) (fun g hg => (ho4.lt g hg).2)
    have k4 := fun j => (bcell1 hb04 z1 j).trans (k1 j)
    have z4 := Nat.lt_of_lt_of_le z1 hb04.size
    have PA := Lib.hid (parse_any w4 v4 B m hr4 (HE.out.ext (ext_trans HB.out hb04)) (by omega))
    have HB4 := Lib.hid (ext_trans HB.out hb04)
    obtain ⟨ao4, cap4, rfl, hao⟩ := aown_form ho4
    have hown : 0 < B.size → ∃ g, ao4 = some ⟨g, 0, none⟩ ∧ w.heap.size < g ∧ g < w4.heap.size ∧ ∃ cs, w4.heap[g]? = some (.cells cs 5 (0, 0)) ∧ B.size ≤ cs.size := fun hpos => by
      rcases ho4.2 with ⟨_, h0⟩ | ⟨g, cap, cur, hv, hbg, hcur, hnc, _, hsz, _⟩
      · omega
      · cases hv
        exact ⟨g, rfl, by omega, heap_lt hcur, cur, hcur, by omega⟩
    have HOWN := Lib.hid hown; have HAO := Lib.hid hao
    clear hb04 hr4 ho4 hys hg4 HO0 HBL0 HR0 k1 hown hao
    go_wp2_with fail
    refine PA.out.mono ?_
    intro e w5 hps
    obtain ⟨V5, hV5⟩ : ∃ V5 : Value × Value, e = .returned (.tuple #[V5.1, V5.2]) ∧ Below w4.heap.size w4 w5 := by
      cases hx : parseS B m with
      | no k p => rw [hx] at hps; obtain ⟨u, rfl, hf⟩ := hps; exact ⟨(_, _), rfl, hf.2⟩
      | ok s => rw [hx] at hps; obtain ⟨D, T, tv, ns, rfl, _, hb⟩ := hps; exact ⟨(_, _), rfl, hb⟩
    obtain ⟨vd, ve⟩ := V5
    obtain ⟨rfl, hb5⟩ := hV5
    simp only
    have k5 := fun j => (bcell1 hb5 z4 j).trans (k4 j)
    have z5 := Nat.lt_of_lt_of_le z4 hb5.size
    have HPS := Lib.hid hps
    have HB5 := Lib.hid (ext_trans HB4.out hb5)
    have HB45 := Lib.hid hb5
    have R0 : WrRel7 B.size (.slice ao4 B.size cap4) w5 (.int .i64 0) w5 := ⟨0, rfl, Nat.zero_le _, Only.refl _ _, fun g hpos hg => by
      obtain ⟨g', rfl, _, hgl, cs, hcs, hn⟩ := HOWN.out hpos
      cases hg
      exact ⟨cs, (hb5.block g' hgl).trans hcs, hn⟩⟩
    have HR0 := Lib.hid R0
    clear hps hb5 k4 z4 R0 PA
    go_wp2_with fail
    go_loopw [31] (WrRel7 B.size (.slice ao4 B.size cap4) w5) (fun k _ => B.size - (intOf k).toNat)
    case atStart => exact HR0.out
    case round =>
      obtain ⟨j, rfl, hj, hon, hcs⟩ := hrel
      by_cases hlt : j < B.size
      · have t2 : decide ((j : Int) < (B.size : Int)) = true := decide_eq_true (by omega)
        have t2' : decide (j < B.size) = true := decide_eq_true hlt
        have q1 : IntKind.i64.wrap ((j : Int) + 1) = (j : Int) + 1 := IntWalk.i64_in _ (by omega)
        obtain ⟨g, rfl, hwg, hgl, _⟩ := HOWN.out (by omega)
        obtain ⟨cs, hc, hn⟩ := hcs g (by omega) rfl
        have cj : ∃ x, wr.cell? ⟨g, 0 + j, none⟩ = some x := ⟨cs[j]'(by omega), by rw [Nat.zero_add]; simp [World.cell?, hc, Array.getElem?_eq_getElem (show j < cs.size by omega)]⟩
        obtain ⟨x, cj⟩ := cj
        rw [Nat.zero_add] at cj
        have fj : wr.frozen? ⟨g, j, none⟩ = false := Go.Joins.unfrozen_of_block hc j
        have R : WrRel7 B.size (.slice (some ⟨g, 0, none⟩) B.size cap4) w5 (.int .i64 ((j : Int) + 1)) (wr.setCell ⟨g, j, none⟩ (.int .u8 238)) := ⟨j + 1, by go_num, hlt, hon.set (p := ⟨g, j, none⟩) (fun _ => rfl) _, fun g' _ hg' => by
          cases hg'
          exact ⟨cs.setIfInBounds j (.int .u8 238), by have := Go.Joins.block_setCell hc (i := j) (.int .u8 238); simpa using this, by simpa using hn⟩⟩
        have HRR := Lib.hid R
        clear R hon hcs hc hn HR0
        go_wp2
        refine ⟨?_, by simp [intOf]; omega⟩
        have R := HRR.out
        first | exact R | ((repeat apply Exists.intro); exact ⟨R, rfl⟩)
      · have t2 : decide ((j : Int) < (B.size : Int)) = false := decide_eq_false (by omega)
        have t2' : decide (j < B.size) = false := decide_eq_false hlt
        have hbw : Below w.heap.size w wr := HB5.out.trans (hon.below HB5.out.size (fun b hb => by
          by_cases hpos : 0 < B.size
          · obtain ⟨g', rfl, hwg, _⟩ := HOWN.out hpos
            have e : g' = b := Option.some.inj hb
            omega
          · rcases HAO.out with ⟨_, rfl⟩ | ⟨g', rfl, hg', _⟩
            · cases hb
            · have e : g' = b := Option.some.inj hb
              omega))
        have hge : ∀ b, (Value.slice ao4 B.size cap4).ownBlock = some b → w.heap.size < b ∧ b < w4.heap.size := fun b hb => by
          rcases HAO.out with ⟨_, rfl⟩ | ⟨g', rfl, hg', hl⟩
          · cases hb
          · have e : g' = b := Option.some.inj hb
            exact ⟨by omega, by omega⟩
        have hhi : ∀ k, w4.heap.size ≤ k → k < w5.heap.size → wr.heap[k]? = w5.heap[k]? := fun k h1 h2 => hon.block k h2 (fun e => by have := (hge k e).2; omega)
        have k6 : ∀ j, wr.cell? ⟨w.heap.size, j, none⟩ = (#[.int .i64 m.bytes, .int .i64 m.deep, .int .i64 m.nodes] : Array Value)[j]? := fun j => (cell_keep (hon.block _ z5 (fun e => by have := (hge _ e).1; omega))).trans (k5 j)
        have z6 : w.heap.size < wr.heap.size := Nat.lt_of_lt_of_le z5 hon.size
        have HBW := Lib.hid hbw; have HHI := Lib.hid hhi; have HSZ := Lib.hid hon.size
        have RP := Lib.hid (rparse_any wr _ B m (H1.out.ext hbw) (HE.out.ext hbw) (by omega))
        clear hon hcs hbw hge hhi k5 z5 HR0
        cases hx : parseS B m with
        | no k p =>
          have hps := HPS.out
          rw [hx] at hps RP
          obtain ⟨u, he, hf⟩ := hps
          simp only [Ending.returned.injEq, Value.tuple.injEq, Array.mk.injEq, List.cons.injEq, and_true] at he
          obtain ⟨rfl, rfl⟩ := he
          have hrd : Rd (Own wr) wr (.iface 102 (.pointer (some u))) (errD 102 [((k : Int), p)]) := hf.1.mono (fun b hb => HHI.out b hb.1 hb.2) (fun b hb => by have := hb.2; have := HB45.out.size; exact Nat.lt_of_lt_of_le hb.2 HSZ.out)
          have HRD := Lib.hid hrd
          clear hf hrd hx
          go_wp2_with fail
          refine RP.out.mono ?_
          rintro e w7 ⟨hk0, rfl, hb7⟩
          have t3 : ((k : Int) != 0) = true := bne_iff_ne.2 (by omega)
          have HW7 := Lib.hid (ext_trans HBW.out hb7)
          have TD := Lib.hid (told7_any w7 _ (k : Int) p (HG.out.ext HW7.out) (.inr ⟨by show ((k : Nat) : Int) ≠ 0; omega, HRD.out.ext hb7⟩))
          clear hb7 hk0
          go_wp2_with fail
          refine TD.out.mono ?_
          rintro e w8 ⟨rfl, hb8⟩
          have HW8 := Lib.hid (ext_trans HW7.out hb8)
          clear hb8
          go_wp2
          go_ret
          exact ⟨rfl, HW8.out⟩
        | ok s =>
          have hps := HPS.out
          rw [hx] at hps RP
          obtain ⟨D, T, tv, ns, he, hd, _⟩ := hps
          simp only [Ending.returned.injEq, Value.tuple.injEq, Array.mk.injEq, List.cons.injEq, and_true] at he
          obtain ⟨rfl, rfl⟩ := he
          have HD := Lib.hid (hd.high HHI.out)
          have HX := Lib.hid hx
          clear hd hx
          go_wp2_with fail
          refine RP.out.mono ?_
          rintro e w7 ⟨DR, gn, cn, gu, cu, rfl, hv, hb7⟩
          have HW7 := Lib.hid (ext_trans HBW.out hb7)
          have hbo : Both w7 w4.heap.size D T s m.nodes tv ns DR gn cn gu cu := ⟨HD.out.below hb7, hv, by have := parse_len HX.out; omega, fun k => Nat.le_trans (parse_key HX.out k) (Nat.le_trans (Nat.mul_le_mul_left 4 hB) (by simp [maxLen])), HG.out.ext HW7.out⟩
          have HBO := Lib.hid hbo
          have hjl := parse_len HX.out
          have LN := Lib.hid (fun n => tlen_any (w7.drewN n) w4.heap.size D T s m.nodes tv ns (hbo.d.below (drewN_below _ n)))
          have c0 := hv.c0
          have zD := hv.zD
          obtain ⟨L, hL⟩ : ∃ L, s.js.length = L := ⟨_, rfl⟩
          rw [hL] at c0 hjl LN
          have HLL := Lib.hid hL
          clear hv hb7 hbo hL
          go_upto_region 15 with (fail)
          go_cut [70] from 55 to 70 (fun s70 wx => s70 = .bool false ∧ ∃ n, wx = w7.drewN n)
          case first =>
            have tn : ((L : Int) != (L : Int)) = false := bne_self_eq_false _
            go_quiet ((go_at_call 9; exact quiet_eq (LN.out _)))
            go_wp2
            go_meet
            exact ⟨rfl, _, rfl⟩
          case rest =>
            obtain ⟨rfl, nq, rfl⟩ := hcut
            have hbo := HBO.out.below (drewN_below (w := w7) w7.heap.size nq)
            have hbw := drewN_heapB HW7.out nq
            clear c0 zD LN
            generalize w7.drewN nq = w8 at *
            have c0 := hbo.v.c0
            rw [HLL.out] at c0
            have zD := hbo.v.zD
            have HBP := Lib.hid hbo; have HW8 := Lib.hid hbw
            have ND := Lib.hid (fun W (hW : Below w8.heap.size w8 W) (id : Int) (key : ByteArray) => node7_any W w4.heap.size D T s m.nodes tv ns DR gn cn gu cu id key (hbo.below hW))
            have TX := Lib.hid (fun W (hW : Below w8.heap.size w8 W) (id : Int) => texts7_any W w4.heap.size D T s m.nodes tv ns DR gn cn gu cu id (hbo.below hW))
            have R0 : NdRel L w8 (.int .i64 0) w8 := ⟨0, rfl, Nat.zero_le _, Below.refl _ _⟩
            have HR0 := Lib.hid R0
            clear hbo hbw R0
            go_wp2_with fail
            go_loopw [76] (NdRel L w8) (fun k _ => L - (intOf k).toNat)
            case atStart => exact HR0.out
            case round =>
              obtain ⟨j, rfl, hj, hbr⟩ := hrel
              have HBR := Lib.hid hbr
              have hv := (HBP.out.below hbr).v
              have c0 := hv.c0
              rw [HLL.out] at c0
              have zD := hv.zD
              by_cases hlt : j < L
              · have t2 : decide ((j : Int) < (L : Int)) = true := decide_eq_true (by omega)
                have t2' : decide (j < L) = true := decide_eq_true hlt
                have q1 : IntKind.i64.wrap ((j : Int) + 1) = (j : Int) + 1 := IntWalk.i64_in _ (by omega)
                clear hbr hv c0 zD HR0
                go_wp2_with fail
                refine (ND.out wr HBR.out j key).mono ?_
                rintro e wa ⟨rfl, hba⟩
                have HBA := Lib.hid (ext_trans HBR.out hba)
                have hv := (HBP.out.below HBA.out).v
                have c0 := hv.c0
                rw [HLL.out] at c0
                have zD := hv.zD
                have zN := hv.zN
                obtain ⟨x, hx⟩ := get_ex s.js j (by rw [HLL.out]; exact hlt)
                obtain ⟨_, n1, _, _⟩ := hv.nd j x hx
                clear hba hv hx
                go_wp2_with fail
                refine (ND.out wa HBA.out j x.key).mono ?_
                rintro e wb ⟨rfl, hbb⟩
                have HBB := Lib.hid (ext_trans HBA.out hbb)
                clear hbb c0 zD zN n1
                go_wp2_with fail
                refine (TX.out wb HBB.out j).mono ?_
                rintro e wd ⟨rfl, hbd⟩
                have R : NdRel L w8 (.int .i64 ((j : Int) + 1)) wd := ⟨j + 1, by go_num, hlt, ext_trans HBB.out hbd⟩
                have HRR := Lib.hid R
                clear R hbd
                go_wp2
                refine ⟨?_, by simp [intOf]; omega⟩
                have R := HRR.out
                first | exact R | ((repeat apply Exists.intro); exact ⟨R, rfl⟩)
              · have t2 : decide ((j : Int) < (L : Int)) = false := decide_eq_false (by omega)
                have t2' : decide (j < L) = false := decide_eq_false hlt
                clear hbr hv c0 zD HR0
                go_wp2_with fail
                refine (ND.out wr HBR.out (-1) key).mono ?_
                rintro e wa ⟨rfl, hba⟩
                have HBA := Lib.hid (ext_trans HBR.out hba)
                have hv := (HBP.out.below HBA.out).v
                have c0 := hv.c0
                rw [HLL.out] at c0
                have zD := hv.zD
                clear hba hv
                go_wp2_with fail
                refine (ND.out wa HBA.out L key).mono ?_
                rintro e wb ⟨rfl, hbb⟩
                have HBB := Lib.hid (ext_trans HBA.out hbb)
                have hv := (HBP.out.below HBB.out).v
                have c0 := hv.c0
                rw [HLL.out] at c0
                have zD := hv.zD
                clear hbb hv
                go_wp2_with fail
                refine (TX.out wb HBB.out L).mono ?_
                rintro e wd ⟨rfl, hbd⟩
                have HF := Lib.hid (ext_trans HW8.out (ext_trans HBB.out hbd))
                clear hbd
                go_wp2
                go_ret
                exact ⟨rfl, HF.out⟩
end Go.Proofs.YtmhfbdeeebbloaaGreatDoor
