/- IdentPrints: the walk. -/
import Derived.Test.YtmhfbdeeebbloaaDoorIdp4
import Derived.Test.YtmhfbdeeebbloaaDoorIdp5
namespace Go.Proofs.YtmhfbdeeebbloaaDoor
open Go.RowKit
def lowS (s : ByteArray) : ByteArray := ⟨s.data.map fun x => UInt8.ofNat (lowC x.toNat)⟩
theorem lowS_size (s : ByteArray) : (lowS s).size = s.size := by
  show (s.data.map _).size = s.data.size
  simp
theorem lowS_at (s : ByteArray) (i : Nat) (hi : i < s.size) : byteAt (lowS s) i = lowC (byteAt s i) := by
  have hi' : i < s.data.size := hi
  unfold byteAt lowS
  simp only [Array.getElem?_map, Array.getElem?_eq_getElem hi', Option.map_some, Option.getD_some]
  have hc : s.data[i].toNat < 256 := UInt8.toNat_lt _
  have : lowC s.data[i].toNat < 256 := by unfold lowC; split <;> omega
  simp
  omega
/-- The copy, its great digits turned. -/
def SmRel (s : ByteArray) (W : World) (b : Nat) (i : Value) (wr : World) : Prop := ∃ j : Nat, i = .int .i64 j ∧ j ≤ s.size ∧ Below W.heap.size W wr ∧ b < wr.heap.size ∧ ∀ k, k < s.size → wr.cell? ⟨b, k, none⟩ = some (.int .u8 ((if k < j then lowC (byteAt s k) else byteAt s k : Nat) : Int)) ∧ wr.frozen? ⟨b, k, none⟩ = false
theorem SmRel.step {s : ByteArray} {W wr : World} {b j : Nat} (hb : W.heap.size ≤ b) (hj : j < s.size) (hbw : Below W.heap.size W wr) (hbz : b < wr.heap.size)
    (hc : ∀ k, k < s.size → wr.cell? ⟨b, k, none⟩ = some (.int .u8 ((if k < j then lowC (byteAt s k) else byteAt s k : Nat) : Int)) ∧ wr.frozen? ⟨b, k, none⟩ = false) :
    SmRel s W b (.int .i64 ((j : Int) + 1)) (wr.setCell ⟨b, j, none⟩ (.int .u8 (lowC (byteAt s j) : Nat))) := by
  refine ⟨j + 1, by go_num, hj, hbw.setCell (p := ⟨b, j, none⟩) hb _, by simpa using hbz, fun k hk => ⟨?_, ?_⟩⟩
  · by_cases e : k = j
    · subst e
      rw [World.cell?_setCell_same _ _ _ (hc k hk).1, if_pos (Nat.lt_succ_self _)]
    · rw [World.cell?_setCell_other _ _ _ _ (by intro h; cases h; exact e rfl), (hc k hk).1]
      by_cases h2 : k < j
      · rw [if_pos h2, if_pos (by omega)]
      · rw [if_neg h2, if_neg (by omega)]
  · rw [World.frozen?_setCell]; exact (hc k hk).2
theorem bytes_of_str (s : ByteArray) (w : World) : ∃ (W0 : World) (cap : Nat), (convert 9 26 (.string s)).run Tryd.prog w = .ok (.slice (some ⟨w.heap.size, 0, none⟩) s.size cap) W0 ∧ s.size ≤ cap ∧ Below w.heap.size w W0 ∧ w.heap.size < W0.heap.size ∧
    ∀ i, i < s.size → W0.cell? ⟨w.heap.size, i, none⟩ = some (.int .u8 (byteAt s i)) ∧ W0.frozen? ⟨w.heap.size, i, none⟩ = false := by
  have hcv := run_bytes_of_string (P := Tryd.prog) w 9 26 5 s Tryd.underlying9 Tryd.underlying26 Tryd.underlying5
  refine ⟨_, _, hcv, ?_, ⟨rfl, rfl, rfl, by simp, fun k hk => Below.heap_alloc w.drew _ k hk⟩, by simp, fun i hi => ?_⟩
  · exact grownCap_ge _ _ _ _
  · have hi' : i < s.data.size := hi
    have := bytesRow_at s (grownCap w s.size 0 5) i hi'
    rw [byteAt, Array.getElem?_eq_getElem hi']
    have hx : (w.drew.alloc (.cells (bytesRow s (grownCap w s.size 0 5)) 5 ((bytesRow s (grownCap w s.size 0 5)).size, (bytesRow s (grownCap w s.size 0 5)).size + 1))).heap[w.heap.size]? = some (.cells (bytesRow s (grownCap w s.size 0 5)) 5 ((bytesRow s (grownCap w s.size 0 5)).size, (bytesRow s (grownCap w s.size 0 5)).size + 1)) := heap_alloc_new w.drew _
    have hl := (Array.getElem?_eq_some_iff.1 this).1
    refine ⟨?_, ?_⟩
    · rw [cell_of_row _ w.heap.size i _ _ _ hx]
      simpa using this
    · simp only [World.frozen?, hx]
      simp
      omega
/-- A whole array loaded behind a guard that lets it. -/
theorem wpList_loadRowG {P : Program} {w : World} {ops : Array Oper} {rest : List Oper} {o : Oper} {a : Act} {Q : Exit → Act → World → Prop} (t : TypeId) (b : Nat) (v : Value) (hl : (loadVar t ⟨b, 0, none⟩).run P w = .ok v w)
    (x : Operand) (hgd : Region.wanted o (yielded ops a.tmps) = true) (ho : o.op = .load t x) (hx : a.eval x = .pointer (some ⟨b, 0, none⟩)) (hK : wpList P ops Q rest (a.put o.dst v) w) : wpList P ops Q (o :: rest) a w := by
  refine wpList_step fun K hK' => ?_
  rw [if_pos hgd]
  unfold Oper.wp
  simp [execOp, ho, resolve, hx, Instr.loadAt, Instr.sureAddr, hl, Result.andThen]
  exact hK' _ _ hK
set_option maxRecDepth 100000 in
set_option maxHeartbeats 16000000 in
theorem identPrints_any (f : Nat → Nat) (w : World) (hg : Glob w) (hf : ∀ i, f i < 256) :
    Calls Tryd.prog 3 #[.agg (prC f 32)] w fun e w' => e = .returned (.bool true) ∧ Below w.heap.size w w' := by
  have PT := Lib.hid (fun W => printText_any f W hf)
  have RT := Lib.hid (fun W => rprintText_any f W hf)
  have hok := prT_ok hf
  have hz := hok.size
  have PR := Lib.hid (fun W => iprint_any (prT f 32) f W hok)
  have PL := Lib.hid (fun W => iprint_any (lowS (prT f 32)) f W (hok.low (lowS_size _) (fun i hi => lowS_at _ i hi)))
  have LD := Lib.hid (fun b (W : World) (h : W.heap[b]? = some (.cells (prC f 32) 23 (0, 0))) => pr_load f 32 b W h)
  have ST := Lib.hid (fun W : World => by
    have := run_storeVar_new (P := Tryd.prog) W 23 (prC f 0) (prC f 32) (by rw [prC_size]; exact prInfo) (by rw [prC_size, prC_size]) (prC_one f 32)
    rw [prC_zero] at this
    exact this)
  have EQ := fun W => run_prEq f f W
  simp only [prEq_refl] at EQ
  have HLS := lowS_size (prT f 32)
  have HLA := Lib.hid (lowS_at (prT f 32))
  rw [hz] at HLS
  generalize lowS (prT f 32) = sl at *
  generalize prC f 32 = cs at *
  generalize prT f 32 = s at *
  obtain ⟨W1, hW1⟩ : ∃ W, w.alloc (.cells cs 23) = W := ⟨_, rfl⟩
  have hb1 : Below w.heap.size w W1 := by rw [← hW1]; exact ext_alloc (Below.refl _ _) _
  have hx1 : W1.heap[w.heap.size]? = some (.cells cs 23 (0, 0)) := by rw [← hW1]; exact heap_alloc_new w _
  have HB1 := Lib.hid hb1; have HX1 := Lib.hid hx1
  have SP := Lib.hid (speaks04 W1 (hg.ext hb1))
  have HZ := Lib.hid hz; have HLZ := Lib.hid HLS
  clear hg hf hok hz hb1 hx1 HLS
  go_enter Tryd.func3, Tryd.ntmps3
  go_wp2_with fail
  clear hW1
  refine SP.out.mono ?_
  rintro e w2 ⟨rfl, hb2⟩
  have hx2 := (hb2.block _ (lt_heap HX1.out)).trans HX1.out
  have hld2 := LD.out _ w2 hx2
  have HX2 := Lib.hid hx2
  have HB2 := Lib.hid (ext_trans HB1.out hb2)
  clear hb2 hx2
  go_wp2_with ((with_reducible show wpList _ _ _ (_ :: _) _ _); refine wpList_loadRow 23 w.heap.size (.agg cs) hld2 _ rfl rfl rfl ?_)
  clear hld2
  refine (PT.out w2).mono ?_
  rintro e w3 ⟨rfl, hb3⟩
  have HX3 := Lib.hid ((hb3.block _ (lt_heap HX2.out)).trans HX2.out)
  have HB3 := Lib.hid (ext_trans HB2.out hb3)
  obtain ⟨W4, cap, cv, hcap, hb4, hz4, hc4⟩ := bytes_of_str s w3
  have HX4 := Lib.hid ((hb4.block _ (lt_heap HX3.out)).trans HX3.out)
  have HB4 := Lib.hid (ext_trans HB3.out hb4)
  have R0 : SmRel s w3 w3.heap.size (.int .i64 0) W4 := ⟨0, rfl, Nat.zero_le _, hb4, hz4, fun k hk => by rw [if_neg (Nat.not_lt_zero _)]; exact hc4 k hk⟩
  have HR0 := Lib.hid R0
  have hwz : w.heap.size < w3.heap.size := lt_heap HX3.out
  have hm : s.size ≤ maxLen := by rw [HZ.out]; simp [maxLen]
  clear R0 hb3 hb4 hc4
  go_wp2_with fail
  go_loopw [19] (SmRel s w3 w3.heap.size) (fun i _ => s.size - (intOf i).toNat)
  case atStart => exact HR0.out
  case round =>
    obtain ⟨j, rfl, hj, hbw, hbz, hcs⟩ := hrel
    by_cases hlt : j < s.size
    · have t1 : decide ((j : Int) < (s.size : Int)) = true := decide_eq_true (by omega)
      have t1' : decide (j < s.size) = true := decide_eq_true hlt
      have q1 : IntKind.i64.wrap ((j : Int) + 1) = (j : Int) + 1 := IntWalk.i64_in _ (by have := HZ.out; omega)
      obtain ⟨cj, fj⟩ := hcs j hlt
      rw [if_neg (Nat.lt_irrefl j)] at cj
      have hc256 := byteAt_lt s j
      have R := SmRel.step (Nat.le_refl _) hlt hbw hbz hcs
      by_cases h65 : 65 ≤ byteAt s j ∧ byteAt s j ≤ 70
      · have e1 : lowC (byteAt s j) = byteAt s j + 32 := by unfold lowC; rw [if_pos h65]
        have t2 : decide ((65 : Int) ≤ (byteAt s j : Int)) = true := decide_eq_true (by omega)
        have t3 : decide ((byteAt s j : Int) ≤ (70 : Int)) = true := decide_eq_true (by omega)
        have q2 : IntKind.u8.wrap ((byteAt s j : Int) + 32) = ((byteAt s j + 32 : Nat) : Int) := (IntWalk.u8_in _ (by omega)).trans (by omega)
        rw [e1] at R
        have HRR := Lib.hid R
        clear R e1 h65 hcs hbw hbz
        generalize byteAt s j = c at *
        go_wp2
        refine ⟨?_, by simp [intOf]; omega⟩
        have R := HRR.out
        first | exact R | ((repeat apply Exists.intro); exact ⟨R, rfl⟩)
      · have e1 : lowC (byteAt s j) = byteAt s j := by unfold lowC; rw [if_neg h65]
        have R2 : SmRel s w3 w3.heap.size (.int .i64 ((j : Int) + 1)) wr := ⟨j + 1, by go_num, hlt, hbw, hbz, fun k hk => ⟨by
          rw [(hcs k hk).1]
          by_cases h2 : k < j
          · rw [if_pos h2, if_pos (by omega)]
          · rw [if_neg h2]
            by_cases h3 : k = j
            · subst h3; rw [if_pos (Nat.lt_succ_self _), e1]
            · rw [if_neg (by omega)], (hcs k hk).2⟩⟩
        have HRR := Lib.hid R2
        clear R R2 e1 hcs hbw hbz
        by_cases h1 : 65 ≤ byteAt s j
        · have t2 : decide ((65 : Int) ≤ (byteAt s j : Int)) = true := decide_eq_true (by omega)
          have t3 : decide ((byteAt s j : Int) ≤ (70 : Int)) = false := decide_eq_false (by omega)
          clear h65 h1
          generalize byteAt s j = c at *
          go_wp2
          refine ⟨?_, by simp [intOf]; omega⟩
          have R := HRR.out
          first | exact R | ((repeat apply Exists.intro); exact ⟨R, rfl⟩)
        · have t2 : decide ((65 : Int) ≤ (byteAt s j : Int)) = false := decide_eq_false (by omega)
          clear h65 h1
          generalize byteAt s j = c at *
          go_wp2
          refine ⟨?_, by simp [intOf]; omega⟩
          have R := HRR.out
          first | exact R | ((repeat apply Exists.intro); exact ⟨R, rfl⟩)
    · have t1 : decide ((j : Int) < (s.size : Int)) = false := decide_eq_false (by omega)
      have t1' : decide (j < s.size) = false := decide_eq_false hlt
      obtain rfl : j = s.size := by omega
      have hx5 := (hbw.block _ (lt_heap HX3.out)).trans HX3.out
      have HX5 := Lib.hid hx5
      have HB5 := Lib.hid (ext_trans HB3.out hbw)
      have hls : ∀ k, k < sl.size → wr.cell? ⟨w3.heap.size, k, none⟩ = some (.int .u8 (byteAt sl k : Nat)) := fun k hk => by
        have hk2 : k < s.size := by have := HLZ.out; have := HZ.out; omega
        rw [(hcs k hk2).1, if_pos hk2, HLA.out k hk2]
      have hrd := Lib.hid (rd_of_cells (S := Own wr) (B := sl) (cap := cap) hbz (by have := HLZ.out; have := HZ.out; omega) hls)
      clear hcs hbw hbz hls hx5
      go_wp2_with fail
      refine (PR.out wr).mono ?_
      rintro e w6 ⟨rfl, hb6⟩
      have hb7 : Below w6.heap.size w6 (w6.alloc (.cells cs 23)) := ext_alloc (Below.refl _ _) _
      have hx7 : (w6.alloc (.cells cs 23)).heap[w6.heap.size]? = some (.cells cs 23 (0, 0)) := heap_alloc_new w6 _
      have hx7w := (hb7.block _ (Nat.lt_of_lt_of_le (lt_heap HX5.out) hb6.size)).trans ((hb6.block _ (lt_heap HX5.out)).trans HX5.out)
      have cv7 := conv_rd (hrd.out.ext (ext_trans hb6 hb7))
      rw [HLZ.out, ← HZ.out] at cv7
      have HB7 := Lib.hid (ext_trans HB5.out (ext_trans hb6 hb7))
      have HX7 := Lib.hid hx7; have HX7W := Lib.hid hx7w
      clear hb6 hb7 hx7 hx7w
      go_wp2_with ((with_reducible show wpList _ _ _ (_ :: _) _ _); refine wpList_storeRow 23 w6.heap.size (.agg cs) (ST.out w6) _ _ rfl rfl rfl rfl ?_)
      refine (PL.out _).mono ?_
      rintro e w8 ⟨rfl, hb8⟩
      have hb9 : Below w8.heap.size w8 (w8.alloc (.cells cs 23)) := ext_alloc (Below.refl _ _) _
      have hx9 : (w8.alloc (.cells cs 23)).heap[w8.heap.size]? = some (.cells cs 23 (0, 0)) := heap_alloc_new w8 _
      have hx9a := (hb9.block _ (Nat.lt_of_lt_of_le (lt_heap HX7.out) hb8.size)).trans ((hb8.block _ (lt_heap HX7.out)).trans HX7.out)
      have hx9w := (hb9.block _ (Nat.lt_of_lt_of_le (lt_heap HX7W.out) hb8.size)).trans ((hb8.block _ (lt_heap HX7W.out)).trans HX7W.out)
      have HB9 := Lib.hid (ext_trans HB7.out (ext_trans hb8 hb9))
      have HX9 := Lib.hid hx9; have HX9A := Lib.hid hx9a; have HX9W := Lib.hid hx9w
      have ld9 := LD.out _ _ hx9w
      clear hb8 hb9 hx9 hx9a hx9w cv7
      go_wp2_with ((with_reducible show wpList _ _ _ (_ :: _) _ _); first | (refine wpList_storeRow 23 w8.heap.size (.agg cs) (ST.out w8) _ _ rfl rfl rfl rfl ?_) | (refine wpList_loadRow 23 w.heap.size (.agg cs) ld9 _ rfl rfl rfl ?_))
      clear ld9
      refine (RT.out _).mono ?_
      rintro e w10 ⟨rfl, hb10⟩
      have la := LD.out _ w10 ((hb10.block _ (lt_heap HX9A.out)).trans HX9A.out)
      have lw := LD.out _ w10 ((hb10.block _ (lt_heap HX9W.out)).trans HX9W.out)
      have lb := LD.out _ w10 ((hb10.block _ (lt_heap HX9.out)).trans HX9.out)
      have t5 := beqS_t (show s = s from rfl)
      have eqw := EQ w10
      have HF := Lib.hid (ext_trans HB9.out hb10)
      clear hb10
      go_wp2_with ((with_reducible show wpList _ _ _ (_ :: _) _ _); first | (refine wpList_loadRowG 23 w.heap.size (.agg cs) lw _ rfl rfl rfl ?_) | (refine wpList_loadRowG 23 w6.heap.size (.agg cs) la _ rfl rfl rfl ?_) | (refine wpList_loadRowG 23 w8.heap.size (.agg cs) lb _ rfl rfl rfl ?_))
      go_ret
      exact ⟨rfl, HF.out⟩
end Go.Proofs.YtmhfbdeeebbloaaDoor
