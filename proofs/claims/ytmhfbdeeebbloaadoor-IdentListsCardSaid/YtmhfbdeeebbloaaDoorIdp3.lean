/- ident.PrintText: walked. -/
import Derived.Test.YtmhfbdeeebbloaaDoorIdp2
import Derived.Test.YtmhfbdeeebbloaaDoorShelf
namespace Go.Proofs.YtmhfbdeeebbloaaDoor
open Go.RowKit
theorem join_snoc (l : List (List UInt8)) (y sep : List UInt8) (h : l ≠ []) : Lib.join (l ++ [y]) sep = Lib.join l sep ++ sep ++ y := by
  cases l with
  | nil => exact absurd rfl h
  | cons x r =>
    rw [List.cons_append, Lib.join_cons, Lib.join_cons]
    simp [Lib.joinTail, List.append_assoc]
theorem prT_join (f : Nat → Nat) : ∀ n, 0 < n → Lib.join ((List.range n).map fun i => (dig2 (f i)).data.toList) [58] = (prT f n).data.toList
  | 0, h => by omega
  | n + 1, _ => by
    rw [List.range_succ, List.map_append, List.map_cons, List.map_nil]
    by_cases hn : 0 < n
    · rw [join_snoc _ _ _ (by intro e; have := congrArg List.length e; simp at this; omega), prT_join f n hn, prT, if_pos hn, ByteArray.data_append, ByteArray.data_append, Array.toList_append, Array.toList_append]
    · have : n = 0 := by omega
      subst this
      simp only [List.range_zero, List.map_nil, List.nil_append, Lib.join_one]
      have e2 : (⟨#[]⟩ : ByteArray) ++ dig2 (f 0) = dig2 (f 0) := ByteArray.empty_append
      show _ = ((⟨#[]⟩ : ByteArray) ++ dig2 (f 0)).data.toList
      rw [e2]
theorem figU : ∀ d : Fin 16, byteAt ⟨#[48, 49, 50, 51, 52, 53, 54, 55, 56, 57, 65, 66, 67, 68, 69, 70]⟩ d.val = hexU d.val := by decide
theorem figG (d : Nat) (hd : d < 16) (h : d < ({ data := #[48, 49, 50, 51, 52, 53, 54, 55, 56, 57, 65, 66, 67, 68, 69, 70] } : ByteArray).size) : (({ data := #[48, 49, 50, 51, 52, 53, 54, 55, 56, 57, 65, 66, 67, 68, 69, 70] } : ByteArray)[d]'h).toNat = hexU d := by
  rw [← byteAt_get]; exact figU ⟨d, hd⟩
theorem rd_at {S : Nat → Prop} {w : World} {b off cap : Nat} {B : ByteArray} (hS : S b) (hcap : B.size ≤ cap) (h : ∀ i, i < B.size → w.cell? ⟨b, off + i, none⟩ = some (.int .u8 (byteAt B i))) : Rd S w (.slice (some ⟨b, off, none⟩) B.size cap) (bytesDB B) := by
  by_cases h0 : B.size = 0
  · have e := empty_of h0
    subst e
    exact .list0 _ _ _ nofun
  · refine .list b off B.size cap 1 _ (fun j => .int .u8 (byteAt B j)) hS (by omega) hcap (by simp) (fun j hj => ?_) (fun j hj => ?_)
    · exact h j (by simpa using hj)
    · have hj' : j < B.data.size := by simpa using hj
      have e : (B.data.toList.map fun x => Dat.int .u8 ((x.toNat : Nat) : Int))[j] = Dat.int .u8 (byteAt B j) := by
        simp only [List.getElem_map, Array.getElem_toList]
        unfold byteAt; rw [Array.getElem?_eq_getElem hj']; rfl
      rw [e]; exact .int _ _
/-- The digits are written from behind. -/
def WtRel (n : Nat) (W : World) (b : Nat) (nv av : Value) (wr : World) : Prop := ∃ (k : Nat) (c : Array Value), k ≤ 2 ∧ av = .int .i64 (64 - (k : Int)) ∧ Below W.heap.size W wr ∧ wr.heap[b]? = some (.cells c 164 (0, 0)) ∧ c.size = 64 ∧
  (k = 0 ∧ nv = .int .u64 n ∨ k = 1 ∧ nv = .int .u64 ((n / 16 : Nat) : Int) ∧ c[63]? = some (.int .u8 (hexU (n % 16) : Nat)) ∨ k = 2 ∧ nv = .int .u64 0 ∧ c[63]? = some (.int .u8 (hexU (n % 16) : Nat)) ∧ c[62]? = some (.int .u8 (hexU (n / 16) : Nat)))
set_option maxRecDepth 100000 in
set_option maxHeartbeats 8000000 in
theorem written2_any (n : Nat) (w : World) (hn : n < 256) :
    Calls Tryd.prog 72 #[.int .u64 n, .int .u64 16, .int .i64 2] w fun e w' => e = .returned (.string (dig2 n)) ∧ Below w.heap.size w w' := by
  obtain ⟨Z, hZ⟩ : ∃ Z : Array Value, Array.replicate 64 (Value.int .u8 0) = Z := ⟨_, rfl⟩
  have hzs : Z.size = 64 := by rw [← hZ]; simp
  have hz1 : (w.alloc (.cells Z 164)).heap[w.heap.size]? = some (.cells Z 164 (0, 0)) := heap_alloc_new w _
  have R0 : WtRel n w w.heap.size (.int .u64 n) (.int .i64 64) (w.alloc (.cells Z 164)) := ⟨0, Z, by decide, rfl, ext_alloc (Below.refl _ _) _, hz1, hzs, .inl ⟨rfl, rfl⟩⟩
  have hZ2 : Z = #[.int .u8 0, .int .u8 0, .int .u8 0, .int .u8 0, .int .u8 0, .int .u8 0, .int .u8 0, .int .u8 0, .int .u8 0, .int .u8 0, .int .u8 0, .int .u8 0, .int .u8 0, .int .u8 0, .int .u8 0, .int .u8 0, .int .u8 0, .int .u8 0, .int .u8 0, .int .u8 0, .int .u8 0, .int .u8 0, .int .u8 0, .int .u8 0, .int .u8 0, .int .u8 0, .int .u8 0, .int .u8 0, .int .u8 0, .int .u8 0, .int .u8 0, .int .u8 0, .int .u8 0, .int .u8 0, .int .u8 0, .int .u8 0, .int .u8 0, .int .u8 0, .int .u8 0, .int .u8 0, .int .u8 0, .int .u8 0, .int .u8 0, .int .u8 0, .int .u8 0, .int .u8 0, .int .u8 0, .int .u8 0, .int .u8 0, .int .u8 0, .int .u8 0, .int .u8 0, .int .u8 0, .int .u8 0, .int .u8 0, .int .u8 0, .int .u8 0, .int .u8 0, .int .u8 0, .int .u8 0, .int .u8 0, .int .u8 0, .int .u8 0, .int .u8 0] := by rw [← hZ]; rfl
  rw [hZ2] at R0
  have HR0 := Lib.hid R0
  clear hZ hzs hz1 R0 hZ2
  go_enter Tryd.func72, Tryd.ntmps72
  go_wp2_with fail
  go_loopw [0, 8] (WtRel n w w.heap.size) (fun _ a _ => (intOf a).toNat - 62)
  case atStart => exact HR0.out
  case round =>
    obtain ⟨k, c, hk, rfl, hbw, hblk, hcs, hh⟩ := hrel
    rcases hh with ⟨rfl, rfl⟩ | ⟨rfl, rfl, h63⟩ | ⟨rfl, rfl, h63, h62⟩
    · have cj : wr.cell? ⟨w.heap.size, 63, none⟩ = some (c[63]'(by omega)) := by simp [World.cell?, hblk, Array.getElem?_eq_getElem (show 63 < c.size by omega)]
      have fj : wr.frozen? ⟨w.heap.size, 63, none⟩ = false := Go.Joins.unfrozen_of_block hblk 63
      have q1 : Int.tmod (n : Int) 16 = ((n % 16 : Nat) : Int) := (Int.ofNat_tmod n 16).symm
      have q2 : Int.tdiv (n : Int) 16 = ((n / 16 : Nat) : Int) := (Int.ofNat_tdiv n 16).symm
      have hfg := figG (n % 16) (by omega)
      have R : WtRel n w w.heap.size (.int .u64 ((n / 16 : Nat) : Int)) (.int .i64 63) (wr.setCell ⟨w.heap.size, 63, none⟩ (.int .u8 (hexU (n % 16) : Nat))) := ⟨1, c.setIfInBounds 63 (.int .u8 (hexU (n % 16) : Nat)), by decide, rfl, hbw.setCell (p := ⟨w.heap.size, 63, none⟩) (Nat.le_refl _) _, by have := Go.Joins.block_setCell hblk (i := 63) (.int .u8 (hexU (n % 16) : Nat)); simpa using this, by simpa using hcs, .inr (.inl ⟨rfl, rfl, by simp [hcs]⟩)⟩
      have HRR := Lib.hid R
      generalize c[63]'(by omega) = x63 at *
      clear R hbw hblk
      by_cases h0 : n = 0
      · have t1 : decide ((0 : Int) < (n : Int)) = false := decide_eq_false (by omega)
        have t1' : decide (0 < n) = false := decide_eq_false (by omega)
        clear h0
        go_wp2
        refine ⟨?_, by simp [intOf]⟩
        have R := HRR.out
        first | exact R | ((repeat apply Exists.intro); exact ⟨R, rfl⟩)
      · have t1 : decide ((0 : Int) < (n : Int)) = true := decide_eq_true (by omega)
        have t1' : decide (0 < n) = true := decide_eq_true (by omega)
        clear h0
        go_wp2
        refine ⟨?_, by simp [intOf]⟩
        have R := HRR.out
        first | exact R | ((repeat apply Exists.intro); exact ⟨R, rfl⟩)
    · have cj : wr.cell? ⟨w.heap.size, 62, none⟩ = some (c[62]'(by omega)) := by simp [World.cell?, hblk, Array.getElem?_eq_getElem (show 62 < c.size by omega)]
      have fj : wr.frozen? ⟨w.heap.size, 62, none⟩ = false := Go.Joins.unfrozen_of_block hblk 62
      obtain ⟨d, hd⟩ : ∃ d, n / 16 = d := ⟨_, rfl⟩
      have hd16 : d < 16 := by omega
      have q1 : Int.tmod (d : Int) 16 = (d : Int) := (Int.ofNat_tmod d 16).symm.trans (by rw [Nat.mod_eq_of_lt hd16])
      have q2 : Int.tdiv (d : Int) 16 = 0 := (Int.ofNat_tdiv d 16).symm.trans (by rw [Nat.div_eq_of_lt hd16]; rfl)
      have hfg := figG d hd16
      rw [hd]
      have R : WtRel n w w.heap.size (.int .u64 0) (.int .i64 62) (wr.setCell ⟨w.heap.size, 62, none⟩ (.int .u8 (hexU d : Nat))) := ⟨2, c.setIfInBounds 62 (.int .u8 (hexU d : Nat)), by decide, rfl, hbw.setCell (p := ⟨w.heap.size, 62, none⟩) (Nat.le_refl _) _, by have := Go.Joins.block_setCell hblk (i := 62) (.int .u8 (hexU d : Nat)); simpa using this, by simpa using hcs, .inr (.inr ⟨rfl, rfl, by rw [Array.getElem?_setIfInBounds_ne (by decide)]; exact h63, by rw [hd]; simp [hcs]⟩)⟩
      have HRR := Lib.hid R
      generalize c[62]'(by omega) = x62 at *
      clear R hbw hblk h63 hd
      by_cases h0 : d = 0
      · have t1 : decide ((0 : Int) < (d : Int)) = false := decide_eq_false (by omega)
        have t1' : decide (0 < d) = false := decide_eq_false (by omega)
        clear h0
        go_wp2
        refine ⟨?_, by simp [intOf]⟩
        have R := HRR.out
        first | exact R | ((repeat apply Exists.intro); exact ⟨R, rfl⟩)
      · have t1 : decide ((0 : Int) < (d : Int)) = true := decide_eq_true (by omega)
        have t1' : decide (0 < d) = true := decide_eq_true (by omega)
        clear h0
        go_wp2
        refine ⟨?_, by simp [intOf]⟩
        have R := HRR.out
        first | exact R | ((repeat apply Exists.intro); exact ⟨R, rfl⟩)
    · have hzb := lt_heap hblk
      have cv := conv_rd (S := Own wr) (w := wr) (v := .slice (some ⟨w.heap.size, 62, none⟩) 2 2) (B := dig2 n) (rd_at (w := wr) (b := w.heap.size) (off := 62) (cap := 2) (B := dig2 n) hzb (Nat.le_refl _) (fun i hi => by
        have hi2 : i < 2 := hi
        have : i = 0 ∨ i = 1 := by omega
        rcases this with rfl | rfl
        · rw [dig2_0 hn]; simp [World.cell?, hblk, h62]
        · rw [dig2_1 hn]; simp [World.cell?, hblk, h63]))
      have HF := Lib.hid hbw
      clear hbw hblk h63 h62
      go_wp2
      go_ret
      exact ⟨rfl, HF.out⟩
theorem hexDigits2_any (n : Nat) (w : World) (hn : n < 256) :
    Calls Tryd.prog 33 #[.int .u64 n, .int .i64 2] w fun e w' => e = .returned (.string (dig2 n)) ∧ Below w.heap.size w w' := by
  have C := Lib.hid (written2_any n w hn)
  go_enter Tryd.func33, Tryd.ntmps33
  go_wp2_with fail
  refine C.out.mono ?_
  rintro e w1 ⟨rfl, hb⟩
  have HB := Lib.hid hb
  clear hb
  go_wp2
  go_ret
  exact ⟨rfl, HB.out⟩
def partsS (f : Nat → Nat) (j : Nat) : List ByteArray := (List.range j).map fun i => dig2 (f i)
theorem partsS_len (f : Nat → Nat) (j : Nat) : (partsS f j).length = j := by simp [partsS]
theorem partsS_snoc (f : Nat → Nat) (j : Nat) : partsS f (j + 1) = partsS f j ++ [dig2 (f j)] := by simp [partsS, List.range_succ]
theorem elStrP : ElemTy Tryd.prog 70 9 1 16 (.string ⟨#[]⟩) := ⟨Tryd.underlying70, by kernel_rfl, rfl, by decide⟩
theorem idx_row (f : Nat → Nat) (j : Nat) (hj : j < 32) (W : World) : (Instr.index 23 (.agg (prC f 32)) (.int .i64 (j : Int))).run Tryd.prog W = .ok (.int .u8 (f j : Nat)) W := by
  have hu := run_underlying (P := Tryd.prog) Tryd.underlying23
  have hg := prC_get f 32 j hj
  rw [if_pos hj] at hg
  have h2 : (j : Int) < 32 := by omega
  simp [Instr.index, asIntOf, hu, part, go_sem, h2, hj, hg]
def PtRel (f : Nat → Nat) (W : World) (v i : Value) (wr : World) : Prop := ∃ j : Nat, i = .int .i64 j ∧ j ≤ 32 ∧ wr.ownsRow W.heap.size 9 1 v (partsS f j).length ((partsS f j).map Value.string) ∧ Below W.heap.size W wr
set_option maxRecDepth 100000 in
set_option maxHeartbeats 8000000 in
theorem printText_any (f : Nat → Nat) (w : World) (hf : ∀ i, f i < 256) :
    Calls Tryd.prog 9 #[.agg (prC f 32)] w fun e w' => e = .returned (.string (prT f 32)) ∧ Below w.heap.size w w' := by
  obtain ⟨cs, hcs⟩ : ∃ cs, prC f 32 = cs := ⟨_, rfl⟩
  have ld : ∀ W : World, W.heap[w.heap.size]? = some (.cells cs 23 (0, 0)) → (loadVar 23 ⟨w.heap.size, 0, none⟩).run Tryd.prog W = .ok (.agg cs) W := fun W h => by
    rw [← hcs] at h ⊢; exact pr_load f 32 _ W h
  have IX := Lib.hid (fun j (hj : j < 32) W => by
    have := idx_row f j hj W
    rw [hcs] at this
    exact this)
  rw [hcs]
  have hld := ld (w.alloc (.cells cs 23)) (heap_alloc_new w _)
  have HB1 := Lib.hid (ext_alloc (Below.refl w.heap.size w) (.cells cs 23))
  have HCS := Lib.hid hcs
  clear ld hcs
  go_enter Tryd.func9, Tryd.ntmps9
  go_wp2_with ((with_reducible show wpList _ _ _ (_ :: _) _ _); refine wpList_loadRow 23 w.heap.size (.agg cs) hld _ rfl rfl rfl ?_)
  have R0 : PtRel f w (.slice none 0 0) (.int .i64 0) (w.alloc (.cells cs 23)) := ⟨0, rfl, by decide, World.ownsRow_nil _ _ _ _, HB1.out⟩
  have HR0 := Lib.hid R0
  clear R0 hld
  go_loopw [3, 7] (PtRel f w) (fun _ i _ => 32 - (intOf i).toNat)
  case atStart => exact HR0.out
  case round =>
    obtain ⟨j, rfl, hj, ho, hbw⟩ := hrel
    obtain ⟨aA, capA, rfl, hao⟩ := aown_form ho
    have hpl := partsS_len f j
    by_cases hlt : j < 32
    · have t1 : decide ((j : Int) < 32) = true := decide_eq_true (by omega)
      have t1' : decide (j < 32) = true := decide_eq_true hlt
      have q1 : IntKind.i64.wrap ((j : Int) + 1) = (j : Int) + 1 := IntWalk.i64_in _ (by omega)
      have ix := IX.out j hlt wr
      have hfl := hf j
      have q2 : IntKind.u64.wrap (f j : Int) = (f j : Int) := IntWalk.u64_in _ (by omega)
      have HD := Lib.hid (hexDigits2_any (f j) wr hfl)
      have HPS := Lib.hid (partsS_snoc f j)
      have HO := Lib.hid ho; have HBW := Lib.hid hbw; have HPL := Lib.hid hpl
      clear ho hbw hao hpl
      generalize f j = x at *
      go_wp2_with fail
      refine HD.out.mono ?_
      rintro e w5 ⟨rfl, hb5⟩
      have HON := Lib.hid (aown_ext (w' := w5) HO.out (fun g hg => hb5.block g (HO.out.lt g hg).2) (Nat.le_refl w.heap.size))
      have HB5 := Lib.hid (ext_trans HBW.out hb5)
      clear hb5
      generalize dig2 x = dx at *
      go_wp2_with (at_builtin; refine wpList_app1 w5 #[.string dx] _ rfl _ _ 70 rfl w.heap.size elStrP _ _ _ rfl HON.out rfl rfl ?c1 ?c2 ?c3 ?c4 ?_)
      case c1 => first | rfl | (intro u hu; simp at hu; subst hu; rfl)
      case c2 => rw [HPL.out]; simp [maxLen]; omega
      case c3 => rw [HPL.out]; omega
      case c4 => exact HB5.out.size
      intro v2 w2 ho2 hg2
      have hb2 : Below w.heap.size w w2 := (ext_alloc HB5.out (.cells #[.string dx] 9)).grown hg2 (ext_alloc HB5.out (.cells #[.string dx] 9)).size (fun m hm => (HO.out.lt m hm).1)
      have R : PtRel f w v2 (.int .i64 ((j : Int) + 1)) w2 := ⟨j + 1, by go_num, hlt, by rw [HPS.out]; simpa using ho2, hb2⟩
      have HRR := Lib.hid R
      clear R ho2 hg2 hb2
      go_wp2
      refine ⟨?_, by simp [intOf]; omega⟩
      have R := HRR.out
      first | exact R | ((repeat apply Exists.intro); exact ⟨R, rfl⟩)
    · have t1 : decide ((j : Int) < 32) = false := decide_eq_false (by omega)
      have t1' : decide (j < 32) = false := decide_eq_false hlt
      obtain rfl : j = 32 := by omega
      rw [hpl] at hao
      obtain ⟨g, rfl, hwg, hgl⟩ : ∃ g, aA = some ⟨g, 0, none⟩ ∧ w.heap.size ≤ g ∧ g < wr.heap.size := by
        rcases hao with ⟨h0, _⟩ | h
        · omega
        · exact h
      have hcell : ∀ (i : Nat) x, (partsS f 32)[i]? = some x → wr.cell? ⟨g, 0 + i, none⟩ = some (.string x) := fun i x hx => by
        have hi := (List.getElem?_eq_some_iff.1 hx).1
        rw [Nat.zero_add, ho.cellAt i (by omega), List.getElem?_map, hx]; rfl
      have hjn : (Lib.join ((partsS f 32).map (·.data.toList)) (⟨#[58]⟩ : ByteArray).data.toList) = (prT f 32).data.toList := by
        rw [← prT_join f 32 (by decide)]
        simp only [partsS, List.map_map]
        rfl
      have hcap : (partsS f 32).length ≤ capA := by
        rcases ho.2 with ⟨h0, _⟩ | ⟨g', cap', cur, hv, _, _, hnc, _⟩
        · cases h0
        · cases hv; exact hnc
      have JN := Tryd.strings_Join g 0 capA (partsS f 32) ⟨#[58]⟩ wr hcell hgl (by rw [hpl]; decide) hcap (by
        rw [hjn]
        have := prT_size f 32
        show (prT f 32).data.toList.length ≤ _
        rw [Array.length_toList]
        have e : (prT f 32).data.size = (prT f 32).size := rfl
        rw [e, this]; decide)
      rw [hjn] at JN
      have JN := Lib.hid JN
      have HBW := Lib.hid hbw
      clear ho hbw hao hcell hjn hcap
      go_wp2_with fail
      refine JN.out.mono ?_
      rintro e w7 ⟨rfl, hb7⟩
      have HF := Lib.hid (ext_trans HBW.out hb7)
      clear hb7
      go_wp2
      go_ret
      exact ⟨rfl, HF.out⟩
end Go.Proofs.YtmhfbdeeebbloaaDoor
