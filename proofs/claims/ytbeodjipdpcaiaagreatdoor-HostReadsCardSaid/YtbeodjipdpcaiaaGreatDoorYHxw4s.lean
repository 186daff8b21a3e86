/- Texts put together. -/
import Derived.Test.YtbeodjipdpcaiaaGreatDoorYHxw1s
import Derived.Test.YtbeodjipdpcaiaaGreatDoorYDec0s
import Derived.Test.YtbeodjipdpcaiaaGreatDoorYQuo3sf
set_option maxRecDepth 100000
set_option maxHeartbeats 8000000
namespace Go.Proofs.YtbeodjipdpcaiaaGreatDoor
section
open Go.RowKit
def lstF (f : Nat → Nat) : List Nat := [f 0, f 1, f 2, f 3, f 4, f 5, f 6, f 7]
theorem lstF_at (f : Nat → Nat) (j : Nat) (hj : j < 8) : (zeroP (lstF f))[j]?.getD false = decide (f j = 0) := by
 match j, hj with
 | 0, _ => rfl
 | 1, _ => rfl
 | 2, _ => rfl
 | 3, _ => rfl
 | 4, _ => rfl
 | 5, _ => rfl
 | 6, _ => rfl
 | 7, _ => rfl
def lgN (f : Nat → Nat) (j : Nat) : Nat × Nat × Nat := (List.range j).foldl (lgS (zeroP (lstF f))) (0, 0, 0)
theorem lgN_succ (f : Nat → Nat) (j : Nat) : lgN f (j + 1) = lgS (zeroP (lstF f)) (lgN f j) j := by
 unfold lgN; rw [List.range_succ, List.foldl_append]; rfl
theorem lgN_run (f : Nat → Nat) : ∀ j, (lgN f j).1 ≤ j ∧ (lgN f j).2.1 ≤ j ∧ (lgN f j).2.2 ≤ j
 | 0 => ⟨Nat.le_refl _, Nat.le_refl _, Nat.le_refl _⟩
 | j + 1 => by
   have ih := lgN_run f j
   rw [lgN_succ]
   unfold lgS
   generalize (zeroP (lstF f))[j]?.getD false = b
   cases b <;> simp only [Bool.false_eq_true, if_false, if_true] <;> split <;> refine ⟨?_, ?_, ?_⟩ <;> simp only <;> omega
theorem lgN_all (f : Nat → Nat) : (lgN f 8).2 = longG (lstF f) := lg_eq (decide (f 0 = 0)) (decide (f 1 = 0)) (decide (f 2 = 0)) (decide (f 3 = 0)) (decide (f 4 = 0)) (decide (f 5 = 0)) (decide (f 6 = 0)) (decide (f 7 = 0))
def LgRel (f : Nat → Nat) (w : World) (av sv rv iv : Value) (wr : World) : Prop := ∃ j : Nat, iv = .int .i64 j ∧ j ≤ 8 ∧ rv = .int .i64 ((lgN f j).1 : Nat) ∧ av = .int .i64 ((lgN f j).2.1 : Nat) ∧ sv = .int .i64 ((lgN f j).2.2 : Nat) ∧ Below w.heap.size w wr
theorem hlongest_any (f : Nat → Nat) (w : World) : Calls Tryz.prog 167 #[.agg (g8C f)] w fun e w' => e = .returned (.tuple #[.int .i64 ((longG (lstF f)).1 : Nat), .int .i64 ((longG (lstF f)).2 : Nat)]) ∧ Below w.heap.size w w' := by
 obtain ⟨W1, hW1⟩ : ∃ W, w.alloc (.cells (g8C f) 92) = W := ⟨_, rfl⟩
 have hb1 : Below w.heap.size w W1 := by rw [← hW1]; exact ext_alloc (Below.refl _ _) _
 have hx1 : W1.heap[w.heap.size]? = some (.cells (g8C f) 92 (0, 0)) := by rw [← hW1]; exact heap_alloc_new w _
 have hld := g8_load (g8C f) rfl _ W1 hx1
 have HR0 : Hid (LgRel f w (.int .i64 0) (.int .i64 0) (.int .i64 0) (.int .i64 0) W1) := hid ⟨0, rfl, Nat.zero_le _, rfl, rfl, rfl, hb1⟩
 have HIX := hid (fun j hj W => g8_at f j hj W)
 obtain ⟨Q, hQ⟩ : ∃ Q, (fun (e : Ending) (w' : World) => e = .returned (.tuple #[.int .i64 ((longG (lstF f)).1 : Nat), .int .i64 ((longG (lstF f)).2 : Nat)]) ∧ Below w.heap.size w w') = Q := ⟨_, rfl⟩
 rw [hQ]
 have HQ := hid hQ
 obtain ⟨cs, hcs⟩ : ∃ cs, g8C f = cs := ⟨_, rfl⟩
 rw [hcs] at hld hW1 HIX ⊢
 clear hb1 hx1 hcs hQ
 go_enter Tryz.func167, Tryz.ntmps167
 go_wp2_with ((with_reducible show wpList _ _ _ (_ :: _) _ _); refine ld_arr 92 w.heap.size (.agg cs) hld _ rfl rfl rfl ?_)
 clear hW1 hld
 go_loopw [2, 3, 4, 8] (LgRel f w) (fun _ _ _ i _ => 8 - (intOf i).toNat)
 case atStart => exact HR0.out
 case round =>
  obtain ⟨j, rfl, hj, rfl, rfl, rfl, hb⟩ := hrel
  have HB := hid hb
  have hbd := lgN_run f j
  have hsu := lgN_succ f j
  by_cases hlt : j < 8
  · have t1 : decide ((j : Int) < 8) = true := dcT (by omega)
    have t1' : decide (j < 8) = true := dcT hlt
    have q1 := inc j (by omega)
    have hix := HIX.out j hlt
    have hza := lstF_at f j hlt
    obtain ⟨r, a, z, hl⟩ : ∃ r a z, lgN f j = (r, a, z) := ⟨_, _, _, rfl⟩
    rw [hl] at hbd hsu ⊢
    unfold lgS at hsu
    rw [hza] at hsu
    simp only at hbd hsu
    have q2 := inc r (by omega)
    obtain ⟨x, hx⟩ : ∃ x, f j = x := ⟨_, rfl⟩
    rw [hx] at hix hsu
    have HST : Hid (∀ r2 a2 z2, lgN f (j + 1) = (r2, a2, z2) → LgRel f w (.int .i64 (a2 : Nat)) (.int .i64 (z2 : Nat)) (.int .i64 (r2 : Nat)) (.int .i64 ((j : Int) + 1)) wr) := hid (fun r2 a2 z2 h => ⟨j + 1, by go_num, hlt, by rw [h], by rw [h], by rw [h], hb⟩)
    by_cases h0 : x = 0
    · rw [dcT h0] at hsu
      simp only [if_true] at hsu
      have t2 : ((x : Int) != 0) = false := by rw [h0]; rfl
      by_cases hgt : z < r + 1
      · rw [if_pos hgt] at hsu
        have t3 : decide ((z : Int) < (r : Int) + 1) = true := dcT (by omega)
        have q3 : IntKind.i64.wrap ((j : Int) + 1 - ((r : Int) + 1)) = ((j + 1 - (r + 1) : Nat) : Int) := (i64n _ (by omega)).trans (by omega)
        have R := HST.out _ _ _ hsu
        obtain ⟨d, hd⟩ : ∃ d, j + 1 - (r + 1) = d := ⟨_, rfl⟩
        rw [hd] at q3 R
        rw [show ((r + 1 : Nat) : Int) = (r : Int) + 1 by omega] at R
        have HRR := hid R
        clear R hd hsu hx hza hl h0 hgt hb
        go_wp2
        refine ⟨?_, by simp [intOf] <;> omega⟩
        first | exact HRR.out | ((repeat apply Exists.intro); exact ⟨HRR.out, rfl⟩)
      · rw [if_neg hgt] at hsu
        have t3 : decide ((z : Int) < (r : Int) + 1) = false := dcF (by omega)
        have R := HST.out _ _ _ hsu
        rw [show ((r + 1 : Nat) : Int) = (r : Int) + 1 by omega] at R
        have HRR := hid R
        clear R hsu hx hza hl h0 hgt hb
        go_wp2
        refine ⟨?_, by simp [intOf] <;> omega⟩
        first | exact HRR.out | ((repeat apply Exists.intro); exact ⟨HRR.out, rfl⟩)
    · rw [dcF h0] at hsu
      simp only [Bool.false_eq_true, if_false] at hsu
      rw [if_neg (by omega)] at hsu
      have t2 : ((x : Int) != 0) = true := by simp; omega
      have t3 : decide ((z : Int) < 0) = false := dcF (by omega)
      have R := HST.out _ _ _ hsu
      have HRR := hid R
      clear R hsu hx hza hl h0 hb
      go_wp2
      refine ⟨?_, by simp [intOf] <;> omega⟩
      first | exact HRR.out | ((repeat apply Exists.intro); exact ⟨HRR.out, rfl⟩)
  · have t1 : decide ((j : Int) < 8) = false := dcF (by omega)
    have t1' : decide (j < 8) = false := dcF hlt
    obtain rfl : j = 8 := by omega
    have hal := lgN_all f
    have HF : Hid (Q (.returned (.tuple #[.int .i64 ((lgN f 8).2.1 : Nat), .int .i64 ((lgN f 8).2.2 : Nat)])) wr) := hid (by rw [← HQ.out]; exact ⟨by rw [hal], hb⟩)
    generalize (lgN f 8).2.1 = a at *
    generalize (lgN f 8).2.2 = z at *
    generalize (lgN f 8).1 = r at *
    clear hal hsu hb hlt
    go_wp2
    exact HF.out
theorem hexdig1_any (n : Nat) (w : World) (hn : n < 65536) :
    Calls Tryz.prog 216 #[.int .u64 n, .int .i64 1] w fun e w' => e = .returned (.string (hexB6 n)) ∧ Below w.heap.size w w' := by
 have HW := hid (written16_any n w hn)
 clear hn
 go_enter Tryz.func216, Tryz.ntmps216
 go_wp2_with fail
 refine HW.out.mono ?_
 rintro e w1 ⟨rfl, hb⟩
 have HB := hid hb
 clear hb
 go_wp2
 go_ret
 exact ⟨rfl, HB.out⟩
def HdRel (l : List Nat) (w : World) (pv iv : Value) (wr : World) : Prop := ∃ j : Nat, iv = .int .i64 j ∧ j ≤ l.length ∧ wr.ownsRow w.heap.size 9 1 pv ((l.take j).map hexN).length (strV (((l.take j).map hexN).map bytesL)) ∧ Below w.heap.size w wr
theorem hdigits_any (l : List Nat) (a : Option Addr) (c : Nat) (w : World) (h8 : l.length ≤ 8) (hl : ∀ n ∈ l, n < 65536) (hc : 0 < l.length → ∃ b off, a = some ⟨b, off, none⟩ ∧ b < w.heap.size ∧ ∀ i x, l[i]? = some x → w.cell? ⟨b, off + i, none⟩ = some (.int .u16 (x : Nat))) :
    Calls Tryz.prog 168 #[.slice a l.length c] w fun e w' => e = .returned (.string (bytesL (colons l))) ∧ Below w.heap.size w w' := by
 have HC := hid hc; have HL := hid hl
 have hjl : (joinN 58 (l.map hexN)).length ≤ 5 * (l.map hexN).length := join_small 58 4 (fun p hp => by
  obtain ⟨n, hn, rfl⟩ := List.mem_map.1 hp
  exact (hexN_all (hl n hn)).2.1)
 have HJ := hid (fun W v (h : W.ownsRow w.heap.size 9 1 v (l.map hexN).length (strV ((l.map hexN).map bytesL))) => joinP_any 58 ⟨#[58]⟩ rfl W w.heap.size v (l.map hexN) h (by rw [List.length_map]; omega) (by rw [List.length_map] at hjl; omega))
 show Calls _ _ _ _ fun e w' => e = .returned (.string (bytesL (joinN 58 (l.map hexN)))) ∧ Below w.heap.size w w'
 obtain ⟨V, hV⟩ : ∃ V, bytesL (joinN 58 (l.map hexN)) = V := ⟨_, rfl⟩
 rw [hV] at HJ ⊢
 obtain ⟨n0, hn0⟩ : ∃ n, l.length = n := ⟨_, rfl⟩
 have HN := hid hn0
 rw [hn0] at h8 ⊢
 clear hc hl hV hn0 hjl
 go_enter Tryz.func168, Tryz.ntmps168
 go_wp2_with fail
 go_loopw [3, 8] (HdRel l w) (fun _ i _ => n0 - (intOf i).toNat)
 case atStart => exact ⟨0, rfl, Nat.zero_le _, World.ownsRow_nil _ _ _ _, Below.refl _ _⟩
 case round =>
  obtain ⟨j, rfl, hj, ho, hb⟩ := hrel
  rw [HN.out] at hj
  have htl : ((l.take j).map hexN).length = j := by rw [List.length_map, List.length_take, HN.out]; omega
  rw [htl] at ho
  obtain ⟨ao, cap, rfl, hao⟩ := aown_form ho
  have HO := hid ho; have HB := hid hb; have HTL := hid htl
  by_cases hlt : j < n0
  · obtain ⟨t1, t1'⟩ := ltT j n0 hlt
    have q1 := inc j (by omega)
    obtain ⟨b, off, rfl, hbz, hcl⟩ := HC.out (by rw [HN.out]; omega)
    obtain ⟨x, hx⟩ := get_ex l j (by rw [HN.out]; exact hlt)
    have hxl := HL.out x (List.mem_of_getElem? hx)
    have c0 : wr.cell? ⟨b, off + j, none⟩ = some (.int .u16 (x : Nat)) := (bcell1 hb hbz _).trans (hcl j x hx)
    have q2 : IntKind.u64.wrap (x : Int) = (x : Int) := IntWalk.u64_in _ (by omega)
    have HD := hid (hexdig1_any x wr hxl)
    have hhz : (hexB6 x).size ≤ 1000000 := by
     have := lenH_le hxl
     show (hexS6 _ _).size ≤ _
     rw [hexS6_size]; omega
    have LW := fun W => lower_any (hexB6 x) W hhz
    rw [hexB_low hxl] at LW
    obtain ⟨H, hH⟩ : ∃ H, hexB6 x = H := ⟨_, rfl⟩
    obtain ⟨T, hT⟩ : ∃ T, bytesL (hexN x) = T := ⟨_, rfl⟩
    rw [hH] at HD LW
    rw [hT] at LW
    have LWH := hid LW
    have HX := hid hx; have HT := hid hT
    clear ho hb hao htl hcl hx hxl hhz hH hT LW hbz
    go_wp2_with fail
    refine HD.out.mono ?_
    rintro e w2 ⟨rfl, hb2⟩
    have HB2 := hid (xT HB.out hb2)
    have HO2 := hid (aown_ext HO.out (fun g hg => hb2.block g (HO.out.lt g hg).2) (Nat.le_refl _))
    clear hb2
    go_wp2_with fail
    refine (LWH.out _).mono ?_
    rintro e w3 ⟨rfl, hb3⟩
    have HB3 := hid (xT HB2.out hb3)
    have HO3 := hid (aown_ext HO2.out (fun g hg => hb3.block g (HO2.out.lt g hg).2) (Nat.le_refl _))
    clear hb3
    go_wp2_with (at_builtin; refine wpList_app1 w3 _ _ rfl _ _ 63 rfl w.heap.size elStr8 _ _ _ rfl HO3.out rfl rfl ?c1 ?c2 ?c3 ?c4 ?_)
    case c1 => first | rfl | (intro u hu; simp at hu; subst hu; rfl)
    case c2 => simp [maxLen]; omega
    case c3 => omega
    case c4 => exact HB3.out.size
    intro v2 w4 ho4 hg4
    have hb4 : Below w.heap.size w w4 := (ext_alloc HB3.out (.cells #[.string T] 9)).grown hg4 (ext_alloc HB3.out (.cells #[.string T] 9)).size (fun m hm => (HO3.out.lt m hm).1)
    have htk : (l.take (j + 1)).map hexN = (l.take j).map hexN ++ [hexN x] := by rw [List.take_add_one, HX.out, List.map_append]; rfl
    have R : HdRel l w v2 (.int .i64 ((j : Int) + 1)) w4 := ⟨j + 1, by go_num, by rw [HN.out]; exact hlt, by
     rw [htk, List.length_append, HTL.out, List.map_append]
     have e : strV (((l.take j).map hexN).map bytesL ++ [hexN x].map bytesL) = strV (((l.take j).map hexN).map bytesL) ++ [.string T] := by
      unfold strV
      rw [← HT.out]
      simp
     rw [e]
     simpa using ho4, hb4⟩
    have HRR := hid R
    clear R ho4 hg4 hb4 htk
    go_wp2
    refine ⟨?_, by simp [intOf] <;> omega⟩
    first | exact HRR.out | ((repeat apply Exists.intro); exact ⟨HRR.out, rfl⟩)
  · obtain ⟨t1, t1'⟩ := ltF j n0 hlt
    have hta : l.take j = l := List.take_of_length_le (by rw [HN.out]; omega)
    rw [hta] at ho htl
    rw [← htl] at ho
    have JN := hid (HJ.out _ _ ho)
    rw [htl] at JN
    clear ho hb hao htl hta hlt
    go_wp2_with fail
    refine JN.out.mono ?_
    rintro e w5 ⟨rfl, hb5⟩
    have HB5 := hid (xT HB.out hb5)
    clear hb5
    go_wp2
    go_ret
    exact ⟨rfl, HB5.out⟩
end
section
open Go.RowKit
theorem slA1 (X a : Nat) (ha : a ≤ 8) (W : World) : (Instr.sliceAt 92 (.pointer (some ⟨X, 0, none⟩)) none (some (.int .i64 (a : Int))) (some (.int .i64 (a : Int)))).run Tryz.prog W = .ok (.slice (some ⟨X, 0, none⟩) a a) W := by
 have e2 : (a : Int) ≤ 8 := by omega
 simp [Instr.sliceAt, Instr.sureAddr, run_underlying Tryz.underlying92, Instr.sliceBounds, run_sliceBound, Tryz.sizeOf62, e2, Result.andThen, Addr.add_lit]
theorem slA2 (X lo : Nat) (ha : lo ≤ 8) (W : World) : (Instr.sliceAt 92 (.pointer (some ⟨X, 0, none⟩)) (some (.int .i64 (lo : Int))) none none).run Tryz.prog W = .ok (.slice (some ⟨X, if 8 = lo then 0 else lo, none⟩) (8 - lo) (8 - lo)) W := by
 have e2 : (lo : Int) ≤ 8 := by omega
 simp [Instr.sliceAt, Instr.sureAddr, run_underlying Tryz.underlying92, Instr.sliceBounds, run_sliceBound, Tryz.sizeOf62, e2, Result.andThen, Addr.add_lit]
 split <;> rfl
theorem slA0 (X : Nat) (W : World) : (Instr.sliceAt 92 (.pointer (some ⟨X, 0, none⟩)) none none none).run Tryz.prog W = .ok (.slice (some ⟨X, 0, none⟩) 8 8) W := by
 simp [Instr.sliceAt, Instr.sureAddr, run_underlying Tryz.underlying92, Instr.sliceBounds, Tryz.sizeOf62, Result.andThen, Addr.add_lit]
theorem lstF_get (f : Nat → Nat) (j : Nat) (hj : j < 8) : (lstF f)[j]? = some (f j) := by
 match j, hj with
 | 0, _ => rfl
 | 1, _ => rfl
 | 2, _ => rfl
 | 3, _ => rfl
 | 4, _ => rfl
 | 5, _ => rfl
 | 6, _ => rfl
 | 7, _ => rfl
theorem g8C_get (f : Nat → Nat) (j : Nat) (hj : j < 8) : (g8C f)[j]? = some (.int .u16 (f j : Nat)) := by
 match j, hj with
 | 0, _ => rfl
 | 1, _ => rfl
 | 2, _ => rfl
 | 3, _ => rfl
 | 4, _ => rfl
 | 5, _ => rfl
 | 6, _ => rfl
 | 7, _ => rfl
theorem lstF_len (f : Nat → Nat) : (lstF f).length = 8 := rfl
theorem lstF_mem {f : Nat → Nat} (hf : ∀ j, j < 8 → f j < 65536) : ∀ n ∈ lstF f, n < 65536 := fun n hn => by
 obtain ⟨i, hi, rfl⟩ := List.getElem_of_mem hn
 have hi8 : i < 8 := hi
 have := lstF_get f i hi8
 rw [List.getElem?_eq_getElem hi] at this
 rw [Option.some.inj this]
 exact hf i hi8
theorem part_digits (f : Nat → Nat) (hf : ∀ j, j < 8 → f j < 65536) (X lo n c : Nat) (w W : World) (hx : w.heap[X]? = some (.cells (g8C f) 92 (0, 0))) (hW : Below w.heap.size w W) (hlo : lo + n ≤ 8) :
    Calls Tryz.prog 168 #[.slice (some ⟨X, lo, none⟩) n c] W fun e w' => e = .returned (.string (bytesL (colons (((lstF f).drop lo).take n)))) ∧ Below W.heap.size W w' := by
 have hl : (((lstF f).drop lo).take n).length = n := by rw [List.length_take, List.length_drop, lstF_len]; omega
 have hxW : W.heap[X]? = some (.cells (g8C f) 92 (0, 0)) := (hW.block _ (heap_lt hx)).trans hx
 have := hdigits_any (((lstF f).drop lo).take n) (some ⟨X, lo, none⟩) c W (by omega) (fun m hm => lstF_mem hf m (List.mem_of_mem_drop (List.mem_of_mem_take hm))) (fun _ => ⟨X, lo, rfl, heap_lt hxW, fun i x hix => by
  have hi : i < n := by rw [← hl]; exact (List.getElem?_eq_some_iff.1 hix).1
  rw [List.getElem?_take, if_pos hi, List.getElem?_drop, lstF_get f _ (by omega)] at hix
  rw [cell_of_row _ _ _ _ _ _ hxW, g8C_get f _ (by omega), Option.some.inj hix]⟩)
 rw [hl] at this
 exact this
theorem htext_any (f : Nat → Nat) (w : World) (hf : ∀ j, j < 8 → f j < 65536) : Calls Tryz.prog 98 #[.agg (v6C f)] w fun e w' => e = .returned (.string (bytesL (text6 (lstF f)))) ∧ Below w.heap.size w w' := by
 obtain ⟨W1, hW1⟩ : ∃ W, w.alloc (.cells (v6C f) 125) = W := ⟨_, rfl⟩
 have hb1 : Below w.heap.size w W1 := by rw [← hW1]; exact ext_alloc (Below.refl _ _) _
 have hx1 : W1.heap[w.heap.size]? = some (.cells (v6C f) 125 (0, 0)) := by rw [← hW1]; exact heap_alloc_new w _
 have hld := v6_load (v6C f) rfl _ W1 hx1
 have GR := hid (fun W => hgroups_any f W hf)
 have LG := hid (fun W => hlongest_any f W)
 have PD := hid (fun X lo n c w W hx hW hlo => part_digits f hf X lo n c w W hx hW hlo)
 obtain ⟨V, hV⟩ : ∃ V, bytesL (text6 (lstF f)) = V := ⟨_, rfl⟩
 rw [hV]
 have hlz := (long_zero (lstF_len f)).1
 have hcol : ∀ lo n, lo + n ≤ 8 → (colons (((lstF f).drop lo).take n)).length ≤ 40 := fun lo n h => by
  have h1 : (joinN 58 ((((lstF f).drop lo).take n).map hexN)).length ≤ 5 * ((((lstF f).drop lo).take n).map hexN).length := join_small 58 4 (fun p hp => by
   obtain ⟨m, hm, rfl⟩ := List.mem_map.1 hp
   exact (hexN_all (lstF_mem hf m (List.mem_of_mem_drop (List.mem_of_mem_take hm)))).2.1)
  rw [List.length_map, List.length_take, List.length_drop, lstF_len] at h1
  show (joinN 58 _).length ≤ 40
  omega
 have HCOL := hid hcol
 have HVV : Hid (∀ a z, longG (lstF f) = (a, z) → V = if z < 2 then bytesL (colons (((lstF f).drop 0).take 8)) else bytesL (colons (((lstF f).drop 0).take a) ++ 58 :: 58 :: colons (((lstF f).drop (a + z)).take (8 - (a + z))))) := hid (fun a z h => by
  rw [← hV]
  unfold text6
  rw [h]
  split
  · rfl
  · have : ((lstF f).drop (a + z)).take (8 - (a + z)) = (lstF f).drop (a + z) := List.take_of_length_le (by rw [List.length_drop, lstF_len]; exact Nat.le_refl _)
    rw [this]; rfl)
 obtain ⟨a, z, hlg⟩ : ∃ a z, longG (lstF f) = (a, z) := ⟨_, _, rfl⟩
 have hVV := HVV.out a z hlg
 rw [hlg] at LG hlz
 have h8o := g8C_one f
 obtain ⟨cs, hcs⟩ : ∃ cs, v6C f = cs := ⟨_, rfl⟩
 rw [hcs] at hld hW1 GR ⊢
 obtain ⟨gs, hgs⟩ : ∃ gs, g8C f = gs := ⟨_, rfl⟩
 rw [hgs] at GR LG PD h8o
 have hgz : gs.size = 8 := by rw [← hgs]; rfl
 have HB1 := hid hb1
 have H8O := hid h8o; have HGZ := hid hgz
 have hlz : a + z ≤ 8 := hlz
 clear hb1 hx1 hV hcol hcs hgs h8o hgz HVV hlg hf
 go_enter Tryz.func98, Tryz.ntmps98
 go_wp2_with ((with_reducible show wpList _ _ _ (_ :: _) _ _); refine ld_arr 125 w.heap.size (.agg cs) hld _ rfl rfl rfl ?_)
 clear hW1 hld
 refine (GR.out _).mono ?_
 rintro e w2 ⟨rfl, hb2⟩
 obtain ⟨w3, hW3⟩ : ∃ W, w2.alloc (.cells #[.int .u16 0, .int .u16 0, .int .u16 0, .int .u16 0, .int .u16 0, .int .u16 0, .int .u16 0, .int .u16 0] 92) = W := ⟨_, rfl⟩
 have hb3 : Below w2.heap.size w2 w3 := by rw [← hW3]; exact ext_alloc (Below.refl _ _) _
 have hx3 : w3.heap[w2.heap.size]? = some (.cells zero8 92 (0, 0)) := by rw [← hW3]; exact heap_alloc_new w2 _
 have hst := g8_store gs zero8 HGZ.out H8O.out rfl _ w3 hx3
 have hx4 := setRow_heap (c := gs) hx3
 have hb4 : Below w2.heap.size w2 (w3.setRow w2.heap.size gs) := setRow_below hb3 (Nat.le_refl _)
 obtain ⟨w4, hW4⟩ : ∃ W, w3.setRow w2.heap.size gs = W := ⟨_, rfl⟩
 rw [hW4] at hst hx4 hb4
 have hld := g8_load gs HGZ.out _ w4 hx4
 have HX4 := hid hx4
 have HB4 := hid (xT (xT HB1.out hb2) hb4)
 clear hb2 hb3 hx3 hx4 hb4 hW4
 go_wp2_with ((with_reducible show wpList _ _ _ (_ :: _) _ _); first | (refine st_arr 92 w2.heap.size _ hst _ _ rfl rfl rfl rfl ?_) | (refine ld_arr 92 w2.heap.size _ hld _ rfl rfl rfl ?_))
 clear hst hW3 hld
 refine (LG.out _).mono ?_
 rintro e w5 ⟨rfl, hb5⟩
 have HB5 := hid (xT HB4.out hb5); have HB45 := hid hb5
 obtain ⟨X, hX⟩ : ∃ X, w2.heap.size = X := ⟨_, rfl⟩
 rw [hX] at HX4 ⊢
 clear hb5 hX
 by_cases hz2 : z < 2
 · have t1 : decide ((z : Int) < 2) = true := dcT (by omega)
   have t1' : decide (z < 2) = true := dcT hz2
   rw [if_pos hz2] at hVV
   have D := PD.out X 0 8 8 w4 w5 HX4.out HB45.out (by decide)
   rw [← hVV] at D
   have D := hid D
   clear hVV hz2
   go_wp2_with fail
   refine D.out.mono ?_
   rintro e w6 ⟨rfl, hb6⟩
   have HB6 := hid (xT HB5.out hb6)
   clear hb6
   go_wp2
   go_ret
   exact ⟨rfl, HB6.out⟩
 · have t1 : decide ((z : Int) < 2) = false := dcF (by omega)
   have t1' : decide (z < 2) = false := dcF hz2
   rw [if_neg hz2] at hVV
   obtain ⟨lo, hlo⟩ : ∃ lo, a + z = lo := ⟨_, rfl⟩
   rw [hlo] at hVV hlz
   obtain ⟨n2, hn2⟩ : ∃ n, 8 - lo = n := ⟨_, rfl⟩
   rw [hn2] at hVV
   have q1 : IntKind.i64.wrap ((a : Int) + (z : Int)) = (lo : Int) := (i64n _ (by omega)).trans (by omega)
   have D1 := fun n : BW w5.heap.size w5 => PD.out X 0 a a w4 n.w HX4.out (xT HB45.out n.below) (by omega)
   have D2 := fun (c : Nat) (n : BW w5.heap.size w5) => PD.out X lo n2 c w4 n.w HX4.out (xT HB45.out n.below) (by omega)
   have D0 := fun (c : Nat) (n : BW w5.heap.size w5) => PD.out X 0 0 c w4 n.w HX4.out (xT HB45.out n.below) (by decide)
   have hs1 := HCOL.out 0 a (by omega)
   have hs2 := HCOL.out lo n2 (by omega)
   obtain ⟨L1, hL1⟩ : ∃ L, colons (((lstF f).drop 0).take a) = L := ⟨_, rfl⟩
   obtain ⟨L2, hL2⟩ : ∃ L, colons (((lstF f).drop lo).take n2) = L := ⟨_, rfl⟩
   rw [hL1] at D1 hVV hs1
   rw [hL2] at D2 hVV hs2
   obtain ⟨T1, hT1⟩ : ∃ T, bytesL L1 = T := ⟨_, rfl⟩
   obtain ⟨T2, hT2⟩ : ∃ T, bytesL L2 = T := ⟨_, rfl⟩
   rw [hT1] at D1
   rw [hT2] at D2
   have hz1 : T1.size ≤ 40 := by rw [← hT1, bytesL_size]; exact hs1
   have hzt2 : T2.size ≤ 40 := by rw [← hT2, bytesL_size]; exact hs2
   obtain ⟨T3, hT3⟩ : ∃ T, T1 ++ (⟨#[58, 58]⟩ : ByteArray) = T := ⟨_, rfl⟩
   obtain ⟨T4, hT4⟩ : ∃ T, T3 ++ T2 = T := ⟨_, rfl⟩
   have hz3 : T3.size ≤ 42 := by
    rw [← hT3, ByteArray.size_append]
    have : (⟨#[58, 58]⟩ : ByteArray).size = 2 := rfl
    omega
   have hVT : V = T4 := by
    rw [hVV, ← hT4, ← hT3, ← hT1, ← hT2]
    apply toList_inj
    rw [ByteArray.toList_eq, ByteArray.toList_eq]
    simp [bytesL, ByteArray.data_append]
   have HVT := hid hVT
   have HD1 := hid D1; have HD2 := hid D2
   have h8a : a ≤ 8 := by omega
   have sA1 := slA1 X a h8a
   have sA2 := slA2 X lo hlz
   rw [hn2] at sA2
   by_cases hlo8 : 8 = lo
   · rw [if_pos hlo8] at sA2
     have HLO8 := hid hlo8
     have hn20 : n2 = 0 := by omega
     rw [hn20] at sA2
     have HD3 : Hid (∀ c, ∀ n : BW w5.heap.size w5, Calls Tryz.prog 168 #[.slice (some ⟨X, 0, none⟩) 0 c] n.w fun e w' => e = .returned (.string T2) ∧ Below n.w.heap.size n.w w') := hid (fun c n => by
      have hL2' : L2 = [] := by rw [← hL2, hn20, List.take_zero]; rfl
      have := D0 c n
      rw [List.take_zero] at this
      rw [← hT2, hL2']
      exact this)
     obtain ⟨F, hF, hF1, hF2⟩ : ∃ F : Value → ByteArray → Prop, (∀ v r (n : BW w5.heap.size w5), F v r → Calls Tryz.prog 168 #[v] n.w fun e w' => e = .returned (.string r) ∧ Below n.w.heap.size n.w w') ∧ F (.slice (some ⟨X, 0, none⟩) a a) T1 ∧ F (.slice (some ⟨X, 0, none⟩) 0 0) T2 :=
      ⟨fun v r => (v = .slice (some ⟨X, 0, none⟩) a a ∧ r = T1) ∨ (v = .slice (some ⟨X, 0, none⟩) 0 0 ∧ r = T2), fun v r n h => by
       rcases h with ⟨rfl, rfl⟩ | ⟨rfl, rfl⟩
       · exact HD1.out n
       · exact HD3.out 0 n, .inl ⟨rfl, rfl⟩, .inr ⟨rfl, rfl⟩⟩
     have HF := hid hF
     clear D0 D1 D2 hL1 hL2 hT1 hT2 hVV hs1 hs2 hVT hlo hz2 hn2 hlo8 hn20 hF HD1 HD2 HD3
     go_wp2_with fail
     refine wp_region_quietB w5.heap.size (by kernel_rfl) (by kernel_rfl) ?_
     repeat (go_big_quiet_step ((go_at_call 168; exact quiet_callB (HF.out _ _ _ (by first | exact hF1 | exact hF2)) (Nat.le_refl _))))
     refine wpQuiet_nil ?_
     intro _ hw'
     obtain ⟨nb, hw4⟩ := hw'
     subst hw4
     have HB6 := hid (xT HB5.out nb.below)
     generalize nb.w = W6 at *
     go_wp2
     go_ret
     exact ⟨by rw [HVT.out]; rfl, HB6.out⟩
   · rw [if_neg hlo8] at sA2
     obtain ⟨F, hF, hF1, hF2⟩ : ∃ F : Value → ByteArray → Prop, (∀ v r (n : BW w5.heap.size w5), F v r → Calls Tryz.prog 168 #[v] n.w fun e w' => e = .returned (.string r) ∧ Below n.w.heap.size n.w w') ∧ F (.slice (some ⟨X, 0, none⟩) a a) T1 ∧ F (.slice (some ⟨X, lo, none⟩) n2 n2) T2 :=
      ⟨fun v r => (v = .slice (some ⟨X, 0, none⟩) a a ∧ r = T1) ∨ (v = .slice (some ⟨X, lo, none⟩) n2 n2 ∧ r = T2), fun v r n h => by
       rcases h with ⟨rfl, rfl⟩ | ⟨rfl, rfl⟩
       · exact HD1.out n
       · exact HD2.out n2 n, .inl ⟨rfl, rfl⟩, .inr ⟨rfl, rfl⟩⟩
     have HF := hid hF
     clear D0 D1 D2 hL1 hL2 hT1 hT2 hVV hs1 hs2 hVT hlo hz2 hn2 hlo8 hF HD1 HD2
     go_wp2_with fail
     refine wp_region_quietB w5.heap.size (by kernel_rfl) (by kernel_rfl) ?_
     repeat (go_big_quiet_step ((go_at_call 168; exact quiet_callB (HF.out _ _ _ (by first | exact hF1 | exact hF2)) (Nat.le_refl _))))
     refine wpQuiet_nil ?_
     intro _ hw'
     obtain ⟨nb, hw4⟩ := hw'
     subst hw4
     have HB6 := hid (xT HB5.out nb.below)
     generalize nb.w = W6 at *
     go_wp2
     go_ret
     exact ⟨by rw [HVT.out]; rfl, HB6.out⟩
end
end Go.Proofs.YtbeodjipdpcaiaaGreatDoor
