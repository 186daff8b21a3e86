/- Texts put together. -/
import Derived.Test.YtbeodjipdpcaiaaGreatDoorYMoreR
import Derived.Test.YtbeodjipdpcaiaaGreatDoorYRfz0f
import Derived.Test.YtbeodjipdpcaiaaGreatDoorYCut0s
set_option maxRecDepth 100000
set_option maxHeartbeats 64000000
namespace Go.Proofs.YtbeodjipdpcaiaaGreatDoor
open Go.RowKit
theorem parts_cnt (b : List Nat) : (partsR b).length ≤ b.length + 1 := by
 unfold partsR
 split
 · simp
 · exact splitN_cnt 58 b
theorem parts_len (s : ByteArray) : ∀ p ∈ partsR (bytesN s), p.length ≤ s.size ∧ ByteL p := fun p hp => by
 unfold partsR at hp
 split at hp
 · cases hp
 · have h1 := mem_join_len (m := 58) hp
   rw [joinN_split, bytesN_len] at h1
   exact ⟨by omega, fun c hc => bytesN_lt s c (splitN_free 58 _ p hp c hc).2⟩
theorem idx_at6 (S : ByteArray) (i y : Nat) (hi : i < S.size) (hy : byteAt S i = y) (W : World) : (Instr.index 9 (.string S) (.int .i64 (i : Int))).run Tryz.prog W = .ok (.int .u8 (y : Nat)) W := by
 subst hy
 have hx := (byteAt_get S i hi).symm
 simp [go_sem, hi, hx]
theorem rparse12_any (s : ByteArray) (w : World) (hs : s.size ≤ 90000) : Calls Tryz.prog 62 #[.string s] w fun e w' => e = .returned (r6V (parse6 (bytesN s))) ∧ Below w.heap.size w w' := by
 obtain ⟨R, hR⟩ : ∃ R, parse6 (bytesN s) = R := ⟨_, rfl⟩
 rw [hR]
 obtain ⟨Q, hQ⟩ : ∃ Q : Ending → World → Prop, (fun e w' => e = .returned (r6V R) ∧ Below w.heap.size w w') = Q := ⟨_, rfl⟩
 have HQ0 : Hid (R = none → ∀ W, Below w.heap.size w W → Q (.returned (.tuple #[.agg zero8, .bool false])) W) := hid (fun h W hb => by rw [← hQ, h]; exact ⟨rfl, hb⟩)
 have HQ1 : Hid (∀ l W, R = some l → Below w.heap.size w W → Q (.returned (.tuple #[.agg (g8C (fOf l)), .bool true])) W) := hid (fun l W h hb => by rw [← hQ, h]; exact ⟨rfl, hb⟩)
 rw [hQ]
 have HR := hid hR
 have hRR := hR
 unfold parse6 at hRR
 have HRR := hid hRR
 obtain ⟨G, hGG⟩ : ∃ G, gapF (bytesN s) 0 = G := ⟨_, rfl⟩
 rw [hGG] at hRR
 have HRR := hid hRR
 obtain ⟨W1, hW1⟩ : ∃ W, w.alloc (.cells #[.int .u16 0, .int .u16 0, .int .u16 0, .int .u16 0, .int .u16 0, .int .u16 0, .int .u16 0, .int .u16 0] 92) = W := ⟨_, rfl⟩
 have R6 := hid (fun cs h1 h2 W h3 h4 => ret6 (X := W1.heap.size) hW1 cs h1 h2 W h3 h4)
 obtain ⟨W2, hW2⟩ : ∃ W, W1.alloc (.cells #[.int .u16 0, .int .u16 0, .int .u16 0, .int .u16 0, .int .u16 0, .int .u16 0, .int .u16 0, .int .u16 0] 92) = W := ⟨_, rfl⟩
 have hb2 : Below W1.heap.size W1 W2 := by rw [← hW2]; exact ext_alloc (Below.refl _ _) _
 have hx2 : W2.heap[W1.heap.size]? = some (.cells zero8 92 (0, 0)) := by rw [← hW2]; exact heap_alloc_new W1 _
 have hsta := g8_store zero8 zero8 rfl zero8_one rfl _ W2 hx2
 rw [row_same hx2] at hsta
 have HB12 := hid hb2; have HX2 := hid hx2; have HXZ := hid (heap_lt hx2)
 unfold zero8 at hsta
 have HG0 : Hid (G6Rel s G W2 (.int .i64 (-1)) (.int .i64 0) W2) := hid ⟨0, rfl, Nat.zero_le _, .inl ⟨rfl, by rw [List.drop_zero]; exact hGG⟩, rfl⟩
 clear hQ hR hRR hGG hb2 hx2
 go_enter Tryz.func62, Tryz.ntmps62
 go_wp2_with ((with_reducible show wpList _ _ _ (_ :: _) _ _); refine st_arr 92 W1.heap.size _ hsta _ _ rfl rfl rfl rfl ?_)
 clear hW1 hW2 hsta
 go_loopw [5, 6] (G6Rel s G W2) (fun _ k _ => s.size - (intOf k).toNat)
 case atStart => exact HG0.out
 case round =>
  obtain ⟨j, rfl, hj, hor, hwr⟩ := hrel
  have hwr' := hwr.symm
  subst hwr'
  clear hwr
  have q1 := inc j (by omega)
  rcases hor with ⟨rfl, hg⟩ | ⟨i, rfl, hG, hi⟩
  · by_cases hlt : j + 1 < s.size
    · have t1 : decide ((j : Int) + 1 < (s.size : Int)) = true := dcT (by omega)
      have hj0 : j < s.size := by omega
      have u0' : decide (j < s.size) = true := dcT hj0
      have u1' : decide (j + 1 < s.size) = true := dcT hlt
      have g0 := (byteAt_get s j hj0).symm
      have g1 := (byteAt_get s (j + 1) hlt).symm
      rw [gapF_at hlt] at hg
      obtain ⟨x, hx⟩ : ∃ x, byteAt s j = x := ⟨_, rfl⟩
      obtain ⟨y, hy⟩ : ∃ y, byteAt s (j + 1) = y := ⟨_, rfl⟩
      rw [hx] at g0 hg
      rw [hy] at g1 hg
      obtain ⟨j1, hj1⟩ : ∃ k, j + 1 = k := ⟨_, rfl⟩
      have ix1 : ∀ W, (Instr.index 9 (.string s) (.int .i64 ((j : Int) + 1))).run Tryz.prog W = .ok (.int .u8 (y : Nat)) W := fun W => by
       exact idx_at6 s (j + 1) y hlt hy W
      have HLT := hid hlt
      clear hx hy hj1
      by_cases hxy : x = 58 ∧ y = 58
      · rw [if_pos hxy] at hg
        have HRL : Hid (G6Rel s G W2 (.int .i64 (j : Int)) (.int .i64 ((j : Int) + 1)) W2) := hid ⟨j + 1, by go_num, by omega, .inr ⟨j, rfl, hg.symm, hlt⟩, rfl⟩
        obtain ⟨rfl, rfl⟩ := hxy
        clear hg
        go_wp2
        refine ⟨?_, by have := HLT.out; simp [intOf]; omega⟩
        first | exact HRL.out | ((repeat apply Exists.intro); exact ⟨HRL.out, rfl⟩)
      · rw [if_neg hxy] at hg
        have HRL : Hid (G6Rel s G W2 (.int .i64 (-1)) (.int .i64 ((j : Int) + 1)) W2) := hid ⟨j + 1, by go_num, by omega, .inl ⟨rfl, hg⟩, rfl⟩
        by_cases h58 : x = 58
        · subst h58
          have hy58 : ¬ y = 58 := fun e => hxy ⟨rfl, e⟩
          have t2 : ((y : Int) == 58) = false := by simp; omega
          have t2' : (y = 58) = False := by simp [hy58]
          clear hg hxy hy58
          go_wp2
          refine ⟨?_, by have := HLT.out; simp [intOf]; omega⟩
          first | exact HRL.out | ((repeat apply Exists.intro); exact ⟨HRL.out, rfl⟩)
        · have t2 : ((x : Int) == 58) = false := by simp; omega
          have t2' : (x = 58) = False := by simp [h58]
          clear hg hxy h58
          go_wp2
          refine ⟨?_, by have := HLT.out; simp [intOf]; omega⟩
          first | exact HRL.out | ((repeat apply Exists.intro); exact ⟨HRL.out, rfl⟩)
    · have t1 : decide ((j : Int) + 1 < (s.size : Int)) = false := dcF (by omega)
      rw [gapF_none j (by rw [List.length_drop, bytesN_len]; omega)] at hg
      replace hg := hg.symm
      clear hlt
      have hRg := HRR.out
      rw [hg] at hRg
      dsimp only at hRg
      rw [parts_row] at hRg
      have SP := hid (rsplit12_any s W2 (by omega))
      have hcnt := parts_cnt (bytesN s)
      have hpl := parts_len s
      rw [bytesN_len] at hcnt
      obtain ⟨ps, hps⟩ : ∃ ps, partsR (bytesN s) = ps := ⟨_, rfl⟩
      rw [hps] at SP hRg hcnt hpl
      have HPL := hid hpl; have HCN := hid hcnt; have HRG := hid hRg
      clear hRg hps hpl hcnt hg
      go_wp2_with fail
      refine SP.out.mono ?_
      rintro e w3 ⟨hb3, v, rfl, ho⟩
      have NU := hid (rnumbers_any v ps true W2.heap.size w3 ho (by have := HCN.out; omega) (fun p hp => ⟨by have := (HPL.out p hp).1; omega, (HPL.out p hp).2⟩))
      have HB3 := hid hb3
      clear ho hb3
      go_wp2_with fail
      refine NU.out.mono ?_
      rintro e w4 ⟨hb4, vr, l, ho4, rfl, hsm⟩
      have HB4 := hid (xT HB3.out hb4)
      have hz3 : W1.heap.size < w3.heap.size := by have := HXZ.out; have := HB3.out.size; omega
      obtain ⟨ao, cap, rfl, hao⟩ := aown_form ho4
      have hHC : ∀ (j : Nat) x, l[j]? = some x → ∃ g, ao = some ⟨g, 0, none⟩ ∧ g ≠ W1.heap.size ∧ w4.cell? ⟨g, j, none⟩ = some (.int .i64 x) := fun j x hj => by
       have hjl := (List.getElem?_eq_some_iff.1 hj).1
       rcases hao with ⟨h0, _⟩ | ⟨g, rfl, hgb, hgl⟩
       · omega
       · refine ⟨g, rfl, by omega, ?_⟩
         rw [ho4.cellAt j (by simpa using hjl)]
         unfold intsV
         rw [List.getElem?_map, hj]; rfl
      have HSM := hid hsm
      clear ho4 hao hb4 hsm
      cases hr : rowF true ps [] with
      | none =>
        have hRn := HRG.out
        rw [hr] at hRn
        dsimp only at hRn
        obtain ⟨hld, W9, hst9, hld9, hb9⟩ := R6.out zero8 rfl zero8_one w4 (HB12.out.trans (HB4.out.mono HB12.out.size)) ((HB4.out.block _ HXZ.out).trans HX2.out)
        have HF := hid (HQ0.out (hRn.symm) W9 hb9)
        unfold zero8 at hld hst9 hld9 HF
        clear hb9
        clear hr hRn hHC
        go_wp2_with ((with_reducible show wpList _ _ _ (_ :: _) _ _); first | (refine ld_arr 92 W1.heap.size _ hld _ rfl rfl rfl ?_) | (refine st_arr 92 w.heap.size _ hst9 _ _ rfl rfl rfl rfl ?_))
        (try simp only [Exit.inBlock, Exit.then])
        exact bodyPost_ret (by simp [results, Tryz.results62, asAddr, Result.andThen, hld9]) rfl HF.out
      | some l2 =>
        have hll := HSM.out l2 hr
        subst hll
        have hRn := HRG.out
        rw [hr] at hRn
        dsimp only at hRn
        by_cases h8 : l2.length = 8
        · rw [if_pos h8] at hRn
          have hsl := (parse6_ok (HR.out.trans hRn.symm)).2
          obtain ⟨F, hF⟩ : ∃ F, fOf l2 = F := ⟨_, rfl⟩
          have HS6 : Hid (∀ i, F i < 65536) := hid (fun i => by rw [← hF]; exact fOf_lt hsl i)
          have HCL : Hid (∀ m, m < 8 → ∃ g, ao = some ⟨g, 0, none⟩ ∧ g ≠ W1.heap.size ∧ w4.cell? ⟨g, m, none⟩ = some (.int .i64 (F (0 + m) : Nat))) := hid (fun m hm => by
           obtain ⟨g, h1, h2, h3⟩ := hHC m (l2[m]'(by omega)) (List.getElem?_eq_getElem (by omega))
           refine ⟨g, h1, h2, ?_⟩
           rw [h3, ← hF, Nat.zero_add]
           unfold fOf
           rw [List.getElem?_eq_getElem (by omega)]; rfl)
          have t8 : ((l2.length : Int) == 8) = true := beq_iff_eq.2 (by omega)
          have HS0 : Hid (L6Rel F W1.heap.size 0 8 W1 w4 (.int .i64 0) w4) := hid ⟨0, rfl, Nat.zero_le _, OnlyB.refl _ _, HB12.out.trans (HB4.out.mono HB12.out.size), ((HB4.out.block _ HXZ.out).trans HX2.out).trans (by rw [Nat.add_zero, g8P_zero])⟩
          have HH8 := hid h8; have HRN := hid hRn; have HFE := hid hF
          have h8' : l2.length = 8 := h8
          clear hr hRn hHC h8 hsl hF
          rw [h8']
          go_wp2_with fail
          go_loopw [9] (L6Rel F W1.heap.size 0 8 W1 w4) (fun k _ => 8 - (intOf k).toNat)
          case atStart => exact HS0.out
          case round =>
           obtain ⟨m, rfl, hm, hf⟩ := hrel
           by_cases hlt : m < 8
           · have t1 : decide ((m : Int) < (8 : Int)) = true := dcT (by omega)
             have t1' : decide (m < 8) = true := dcT hlt
             have q1 := inc m (by omega)
             obtain ⟨gg, rfl, hgX, hgc⟩ := HCL.out m hlt
             have hk8 : 0 + m < 8 := by omega
             have hput := hf.put hk8 (Nat.le_refl _)
             obtain ⟨c3, f3⟩ := hf.at_ hk8
             have c1 := hf.cell (b := gg) (k := m) hgX hgc
             have hx6 := HS6.out (0 + m)
             obtain ⟨k, hk⟩ : ∃ k, 0 + m = k := ⟨_, rfl⟩
             have hkm : 0 + m + 1 = 0 + (m + 1) := by omega
             rw [hkm] at hput
             rw [hk] at hput c3 f3 c1 hx6 hk8
             obtain ⟨x, hx⟩ : ∃ x, F k = x := ⟨_, rfl⟩
             rw [hx] at hput c1 hx6
             have q2 : IntKind.u16.wrap (x : Int) = (x : Int) := IntWalk.u16_in _ (by omega)
             obtain rfl : m = k := by omega
             have HRL : Hid (L6Rel F W1.heap.size 0 8 W1 w4 (.int .i64 ((m : Int) + 1)) (wr.setCell ⟨W1.heap.size, m, none⟩ (.int .u16 (x : Nat)))) := hid ⟨m + 1, by go_num, hlt, hput⟩
             have HLT := hid hlt
             clear hput hf hx hkm hgc hlt
             go_wp2
             refine ⟨?_, by have := HLT.out; simp [intOf]; omega⟩
             first | exact HRL.out | ((repeat apply Exists.intro); exact ⟨HRL.out, rfl⟩)
           · have t1 : decide ((m : Int) < (8 : Int)) = false := dcF (by omega)
             have t1' : decide (m < 8) = false := dcF hlt
             obtain rfl : m = 8 := by omega
             have HFL := hid hf
             clear hf hlt
             have hcs := HFL.out.blk
             rw [show (0 : Nat) + 8 = 8 from rfl, g8P_all] at hcs
             obtain ⟨hld, W9, hst9, hld9, hb9⟩ := R6.out (g8C F) rfl (g8C_one F) wr HFL.out.below hcs
             have HF := hid (HQ1.out l2 W9 HRN.out.symm hb9)
             rw [HFE.out] at HF
             generalize g8C F = cs at *
             clear hb9 hcs
             go_wp2_with ((with_reducible show wpList _ _ _ (_ :: _) _ _); first | (refine ld_arr 92 W1.heap.size _ hld _ rfl rfl rfl ?_) | (refine st_arr 92 w.heap.size _ hst9 _ _ rfl rfl rfl rfl ?_))
             (try simp only [Exit.inBlock, Exit.then])
             exact bodyPost_ret (by simp [results, Tryz.results62, asAddr, Result.andThen, hld9]) rfl HF.out
        · rw [if_neg h8] at hRn
          have t8 : ((l2.length : Int) == 8) = false := bneI.2 (by omega)
          obtain ⟨hld, W9, hst9, hld9, hb9⟩ := R6.out zero8 rfl zero8_one w4 (HB12.out.trans (HB4.out.mono HB12.out.size)) ((HB4.out.block _ HXZ.out).trans HX2.out)
          have HF := hid (HQ0.out (hRn.symm) W9 hb9)
          unfold zero8 at hld hst9 hld9 HF
          clear hb9
          clear hr hRn hHC h8
          go_wp2_with ((with_reducible show wpList _ _ _ (_ :: _) _ _); first | (refine ld_arr 92 W1.heap.size _ hld _ rfl rfl rfl ?_) | (refine st_arr 92 w.heap.size _ hst9 _ _ rfl rfl rfl rfl ?_))
          (try simp only [Exit.inBlock, Exit.then])
          exact bodyPost_ret (by simp [results, Tryz.results62, asAddr, Result.andThen, hld9]) rfl HF.out
  · clear hj
    have hRg := HRR.out
    rw [hG] at hRg
    dsimp only at hRg
    rw [parts_row, parts_row] at hRg
    obtain ⟨P1, hP1⟩ : ∃ P, bytesL ((bytesN s).take i) = P := ⟨_, rfl⟩
    obtain ⟨P2, hP2⟩ : ∃ P, bytesL ((bytesN s).drop (i + 2)) = P := ⟨_, rfl⟩
    have hn1 : bytesN P1 = (bytesN s).take i := by rw [← hP1]; exact bytesN_bytesL (fun c hc => bytesN_lt s c (List.mem_of_mem_take hc))
    have hn2 : bytesN P2 = (bytesN s).drop (i + 2) := by rw [← hP2]; exact bytesN_bytesL (fun c hc => bytesN_lt s c (List.mem_of_mem_drop hc))
    have hz1 : P1.size ≤ 90000 := by rw [← hP1, bytesL_size, List.length_take, bytesN_len]; omega
    have hz2 : P2.size ≤ 90000 := by rw [← hP2, bytesL_size, List.length_drop, bytesN_len]; omega
    have sl1 : ∀ W, (Instr.slice 9 (.string s) none (some (.int .i64 (i : Int))) none).run Tryz.prog W = .ok (.string P1) W := fun W => sl_to s i (by omega) P1 (by rw [← hP1, extract_bytesL, List.drop_zero]; rfl) W
    have sl2 : ∀ W, (Instr.slice 9 (.string s) (some (.int .i64 ((i : Int) + 2))) none none).run Tryz.prog W = .ok (.string P2) W := fun W => sl_from s (i + 2) (by omega) P2 (by rw [← hP2]; exact extract_drop s (i + 2)) W
    have q9 : IntKind.i64.wrap ((i : Int) + 2) = (i : Int) + 2 := i64n _ (by omega)
    have ti : decide ((i : Int) < 0) = false := dcF (by omega)
    have SP1 := hid (rsplit12_any P1 W2 (by omega))
    have SP2 := hid (fun W => rsplit12_any P2 W (by omega))
    have hcnt1 := parts_cnt (bytesN P1); have hcnt2 := parts_cnt (bytesN P2)
    have hpl1 := parts_len P1; have hpl2 := parts_len P2
    rw [bytesN_len] at hcnt1 hcnt2
    rw [hn1] at SP1 hcnt1 hpl1
    rw [hn2] at SP2 hcnt2 hpl2
    obtain ⟨ps1, hps1⟩ : ∃ ps, partsR ((bytesN s).take i) = ps := ⟨_, rfl⟩
    obtain ⟨ps2, hps2⟩ : ∃ ps, partsR ((bytesN s).drop (i + 2)) = ps := ⟨_, rfl⟩
    rw [hps1] at SP1 hRg hcnt1 hpl1
    rw [hps2] at SP2 hRg hcnt2 hpl2
    have HPL1 := hid hpl1; have HPL2 := hid hpl2; have HCN1 := hid hcnt1; have HCN2 := hid hcnt2; have HRG := hid hRg
    have HZ1 := hid hz1; have HZ2 := hid hz2
    clear hRg hps1 hps2 hpl1 hpl2 hcnt1 hcnt2 hG hP1 hP2 hn1 hn2 hz1 hz2
    obtain ⟨tb, htb⟩ : ∃ tb, decide ((j : Int) + 1 < (s.size : Int)) = tb := ⟨_, rfl⟩
    cases tb
    all_goals
     go_wp2_with fail
     refine SP1.out.mono ?_
     rintro e w3 ⟨hb3, v, rfl, ho⟩
     have NU1 := hid (rnumbers_any v ps1 false W2.heap.size w3 ho (by have := HCN1.out; have := HZ1.out; omega) (fun p hp => ⟨by have := (HPL1.out p hp).1; have := HZ1.out; omega, (HPL1.out p hp).2⟩))
     have HB3 := hid hb3
     clear ho hb3
     go_wp2_with fail
     refine NU1.out.mono ?_
     rintro e w4 ⟨hb4, vr, l, ho4, rfl, hsm⟩
     have HB4 := hid (xT HB3.out hb4)
     have hz3 : W1.heap.size < w3.heap.size := by have := HXZ.out; have := HB3.out.size; omega
     obtain ⟨ao1, cap1, rfl, hao⟩ := aown_form ho4
     have hHC1 : ∀ (j : Nat) x, l[j]? = some x → ∃ g, ao1 = some ⟨g, 0, none⟩ ∧ g ≠ W1.heap.size ∧ g < w4.heap.size ∧ w4.cell? ⟨g, j, none⟩ = some (.int .i64 x) := fun j x hj => by
      have hjl := (List.getElem?_eq_some_iff.1 hj).1
      rcases hao with ⟨h0, _⟩ | ⟨g, rfl, hgb, hgl⟩
      · omega
      · refine ⟨g, rfl, by omega, hgl, ?_⟩
        rw [ho4.cellAt j (by simpa using hjl)]
        unfold intsV
        rw [List.getElem?_map, hj]; rfl
     have HSM1 := hid hsm; have HHC1 := hid hHC1
     clear ho4 hao hb4 hsm hHC1
     go_wp2_with fail
     refine (SP2.out _).mono ?_
     rintro e w5 ⟨hb5, v2, rfl, ho5⟩
     have NU2 := hid (rnumbers_any v2 ps2 true w4.heap.size w5 ho5 (by have := HCN2.out; have := HZ2.out; omega) (fun p hp => ⟨by have := (HPL2.out p hp).1; have := HZ2.out; omega, (HPL2.out p hp).2⟩))
     have HB5 := hid hb5
     clear ho5 hb5
     go_wp2_with fail
     refine NU2.out.mono ?_
     rintro e w6 ⟨hb6, vr2, l2, ho6, rfl, hsm2⟩
     have hb46 := xT HB5.out hb6
     have HB6 := hid (xT HB4.out hb46)
     have hz5 : W1.heap.size < w5.heap.size := by have := HXZ.out; have := HB4.out.size; have := HB5.out.size; omega
     obtain ⟨ao2, cap2, rfl, hao⟩ := aown_form ho6
     have hHC2 : ∀ (j : Nat) x, l2[j]? = some x → ∃ g, ao2 = some ⟨g, 0, none⟩ ∧ g ≠ W1.heap.size ∧ w6.cell? ⟨g, j, none⟩ = some (.int .i64 x) := fun j x hj => by
      have hjl := (List.getElem?_eq_some_iff.1 hj).1
      rcases hao with ⟨h0, _⟩ | ⟨g, rfl, hgb, hgl⟩
      · omega
      · refine ⟨g, rfl, by omega, ?_⟩
        rw [ho6.cellAt j (by simpa using hjl)]
        unfold intsV
        rw [List.getElem?_map, hj]; rfl
     have hHC1 : ∀ (j : Nat) x, l[j]? = some x → ∃ g, ao1 = some ⟨g, 0, none⟩ ∧ g ≠ W1.heap.size ∧ w6.cell? ⟨g, j, none⟩ = some (.int .i64 x) := fun j x hj => by
      obtain ⟨g, h1, h2, h3, h4⟩ := HHC1.out j x hj
      exact ⟨g, h1, h2, (bcell1 hb46 h3 _).trans h4⟩
     have HSM2 := hid hsm2
     clear ho6 hao hb6 hsm2 hb46
     cases hr1 : rowF false ps1 [] with
     | none =>
       have hRn := HRG.out
       rw [hr1] at hRn
       dsimp only at hRn
       obtain ⟨hld, W9, hst9, hld9, hb9⟩ := R6.out zero8 rfl zero8_one w6 (HB12.out.trans (HB6.out.mono HB12.out.size)) ((HB6.out.block _ HXZ.out).trans HX2.out)
       have HF := hid (HQ0.out (hRn.symm) W9 hb9)
       unfold zero8 at hld hst9 hld9 HF
       clear hb9
       obtain ⟨tq, htq⟩ : ∃ t, (rowF true ps2 []).isSome = t := ⟨_, rfl⟩
       rw [htq]
       clear hr1 hRn hHC1 hHC2 htq
       go_wp2_with ((with_reducible show wpList _ _ _ (_ :: _) _ _); first | (refine ld_arr 92 W1.heap.size _ hld _ rfl rfl rfl ?_) | (refine st_arr 92 w.heap.size _ hst9 _ _ rfl rfl rfl rfl ?_))
       (try simp only [Exit.inBlock, Exit.then])
       exact bodyPost_ret (by simp [results, Tryz.results62, asAddr, Result.andThen, hld9]) rfl HF.out
     | some x1 =>
       have hl1 := HSM1.out x1 hr1
       subst hl1
       cases hr2 : rowF true ps2 [] with
       | none =>
         have hRn := HRG.out
         rw [hr1, hr2] at hRn
         dsimp only at hRn
         obtain ⟨hld, W9, hst9, hld9, hb9⟩ := R6.out zero8 rfl zero8_one w6 (HB12.out.trans (HB6.out.mono HB12.out.size)) ((HB6.out.block _ HXZ.out).trans HX2.out)
         have HF := hid (HQ0.out (hRn.symm) W9 hb9)
         unfold zero8 at hld hst9 hld9 HF
         clear hb9
         clear hr1 hr2 hRn hHC1 hHC2
         go_wp2_with ((with_reducible show wpList _ _ _ (_ :: _) _ _); first | (refine ld_arr 92 W1.heap.size _ hld _ rfl rfl rfl ?_) | (refine st_arr 92 w.heap.size _ hst9 _ _ rfl rfl rfl rfl ?_))
         (try simp only [Exit.inBlock, Exit.then])
         exact bodyPost_ret (by simp [results, Tryz.results62, asAddr, Result.andThen, hld9]) rfl HF.out
       | some x2 =>
         have hl2 := HSM2.out x2 hr2
         subst hl2
         have hRn := HRG.out
         rw [hr1, hr2] at hRn
         dsimp only at hRn
         have hq : x1.length ≤ 300000 ∧ x2.length ≤ 300000 := ⟨by have := rowF_len _ _ _ _ hr1; have := HCN1.out; have := HZ1.out; simp at *; omega, by have := rowF_len _ _ _ _ hr2; have := HCN2.out; have := HZ2.out; simp at *; omega⟩
         have qs : IntKind.i64.wrap ((x1.length : Int) + (x2.length : Int)) = (x1.length : Int) + (x2.length : Int) := i64n _ (by omega)
         by_cases h7 : 7 < x1.length + x2.length
         · rw [six_not h7] at hRn
           have t7 : decide ((7 : Int) < (x1.length : Int) + (x2.length : Int)) = true := dcT (by omega)
           obtain ⟨hld, W9, hst9, hld9, hb9⟩ := R6.out zero8 rfl zero8_one w6 (HB12.out.trans (HB6.out.mono HB12.out.size)) ((HB6.out.block _ HXZ.out).trans HX2.out)
           have HF := hid (HQ0.out (hRn.symm) W9 hb9)
           unfold zero8 at hld hst9 hld9 HF
           clear hb9
           clear hr1 hr2 hRn hHC1 hHC2 h7
           go_wp2_with ((with_reducible show wpList _ _ _ (_ :: _) _ _); first | (refine ld_arr 92 W1.heap.size _ hld _ rfl rfl rfl ?_) | (refine st_arr 92 w.heap.size _ hst9 _ _ rfl rfl rfl rfl ?_))
           (try simp only [Exit.inBlock, Exit.then])
           exact bodyPost_ret (by simp [results, Tryz.results62, asAddr, Result.andThen, hld9]) rfl HF.out
         · have t7 : decide ((7 : Int) < (x1.length : Int) + (x2.length : Int)) = false := dcF (by omega)
           obtain ⟨L, hL⟩ : ∃ L, six x1 x2 = some L := by unfold six; rw [if_pos (by omega)]; exact ⟨_, rfl⟩
           rw [hL] at hRn
           obtain ⟨_, hL8, hA1, hA2, hA3⟩ := six_at hL
           have hsl := (parse6_ok (HR.out.trans hRn.symm)).2
           obtain ⟨F, hF⟩ : ∃ F, fOf L = F := ⟨_, rfl⟩
           rw [hF] at hA1 hA2 hA3
           have HS6 : Hid (∀ i, F i < 65536) := hid (fun i => by rw [← hF]; exact fOf_lt hsl i)
           obtain ⟨n1, hn1⟩ : ∃ n, x1.length = n := ⟨_, rfl⟩
           obtain ⟨n2, hn2⟩ : ∃ n, x2.length = n := ⟨_, rfl⟩
           have HCL1 : Hid (∀ m, m < n1 → ∃ g, ao1 = some ⟨g, 0, none⟩ ∧ g ≠ W1.heap.size ∧ w6.cell? ⟨g, m, none⟩ = some (.int .i64 (F (0 + m) : Nat))) := hid (fun m hm => by
            rw [Nat.zero_add]
            exact hHC1 m (F m) (hA1 m (by omega)))
           have HCL2 : Hid (∀ m, m < n2 → ∃ g, ao2 = some ⟨g, 0, none⟩ ∧ g ≠ W1.heap.size ∧ w6.cell? ⟨g, m, none⟩ = some (.int .i64 (F (8 - n2 + m) : Nat))) := hid (fun m hm => by
            rw [← hn2]
            exact hHC2 m _ (hA3 m (by omega)))
           have HSK : Hid (g8P F n1 = g8P F (8 - n2)) := hid (g8P_skip (fun i h1 h2 => hA2 i (by omega) (by omega)) (by omega))
           have HS0 : Hid (L6Rel F W1.heap.size 0 n1 W1 w6 (.int .i64 0) w6) := hid ⟨0, rfl, Nat.zero_le _, OnlyB.refl _ _, HB12.out.trans (HB6.out.mono HB12.out.size), ((HB6.out.block _ HXZ.out).trans HX2.out).trans (by rw [Nat.add_zero, g8P_zero])⟩
           have HRN := hid hRn; have HFE := hid hF
           rw [hn1, hn2] at t7 qs ⊢
           have hn78 : n1 + n2 ≤ 7 := by omega
           clear hr1 hr2 hRn hHC1 hHC2 hsl hF hL hL8 hA1 hA2 hA3 hn1 hn2 h7 hq
           go_wp2_with fail
           go_loopw [14] (L6Rel F W1.heap.size 0 n1 W1 w6) (fun k _ => n1 - (intOf k).toNat)
           case atStart => exact HS0.out
           case round =>
            obtain ⟨m, rfl, hm, hf⟩ := hrel
            by_cases hlt : m < n1
            · obtain ⟨t1, t1'⟩ := ltT m n1 hlt
              have q1 := inc m (by omega)
              obtain ⟨gg, rfl, hgX, hgc⟩ := HCL1.out m hlt
              have hk8 : 0 + m < 8 := by omega
              have hput := hf.put hk8 (Nat.le_refl _)
              obtain ⟨c3, f3⟩ := hf.at_ hk8
              have c1 := hf.cell (b := gg) (k := m) hgX hgc
              have hx6 := HS6.out (0 + m)
              obtain ⟨k, hk⟩ : ∃ k, 0 + m = k := ⟨_, rfl⟩
              have hkm : 0 + m + 1 = 0 + (m + 1) := by omega
              rw [hkm] at hput
              rw [hk] at hput c3 f3 c1 hx6 hk8
              obtain ⟨x, hx⟩ : ∃ x, F k = x := ⟨_, rfl⟩
              rw [hx] at hput c1 hx6
              have q2 : IntKind.u16.wrap (x : Int) = (x : Int) := IntWalk.u16_in _ (by omega)
              obtain rfl : m = k := by omega
              have HRL : Hid (L6Rel F W1.heap.size 0 n1 W1 w6 (.int .i64 ((m : Int) + 1)) (wr.setCell ⟨W1.heap.size, m, none⟩ (.int .u16 (x : Nat)))) := hid ⟨m + 1, by go_num, hlt, hput⟩
              have HLT := hid hlt
              clear hput hf hx hkm hgc hlt
              go_wp2
              refine ⟨?_, by have := HLT.out; simp [intOf]; omega⟩
              first | exact HRL.out | ((repeat apply Exists.intro); exact ⟨HRL.out, rfl⟩)
            · obtain ⟨t1, t1'⟩ := ltF m n1 hlt
              obtain rfl : m = n1 := by omega
              have HFL := hid hf
              clear hf hlt
              have HS1 : Hid (L6Rel F W1.heap.size (8 - n2) n2 W1 w6 (.int .i64 0) wr) := hid ⟨0, rfl, Nat.zero_le _, HFL.out.only, HFL.out.below, by
               have := HFL.out.blk
               rw [Nat.zero_add, HSK.out] at this
               exact this⟩
              generalize wr = w7 at *
              go_wp2_with fail
              go_loopw [15] (L6Rel F W1.heap.size (8 - n2) n2 W1 w6) (fun k _ => n2 - (intOf k).toNat)
              case atStart => exact HS1.out
              case round =>
               obtain ⟨m, rfl, hm, hf⟩ := hrel
               by_cases hlt : m < n2
               · obtain ⟨t1, t1'⟩ := ltT m n2 hlt
                 have q1 := inc m (by omega)
                 obtain ⟨gg, rfl, hgX, hgc⟩ := HCL2.out m hlt
                 have hk8 : (8 - n2) + m < 8 := by omega
                 have hput := hf.put hk8 (Nat.le_refl _)
                 obtain ⟨c3, f3⟩ := hf.at_ hk8
                 have c1 := hf.cell (b := gg) (k := m) hgX hgc
                 have hx6 := HS6.out ((8 - n2) + m)
                 obtain ⟨k, hk⟩ : ∃ k, (8 - n2) + m = k := ⟨_, rfl⟩
                 have hkm : (8 - n2) + m + 1 = (8 - n2) + (m + 1) := by omega
                 rw [hkm] at hput
                 rw [hk] at hput c3 f3 c1 hx6 hk8
                 obtain ⟨x, hx⟩ : ∃ x, F k = x := ⟨_, rfl⟩
                 rw [hx] at hput c1 hx6
                 have q2 : IntKind.u16.wrap (x : Int) = (x : Int) := IntWalk.u16_in _ (by omega)
                 have q3 : IntKind.i64.wrap ((8 : Int) - (n2 : Int)) = (8 : Int) - (n2 : Int) := i64n _ (by omega)
                 have q4 : IntKind.i64.wrap ((8 : Int) - (n2 : Int) + (m : Int)) = (k : Int) := (i64n _ (by omega)).trans (by omega)
                 have HKK := hid hk
                 clear hk
                 have HRL : Hid (L6Rel F W1.heap.size (8 - n2) n2 W1 w6 (.int .i64 ((m : Int) + 1)) (wr.setCell ⟨W1.heap.size, k, none⟩ (.int .u16 (x : Nat)))) := hid ⟨m + 1, by go_num, hlt, hput⟩
                 have HLT := hid hlt
                 clear hput hf hx hkm hgc hlt
                 go_wp2
                 refine ⟨?_, by have := HLT.out; simp [intOf]; omega⟩
                 first | exact HRL.out | ((repeat apply Exists.intro); exact ⟨HRL.out, rfl⟩)
               · obtain ⟨t1, t1'⟩ := ltF m n2 hlt
                 obtain rfl : m = n2 := by omega
                 have HFL := hid hf
                 clear hf hlt
                 have hcs := HFL.out.blk
                 rw [g8P_over (by omega)] at hcs
                 obtain ⟨hld, W9, hst9, hld9, hb9⟩ := R6.out (g8C F) rfl (g8C_one F) wr HFL.out.below hcs
                 have HF := hid (HQ1.out L W9 HRN.out.symm hb9)
                 rw [HFE.out] at HF
                 generalize g8C F = cs at *
                 clear hb9 hcs
                 go_wp2_with ((with_reducible show wpList _ _ _ (_ :: _) _ _); first | (refine ld_arr 92 W1.heap.size _ hld _ rfl rfl rfl ?_) | (refine st_arr 92 w.heap.size _ hst9 _ _ rfl rfl rfl rfl ?_))
                 (try simp only [Exit.inBlock, Exit.then])
                 exact bodyPost_ret (by simp [results, Tryz.results62, asAddr, Result.andThen, hld9]) rfl HF.out
end Go.Proofs.YtbeodjipdpcaiaaGreatDoor
