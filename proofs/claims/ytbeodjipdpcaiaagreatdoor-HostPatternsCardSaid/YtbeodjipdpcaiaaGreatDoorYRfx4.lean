/- Texts put together. -/
import Derived.Test.YtbeodjipdpcaiaaGreatDoorYMoreR
import Derived.Test.YtbeodjipdpcaiaaGreatDoorYDec2f
import Derived.Test.YtbeodjipdpcaiaaGreatDoorYDec1f
import Derived.Test.YtbeodjipdpcaiaaGreatDoorYRfw1s
import Derived.Test.YtbeodjipdpcaiaaGreatDoorYLbw8s
set_option maxRecDepth 100000
set_option maxHeartbeats 16000000
namespace Go.Proofs.YtbeodjipdpcaiaaGreatDoor
open Go.RowKit
def badI (l : List Nat) (j : Nat) : Int := match (List.range j).find? (badC l) with
 | some i => (placeC l i : Nat)
 | none => -1
theorem badI_succ (l : List Nat) (j : Nat) : badI l (j + 1) = bif decide (badI l j < 0) then (bif badC l j then ((placeC l j : Nat) : Int) else badI l j) else badI l j := by
 unfold badI
 rw [List.range_succ, List.find?_append]
 cases h : (List.range j).find? (badC l) with
 | some i =>
   have h0 : decide (((placeC l i : Nat) : Int) < 0) = false := dcF (by omega)
   show ((placeC l i : Nat) : Int) = bif decide (((placeC l i : Nat) : Int) < 0) then _ else ((placeC l i : Nat) : Int)
   rw [h0]; rfl
 | none =>
   cases hb : badC l j <;> simp [hb]
theorem bad_is {l : List Nat} {j x : Nat} (h : l[j]? = some x) : badC l j = bif decide (x < 128) then !lcN x else !charN x := by
 unfold badC
 rw [h, Option.getD_some]
 unfold okN
 by_cases h8 : x < 128
 · rw [dcT h8, cond_true]
   cases hc : charN x with
   | false => rw [Bool.or_false]
   | true => have := char_ge hc; omega
 · rw [dcF h8, cond_false]
   cases hc : lcN x with
   | false => rw [Bool.false_or]
   | true => have := small_lt hc; omega
theorem charsF_k (B : ByteArray) : ∀ f i acc k p, charsF B f i acc = .no k p → k = 12
 | 0, i, acc, k, p, h => by
   rw [charsF] at h
   split at h
   · injection h with h1 h2; exact h1.symm
   · cases h
 | f + 1, i, acc, k, p, h => by
   rw [charsF] at h
   split at h
   · split at h
     · injection h with h1 h2; exact h1.symm
     · exact charsF_k B f _ _ k p h
   · cases h
theorem badI_ge (l : List Nat) (j : Nat) : -1 ≤ badI l j := by unfold badI; split <;> omega
theorem badI_le (l : List Nat) (j : Nat) : badI l j ≤ 4 * l.length := by
 unfold badI
 split
 · have := placeC_le l (by assumption); omega
 · omega
def RaRel (cs : List Nat) (w1 : World) (wv av pv kv : Value) (wr : World) : Prop := ∃ j : Nat, kv = .int .i64 j ∧ j ≤ cs.length ∧ wv = .bool ((cs.take j).any fun c => decide (128 ≤ c)) ∧ av = .int .i64 (badI cs j) ∧ pv = .int .i64 (placeC cs j : Nat) ∧ Below w1.heap.size w1 wr
def raV (r : Sc (List Nat)) : Value := match r with
 | .ok t => .tuple #[.string (bytesL t), .int .i64 0, .int .i64 0]
 | .no k p => .tuple #[.string ⟨#[]⟩, .int .i64 (k : Nat), .int .i64 p]
theorem rascii_any (s : ByteArray) (w : World) (hs : s.size ≤ 1000000) : Calls Tryz.prog 131 #[.string s] w fun e w' => e = .returned (raV (asciiL (bytesN s))) ∧ Below w.heap.size w w' := by
 obtain ⟨R, hR⟩ : ∃ R, asciiL (bytesN s) = R := ⟨_, rfl⟩
 rw [hR]
 obtain ⟨Q, hQ⟩ : ∃ Q : Ending → World → Prop, (fun e w' => e = .returned (raV R) ∧ Below w.heap.size w w') = Q := ⟨_, rfl⟩
 have HFF : Hid (∀ r W, R = r → Below w.heap.size w W → Q (.returned (raV r)) W) := hid (fun r W h hb => by rw [← hQ, h]; exact ⟨rfl, hb⟩)
 rw [hQ]
 obtain ⟨W0, cap, hcv, hcap, hb0, hz0, hcell⟩ := bytes_of_string s w
 have L := rd_of_cells (S := Own W0) (B := s) (b := w.heap.size) hz0 hcap hcell
 have CH := rcharsL_any _ s W0 L hs
 have HB0 := hid hb0
 unfold asciiL at hR
 rw [bytesL_bytesN] at hR
 clear hQ L hcell hcap hz0 hb0
 cases hc : charsS s 0 [] with
 | no k p =>
   rw [hc] at CH hR
   have hp := charsF_place s _ _ _ _ _ hc
   have hk : k = 12 := charsF_k s _ _ _ _ _ hc
   subst hk
   have t1 : decide ((0 : Int) ≤ p) = true := dcT (by omega)
   have HF := hid (HFF.out _ · hR.symm)
   have CH := hid CH
   clear hc hR hp
   go_enter Tryz.func131, Tryz.ntmps131
   go_wp2_with fail
   refine CH.out.mono ?_
   rintro e w1 ⟨hb1, v, rfl⟩
   have HB1 := hid (xT HB0.out hb1)
   clear hb1
   go_wp2
   (try simp only [Exit.inBlock, Exit.then]); refine bodyPost_ret (results_tmp3 rfl _ _ _) rfl ?_
   exact HF.out _ HB1.out
 | ok cs0 =>
   rw [hc] at CH hR
   obtain ⟨B, hB⟩ : ∃ B, bytesL ((bytesN s).map lowN) = B := ⟨_, rfl⟩
   obtain ⟨cs, hcs⟩ : ∃ cs, cs0.map lowN = cs := ⟨_, rfl⟩
   have hc2 : charsS B 0 [] = .ok cs := by rw [← hB, ← hcs]; exact charsL_low (bytesN_lt s) (by rw [bytesL_bytesN]; exact hc)
   have hBz : B.size ≤ 1000000 := by rw [← hB, bytesL_size, List.length_map, bytesN_len]; exact hs
   have hBN : bytesN B = (bytesN s).map lowN := by rw [← hB]; exact bytesN_bytesL (byteL_lowB s)
   have har : AllRight cs := (charsL_ok (byteL_lowB s) (by rw [hB]; exact hc2)).1
   have hcl := chars_len hc2
   have LW := hid (fun W => rlower_any s W hs)
   have hall : (cs0.all fun c => decide (c < 128)) = !(cs.any fun c => decide (128 ≤ c)) := by
    rw [← hcs, Bool.eq_iff_iff, List.all_eq_true, Bool.not_eq_true', List.any_eq_false]
    constructor
    · intro h x hx
      obtain ⟨c, hc, rfl⟩ := List.mem_map.1 hx
      have := of_decide_eq_true (h c hc)
      rw [← lowN_lt] at this
      simp; omega
    · intro h c hc
      have := h (lowN c) (List.mem_map_of_mem hc)
      rw [decide_eq_true_eq] at this
      exact dcT (lowN_lt.1 (by omega))
   have hRR : (if (cs.any fun c => decide (128 ≤ c)) = false then (match rightL (bytesN B) with
       | (0, _) => Sc.ok (bytesN B)
       | (k + 1, p) => .no (k + 1) p) else asciiW cs) = R := by
    rw [← hR, hBN, ← hcs]
    dsimp only
    rw [hall, ← hcs]
    cases ((cs0.map lowN).any fun c => decide (128 ≤ c)) <;> rfl
   rw [hB] at LW
   have CH := hid CH
   have HRR := hid hRR; have HAR := hid har
   have RT := hid (fun W => rright10_any B W hBz)
   have HBL : Hid (bytesL (bytesN B) = B) := hid (bytesL_bytesN B)
   have CH2 : Hid (∀ W, ∃ (W' : World) (cap : Nat), Below W.heap.size W W' ∧ (convert 9 29 (.string B)).run Tryz.prog W = .ok (.slice (some ⟨W.heap.size, 0, none⟩) B.size cap) W' ∧ Calls Tryz.prog 146 #[.slice (some ⟨W.heap.size, 0, none⟩) B.size cap] W' (RcLPost W' (.ok cs))) := hid (fun W => by
    obtain ⟨W0, cap, hcv, hcap, hb0, hz0, hcell⟩ := bytes_of_string B W
    have L := rd_of_cells (S := Own W0) (B := B) (b := W.heap.size) hz0 hcap hcell
    have CH := rcharsL_any _ B W0 L hBz
    rw [hc2] at CH
    exact ⟨W0, cap, hb0, hcv, CH⟩)
   clear hc hR hc2 hall hRR hcs hB hBN har
   go_enter Tryz.func131, Tryz.ntmps131
   go_wp2_with fail
   refine CH.out.mono ?_
   rintro e w1 ⟨hb1, v, rfl, _⟩
   have HB1 := hid (xT HB0.out hb1)
   clear hb1 hcv
   go_wp2_with fail
   refine (LW.out _).mono ?_
   rintro e w2 ⟨rfl, hb2⟩
   have HB2 := hid (xT HB1.out hb2)
   obtain ⟨W3, cap3, hb3, hcv, CH3⟩ := CH2.out w2
   have CH3 := hid CH3
   have HB3 := hid (xT HB2.out hb3)
   clear hb2 hb3
   go_wp2_with fail
   refine CH3.out.mono ?_
   rintro e w4 ⟨hb4, v4, rfl, ho⟩
   have HB4 := hid (xT HB3.out hb4)
   have hrd : Rd (Own w4) w4 v4 (intsD cs) := rd_intsO ho
   have HRD := hid hrd
   obtain ⟨a, c, rfl, _, hcap2, hx⟩ := hrd.nats_inv
   have HX := hid hx
   obtain ⟨n0, hn0⟩ : ∃ n, cs.length = n := ⟨_, rfl⟩
   have HN := hid hn0
   have HC : Hid (∀ (W : World), Below w4.heap.size w4 W → ∀ (j x : Nat), cs[j]? = some x → ∃ b1 o1, a = some ⟨b1, o1, none⟩ ∧ W.cell? ⟨b1, o1 + j, none⟩ = some (.int .i64 (x : Int))) := hid (fun W hW j x hj => by
    obtain ⟨hj1, hj2⟩ := List.getElem?_eq_some_iff.1 hj
    obtain ⟨b1, o1, rfl, hb1, hc1⟩ := HX.out (by omega)
    refine ⟨b1, o1, rfl, ?_⟩
    have := hc1 j hj1
    rw [hj2] at this
    exact (bcell1 hW hb1 _).trans this)
   rw [hn0] at hcap2 hcl ⊢
   clear hb4 ho hrd hx hn0 hcv
   go_wp2_with fail
   go_loopw [10, 11, 12, 13] (RaRel cs w4) (fun _ _ _ k _ => n0 - (intOf k).toNat)
   case atStart => exact ⟨0, rfl, Nat.zero_le _, rfl, rfl, rfl, Below.refl _ _⟩
   case round =>
    obtain ⟨j, rfl, hj, rfl, rfl, rfl, hb⟩ := hrel
    rw [HN.out] at hj
    have HB5 := hid hb
    have hage := badI_ge cs j
    have hale := badI_le cs j
    have hpl := placeC_le cs j
    rw [HN.out] at hale hpl
    by_cases hlt : j < n0
    · obtain ⟨r1, r1'⟩ := ltT j n0 hlt
      have q1 := inc j (by omega)
      obtain ⟨x, hx⟩ := get_ex cs j (by rw [HN.out]; exact hlt)
      obtain ⟨b1, o1, rfl, c9⟩ := HC.out wr hb j x hx
      have hxr := (right_iff _).1 (HAR.out x (List.mem_of_getElem? hx))
      have hbi := badI_succ cs j
      rw [bad_is hx] at hbi
      have hps := placeC_succ hx
      have hpz := putN_le x
      have PT := rput_any x (by omega) wr
      obtain ⟨K, hK⟩ : ∃ K, (putN x).length = K := ⟨_, rfl⟩
      rw [hK] at PT hps hpz
      obtain ⟨V, hV⟩ : ∃ V, putV x = V := ⟨_, rfl⟩
      rw [hV] at PT
      have PT := hid PT
      have SM := rsmall_any x wr
      have CA := rchar_any x wr
      obtain ⟨A, hA⟩ : ∃ A, badI cs j = A := ⟨_, rfl⟩
      rw [hA] at hbi hage hale ⊢
      obtain ⟨P, hP⟩ : ∃ P, placeC cs j = P := ⟨_, rfl⟩
      rw [hP] at hbi hps hpl ⊢
      obtain ⟨tw, htw⟩ : ∃ tw, ((cs.take j).any fun c => decide (128 ≤ c)) = tw := ⟨_, rfl⟩
      rw [htw]
      obtain ⟨bA, hbA⟩ : ∃ b, decide (A < 0) = b := ⟨_, rfl⟩
      obtain ⟨b8, hb8⟩ : ∃ b, decide (x < 128) = b := ⟨_, rfl⟩
      obtain ⟨lc, hlc⟩ : ∃ b, lcN x = b := ⟨_, rfl⟩
      obtain ⟨chh, hch⟩ : ∃ b, charN x = b := ⟨_, rfl⟩
      rw [hbA, hb8, hlc, hch] at hbi
      rw [hlc] at SM
      rw [hch] at CA
      have q2 : IntKind.i64.wrap ((P : Int) + (K : Int)) = (P : Int) + (K : Int) := i64n _ (by omega)
      have t8 : decide ((x : Int) < 128) = b8 := by rw [← hb8]; exact decide_eq_decide.2 (by omega)
      have t9 : decide ((127 : Int) < (x : Int)) = !b8 := by
       rw [← hb8]
       by_cases h : x < 128
       · rw [dcT h, dcF (by omega)]; rfl
       · rw [dcF h, dcT (by omega)]; rfl
      have t9' : decide (127 < x) = !b8 := by rw [← t9]; exact decide_eq_decide.2 (by omega)
      have t10' : decide (128 ≤ x) = !b8 := by rw [← t9]; exact decide_eq_decide.2 (by omega)
      have HNX : Hid (RaRel cs w4 (.bool (tw || !b8)) (.int .i64 (bif bA then (bif (bif b8 then !lc else !chh) then (P : Int) else A) else A)) (.int .i64 ((P : Int) + (K : Int))) (.int .i64 ((j : Int) + 1)) (wr.alloc (.cells V 5))) := hid ⟨j + 1, by go_num, by rw [HN.out]; exact hlt, by rw [any_snoc cs j x hx, htw, t10'], by rw [hbi], by rw [hps]; go_num, ext_alloc HB5.out _⟩
      have SM := hid SM; have CA := hid CA
      have HLT := hid hlt
      clear hb hx hxr hbi hps hK hV hA hP htw hlc hch hage hale hpl hpz hlt t10'
      cases bA <;> cases b8 <;> cases tw <;> cases lc <;> cases chh
      all_goals
       simp only [Bool.not_true, Bool.not_false] at t9 t9'
       go_wp2_with fail
       first
        | (refine SM.out.mono ?_
           rintro e w6 ⟨rfl, hw6⟩
           have hw6' := hw6.symm
           subst hw6'
           clear hw6
           go_wp2_with fail)
        | (refine CA.out.mono ?_
           rintro e w6 ⟨rfl, hw6⟩
           have hw6' := hw6.symm
           subst hw6'
           clear hw6
           go_wp2_with fail)
        | skip
       refine PT.out.mono ?_
       rintro e w7 ⟨rfl, rfl⟩
       go_wp2
       refine ⟨?_, by have := HLT.out; simp [intOf]; omega⟩
       first | exact HNX.out | ((repeat apply Exists.intro); exact ⟨HNX.out, rfl⟩)
    · obtain ⟨r1, r1'⟩ := ltF j n0 hlt
      have hjn : j = cs.length := by rw [HN.out]; omega
      have htk : cs.take j = cs := List.take_of_length_le (by omega)
      have hbi : badI cs j = badI cs cs.length := by rw [hjn]
      rw [htk, hbi]
      have HB6 := hid (xT HB4.out hb)
      have HC2 := hid (HC.out wr hb)
      have HRDX := hid (HRD.out.ext hb)
      obtain ⟨pc, hpc⟩ : ∃ pc, placeC cs j = pc := ⟨_, rfl⟩
      rw [hpc]
      clear hjn hb hpc hage hale hpl hlt hj htk hbi
      obtain ⟨tw, htw⟩ : ∃ tw, (cs.any fun c => decide (128 ≤ c)) = tw := ⟨_, rfl⟩
      rw [htw]
      have hRR := HRR.out
      rw [htw] at hRR
      cases tw with
      | false =>
        rw [if_pos rfl] at hRR
        have RT1 := RT.out wr
        obtain ⟨r, hr⟩ : ∃ r, rightL (bytesN B) = r := ⟨_, rfl⟩
        rw [hr] at RT1 hRR
        obtain ⟨ra, rb⟩ := r
        have RT1 := hid RT1
        cases ra with
        | zero =>
          have HF := hid (fun W h => HFF.out (.ok (bytesN B)) W hRR.symm h)
          unfold raV at HF
          dsimp only at HF
          rw [HBL.out] at HF
          clear htw hRR hr
          go_wp2_with fail
          refine RT1.out.mono ?_
          rintro e w7 ⟨rfl, hb7⟩
          have HB7 := hid (xT HB6.out hb7)
          clear hb7
          go_wp2
          (try simp only [Exit.inBlock, Exit.then]); refine bodyPost_ret (results_tmp3 rfl _ _ _) rfl ?_
          exact HF.out _ HB7.out
        | succ k =>
          have HF := hid (fun W h => HFF.out (.no (k + 1) (rb : Nat)) W hRR.symm h)
          unfold raV at HF
          obtain ⟨kk, hkk⟩ : ∃ kk, k + 1 = kk := ⟨_, rfl⟩
          rw [hkk] at HF RT1
          have t3 : ((kk : Int) == 0) = false := bneI.2 (by omega)
          have t3' : (kk = 0) = False := eq_false (by omega)
          clear htw hRR hr hkk
          go_wp2_with fail
          refine RT1.out.mono ?_
          rintro e w7 ⟨rfl, hb7⟩
          have HB7 := hid (xT HB6.out hb7)
          clear hb7
          go_wp2
          (try simp only [Exit.inBlock, Exit.then]); refine bodyPost_ret (results_tmp3 rfl _ _ _) rfl ?_
          exact HF.out _ HB7.out
      | true =>
        rw [if_neg (by decide)] at hRR
        unfold asciiW at hRR
        unfold badI
        cases hf : (List.range cs.length).find? (badC cs) with
        | some i =>
          rw [hf] at hRR
          dsimp only at hRR ⊢
          obtain ⟨pp, hpp⟩ : ∃ pp, placeC cs i = pp := ⟨_, rfl⟩
          rw [hpp] at hRR ⊢
          have t4 : decide ((0 : Int) ≤ (pp : Int)) = true := dcT (by omega)
          have HF := hid (HFF.out (.no 11 (pp : Nat)) wr hRR.symm HB6.out)
          unfold raV at HF
          clear htw hRR hf hpp
          go_wp2
          (try simp only [Exit.inBlock, Exit.then]); refine bodyPost_ret (results_tmp3 rfl _ _ _) rfl ?_
          exact HF.out
        | none =>
          rw [hf] at hRR
          dsimp only at hRR ⊢
          have hn : 0 < n0 := by
           rw [← HN.out]
           refine List.length_pos_iff.2 (fun e => ?_)
           rw [e] at htw; cases htw
          obtain ⟨m, hm⟩ : ∃ m, n0 = m + 1 := ⟨n0 - 1, by omega⟩
          have um : m < n0 := by omega
          obtain ⟨x0, hx0⟩ := get_ex cs 0 (by rw [HN.out]; omega)
          obtain ⟨xl, hxl⟩ := get_ex cs m (by rw [HN.out]; omega)
          obtain ⟨b1, o1, rfl, c0⟩ := HC2.out 0 x0 hx0
          obtain ⟨_, _, e2, cl⟩ := HC2.out m xl hxl
          cases e2
          rw [Nat.add_zero] at c0
          have k1 : IntKind.i64.wrap ((n0 : Int) - 1) = (m : Int) := by rw [show (n0 : Int) - 1 = (m : Int) by omega]; exact i64n _ (by omega)
          have HLN : Hid (lastN cs = xl) := hid (by
           unfold lastN
           rw [List.getLast?_eq_getElem?, HN.out, hm, Nat.add_sub_cancel, hxl]; rfl)
          have HMK : Hid (marksN cs = (decide (x0 ≠ 45) && (decide (xl ≠ 45) && decide (n0 < 4 ∨ cs[2]?.getD 0 ≠ 45 ∨ cs[3]?.getD 0 ≠ 45)))) := hid (by
           unfold marksN
           rw [HLN.out, hx0, HN.out, Option.getD_some]
           have : cs ≠ [] := fun h => by rw [h] at hx0; cases hx0
           simp [this, Bool.decide_and])
          have HRR2 := hid hRR
          have HNF : Hid (marksN cs = false → Q (.returned (.tuple #[.string ⟨#[]⟩, .int .i64 24, .int .i64 0])) wr) := hid (fun h => by
           have := HRR2.out
           rw [if_pos h] at this
           exact HFF.out (.no 24 0) wr this.symm HB6.out)
          clear htw hRR hf hx0 hxl hm
          by_cases h1 : x0 = 45
          · subst h1
            have HF := hid (HNF.out (by rw [HMK.out]; simp))
            go_wp2
            (try simp only [Exit.inBlock, Exit.then]); refine bodyPost_ret (results_tmp3 rfl _ _ _) rfl ?_
            exact HF.out
          have t6 : ((x0 : Int) == 45) = false := by simp; omega
          have t6' : (x0 = 45) = False := by simp [h1]
          by_cases h2 : xl = 45
          · subst h2
            have HF := hid (HNF.out (by rw [HMK.out]; simp))
            clear h1
            go_wp2
            (try simp only [Exit.inBlock, Exit.then]); refine bodyPost_ret (results_tmp3 rfl _ _ _) rfl ?_
            exact HF.out
          have t7 : ((xl : Int) == 45) = false := by simp; omega
          have t7' : (xl = 45) = False := by simp [h2]
          have hcase : (marksN cs = false ∧ decide ((3 : Int) < (n0 : Int)) = true ∧ 2 < n0 ∧ 3 < n0 ∧ wr.cell? ⟨b1, o1 + 2, none⟩ = some (.int .i64 45) ∧ wr.cell? ⟨b1, o1 + 3, none⟩ = some (.int .i64 45)) ∨
              (marksN cs = true ∧ decide ((3 : Int) < (n0 : Int)) = false) ∨
              (marksN cs = true ∧ decide ((3 : Int) < (n0 : Int)) = true ∧ 2 < n0 ∧ ∃ x2 : Nat, wr.cell? ⟨b1, o1 + 2, none⟩ = some (.int .i64 (x2 : Int)) ∧ ((x2 : Int) == 45) = false ∧ (x2 = 45) = False) ∨
              (marksN cs = true ∧ decide ((3 : Int) < (n0 : Int)) = true ∧ 2 < n0 ∧ 3 < n0 ∧ wr.cell? ⟨b1, o1 + 2, none⟩ = some (.int .i64 45) ∧ ∃ x2 : Nat, wr.cell? ⟨b1, o1 + 3, none⟩ = some (.int .i64 (x2 : Int)) ∧ ((x2 : Int) == 45) = false ∧ (x2 = 45) = False) := by
           rw [HMK.out, dcT h1, dcT h2, Bool.true_and, Bool.true_and]
           by_cases h3 : 3 < n0
           · have g1 : decide ((3 : Int) < (n0 : Int)) = true := dcT (by omega)
             have g2 : 2 < n0 := by omega
             obtain ⟨y2, hy2⟩ := get_ex cs 2 (by rw [HN.out]; omega)
             obtain ⟨y3, hy3⟩ := get_ex cs 3 (by rw [HN.out]; omega)
             obtain ⟨_, _, e2, c2⟩ := HC2.out 2 y2 hy2
             cases e2
             obtain ⟨_, _, e2, c3⟩ := HC2.out 3 y3 hy3
             cases e2
             rw [hy2, hy3, Option.getD_some, Option.getD_some]
             by_cases h4 : y2 = 45
             · subst h4
               by_cases h5 : y3 = 45
               · subst h5
                 exact .inl ⟨dcF (by omega), g1, g2, h3, c2, c3⟩
               · exact .inr (.inr (.inr ⟨dcT (.inr (.inr h5)), g1, g2, h3, c2, y3, c3, by simp; omega, by simp [h5]⟩))
             · exact .inr (.inr (.inl ⟨dcT (.inr (.inl h4)), g1, g2, y2, c2, by simp; omega, by simp [h4]⟩))
           · exact .inr (.inl ⟨dcT (.inl (by omega)), dcF (by omega)⟩)
          have EN := hid (rencode9_any _ cs wr (by have := HRDX.out; rw [HN.out] at this; exact this) HAR.out (by rw [HN.out]; omega))
          obtain ⟨E, hE⟩ : ∃ E, bytesL (encL cs) = E := ⟨_, rfl⟩
          have hEz : E.size = (encL cs).length := by rw [← hE, bytesL_size]
          have HEE : Hid ((⟨#[120, 110, 45, 45]⟩ : ByteArray) ++ E = bytesL (xnL ++ encL cs)) := hid (by rw [bytesL_append, hE]; rfl)
          clear h1 h2
          rcases hcase with ⟨HM0, g1, g2, g3, c2, c3⟩ | ⟨HM0, g1⟩ | ⟨HM0, g1, g2, x2, c2, g4, g5⟩ | ⟨HM0, g1, g2, g3, c2, x2, c3, g4, g5⟩
          · have HF := hid (HNF.out HM0)
            clear HM0 hE hEz
            go_wp2
            (try simp only [Exit.inBlock, Exit.then]); refine bodyPost_ret (results_tmp3 rfl _ _ _) rfl ?_
            exact HF.out
          all_goals
           have hR3 := HRR2.out
           rw [if_neg (by rw [HM0]; decide)] at hR3
           clear HM0
           by_cases h256 : 256 < n0
           · have HF := hid (fun W h => HFF.out (.no 14 63) W (by rw [← hR3, if_pos (.inl (by rw [HN.out]; exact h256))]) h)
             have hV : RnV cs = .tuple #[.string ⟨#[]⟩, .int .i64 14, .int .i64 256] := by unfold RnV; rw [HN.out, if_pos h256]
             rw [hV] at EN
             unfold raV at HF
             clear hR3 h256 hE hEz hV
             go_wp2_with fail
             refine EN.out.mono ?_
             rintro e w8 ⟨rfl, hb8⟩
             have HB8 := hid (xT HB6.out hb8)
             clear hb8
             go_wp2
             (try simp only [Exit.inBlock, Exit.then]); refine bodyPost_ret (results_tmp3 rfl _ _ _) rfl ?_
             exact HF.out _ HB8.out
           · have hV : RnV cs = .tuple #[.string E, .int .i64 0, .int .i64 0] := by unfold RnV; rw [HN.out, if_neg h256, hE]
             rw [hV] at EN
             by_cases h59 : 59 < E.size
             · have HF := hid (fun W h => HFF.out (.no 14 63) W (by rw [← hR3, if_pos (.inr (by omega))]) h)
               unfold raV at HF
               have t9 : decide ((59 : Int) < (E.size : Int)) = true := dcT (by omega)
               have t9' : decide (59 < E.size) = true := dcT h59
               clear hR3 h256 hE hEz hV h59
               go_wp2_with fail
               refine EN.out.mono ?_
               rintro e w8 ⟨rfl, hb8⟩
               have HB8 := hid (xT HB6.out hb8)
               clear hb8
               go_wp2
               (try simp only [Exit.inBlock, Exit.then]); refine bodyPost_ret (results_tmp3 rfl _ _ _) rfl ?_
               exact HF.out _ HB8.out
             · have HF := hid (fun W h => HFF.out (.ok (xnL ++ encL cs)) W (by rw [← hR3, if_neg (by rw [HN.out]; omega)]) h)
               unfold raV at HF
               dsimp only at HF
               rw [← HEE.out] at HF
               have t9 : decide ((59 : Int) < (E.size : Int)) = false := dcF (by omega)
               have t9' : decide (59 < E.size) = false := dcF h59
               have hEz2 : E.size ≤ 59 := by omega
               clear hR3 h256 hE hEz hV h59
               go_wp2_with fail
               refine EN.out.mono ?_
               rintro e w8 ⟨rfl, hb8⟩
               have HB8 := hid (xT HB6.out hb8)
               clear hb8
               go_wp2
               (try simp only [Exit.inBlock, Exit.then]); refine bodyPost_ret (results_tmp3 rfl _ _ _) rfl ?_
               exact HF.out _ HB8.out
end Go.Proofs.YtbeodjipdpcaiaaGreatDoor
