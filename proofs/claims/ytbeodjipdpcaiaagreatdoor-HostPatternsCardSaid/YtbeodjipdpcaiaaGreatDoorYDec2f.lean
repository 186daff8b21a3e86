/- Texts put together. -/
import Derived.Test.YtbeodjipdpcaiaaGreatDoorYMoreR
import Derived.Test.YtbeodjipdpcaiaaGreatDoorYDec0s
import Derived.Test.YtbeodjipdpcaiaaGreatDoorYHlw0f
import Derived.Test.YtbeodjipdpcaiaaGreatDoorYRfw8s
import Derived.Test.YtbeodjipdpcaiaaGreatDoorYLbw5s
import Derived.Test.YtbeodjipdpcaiaaGreatDoorYScan4sf
import Derived.Test.YtbeodjipdpcaiaaGreatDoorYLbw8s
import Derived.Test.YtbeodjipdpcaiaaGreatDoorYMx0sf
import Derived.Test.YtbeodjipdpcaiaaGreatDoorYHsw1s
import Derived.Test.YtbeodjipdpcaiaaGreatDoorYRfw1s
import Derived.Test.YtbeodjipdpcaiaaGreatDoorYLab0s
import Derived.Lib.SmallJoins
set_option maxRecDepth 100000
set_option maxHeartbeats 16000000
namespace Go.Proofs.YtbeodjipdpcaiaaGreatDoor
open Go.RowKit
theorem figT : ∀ d : Fin 10, (⟨#[48, 49, 50, 51, 52, 53, 54, 55, 56, 57, 65, 66, 67, 68, 69, 70]⟩ : ByteArray).extract d.val (d.val + 1) = ⟨#[UInt8.ofNat (48 + d.val)]⟩ := by decide
def WtRel (n : Nat) (w : World) (nv ov : Value) (wr : World) : Prop := (∃ q, wr = w.drewN q) ∧ ∃ r, r < lenD n ∧ nv = .int .u64 ((n / 10 ^ r : Nat) : Int) ∧ ov = .string (decS r n)
theorem rwritten10_any (n : Nat) (w : World) (hn : n < 18446744073709551616) :
    Calls Tryz.prog 129 #[.int .u64 n, .int .u64 10, .int .i64 1] w fun e w' => e = .returned (.string (decB n)) ∧ Below w.heap.size w w' := by
 have FS := hid figT
 have HL := hid (lenD_iff n)
 have HP := hid (lenD_pos n)
 have HX := hid (lenD_le hn)
 have HN := hid hn
 clear hn
 go_enter Tryz.func129, Tryz.ntmps129
 go_wp2_with fail
 obtain ⟨S, hS⟩ : ∃ S : ByteArray, (⟨#[48, 49, 50, 51, 52, 53, 54, 55, 56, 57, 65, 66, 67, 68, 69, 70]⟩ : ByteArray) = S := ⟨_, rfl⟩
 rw [hS] at FS ⊢
 have hzS : S.size = 16 := by rw [← hS]; rfl
 clear hS
 go_loopw [0, 8] (WtRel n w) (fun a _ _ => (intOf a).toNat)
 case atStart => exact ⟨⟨0, rfl⟩, 0, HP.out, by simp, by rw [decS_zero]⟩
 case round =>
  obtain ⟨⟨q, rfl⟩, r, hr, rfl, rfl⟩ := hrel
  have hsz := decS_size r n
  have hr20 : r < 20 := Nat.lt_of_lt_of_le hr HX.out
  obtain ⟨m, hm⟩ : ∃ m, n / 10 ^ r = m := ⟨_, rfl⟩
  have hm64 : m < 18446744073709551616 := by
   have := Nat.div_le_self n (10 ^ r)
   have := HN.out
   omega
  have hcons := decS_cons r n
  have hnext : n / 10 ^ (r + 1) = m / 10 := by rw [← hm, Nat.pow_succ, Nat.div_div_eq_div_mul]
  have hiff := HL.out (r + 1) (by omega)
  rw [hnext] at hiff
  rw [hm] at hcons ⊢
  obtain ⟨d, hd⟩ : ∃ d, m % 10 = d := ⟨_, rfl⟩
  obtain ⟨p, hp⟩ : ∃ p, m / 10 = p := ⟨_, rfl⟩
  rw [hd] at hcons
  rw [hp] at hiff hnext
  have hd10 : d < 10 := by omega
  have hpm : p < m ∨ (p = 0 ∧ m = 0) := by omega
  have F1 : S.extract d (d + 1) = ⟨#[UInt8.ofNat (48 + d)]⟩ := FS.out ⟨d, hd10⟩
  have tm : (m : Int).tmod 10 = (d : Int) := by rw [Int.tmod_eq_emod_of_nonneg (by omega)]; omega
  have td : (m : Int).tdiv 10 = (p : Int) := by rw [Int.tdiv_eq_ediv_of_nonneg (by omega)]; omega
  have wr1 : IntKind.u64.wrap ((d : Int) + 1) = (d : Int) + 1 := IntWalk.u64_in _ (by omega)
  have wr0 : IntKind.u64.wrap (p : Int) = (p : Int) := IntWalk.u64_in _ (by omega)
  have sl := slice_one .u64 S d (by omega) _ F1
  obtain ⟨X, hX⟩ : ∃ X : ByteArray, (⟨#[UInt8.ofNat (48 + d)]⟩ : ByteArray) = X := ⟨_, rfl⟩
  have z1 : X.size = 1 := by rw [← hX]; rfl
  rw [hX] at sl hcons
  generalize decS r n = Y at *
  have hz2 : (X ++ Y).size = r + 1 := by rw [hcons, decS_size]
  have HCO := hid hcons
  have HNX := hid hnext
  have HPM := hid hpm
  have HDL : Hid (decB n = decS (lenD n) n) := hid rfl
  by_cases h0 : p = 0
  · have t0 : ((p : Int) == 0) = true := beq_iff_eq.2 (by omega)
    have hlen : lenD n = r + 1 := by have := hiff.2 h0; omega
    have HLE := hid hlen
    have tz : decide ((r : Int) + 1 < 1) = false := dcF (by omega)
    have HZ2 := hid hz2
    clear hm hd hp F1 hnext hiff hcons hX h0 hlen hr hpm hz2
    go_wp2
    go_quiet (fail)
    generalize hXY : X ++ Y = Z at *
    have hz3 : (Z.size : Int) = (r : Int) + 1 := by have := HZ2.out; omega
    have tz2 : decide (Z.size < 1) = false := dcF (by omega)
    have HXY := hid hXY
    clear hXY hsz z1 sl
    go_wp2_with fail
    go_loopw [8] (fun o W => o = .string Z ∧ ∃ q, W = w.drewN q) (fun _ _ => 0)
    case atStart => exact ⟨rfl, _, rfl⟩
    case round =>
     obtain ⟨rfl, q2, rfl⟩ := hrel
     go_wp2
     go_ret
     exact ⟨by rw [HDL.out, HLE.out, ← HCO.out]; rfl, ext_drewN _ (Below.refl _ _)⟩
  · have t0 : ((p : Int) == 0) = false := bneI.2 (by omega)
    have hr2 : r + 1 < lenD n := by
     refine Nat.lt_of_not_le fun h => h0 (hiff.1 h)
    have R : ∀ k, WtRel n w (.int .u64 (p : Int)) (.string (X ++ Y)) ((w.drewN q).drewN k) := fun k => ⟨⟨q + k, drewN_add _ _ _⟩, r + 1, hr2, by rw [hnext], by rw [hcons]⟩
    have HR := hid R
    have hlt : p < m := by omega
    have HLT := hid hlt
    clear hm hd hp F1 R hlt hiff hnext hcons hX hr hr2 hpm hz2 h0
    go_wp2
    go_quiet (fail)
    go_wp2
    refine ⟨?_, by have := HLT.out; simp [intOf]; omega⟩
    have R := HR.out
    first | exact R _ | simpa using R _
end Go.Proofs.YtbeodjipdpcaiaaGreatDoor
namespace Go.Proofs.YtbeodjipdpcaiaaGreatDoor
section
open Go.RowKit
def RtxRel (s : ByteArray) (w : World) (kv : Value) (wr : World) : Prop := ∃ j : Nat, kv = .int .i64 j ∧ j ≤ s.size ∧ (∀ i, i < j → lcN (byteAt s i) = true) ∧ wr = w
theorem rright10_any (s : ByteArray) (w : World) (hs : s.size ≤ 1000000) : Calls Tryz.prog 60 #[.string s] w fun e w' => e = .returned (.tuple #[.int .i64 ((rightL (bytesN s)).1 : Nat), .int .i64 ((rightL (bytesN s)).2 : Nat)]) ∧ Below w.heap.size w w' := by
 obtain ⟨R, hR⟩ : ∃ R, rightL (bytesN s) = R := ⟨_, rfl⟩
 rw [hR]
 obtain ⟨Q, hQ⟩ : ∃ Q : Ending → World → Prop, (fun e w' => e = .returned (.tuple #[.int .i64 (R.1 : Nat), .int .i64 (R.2 : Nat)]) ∧ Below w.heap.size w w') = Q := ⟨_, rfl⟩
 have HF : Hid (∀ (a b : Nat) W, R = (a, b) → Below w.heap.size w W → Q (.returned (.tuple #[.int .i64 (a : Nat), .int .i64 (b : Nat)])) W) := hid (fun a b W h hb => by rw [← hQ, h]; exact ⟨rfl, hb⟩)
 rw [hQ]
 clear hQ
 by_cases h0 : 0 < s.size
 · have t0 : ((s.size : Int) == 0) = false := bneI.2 (by omega)
   have t0' : (s.size = 0) = False := eq_false (by omega)
   by_cases h63 : 63 < s.size
   · have t1 : decide ((63 : Int) < (s.size : Int)) = true := dcT (by omega)
     have HFF := hid (HF.out 14 63 w (by
      rw [← hR]; unfold rightL
      rw [if_neg (fun e => by have := bytesN_len s; rw [e] at this; simp at this; omega), if_pos (by rw [bytesN_len]; exact h63)]) (Below.refl _ _))
     clear hR h0 h63 hs
     go_enter Tryz.func60, Tryz.ntmps60
     go_wp2
     exact HFF.out
   · have t1 : decide ((63 : Int) < (s.size : Int)) = false := dcF (by omega)
     have HR := hid hR
     clear hR
     go_enter Tryz.func60, Tryz.ntmps60
     go_wp2_with fail
     clear t1
     go_loopw [4] (RtxRel s w) (fun k _ => s.size - (intOf k).toNat)
     case atStart => exact ⟨0, rfl, Nat.zero_le _, fun i hi => by omega, rfl⟩
     case round =>
      obtain ⟨j, rfl, hj, hok, hwr⟩ := hrel
      subst hwr
      have HOK := hid hok
      clear hok
      by_cases hlt : j < s.size
      · obtain ⟨t1, t1'⟩ := ltT j s.size hlt
        have q1 := inc j (by omega)
        have hgb := byteAt_get s j hlt
        have hx256 := byteAt_lt s j
        obtain ⟨x, hx⟩ : ∃ x, byteAt s j = x := ⟨_, rfl⟩
        rw [hx] at hgb hx256
        have hgx := hgb.symm
        have qx : IntKind.i64.wrap (x : Int) = (x : Int) := i64n _ (by omega)
        have SM := hid (rsmall_any x wr)
        have HXX := hid hx
        clear hx hgb
        cases hl : lcN x with
        | true =>
          rw [hl] at SM
          have HRL : Hid (RtxRel s wr (.int .i64 ((j : Int) + 1)) wr) := hid ⟨j + 1, by go_num, hlt, fun i hi => by
           by_cases e : i = j
           · subst e; rw [HXX.out]; exact hl
           · exact HOK.out i (by omega), rfl⟩
          clear hl
          go_wp2_with fail
          refine SM.out.mono ?_
          rintro e w3 ⟨rfl, hw3⟩
          have hw3' := hw3.symm
          subst hw3'
          clear hw3
          go_wp2
          refine ⟨?_, by simp [intOf] <;> omega⟩
          first | exact HRL.out | ((repeat apply Exists.intro); exact ⟨HRL.out, rfl⟩)
        | false =>
          rw [hl] at SM
          have HFF := hid (HF.out 11 j wr (HR.out.symm.trans (right_find hlt (by omega) (by rw [HXX.out]; exact hl) HOK.out)) (Below.refl _ _))
          clear hl
          go_wp2_with fail
          refine SM.out.mono ?_
          rintro e w3 ⟨rfl, hw3⟩
          have hw3' := hw3.symm
          subst hw3'
          clear hw3
          go_wp2
          exact HFF.out
      · obtain ⟨t1, t1'⟩ := ltF j s.size hlt
        have hrr := right_fin h0 (by omega) (fun i hi => HOK.out i (by omega))
        rw [HR.out] at hrr
        have hg0 : (s[0]'h0).toNat = byteAt s 0 := (byteAt_get s 0 h0).symm
        obtain ⟨m, hm⟩ : ∃ m, s.size - 1 = m := ⟨_, rfl⟩
        have hml : m < s.size := by omega
        have hg1 : (s[m]'hml).toNat = byteAt s m := (byteAt_get s m hml).symm
        have q1 : IntKind.i64.wrap ((s.size : Int) - 1) = (m : Int) := by rw [show (s.size : Int) - 1 = (m : Int) by omega]; exact i64n _ (by omega)
        rw [hm] at hrr
        obtain ⟨x0, hx0⟩ : ∃ x, byteAt s 0 = x := ⟨_, rfl⟩
        obtain ⟨x1, hx1⟩ : ∃ x, byteAt s m = x := ⟨_, rfl⟩
        rw [hx0] at hg0 hrr
        rw [hx1] at hg1 hrr
        have CO := hid (rcoded_any s wr hs)
        have tm0 : decide (0 < s.size) = true := dcT h0
        have tm1 : decide (m < s.size) = true := dcT hml
        clear hx0 hx1 hm hlt
        by_cases h45 : x0 = 45
        · have t2 : ((x0 : Int) == 45) = true := by rw [h45]; rfl
          have HFF := hid (HF.out 24 0 wr (by rw [hrr, h45]; rfl) (Below.refl _ _))
          clear hrr
          subst h45
          go_wp2
          exact HFF.out
        · have t2 : ((x0 : Int) == 45) = false := by simp; omega
          have t2' : (x0 = 45) = False := by simp [h45]
          rw [dcT h45, Bool.true_and] at hrr
          by_cases h46 : x1 = 45
          · have t3 : ((x1 : Int) == 45) = true := by rw [h46]; rfl
            have HFF := hid (HF.out 24 0 wr (by rw [hrr, h46]; rfl) (Below.refl _ _))
            clear hrr h45
            subst h46
            go_wp2
            exact HFF.out
          · have t3 : ((x1 : Int) == 45) = false := by simp; omega
            have t3' : (x1 = 45) = False := by simp [h46]
            rw [dcT h46, Bool.true_and] at hrr
            have gt : ∀ i, i < s.size → (bytesN s)[i]?.getD 0 = byteAt s i := fun i hi => by rw [bytesN_get hi]; rfl
            have hcase : (codedN (bytesN s) = false ∧ decide ((4 : Int) ≤ (s.size : Int)) = false) ∨ ∃ (y2 y3 : Nat) (e2 : 2 < s.size) (e3 : 3 < s.size), decide ((4 : Int) ≤ (s.size : Int)) = true ∧ (s[2]'e2).toNat = y2 ∧ (s[3]'e3).toNat = y3 ∧ codedN (bytesN s) = (decide (y2 = 45) && decide (y3 = 45)) := by
             by_cases h4 : 4 ≤ s.size
             · refine .inr ⟨byteAt s 2, byteAt s 3, by omega, by omega, dcT (by omega), (byteAt_get s 2 (by omega)).symm, (byteAt_get s 3 (by omega)).symm, ?_⟩
               unfold codedN
               rw [gt 2 (by omega), gt 3 (by omega), bytesN_len]
               simp [h4, Bool.decide_and]
             · refine .inl ⟨?_, dcF (by omega)⟩
               unfold codedN
               rw [bytesN_len]
               simp [h4]
            clear h45 h46 gt
            rcases hcase with ⟨hco, g1⟩ | ⟨y2, y3, e2, e3, g1, g2, g3, hco⟩
            · have HFF := hid (HF.out 0 0 wr (by rw [hrr, hco]; rfl) (Below.refl _ _))
              clear hrr hco
              go_wp2
              exact HFF.out
            · by_cases h2 : y2 = 45
              · by_cases h3 : y3 = 45
                · rw [dcT h2, dcT h3] at hco
                  have t4 : ((y2 : Int) == 45) = true := by rw [h2]; rfl
                  have t5 : ((y3 : Int) == 45) = true := by rw [h3]; rfl
                  subst h2 h3
                  cases hde : decodeN (bytesN s) with
                  | none =>
                    rw [hde] at CO
                    have HFF := hid (fun W hb => HF.out 24 0 W (by rw [hrr, hco, hde]; rfl) hb)
                    clear hrr hco hde
                    go_wp2_with fail
                    refine CO.out.mono ?_
                    rintro e w3 ⟨hb, v, rfl⟩
                    have HB := hid hb
                    clear hb
                    go_wp2
                    exact HFF.out _ HB.out
                  | some cs =>
                    rw [hde] at CO
                    have HFF := hid (fun W hb => HF.out 0 0 W (by rw [hrr, hco, hde]; rfl) hb)
                    clear hrr hco hde
                    go_wp2_with fail
                    refine CO.out.mono ?_
                    rintro e w3 ⟨hb, v, hv, rfl⟩
                    have HB := hid hb
                    clear hb hv
                    go_wp2
                    exact HFF.out _ HB.out
                · rw [dcF h3, Bool.and_false] at hco
                  have t4 : ((y2 : Int) == 45) = true := by rw [h2]; rfl
                  have t5 : ((y3 : Int) == 45) = false := by simp; omega
                  have t5' : (y3 = 45) = False := by simp [h3]
                  have HFF := hid (HF.out 0 0 wr (by rw [hrr, hco]; rfl) (Below.refl _ _))
                  clear hrr hco h3
                  subst h2
                  go_wp2
                  exact HFF.out
              · rw [dcF h2, Bool.false_and] at hco
                have t4 : ((y2 : Int) == 45) = false := by simp; omega
                have t4' : (y2 = 45) = False := by simp [h2]
                have HFF := hid (HF.out 0 0 wr (by rw [hrr, hco]; rfl) (Below.refl _ _))
                clear hrr hco h2
                go_wp2
                exact HFF.out
 · have t0 : ((s.size : Int) == 0) = true := beq_iff_eq.2 (by omega)
   have t0' : (s.size = 0) = True := eq_true (by omega)
   have HFF := hid (HF.out 10 0 w (by
    rw [← hR]
    obtain rfl := size_zero h0
    rfl) (Below.refl _ _))
   clear hR h0 hs
   go_enter Tryz.func60, Tryz.ntmps60
   go_wp2
   exact HFF.out
end
section
open Go.RowKit
theorem joinN_snoc (m : Nat) (p : List Nat) : ∀ l : List (List Nat), l ≠ [] → joinN m (l ++ [p]) = joinN m l ++ [m] ++ p
 | [], h => absurd rfl h
 | [a], _ => by simp [joinN]
 | a :: b :: l, _ => by
   have ih := joinN_snoc m p (b :: l) (by simp)
   rw [show a :: b :: l ++ [p] = a :: b :: (l ++ [p]) from rfl, joinN, show b :: (l ++ [p]) = b :: l ++ [p] from rfl, ih, joinN]
   simp
end
end Go.Proofs.YtbeodjipdpcaiaaGreatDoor
namespace Go.Proofs.YtbeodjipdpcaiaaGreatDoor
open Go.RowKit
theorem trim_case (s B : ByteArray) (hs : s.size ≤ 1000000) (hB : bytesL (trimL (bytesN s)) = B) : (decide ((1 : Int) < (s.size : Int)) = false ∧ s = B) ∨ ∃ (m : Nat) (hm : m < s.size) (x : Nat), decide ((1 : Int) < (s.size : Int)) = true ∧ IntKind.i64.wrap ((s.size : Int) - 1) = (m : Int) ∧ (s[m]'hm).toNat = x ∧ (((x : Int) == 46) = false ∧ (x = 46) = False ∧ s = B ∨ x = 46 ∧ ∀ W, (Instr.slice 9 (.string s) none (some (.int .i64 (m : Int))) none).run Tryz.prog W = .ok (.string B) W) := by
 by_cases h1 : 1 < s.size
 · refine .inr ⟨s.size - 1, by omega, byteAt s (s.size - 1), dcT (by omega), by rw [show (s.size : Int) - 1 = ((s.size - 1 : Nat) : Int) by omega]; exact i64n _ (by omega), (byteAt_get s _ (by omega)).symm, ?_⟩
   have hl : lastN (bytesN s) = byteAt s (s.size - 1) := by
    unfold lastN
    rw [List.getLast?_eq_getElem?, bytesN_len, bytesN_get (by omega)]; rfl
   by_cases h46 : byteAt s (s.size - 1) = 46
   · refine .inr ⟨h46, fun W => sl_to s (s.size - 1) (by omega) B ?_ W⟩
     rw [← hB, extract_bytesL]
     unfold trimL
     rw [if_pos ⟨by rw [bytesN_len]; exact h1, by rw [hl]; exact h46⟩, bytesN_len]
     rfl
   · refine .inl ⟨by simp; omega, by simp [h46], ?_⟩
     rw [← hB]
     unfold trimL
     rw [if_neg (fun h => h46 (by rw [← hl]; exact h.2)), bytesL_bytesN]
 · refine .inl ⟨dcF (by omega), ?_⟩
   rw [← hB]
   unfold trimL
   rw [if_neg (fun h => h1 (by have := h.1; rw [bytesN_len] at this; exact this)), bytesL_bytesN]
theorem rcut11_any (s : ByteArray) (w : World) (hs : s.size ≤ 1000000) : Calls Tryz.prog 133 #[.string s] w fun e w' => e = .returned (.string (bytesL (trimL (bytesN s)))) ∧ w' = w := by
 obtain ⟨B, hB⟩ : ∃ B, bytesL (trimL (bytesN s)) = B := ⟨_, rfl⟩
 rw [hB]
 rcases trim_case s B hs hB with ⟨g1, hsB⟩ | ⟨m, hm, x, g1, g2, g3, ⟨g4, g5, hsB⟩ | ⟨hx, g4⟩⟩
 all_goals
  clear hB
  first | (have h' := hsB.symm; subst h') | subst hx
  go_enter Tryz.func133, Tryz.ntmps133
  go_wp2
  go_ret
  exact ⟨rfl, rfl⟩
theorem rhexed_any (s : ByteArray) (w : World) : Calls Tryz.prog 134 #[.string s] w fun e w' => e = .returned (.bool (hexedL (bytesN s))) ∧ w' = w := by
 obtain ⟨r, hr⟩ : ∃ r, hexedL (bytesN s) = r := ⟨_, rfl⟩
 rw [hr]
 have gt : ∀ i, i < s.size → (bytesN s)[i]?.getD 0 = byteAt s i := fun i hi => by rw [bytesN_get hi]; rfl
 unfold hexedL at hr
 rw [bytesN_len] at hr
 by_cases h1 : 1 < s.size
 · have t1 : decide ((1 : Int) < (s.size : Int)) = true := dcT (by omega)
   have u0 : 0 < s.size := by omega
   have g0 := (byteAt_get s 0 u0).symm
   have g1 := (byteAt_get s 1 h1).symm
   rw [gt 0 u0, gt 1 h1] at hr
   obtain ⟨x0, hx0⟩ : ∃ x, byteAt s 0 = x := ⟨_, rfl⟩
   obtain ⟨x1, hx1⟩ : ∃ x, byteAt s 1 = x := ⟨_, rfl⟩
   rw [hx0] at g0 hr
   rw [hx1] at g1 hr
   clear hx0 hx1 gt
   by_cases h48 : x0 = 48
   · subst h48
     by_cases h120 : x1 = 120
     · subst h120
       obtain rfl : r = true := by rw [← hr]; exact dcT ⟨h1, rfl, .inl rfl⟩
       clear hr
       go_enter Tryz.func134, Tryz.ntmps134
       go_wp2
       go_ret
       exact ⟨rfl, rfl⟩
     · have t3 : ((x1 : Int) == 120) = false := by simp; omega
       have t3' : (x1 = 120) = False := by simp [h120]
       by_cases h88 : x1 = 88
       · subst h88
         obtain rfl : r = true := by rw [← hr]; exact dcT ⟨h1, rfl, .inr rfl⟩
         clear hr h120
         go_enter Tryz.func134, Tryz.ntmps134
         go_wp2
         go_ret
         exact ⟨rfl, rfl⟩
       · have t4 : ((x1 : Int) == 88) = false := by simp; omega
         have t4' : (x1 = 88) = False := by simp [h88]
         obtain rfl : r = false := by rw [← hr]; exact dcF (fun h => by have := h.2.2; omega)
         clear hr h120 h88
         go_enter Tryz.func134, Tryz.ntmps134
         go_wp2
         go_ret
         exact ⟨rfl, rfl⟩
   · have t2 : ((x0 : Int) == 48) = false := by simp; omega
     have t2' : (x0 = 48) = False := by simp [h48]
     obtain rfl : r = false := by rw [← hr]; exact dcF (fun h => h48 h.2.1)
     clear hr h48
     go_enter Tryz.func134, Tryz.ntmps134
     go_wp2
     go_ret
     exact ⟨rfl, rfl⟩
 · have t1 : decide ((1 : Int) < (s.size : Int)) = false := dcF (by omega)
   obtain rfl : r = false := by rw [← hr]; exact dcF (fun h => h1 h.1)
   clear hr h1 gt
   go_enter Tryz.func134, Tryz.ntmps134
   go_wp2
   go_ret
   exact ⟨rfl, rfl⟩
end Go.Proofs.YtbeodjipdpcaiaaGreatDoor
