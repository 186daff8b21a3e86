/- Texts put together. -/
import Derived.Test.YtbeodjipdpcaiaaGreatDoorYHlw0f
import Derived.Test.YtbeodjipdpcaiaaGreatDoorYPnw1s
import Derived.Test.YtbeodjipdpcaiaaGreatDoorYPun0s
import Derived.Test.YtbeodjipdpcaiaaGreatDoorYLbw1s
set_option maxRecDepth 100000
set_option maxHeartbeats 8000000
namespace Go.Proofs.YtbeodjipdpcaiaaGreatDoor
section
open Go.RowKit
theorem rthr_any (k bias : Nat) (w : World) (hk : k ≤ 1000000000000) (hb : bias ≤ 1000000000000) : Calls Tryz.prog 257 #[.int .i64 k, .int .i64 bias] w fun e w' => e = .returned (.int .i64 (thrN k bias)) ∧ w = w' := by
 have q1 : IntKind.i64.wrap ((k : Int) - (bias : Int)) = (k : Int) - (bias : Int) := i64n _ (by omega)
 have HE : Hid (((thrN k bias : Nat) : Int) = min (max ((k : Int) - (bias : Int)) 1) 26) := hid (by unfold thrN; omega)
 clear hk hb
 go_enter Tryz.func257, Tryz.ntmps257
 go_wp2
 all_goals
  go_ret
  exact ⟨i64_ret (by have := HE.out; omega), rfl⟩
theorem radapt_any (delta count : Nat) (first : Bool) (w : World) (hd : delta ≤ 10000000000) (hc : 1 ≤ count) (hc2 : count ≤ 1000000) :
    Calls Tryz.prog 234 #[.int .i64 delta, .int .i64 count, .bool first] w fun e w' => e = .returned (.int .i64 (adaptN delta count first)) ∧ w' = w := by
 have hle := adD_le delta count first
 have hR : adaptN delta count first = adL (adD delta count first) 0 := rfl
 obtain ⟨R, hRR⟩ : ∃ R, adaptN delta count first = R := ⟨_, rfl⟩
 rw [hRR] at hR ⊢
 have t1 : decide ((delta : Int) < 0) = false := dcF (by omega)
 have t2 : decide ((count : Int) < 1) = false := dcF (by omega)
 obtain ⟨h, hh⟩ : ∃ h, (if first then delta / 700 else delta / 2) = h := ⟨_, rfl⟩
 have hD : adD delta count first = h + h / count := by unfold adD; rw [hh]
 rw [hD] at hR hle
 have hhd : h ≤ delta := by rw [← hh]; split <;> omega
 have hq := Nat.div_le_self h count
 have td : (h : Int).tdiv (count : Int) = ((h / count : Nat) : Int) := by rw [Int.tdiv_eq_ediv_of_nonneg (by omega)]; rfl
 generalize h / count = x at *
 have t3 : ((count : Int) == 0) = false := by simp; omega
 have t3' : ((count : Int) = 0) = False := by simp; omega
 have t3'' : (count = 0) = False := by simp; omega
 have q0 : IntKind.i64.wrap (h : Int) = (h : Int) := i64n _ (by omega)
 have q1 : IntKind.i64.wrap (x : Int) = (x : Int) := i64n _ (by omega)
 have q2 : IntKind.i64.wrap ((h : Int) + (x : Int)) = (h : Int) + (x : Int) := i64n _ (by omega)
 have H0 : Hid (AdRel R 20000000000 w (.int .i64 ((h : Int) + (x : Int))) (.int .i64 0) w) := hid ⟨h + x, 0, by push_cast; rfl, rfl, hR.symm, by omega, rfl⟩
 have key : ∀ f : Bool, first = f → ((if f then (delta : Int).tdiv 700 else (delta : Int).tdiv 2) = (h : Int)) := fun f hf => by
  subst hf
  cases first with
  | true => rw [if_pos rfl] at hh ⊢; rw [Int.tdiv_eq_ediv_of_nonneg (by omega)]; omega
  | false => rw [if_neg (by decide)] at hh ⊢; rw [Int.tdiv_eq_ediv_of_nonneg (by omega)]; omega
 cases first with
 | true =>
   have k1 : (delta : Int).tdiv 700 = (h : Int) := key true rfl
   obtain ⟨g2, hg2⟩ : ∃ g : Nat, (delta : Int).tdiv 2 = (g : Int) := ⟨delta / 2, by rw [Int.tdiv_eq_ediv_of_nonneg (by omega)]; rfl⟩
   have q3 : IntKind.i64.wrap (g2 : Int) = (g2 : Int) := i64n _ (by rw [← hg2, Int.tdiv_eq_ediv_of_nonneg (by omega)]; omega)
   clear key hd hc hc2 hle hR hD hh hRR
   go_enter Tryz.func234, Tryz.ntmps234
   go_wp2_with fail
   clear k1 td t1 t2 t3 t3' t3'' q0 q1 q2
   go_loopw [7, 8] (AdRel R 20000000000 w) (fun d _ _ => (intOf d).toNat)
   case atStart => exact H0.out
   case round =>
    obtain ⟨d, k, rfl, rfl, hr, hdk, rfl⟩ := hrel
    by_cases h455 : 455 < d
    · have s1 : decide ((455 : Int) < (d : Int)) = true := dcT (by omega)
      have s2 : (d : Int).tdiv 35 = ((d / 35 : Nat) : Int) := by rw [Int.tdiv_eq_ediv_of_nonneg (by omega)]; rfl
      have s3 : IntKind.i64.wrap ((d / 35 : Nat) : Int) = ((d / 35 : Nat) : Int) := i64n _ (by omega)
      have s4 : IntKind.i64.wrap ((k : Int) + 36) = (k : Int) + 36 := i64n _ (by omega)
      rw [adL_go h455] at hr
      have R1 : AdRel R 20000000000 wr (.int .i64 ((d / 35 : Nat) : Int)) (.int .i64 ((k : Int) + 36)) wr := ⟨d / 35, k + 36, rfl, by go_num, hr, by omega, rfl⟩
      have HR1 := hid R1
      have hless : d / 35 < d := by omega
      have HLE := hid hless
      clear R1 hr h455 hless
      generalize d / 35 = d2 at *
      go_wp2
      refine ⟨?_, by have := HLE.out; simp [intOf]; omega⟩
      first | exact HR1.out | ((repeat apply Exists.intro); exact ⟨HR1.out, rfl⟩)
    · have s1 : decide ((455 : Int) < (d : Int)) = false := dcF (by omega)
      rw [adL_stop h455] at hr
      have s2 : (36 * (d : Int)).tdiv ((d : Int) + 38) = ((36 * d / (d + 38) : Nat) : Int) := by rw [Int.tdiv_eq_ediv_of_nonneg (by omega)]; push_cast; rfl
      have s3 : (((d : Int) + 38) == 0) = false := by simp; omega
      have s3' : (((d : Int) + 38) = 0) = False := by simp; omega
      have hq : 36 * d / (d + 38) ≤ 36 := Nat.div_le_of_le_mul (by rw [Nat.mul_comm]; exact Nat.mul_le_mul_right _ (by omega))
      have s4 : IntKind.i64.wrap (36 * (d : Int)) = 36 * (d : Int) := i64n _ (by omega)
      have s5 : IntKind.i64.wrap ((d : Int) + 38) = (d : Int) + 38 := i64n _ (by omega)
      have s6 : IntKind.i64.wrap ((36 * d / (d + 38) : Nat) : Int) = ((36 * d / (d + 38) : Nat) : Int) := i64n _ (by omega)
      have HRR : Hid ((R : Int) = (k : Int) + ((36 * d / (d + 38) : Nat) : Int)) := hid (by omega)
      clear hr h455
      generalize 36 * d / (d + 38) = x at *
      have s7 : IntKind.i64.wrap ((k : Int) + (x : Int)) = (k : Int) + (x : Int) := i64n _ (by omega)
      go_wp2
      go_ret
      exact ⟨i64_ret HRR.out.symm, rfl⟩
 | false =>
   have k1 : (delta : Int).tdiv 2 = (h : Int) := key false rfl
   clear key hd hc hc2 hle hR hD hh hRR
   go_enter Tryz.func234, Tryz.ntmps234
   go_wp2_with fail
   clear k1 td t1 t2 t3 t3' t3'' q0 q1 q2
   go_loopw [7, 8] (AdRel R 20000000000 w) (fun d _ _ => (intOf d).toNat)
   case atStart => exact H0.out
   case round =>
    obtain ⟨d, k, rfl, rfl, hr, hdk, rfl⟩ := hrel
    by_cases h455 : 455 < d
    · have s1 : decide ((455 : Int) < (d : Int)) = true := dcT (by omega)
      have s2 : (d : Int).tdiv 35 = ((d / 35 : Nat) : Int) := by rw [Int.tdiv_eq_ediv_of_nonneg (by omega)]; rfl
      have s3 : IntKind.i64.wrap ((d / 35 : Nat) : Int) = ((d / 35 : Nat) : Int) := i64n _ (by omega)
      have s4 : IntKind.i64.wrap ((k : Int) + 36) = (k : Int) + 36 := i64n _ (by omega)
      rw [adL_go h455] at hr
      have R1 : AdRel R 20000000000 wr (.int .i64 ((d / 35 : Nat) : Int)) (.int .i64 ((k : Int) + 36)) wr := ⟨d / 35, k + 36, rfl, by go_num, hr, by omega, rfl⟩
      have HR1 := hid R1
      have hless : d / 35 < d := by omega
      have HLE := hid hless
      clear R1 hr h455 hless
      generalize d / 35 = d2 at *
      go_wp2
      refine ⟨?_, by have := HLE.out; simp [intOf]; omega⟩
      first | exact HR1.out | ((repeat apply Exists.intro); exact ⟨HR1.out, rfl⟩)
    · have s1 : decide ((455 : Int) < (d : Int)) = false := dcF (by omega)
      rw [adL_stop h455] at hr
      have s2 : (36 * (d : Int)).tdiv ((d : Int) + 38) = ((36 * d / (d + 38) : Nat) : Int) := by rw [Int.tdiv_eq_ediv_of_nonneg (by omega)]; push_cast; rfl
      have s3 : (((d : Int) + 38) == 0) = false := by simp; omega
      have s3' : (((d : Int) + 38) = 0) = False := by simp; omega
      have hq : 36 * d / (d + 38) ≤ 36 := Nat.div_le_of_le_mul (by rw [Nat.mul_comm]; exact Nat.mul_le_mul_right _ (by omega))
      have s4 : IntKind.i64.wrap (36 * (d : Int)) = 36 * (d : Int) := i64n _ (by omega)
      have s5 : IntKind.i64.wrap ((d : Int) + 38) = (d : Int) + 38 := i64n _ (by omega)
      have s6 : IntKind.i64.wrap ((36 * d / (d + 38) : Nat) : Int) = ((36 * d / (d + 38) : Nat) : Int) := i64n _ (by omega)
      have HRR : Hid ((R : Int) = (k : Int) + ((36 * d / (d + 38) : Nat) : Int)) := hid (by omega)
      clear hr h455
      generalize 36 * d / (d + 38) = x at *
      have s7 : IntKind.i64.wrap ((k : Int) + (x : Int)) = (k : Int) + (x : Int) := i64n _ (by omega)
      go_wp2
      go_ret
      exact ⟨i64_ret HRR.out.symm, rfl⟩
theorem dig_at (x : Nat) (hx : x < 36) (W : World) : (Instr.index 9 (.string ⟨#[97, 98, 99, 100, 101, 102, 103, 104, 105, 106, 107, 108, 109, 110, 111, 112, 113, 114, 115, 116, 117, 118, 119, 120, 121, 122, 48, 49, 50, 51, 52, 53, 54, 55, 56, 57]⟩) (.int .i64 (x : Int))).run Tryz.prog W = .ok (.int .u8 (digN x : Nat)) W := by
 have hz : (⟨#[97, 98, 99, 100, 101, 102, 103, 104, 105, 106, 107, 108, 109, 110, 111, 112, 113, 114, 115, 116, 117, 118, 119, 120, 121, 122, 48, 49, 50, 51, 52, 53, 54, 55, 56, 57]⟩ : ByteArray).size = 36 := rfl
 have key : ∀ i : Fin 36, ((⟨#[97, 98, 99, 100, 101, 102, 103, 104, 105, 106, 107, 108, 109, 110, 111, 112, 113, 114, 115, 116, 117, 118, 119, 120, 121, 122, 48, 49, 50, 51, 52, 53, 54, 55, 56, 57]⟩ : ByteArray)[i.val]'(show i.val < (⟨#[97, 98, 99, 100, 101, 102, 103, 104, 105, 106, 107, 108, 109, 110, 111, 112, 113, 114, 115, 116, 117, 118, 119, 120, 121, 122, 48, 49, 50, 51, 52, 53, 54, 55, 56, 57]⟩ : ByteArray).size from i.isLt)).toNat = digN i.val := by decide +kernel
 rw [run_index_string _ _ _ _ _ Tryz.underlying9, dif_pos ⟨by omega, by rw [hz]; omega⟩]
 have := key ⟨x, hx⟩
 simp only [Int.toNat_natCast]
 rw [this]
def vaV (c : Nat) : Int := if valN c < 36 then valN c else -1
theorem dig_val : ∀ c : Fin 256, ¬ (65 ≤ c.val ∧ c.val ≤ 90) → ∀ j : Fin 36, (digN j.val = c.val ↔ valN c.val = j.val) := by decide +kernel
def VaRel (c : Nat) (w : World) (iv : Value) (wr : World) : Prop := ∃ j : Nat, iv = .int .i64 j ∧ j ≤ 36 ∧ (∀ i, i < j → valN c ≠ i) ∧ wr = w
theorem rvalue9_any (c : Nat) (w : World) (hc : c < 256) : Calls Tryz.prog 256 #[.int .u8 c] w fun e w' => e = .returned (.int .i64 (vaV c)) ∧ w' = w := by
 by_cases hA : 65 ≤ c ∧ c ≤ 90
 · have hv : vaV c = ((c - 65 : Nat) : Int) := by
     have h1 : ∀ c : Fin 256, 65 ≤ c.val ∧ c.val ≤ 90 → valN c.val = c.val - 65 := by decide +kernel
     have := h1 ⟨c, hc⟩ hA
     simp only at this
     unfold vaV
     rw [this, if_pos (by omega)]
   obtain ⟨d, hd⟩ : ∃ d, c - 65 = d := ⟨_, rfl⟩
   rw [hv, hd]
   have t1 : decide ((65 : Int) ≤ (c : Int)) = true := dcT (by omega)
   have t2 : decide ((c : Int) ≤ 90) = true := dcT (by omega)
   have q : IntKind.u8.wrap ((c : Int) - 65) = (d : Nat) := by rw [IntWalk.u8_in _ (by omega)]; omega
   have q2 : IntKind.i64.wrap (d : Int) = d := i64n _ (by omega)
   clear hv hd hA hc
   go_enter Tryz.func256, Tryz.ntmps256
   go_wp2
   go_ret
   exact ⟨rfl, rfl⟩
 · have DV := hid (dig_val ⟨c, hc⟩ hA)
   have DA := hid dig_at
   obtain ⟨V, hV⟩ : ∃ V, vaV c = V := ⟨_, rfl⟩
   rw [hV]
   have HV := hid hV
   have hq : (decide ((65 : Int) ≤ (c : Int)) = true ∧ decide ((c : Int) ≤ 90) = false) ∨ decide ((65 : Int) ≤ (c : Int)) = false := by
    by_cases h : 65 ≤ c
    · exact .inl ⟨dcT (by omega), dcF (by omega)⟩
    · exact .inr (dcF (by omega))
   clear hA hV
   rcases hq with ⟨t1, t2⟩ | t1
   all_goals
    go_enter Tryz.func256, Tryz.ntmps256
    go_wp2_with fail
    go_loopw [3] (VaRel c w) (fun i _ => 36 - (intOf i).toNat)
    case atStart => exact ⟨0, rfl, by omega, fun i hi => by omega, rfl⟩
    case round =>
     obtain ⟨j, rfl, hj, hno, rfl⟩ := hrel
     have HNO := hid hno
     clear hno
     by_cases hlt : j < 36
     · have s1 : decide ((j : Int) < 36) = true := dcT (by omega)
       have s1' : decide (j < 36) = true := dcT hlt
       have q1 := inc j (by omega)
       have ix := DA.out j hlt
       have hdv := DV.out ⟨j, hlt⟩
       simp only at hdv
       obtain ⟨g, hg⟩ : ∃ g, digN j = g := ⟨_, rfl⟩
       rw [hg] at ix hdv
       by_cases he : g = c
       · have hvc := hdv.1 he
         have hVj : V = (j : Nat) := by rw [← HV.out]; unfold vaV; rw [hvc, if_pos hlt]
         subst he
         clear hdv hvc hg hlt hj
         go_wp2
         go_ret
         exact ⟨i64_ret hVj.symm, rfl⟩
       · have s2 : ((g : Int) == (c : Int)) = false := bneI.2 (by omega)
         have R1 : VaRel c wr (.int .i64 ((j : Int) + 1)) wr := ⟨j + 1, by go_num, hlt, fun i hi => by
          by_cases e : i = j
          · subst e; exact fun e2 => he (hdv.2 e2)
          · exact HNO.out i (by omega), rfl⟩
         have HR1 := hid R1
         clear R1 hdv he hg hj
         go_wp2
         refine ⟨?_, by simp [intOf]; omega⟩
         first | exact HR1.out | ((repeat apply Exists.intro); exact ⟨HR1.out, rfl⟩)
     · have s1 : decide ((j : Int) < 36) = false := dcF (by omega)
       have s1' : decide (j < 36) = false := dcF hlt
       have hVn : V = -1 := by
        rw [← HV.out]; unfold vaV
        have hj36 : j = 36 := by omega
        rw [if_neg (fun h : valN c < 36 => HNO.out (valN c) (by rw [hj36]; exact h) rfl)]
       clear hlt hj
       go_wp2
       go_ret
       exact ⟨i64_ret hVn.symm, rfl⟩
end
section
open Go.RowKit
def nxI (cs : List Nat) (n : Nat) : Int := match nextN cs n with
 | some m => (m : Nat)
 | none => -1
theorem nextN_snoc (l : List Nat) (c n : Nat) : nextN (l ++ [c]) n = if n ≤ c then (match nextN l n with
    | none => some c
    | some m => if c < m then some c else some m) else nextN l n := by
 unfold nextN
 rw [List.filter_append]
 by_cases h : n ≤ c
 · rw [if_pos h]
   have e : List.filter (fun c => decide (n ≤ c)) [c] = [c] := by simp [h]
   rw [e]
   cases hm : (l.filter fun c => decide (n ≤ c)).min? with
   | none =>
     rw [List.min?_eq_none_iff] at hm
     rw [hm]; rfl
   | some m =>
     rw [List.min?_eq_some_iff] at hm
     simp only
     split
     · rw [List.min?_eq_some_iff]
       refine ⟨by simp, fun d hd => ?_⟩
       rcases List.mem_append.1 hd with hd | hd
       · have := hm.2 d hd; omega
       · have := List.mem_singleton.1 hd; omega
     · rw [List.min?_eq_some_iff]
       refine ⟨by simp [hm.1], fun d hd => ?_⟩
       rcases List.mem_append.1 hd with hd | hd
       · exact hm.2 d hd
       · have := List.mem_singleton.1 hd; omega
 · rw [if_neg h]
   have e : List.filter (fun c => decide (n ≤ c)) [c] = [] := by simp [h]
   rw [e, List.append_nil]
def RnRel (cs : List Nat) (n : Nat) (w : World) (bv iv : Value) (wr : World) : Prop := ∃ j : Nat, iv = .int .i64 j ∧ j ≤ cs.length ∧ bv = .int .i64 (nxI (cs.take j) n) ∧ wr = w
theorem rnext9_any (v : Value) (cs : List Nat) (n : Nat) (w : World) (h : Rd (Own w) w v (intsD cs)) (hl : cs.length ≤ 1000000) :
    Calls Tryz.prog 235 #[v, .int .i64 n] w fun e w' => e = .returned (.int .i64 (nxI cs n)) ∧ w' = w := by
 obtain ⟨a, c, rfl, _, hcap, hx⟩ := h.nats_inv
 have hcell : ∀ j, j < cs.length → ∃ b o, a = some ⟨b, o, none⟩ ∧ w.cell? ⟨b, o + j, none⟩ = some (.int .i64 (cs[j]?.getD 0 : Nat)) := fun j hj => by
  obtain ⟨b, o, rfl, _, hk⟩ := hx (by omega)
  exact ⟨b, o, rfl, by rw [List.getElem?_eq_getElem hj]; exact hk j hj⟩
 obtain ⟨N, hN⟩ : ∃ N, cs.length = N := ⟨_, rfl⟩
 have HX := hid hcell; have HN := hid hN
 have HR : Hid (∀ j, j < N → nxI (cs.take (j + 1)) n = (if n ≤ cs[j]?.getD 0 then (if nxI (cs.take j) n < 0 then ((cs[j]?.getD 0 : Nat) : Int) else if ((cs[j]?.getD 0 : Nat) : Int) < nxI (cs.take j) n then ((cs[j]?.getD 0 : Nat) : Int) else nxI (cs.take j) n) else nxI (cs.take j) n)) := hid (fun j hj => by
  have hj' : j < cs.length := by omega
  rw [List.take_add_one, List.getElem?_eq_getElem hj', Option.toList_some, Option.getD_some]
  unfold nxI
  rw [nextN_snoc]
  by_cases h1 : n ≤ cs[j]
  · rw [if_pos h1, if_pos h1]
    cases nextN (cs.take j) n with
    | none => simp
    | some m =>
      dsimp only
      rw [if_neg (show ¬ ((m : Nat) : Int) < 0 by omega)]
      by_cases h2 : cs[j] < m
      · rw [if_pos h2, if_pos (show ((cs[j] : Nat) : Int) < (m : Int) by omega)]
      · rw [if_neg h2, if_neg (show ¬ ((cs[j] : Nat) : Int) < (m : Int) by omega)]
  · rw [if_neg h1, if_neg h1])
 have HT : Hid (nxI (cs.take N) n = nxI cs n) := hid (by rw [← hN, List.take_length])
 rw [hN] at hl ⊢
 clear h hx hcell hN
 go_enter Tryz.func235, Tryz.ntmps235
 go_wp2_with fail
 go_loopw [5, 6] (RnRel cs n w) (fun _ i _ => N - (intOf i).toNat)
 case atStart => exact ⟨0, rfl, Nat.zero_le _, rfl, rfl⟩
 case round =>
  obtain ⟨j, rfl, hj, rfl, rfl⟩ := hrel
  rw [HN.out] at hj
  by_cases hlt : j < N
  · obtain ⟨t1, t1'⟩ := ltT j N hlt
    have q1 := inc j (by omega)
    obtain ⟨b, o, rfl, hc⟩ := HX.out j (by rw [HN.out]; exact hlt)
    have hs := HR.out j hlt
    obtain ⟨x, hxx⟩ : ∃ x, cs[j]?.getD 0 = x := ⟨_, rfl⟩
    rw [hxx] at hc hs
    obtain ⟨B, hB⟩ : ∃ B, nxI (cs.take j) n = B := ⟨_, rfl⟩
    rw [hB] at hs ⊢
    have hjN : j + 1 ≤ N := hlt
    have R1 : ∀ B', nxI (cs.take (j + 1)) n = B' → RnRel cs n wr (.int .i64 B') (.int .i64 ((j : Int) + 1)) wr := fun B' h => ⟨j + 1, by go_num, by rw [HN.out]; exact hjN, by rw [h], rfl⟩
    have HR1 := hid R1
    clear R1 hxx hB
    by_cases h1 : n ≤ x
    · have t2 : decide ((n : Int) ≤ (x : Int)) = true := dcT (by omega)
      have t2' : decide (n ≤ x) = true := dcT h1
      rw [if_pos h1] at hs
      by_cases h2 : B < 0
      · have t3 : decide (B < 0) = true := dcT h2
        rw [if_pos h2] at hs
        have HF := hid (HR1.out _ hs)
        clear hs h1 h2
        go_wp2
        refine ⟨?_, by simp [intOf]; omega⟩
        first | exact HF.out | ((repeat apply Exists.intro); exact ⟨HF.out, rfl⟩)
      · have t3 : decide (B < 0) = false := dcF h2
        rw [if_neg h2] at hs
        by_cases h3 : (x : Int) < B
        · have t4 : decide ((x : Int) < B) = true := dcT h3
          rw [if_pos h3] at hs
          have HF := hid (HR1.out _ hs)
          clear hs h1 h2 h3
          go_wp2
          refine ⟨?_, by simp [intOf]; omega⟩
          first | exact HF.out | ((repeat apply Exists.intro); exact ⟨HF.out, rfl⟩)
        · have t4 : decide ((x : Int) < B) = false := dcF h3
          rw [if_neg h3] at hs
          have HF := hid (HR1.out _ hs)
          clear hs h1 h2 h3
          go_wp2
          refine ⟨?_, by simp [intOf]; omega⟩
          first | exact HF.out | ((repeat apply Exists.intro); exact ⟨HF.out, rfl⟩)
    · have t2 : decide ((n : Int) ≤ (x : Int)) = false := dcF (by omega)
      have t2' : decide (n ≤ x) = false := dcF h1
      rw [if_neg h1] at hs
      have HF := hid (HR1.out _ hs)
      clear hs h1
      go_wp2
      refine ⟨?_, by simp [intOf]; omega⟩
      first | exact HF.out | ((repeat apply Exists.intro); exact ⟨HF.out, rfl⟩)
  · obtain ⟨t1, t1'⟩ := ltF j N hlt
    obtain rfl : j = N := by omega
    obtain ⟨B, hB⟩ : ∃ B, nxI (cs.take j) n = B := ⟨_, rfl⟩
    have HT2 := hid (HT.out.symm.trans hB)
    rw [hB]
    clear hB hlt
    go_wp2
    first
    | exact ⟨by rw [HT2.out]; rfl, rfl⟩
    | (go_ret; exact ⟨by rw [HT2.out]; rfl, rfl⟩)
theorem results_tmp4 {fn : Func} {t u v x : Tmp} (h : fn.results = #[.tmp t, .tmp u, .tmp v, .tmp x]) (tmps : Array Value) (P : Program) (w : World) :
    (results fn tmps).run P w = .ok (.tuple #[tmps.getD t undef, tmps.getD u undef, tmps.getD v undef, tmps.getD x undef]) w := by
 simp [results, h]
def RuV (r : Sc (Nat × Nat)) : Value := match r with
 | .ok x => .tuple #[.int .i64 (x.1 : Nat), .int .i64 (x.2 : Nat), .int .i64 0, .int .i64 0]
 | .no k p => .tuple #[.int .i64 0, .int .i64 0, .int .i64 (k : Nat), .int .i64 p]
def RuRel (s : ByteArray) (b : Nat) (R : Sc (Nat × Nat)) (w : World) (av nv wv kv : Value) (wr : World) : Prop := ∃ f at_ n wt k : Nat, av = .int .i64 at_ ∧ nv = .int .i64 n ∧ wv = .int .i64 wt ∧ kv = .int .i64 k ∧ at_ ≤ s.size ∧ s.size - at_ < f ∧ n ≤ 2147483647 ∧ wt ≤ 2147483647 ∧ k ≤ 36 + 36 * at_ ∧ rnumF s b f at_ n wt k = R ∧ wr = w
theorem rnumber9_any (s : ByteArray) (at_ b : Nat) (w : World) (hs : s.size ≤ 1000000) (ha : at_ ≤ s.size) (hb : b ≤ 1000000000000) :
    Calls Tryz.prog 233 #[.string s, .int .i64 at_, .int .i64 b] w fun e w' => e = .returned (RuV (rnumS s b at_)) ∧ w' = w := by
 obtain ⟨R, hR⟩ : ∃ R, rnumS s b at_ = R := ⟨_, rfl⟩
 rw [hR]
 have H0 : Hid (RuRel s b R w (.int .i64 at_) (.int .i64 0) (.int .i64 1) (.int .i64 36) w) := hid ⟨s.size - at_ + 1, at_, 0, 1, 36, rfl, rfl, rfl, rfl, ha, by omega, by omega, by omega, by omega, hR, rfl⟩
 obtain ⟨Q, hQ⟩ : ∃ Q : Ending → World → Prop, (fun e w' => e = .returned (RuV R) ∧ w' = w) = Q := ⟨_, rfl⟩
 have HQ : Hid (∀ R', R = R' → Q (.returned (RuV R')) w) := hid (fun R' h => by rw [← hQ, h]; exact ⟨rfl, rfl⟩)
 rw [hQ]
 clear hR ha hQ
 go_enter Tryz.func233, Tryz.ntmps233
 go_wp2_with fail
 go_loopw [1, 10, 11, 12] (RuRel s b R w) (fun a _ _ _ _ => s.size - (intOf a).toNat)
 case atStart => exact H0.out
 case round =>
  obtain ⟨f, at2, n, wt, k, rfl, rfl, rfl, rfl, hat, hf, hn, hw, hk, hr, rfl⟩ := hrel
  obtain ⟨g, rfl⟩ : ∃ g, f = g + 1 := ⟨f - 1, by omega⟩
  rw [rnumF] at hr
  by_cases he : at2 = s.size
  · subst he
    have t1 : ((s.size : Int) == (s.size : Int)) = true := by simp
    rw [if_pos rfl] at hr
    have HF := hid (HQ.out _ hr.symm)
    unfold RuV at HF
    clear hr
    go_wp2
    (try simp only [Exit.inBlock, Exit.then]); refine bodyPost_ret (results_tmp4 rfl _ _ _) rfl ?_; exact HF.out
  · have t1 : ((at2 : Int) == (s.size : Int)) = false := bneI.2 (by omega)
    rw [if_neg he] at hr
    have hlt : at2 < s.size := by omega
    have hgb := byteAt_get s at2 hlt
    have hc256 := byteAt_lt s at2
    obtain ⟨x, hx⟩ : ∃ x, byteAt s at2 = x := ⟨_, rfl⟩
    rw [hx] at hgb hr hc256
    have hgx := hgb.symm
    have VA := hid (rvalue9_any x wr hc256)
    have THR := hid (rthr_any k b wr (by omega) hb)
    have hth1 := thrN_ge k b
    have hth2 := thrN_le k b
    obtain ⟨th, hth⟩ : ∃ th, thrN k b = th := ⟨_, rfl⟩
    rw [hth] at hr hth1 hth2 THR
    have u1' : decide (at2 < s.size) = true := dcT hlt
    clear hgb hx hth he
    by_cases hv : 36 ≤ valN x
    · rw [if_pos hv] at hr
      have hva : vaV x = -1 := by unfold vaV; rw [if_neg (by omega)]
      rw [hva] at VA
      have HF := hid (HQ.out _ hr.symm)
      unfold RuV at HF
      clear hr hv hva
      go_wp2_with fail
      refine VA.out.mono ?_
      rintro e w1 ⟨rfl, hw1⟩
      have hw' := hw1.symm
      subst hw'
      clear hw1
      go_wp2
      (try simp only [Exit.inBlock, Exit.then]); refine bodyPost_ret (results_tmp4 rfl _ _ _) rfl ?_; exact HF.out
    · rw [if_neg hv] at hr
      have hva : vaV x = ((valN x : Nat) : Int) := by unfold vaV; rw [if_pos (by omega)]
      rw [hva] at VA
      obtain ⟨d, hd⟩ : ∃ d, valN x = d := ⟨_, rfl⟩
      rw [hd] at hr VA hv
      clear hva hd
      have t2 : decide ((d : Int) < 0) = false := dcF (by omega)
      have hm1 : d * wt ≤ 35 * 2147483647 := Nat.mul_le_mul (by omega) hw
      obtain ⟨m1, hm⟩ : ∃ m, d * wt = m := ⟨_, rfl⟩
      rw [hm] at hr hm1
      have k1 : IntKind.i64.wrap ((d : Int) * (wt : Int)) = (m1 : Int) := by
       have e : (d : Int) * (wt : Int) = (m1 : Int) := by rw [← hm]; push_cast; rfl
       rw [e]; exact i64n _ (by omega)
      have k2 : IntKind.i64.wrap ((n : Int) + (m1 : Int)) = (n : Int) + (m1 : Int) := i64n _ (by omega)
      clear hm
      by_cases ho : 2147483647 < n + m1
      · rw [if_pos ho] at hr
        have t3 : decide ((2147483647 : Int) < (n : Int) + (m1 : Int)) = true := dcT (by omega)
        have HF := hid (HQ.out _ hr.symm)
        unfold RuV at HF
        clear hr hv ho hm1
        go_wp2_with fail
        refine VA.out.mono ?_
        rintro e w1 ⟨rfl, hw1⟩
        have hw' := hw1.symm
        subst hw'
        clear hw1
        go_wp2
        (try simp only [Exit.inBlock, Exit.then]); refine bodyPost_ret (results_tmp4 rfl _ _ _) rfl ?_; exact HF.out
      · rw [if_neg ho] at hr
        have t3 : decide ((2147483647 : Int) < (n : Int) + (m1 : Int)) = false := dcF (by omega)
        by_cases hdt : d < th
        · rw [if_pos hdt] at hr
          obtain ⟨t4, t4'⟩ := ltT d th hdt
          have k3 := inc at2 (by omega)
          have HF := hid (HQ.out _ hr.symm)
          unfold RuV at HF
          simp only [Int.natCast_add, Int.natCast_one] at HF
          clear hr hv ho hm1 hdt
          go_wp2_with fail
          refine VA.out.mono ?_
          rintro e w1 ⟨rfl, hw1⟩
          have hw' := hw1.symm
          subst hw'
          clear hw1
          go_wp2_with fail
          refine THR.out.mono ?_
          rintro e w1 ⟨rfl, rfl⟩
          go_wp2
          (try simp only [Exit.inBlock, Exit.then]); refine bodyPost_ret (results_tmp4 rfl _ _ _) rfl ?_; exact HF.out
        · rw [if_neg hdt] at hr
          obtain ⟨t4, t4'⟩ := ltF d th hdt
          have hm2 : wt * (36 - th) ≤ 2147483647 * 35 := Nat.mul_le_mul hw (by omega)
          obtain ⟨m2, hm⟩ : ∃ m, wt * (36 - th) = m := ⟨_, rfl⟩
          rw [hm] at hr hm2
          have k4 : IntKind.i64.wrap (36 - (th : Int)) = 36 - (th : Int) := i64n _ (by omega)
          have k5 : IntKind.i64.wrap ((wt : Int) * (36 - (th : Int))) = (m2 : Int) := by
           have e : (wt : Int) * (36 - (th : Int)) = (m2 : Int) := by
            rw [← hm]; push_cast
            rw [Int.ofNat_sub (by omega)]; rfl
           rw [e]; exact i64n _ (by omega)
          clear hm
          by_cases ho2 : 2147483647 < m2
          · rw [if_pos ho2] at hr
            have t5 : decide ((2147483647 : Int) < (m2 : Int)) = true := dcT (by omega)
            have HF := hid (HQ.out _ hr.symm)
            unfold RuV at HF
            clear hr hv ho hm1 hdt ho2 hm2
            go_wp2_with fail
            refine VA.out.mono ?_
            rintro e w1 ⟨rfl, hw1⟩
            have hw' := hw1.symm
            subst hw'
            clear hw1
            go_wp2_with fail
            refine THR.out.mono ?_
            rintro e w1 ⟨rfl, rfl⟩
            go_wp2
            (try simp only [Exit.inBlock, Exit.then]); refine bodyPost_ret (results_tmp4 rfl _ _ _) rfl ?_; exact HF.out
          · rw [if_neg ho2] at hr
            have t5 : decide ((2147483647 : Int) < (m2 : Int)) = false := dcF (by omega)
            have k3 := inc at2 (by omega)
            have k6 : IntKind.i64.wrap ((k : Int) + 36) = (k : Int) + 36 := i64n _ (by omega)
            have R1 : RuRel s b R wr (.int .i64 ((at2 : Int) + 1)) (.int .i64 ((n : Int) + (m1 : Int))) (.int .i64 (m2 : Int)) (.int .i64 ((k : Int) + 36)) wr := ⟨g, at2 + 1, n + m1, m2, k + 36, by go_num, by go_num, rfl, by go_num, hlt, by omega, by omega, by omega, by omega, hr, rfl⟩
            have HR1 := hid R1
            clear R1 hr hv ho hm1 hdt ho2 hm2
            go_wp2_with fail
            refine VA.out.mono ?_
            rintro e w1 ⟨rfl, hw1⟩
            have hw' := hw1.symm
            subst hw'
            clear hw1
            go_wp2_with fail
            refine THR.out.mono ?_
            rintro e w1 ⟨rfl, rfl⟩
            go_wp2
            refine ⟨?_, by simp [intOf]; omega⟩
            first | exact HR1.out | ((repeat apply Exists.intro); exact ⟨HR1.out, rfl⟩)
end
end Go.Proofs.YtbeodjipdpcaiaaGreatDoor
