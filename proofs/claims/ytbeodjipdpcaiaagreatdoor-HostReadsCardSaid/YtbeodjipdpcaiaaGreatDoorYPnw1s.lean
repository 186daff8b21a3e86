/- Texts put together. -/
import Derived.Test.YtbeodjipdpcaiaaGreatDoorYPun0s
import Derived.Test.YtbeodjipdpcaiaaGreatDoorYErrs1s
import Derived.Test.YtbeodjipdpcaiaaGreatDoorYScan4sf
import Derived.Test.YtbeodjipdpcaiaaGreatDoorYQuo3sf
import Derived.Test.YtbeodjipdpcaiaaGreatDoorYFow1s
import Derived.BigQuiet
set_option maxRecDepth 100000
set_option maxHeartbeats 4000000
namespace Go.Proofs.YtbeodjipdpcaiaaGreatDoor
section
open Go.RowKit
theorem i64_ret {a b : Int} (h : a = b) : Ending.returned (.int .i64 a) = .returned (.int .i64 b) := by rw [h]
theorem u8_ret {a b : Int} (h : a = b) : Ending.returned (.int .u8 a) = .returned (.int .u8 b) := by rw [h]
theorem thr_any (k bias : Nat) (w : World) (hk : k ≤ 1000000000000) (hb : bias ≤ 1000000000000) : Calls Tryz.prog 248 #[.int .i64 k, .int .i64 bias] w fun e w' => e = .returned (.int .i64 (thrN k bias)) ∧ w = w' := by
 have q1 : IntKind.i64.wrap ((k : Int) - (bias : Int)) = (k : Int) - (bias : Int) := i64n _ (by omega)
 have HE : Hid (((thrN k bias : Nat) : Int) = min (max ((k : Int) - (bias : Int)) 1) 26) := hid (by unfold thrN; omega)
 clear hk hb
 go_enter Tryz.func248, Tryz.ntmps248
 go_wp2
 all_goals
  go_ret
  exact ⟨i64_ret (by have := HE.out; omega), rfl⟩
theorem pdigit_any (n : Nat) (w : World) (hn : n < 36) : Calls Tryz.prog 249 #[.int .i64 n] w fun e w' => e = .returned (.int .u8 (digN n)) ∧ w = w' := by
 by_cases h : n < 26
 · have t1 : decide ((n : Int) < 26) = true := dcT (by omega)
   have HE : Hid (digN n = 97 + n) := hid (by unfold digN; rw [if_pos h])
   go_enter Tryz.func249, Tryz.ntmps249
   go_wp2
   go_ret
   exact ⟨by rw [HE.out]; first | rfl | (apply u8_ret; first | omega | (simp; omega)), rfl⟩
 · have t1 : decide ((n : Int) < 26) = false := dcF (by omega)
   have HE : Hid (digN n = 22 + n) := hid (by unfold digN; rw [if_neg h])
   go_enter Tryz.func249, Tryz.ntmps249
   go_wp2
   go_ret
   exact ⟨by rw [HE.out]; first | rfl | (apply u8_ret; first | omega | (simp; omega)), rfl⟩
def pvV (c : Nat) : Value := if valN c < 36 then .tuple #[.int .i64 (valN c), .bool true] else .tuple #[.int .i64 0, .bool false]
theorem tup_ib {a b : Int} {x y : Bool} (h : a = b) (h2 : x = y) : Ending.returned (.tuple #[.int .i64 a, .bool x]) = .returned (.tuple #[.int .i64 b, .bool y]) := by rw [h, h2]
theorem pvalue_any (c : Nat) (w : World) (hc : c < 256) : Calls Tryz.prog 253 #[.int .u8 c] w fun e w' => e = .returned (pvV c) ∧ w = w' := by
 by_cases h1 : 65 ≤ c ∧ c ≤ 90
 · have t1 : decide ((65 : Int) ≤ (c : Int)) = true := dcT (by omega)
   have t2 : decide ((c : Int) ≤ 90) = true := dcT (by omega)
   have HE : Hid (pvV c = .tuple #[.int .i64 (c - 65 : Nat), .bool true]) := hid (by unfold pvV; rw [show valN c = c - 65 by unfold valN; rw [if_pos h1], if_pos (by omega)])
   go_enter Tryz.func253, Tryz.ntmps253
   go_wp2
   go_ret2
   exact ⟨by rw [HE.out]; first | rfl | (apply tup_ib (by omega) rfl), rfl⟩
 · by_cases h2 : 97 ≤ c ∧ c ≤ 122
   · have t1 : decide ((65 : Int) ≤ (c : Int)) = true := dcT (by omega)
     have t2 : decide ((c : Int) ≤ 90) = false := dcF (by omega)
     have t3 : decide ((97 : Int) ≤ (c : Int)) = true := dcT (by omega)
     have t4 : decide ((c : Int) ≤ 122) = true := dcT (by omega)
     have HE : Hid (pvV c = .tuple #[.int .i64 (c - 97 : Nat), .bool true]) := hid (by unfold pvV; rw [show valN c = c - 97 by unfold valN; rw [if_neg h1, if_pos h2], if_pos (by omega)])
     go_enter Tryz.func253, Tryz.ntmps253
     go_wp2
     go_ret2
     exact ⟨by rw [HE.out]; first | rfl | (apply tup_ib (by omega) rfl), rfl⟩
   · by_cases h3 : 48 ≤ c ∧ c ≤ 57
     · have t1 : decide ((65 : Int) ≤ (c : Int)) = false := dcF (by omega)
       have t3 : decide ((97 : Int) ≤ (c : Int)) = false := dcF (by omega)
       have t5 : decide ((48 : Int) ≤ (c : Int)) = true := dcT (by omega)
       have t6 : decide ((c : Int) ≤ 57) = true := dcT (by omega)
       have HE : Hid (pvV c = .tuple #[.int .i64 (c - 22 : Nat), .bool true]) := hid (by unfold pvV; rw [show valN c = c - 22 by unfold valN; rw [if_neg h1, if_neg h2, if_pos h3], if_pos (by omega)])
       go_enter Tryz.func253, Tryz.ntmps253
       go_wp2
       go_ret2
       exact ⟨by rw [HE.out]; first | rfl | (apply tup_ib (by omega) rfl), rfl⟩
     · have HE : Hid (pvV c = .tuple #[.int .i64 0, .bool false]) := hid (by unfold pvV; rw [show valN c = 99 by unfold valN; rw [if_neg h1, if_neg h2, if_neg h3], if_neg (by omega)])
       have q : (decide ((65 : Int) ≤ (c : Int)) = false ∨ decide ((65 : Int) ≤ (c : Int)) = true ∧ decide ((c : Int) ≤ 90) = false) := by
        by_cases h : 65 ≤ c
        · exact .inr ⟨dcT (by omega), dcF (by omega)⟩
        · exact .inl (dcF (by omega))
       have q' : (decide ((97 : Int) ≤ (c : Int)) = false ∨ decide ((97 : Int) ≤ (c : Int)) = true ∧ decide ((c : Int) ≤ 122) = false) := by
        by_cases h : 97 ≤ c
        · exact .inr ⟨dcT (by omega), dcF (by omega)⟩
        · exact .inl (dcF (by omega))
       have q2 : (decide ((48 : Int) ≤ (c : Int)) = false ∨ decide ((48 : Int) ≤ (c : Int)) = true ∧ decide ((c : Int) ≤ 57) = false) := by
        by_cases h : 48 ≤ c
        · exact .inr ⟨dcT (by omega), dcF (by omega)⟩
        · exact .inl (dcF (by omega))
       clear h1 h2 h3
       rcases q with q | ⟨q, p⟩
       all_goals rcases q' with q' | ⟨q', p'⟩
       all_goals rcases q2 with q2 | ⟨q2, p2⟩
       all_goals
        go_enter Tryz.func253, Tryz.ntmps253
        go_wp2
        go_ret2
        exact ⟨by rw [HE.out]; rfl, rfl⟩
def AdRel (R D : Nat) (w : World) (dv kv : Value) (wr : World) : Prop := ∃ d k : Nat, dv = .int .i64 d ∧ kv = .int .i64 k ∧ adL d k = R ∧ d + k ≤ D ∧ wr = w
theorem adapt_any (delta count : Nat) (first : Bool) (w : World) (hd : delta ≤ 10000000000) (hc : 1 ≤ count) (hc2 : count ≤ 1000000) :
    Calls Tryz.prog 223 #[.int .i64 delta, .int .i64 count, .bool first] w fun e w' => e = .returned (.int .i64 (adaptN delta count first)) ∧ w' = w := by
 have hle := adD_le delta count first
 have hR : adaptN delta count first = adL (adD delta count first) 0 := rfl
 obtain ⟨R, hRR⟩ : ∃ R, adaptN delta count first = R := ⟨_, rfl⟩
 rw [hRR] at hR ⊢
 have t1 : decide ((delta : Int) < 0) = false := dcF (by omega)
 have t2 : decide ((count : Int) < 1) = false := dcF (by omega)
 obtain ⟨h, hh⟩ : ∃ h, (if first then delta / 700 else delta / 2) = h := ⟨_, rfl⟩
 have hD : adD delta count first = h + h / count := by unfold adD; rw [hh]
 rw [hD] at hR hle
 have hhd : h ≤ delta := by rw [← hh]; split <;> omega
 have hq := Nat.div_le_self h count
 have td : (h : Int).tdiv (count : Int) = ((h / count : Nat) : Int) := by rw [Int.tdiv_eq_ediv_of_nonneg (by omega)]; rfl
 generalize h / count = x at *
 have t3 : ((count : Int) == 0) = false := by simp; omega
 have t3' : ((count : Int) = 0) = False := by simp; omega
 have t3'' : (count = 0) = False := by simp; omega
 have q0 : IntKind.i64.wrap (h : Int) = (h : Int) := i64n _ (by omega)
 have q1 : IntKind.i64.wrap (x : Int) = (x : Int) := i64n _ (by omega)
 have q2 : IntKind.i64.wrap ((h : Int) + (x : Int)) = (h : Int) + (x : Int) := i64n _ (by omega)
 have H0 : Hid (AdRel R 20000000000 w (.int .i64 ((h : Int) + (x : Int))) (.int .i64 0) w) := hid ⟨h + x, 0, by push_cast; rfl, rfl, hR.symm, by omega, rfl⟩
 have key : ∀ f : Bool, first = f → ((if f then (delta : Int).tdiv 700 else (delta : Int).tdiv 2) = (h : Int)) := fun f hf => by
  subst hf
  cases first with
  | true => rw [if_pos rfl] at hh ⊢; rw [Int.tdiv_eq_ediv_of_nonneg (by omega)]; omega
  | false => rw [if_neg (by decide)] at hh ⊢; rw [Int.tdiv_eq_ediv_of_nonneg (by omega)]; omega
 cases first with
 | true =>
   have k1 : (delta : Int).tdiv 700 = (h : Int) := key true rfl
   clear key hd hc hc2 hle hR hD hh hRR
   go_enter Tryz.func223, Tryz.ntmps223
   go_wp2_with fail
   clear k1 td t1 t2 t3 t3' t3'' q0 q1 q2
   go_loopw [0, 7] (AdRel R 20000000000 w) (fun d _ _ => (intOf d).toNat)
   case atStart => exact H0.out
   case round =>
    obtain ⟨d, k, rfl, rfl, hr, hdk, rfl⟩ := hrel
    by_cases h455 : 455 < d
    · have s1 : decide ((455 : Int) < (d : Int)) = true := dcT (by omega)
      have s2 : (d : Int).tdiv 35 = ((d / 35 : Nat) : Int) := by rw [Int.tdiv_eq_ediv_of_nonneg (by omega)]; rfl
      have s3 : IntKind.i64.wrap ((d / 35 : Nat) : Int) = ((d / 35 : Nat) : Int) := i64n _ (by omega)
      have s4 : IntKind.i64.wrap ((k : Int) + 36) = (k : Int) + 36 := i64n _ (by omega)
      rw [adL_go h455] at hr
      have R1 : AdRel R 20000000000 wr (.int .i64 ((d / 35 : Nat) : Int)) (.int .i64 ((k : Int) + 36)) wr := ⟨d / 35, k + 36, rfl, by go_num, hr, by omega, rfl⟩
      have HR1 := hid R1
      have hless : d / 35 < d := by omega
      have HLE := hid hless
      clear R1 hr h455 hless
      generalize d / 35 = d2 at *
      go_wp2
      refine ⟨?_, by have := HLE.out; simp [intOf]; omega⟩
      first | exact HR1.out | ((repeat apply Exists.intro); exact ⟨HR1.out, rfl⟩)
    · have s1 : decide ((455 : Int) < (d : Int)) = false := dcF (by omega)
      rw [adL_stop h455] at hr
      have s2 : (36 * (d : Int)).tdiv ((d : Int) + 38) = ((36 * d / (d + 38) : Nat) : Int) := by rw [Int.tdiv_eq_ediv_of_nonneg (by omega)]; push_cast; rfl
      have s3 : (((d : Int) + 38) == 0) = false := by simp; omega
      have s3' : (((d : Int) + 38) = 0) = False := by simp; omega
      have hq : 36 * d / (d + 38) ≤ 36 := Nat.div_le_of_le_mul (by rw [Nat.mul_comm]; exact Nat.mul_le_mul_right _ (by omega))
      have s4 : IntKind.i64.wrap (36 * (d : Int)) = 36 * (d : Int) := i64n _ (by omega)
      have s5 : IntKind.i64.wrap ((d : Int) + 38) = (d : Int) + 38 := i64n _ (by omega)
      have s6 : IntKind.i64.wrap ((36 * d / (d + 38) : Nat) : Int) = ((36 * d / (d + 38) : Nat) : Int) := i64n _ (by omega)
      have HRR : Hid ((R : Int) = (k : Int) + ((36 * d / (d + 38) : Nat) : Int)) := hid (by omega)
      clear hr h455
      generalize 36 * d / (d + 38) = x at *
      have s7 : IntKind.i64.wrap ((k : Int) + (x : Int)) = (k : Int) + (x : Int) := i64n _ (by omega)
      go_wp2
      go_ret
      exact ⟨i64_ret HRR.out.symm, rfl⟩
 | false =>
   have k1 : (delta : Int).tdiv 2 = (h : Int) := key false rfl
   clear key hd hc hc2 hle hR hD hh hRR
   go_enter Tryz.func223, Tryz.ntmps223
   go_wp2_with fail
   clear k1 td t1 t2 t3 t3' t3'' q0 q1 q2
   go_loopw [0, 7] (AdRel R 20000000000 w) (fun d _ _ => (intOf d).toNat)
   case atStart => exact H0.out
   case round =>
    obtain ⟨d, k, rfl, rfl, hr, hdk, rfl⟩ := hrel
    by_cases h455 : 455 < d
    · have s1 : decide ((455 : Int) < (d : Int)) = true := dcT (by omega)
      have s2 : (d : Int).tdiv 35 = ((d / 35 : Nat) : Int) := by rw [Int.tdiv_eq_ediv_of_nonneg (by omega)]; rfl
      have s3 : IntKind.i64.wrap ((d / 35 : Nat) : Int) = ((d / 35 : Nat) : Int) := i64n _ (by omega)
      have s4 : IntKind.i64.wrap ((k : Int) + 36) = (k : Int) + 36 := i64n _ (by omega)
      rw [adL_go h455] at hr
      have R1 : AdRel R 20000000000 wr (.int .i64 ((d / 35 : Nat) : Int)) (.int .i64 ((k : Int) + 36)) wr := ⟨d / 35, k + 36, rfl, by go_num, hr, by omega, rfl⟩
      have HR1 := hid R1
      have hless : d / 35 < d := by omega
      have HLE := hid hless
      clear R1 hr h455 hless
      generalize d / 35 = d2 at *
      go_wp2
      refine ⟨?_, by have := HLE.out; simp [intOf]; omega⟩
      first | exact HR1.out | ((repeat apply Exists.intro); exact ⟨HR1.out, rfl⟩)
    · have s1 : decide ((455 : Int) < (d : Int)) = false := dcF (by omega)
      rw [adL_stop h455] at hr
      have s2 : (36 * (d : Int)).tdiv ((d : Int) + 38) = ((36 * d / (d + 38) : Nat) : Int) := by rw [Int.tdiv_eq_ediv_of_nonneg (by omega)]; push_cast; rfl
      have s3 : (((d : Int) + 38) == 0) = false := by simp; omega
      have s3' : (((d : Int) + 38) = 0) = False := by simp; omega
      have hq : 36 * d / (d + 38) ≤ 36 := Nat.div_le_of_le_mul (by rw [Nat.mul_comm]; exact Nat.mul_le_mul_right _ (by omega))
      have s4 : IntKind.i64.wrap (36 * (d : Int)) = 36 * (d : Int) := i64n _ (by omega)
      have s5 : IntKind.i64.wrap ((d : Int) + 38) = (d : Int) + 38 := i64n _ (by omega)
      have s6 : IntKind.i64.wrap ((36 * d / (d + 38) : Nat) : Int) = ((36 * d / (d + 38) : Nat) : Int) := i64n _ (by omega)
      have HRR : Hid ((R : Int) = (k : Int) + ((36 * d / (d + 38) : Nat) : Int)) := hid (by omega)
      clear hr h455
      generalize 36 * d / (d + 38) = x at *
      have s7 : IntKind.i64.wrap ((k : Int) + (x : Int)) = (k : Int) + (x : Int) := i64n _ (by omega)
      go_wp2
      go_ret
      exact ⟨i64_ret HRR.out.symm, rfl⟩
end
section
open Go.RowKit
theorem byV_put {c : Nat} (h : rightN (c : Int) = true) : putC c = byV (bytesL (putN c)) := by
 have := byV_strOf (acc := [c]) (fun x hx => by rw [List.mem_singleton.1 hx]; exact h)
 rw [strOf_bytesL] at this
 simpa using this.symm
def PuOk (n : Nat) (w : World) (e : Ending) (w' : World) : Prop := ∃ v, e = .returned (.tuple #[v, .nilIface]) ∧ Rd (Own w') w' v (bytesDB (bytesL (putN n))) ∧ Below w.heap.size w w'
def PuNo (w : World) (e : Ending) (w' : World) : Prop := ∃ u, e = .returned (.tuple #[.slice none 0 0, u]) ∧ Er w' u [(16, 0)] ∧ Below w.heap.size w w'
theorem uput_no (c : Int) (w : World) (hr : rightN c = false) : Calls Tryz.prog 174 #[.int .i64 c] w (PuNo w) := by
 have UR := fun W => uright_any c W
 rw [hr] at UR
 have UR := hid UR
 clear hr
 go_enter Tryz.func174, Tryz.ntmps174
 go_wp2_with fail
 refine (UR.out _).mono ?_
 rintro e w1 ⟨rfl, rfl⟩
 go_wp2_with fail
 go_at_call 44
 refine (fail_any _ _ _).mono ?_
 rintro e w3 ⟨rfl, rfl⟩
 have HF := hid (failed_er (failed_of (w := w) (w0 := w) (k := 16) (i := 0) (Below.refl _ _) rfl))
 go_wp2
 go_ret2
 exact ⟨_, rfl, HF.out.1, HF.out.2⟩
theorem uput_ok (n : Nat) (w : World) (hr : rightN (n : Int) = true) : Calls Tryz.prog 174 #[.int .i64 n] w (PuOk n w) := by
 have UR := fun W => uright_any (n : Int) W
 have h3 := (right_iff (n : Int)).1 hr
 rw [hr] at UR
 have UR := hid UR
 have hn : n < 1114112 := by omega
 have HR := hid hr
 have q1 : IntKind.i32.wrap (n : Int) = (n : Int) := by
  have : (n : Int) < 2147483648 := by omega
  simp [IntKind.wrap_i32]; omega
 have AR := hid (Tryz.utf8_AppendRune_plain w.heap.size (.slice none 0 0) 0 [] (n : Int) (by omega) (by omega) w (World.ownsRow_nil _ _ _ _) (by omega) (Nat.le_refl _))
 clear hr h3
 go_enter Tryz.func174, Tryz.ntmps174
 go_wp2_with fail
 refine (UR.out _).mono ?_
 rintro e w1 ⟨rfl, rfl⟩
 go_wp2_with fail
 refine AR.out.mono ?_
 rintro e w2 ⟨v, rfl, ho, o, hg⟩
 have hb : Below w.heap.size w w2 := (ext_alloc (Below.refl _ _) o).grown hg (by simp) (fun k hk => by simp [Value.ownBlock] at hk)
 have hv : Rd (Own w2) w2 v (bytesDB (bytesL (putN n))) := by
  rw [rune_put HR.out, byV_put HR.out] at ho
  rw [bytesDB_eq]
  have ho2 : w2.ownsRow w.heap.size 5 1 v (bytesL (putN n)).size (byV (bytesL (putN n))) := by
   rw [byV_length] at ho; simpa using ho
  exact rd_owned ho2 (byV_rds _) (fun g hg => (ho2.lt g hg).2)
 have HB := hid hb; have HV := hid hv
 clear hb hv ho hg
 go_wp2
 go_ret2
 exact ⟨_, rfl, HV.out, HB.out⟩
theorem pright_any (c : Int) (w : World) : Calls Tryz.prog 217 #[.int .i64 c] w fun e w' => e = .returned (.bool (rightN c)) ∧ Below w.heap.size w w' := by
 cases hr : rightN c with
 | false =>
   have UP := hid (uput_no c w hr)
   clear hr
   go_enter Tryz.func217, Tryz.ntmps217
   go_wp2_with fail
   refine UP.out.mono ?_
   rintro e w1 ⟨u, rfl, he, hb⟩
   obtain ⟨b, off, uu, rfl, _⟩ := fault_inv he
   have HB := hid hb
   clear hb he
   go_wp2
   go_ret
   exact ⟨rfl, HB.out⟩
 | true =>
   have h3 := (right_iff c).1 hr
   obtain ⟨n, rfl⟩ : ∃ n : Nat, c = n := ⟨c.toNat, by omega⟩
   have UP := hid (uput_ok n w hr)
   clear hr h3
   go_enter Tryz.func217, Tryz.ntmps217
   go_wp2_with fail
   refine UP.out.mono ?_
   rintro e w1 ⟨v, rfl, hv, hb⟩
   have HB := hid hb
   clear hb hv
   go_wp2
   go_ret
   exact ⟨rfl, HB.out⟩
def u8L (l : List Nat) : List UInt8 := l.map UInt8.ofNat
theorem u8L_app (a b : List Nat) : u8L (a ++ b) = u8L a ++ u8L b := List.map_append
theorem u8_of {n : Nat} (h : n < 256) : ∃ c : UInt8, c.toNat = n ∧ UInt8.ofNat n = c := ⟨UInt8.ofNat n, by simp; omega, rfl⟩
def PnRel (B b : Nat) (l : List UInt8) (bias N : Nat) (F : List Nat) (w : World) (nv kv : Value) (wr : World) : Prop := ∃ (n k : Nat) (acc : List Nat), nv = .int .i64 n ∧ kv = .int .i64 k ∧ n ≤ N ∧ k + 36 * n ≤ 36 + 36 * N ∧ acc ++ pnumL n bias k = F ∧ BIs B b (l ++ u8L acc) wr ∧ Below B w wr ∧ Kept b w wr ∧ w.heap.size ≤ wr.heap.size
theorem pnumber_any (B b : Nat) (l : List UInt8) (n bias : Nat) (w : World) (h : BIs B b l w) (hn : n < 1000000000) (hb : bias ≤ 10000000000) (hl : l.length ≤ 900000) (hBw : B ≤ w.heap.size) :
    Calls Tryz.prog 222 #[.pointer (some ⟨b, 0, none⟩), .int .i64 n, .int .i64 bias] w fun e w' => e = .returned (.tuple #[]) ∧ (BIs B b (l ++ u8L (pnumL n bias 36)) w' ∧ Below B w w' ∧ Kept b w w' ∧ w.heap.size ≤ w'.heap.size) := by
 obtain ⟨F, hF⟩ : ∃ F, pnumL n bias 36 = F := ⟨_, rfl⟩
 have hFl : F.length ≤ 10 := by rw [← hF]; exact pnumL_len 9 n bias 36 (by omega)
 have HR0 : Hid (PnRel B b l bias n F w (.int .i64 n) (.int .i64 36) w) := hid ⟨n, 36, [], rfl, rfl, Nat.le_refl _, by omega, hF, by simpa [u8L] using h, Below.refl _ _, Kept.refl _ _, Nat.le_refl _⟩
 rw [hF]
 clear h hF
 go_enter Tryz.func222, Tryz.ntmps222
 go_wp2_with fail
 go_loopw [1, 6] (PnRel B b l bias n F w) (fun v _ _ => (intOf v).toNat)
 case atStart => exact HR0.out
 case round =>
  obtain ⟨m, k, acc, rfl, rfl, hm, hk, hacc, hI, hB, hK, hz⟩ := hrel
  have TH := hid (thr_any k bias wr (by omega) (by omega))
  obtain ⟨t, ht⟩ : ∃ t, thrN k bias = t := ⟨_, rfl⟩
  rw [ht] at TH
  have t1 := thrN_ge k bias
  have t2 := thrN_le k bias
  rw [ht] at t1 t2
  have HBz : Hid (B ≤ wr.heap.size) := hid (Nat.le_trans hBw hz)
  have hal : acc.length + (pnumL m bias k).length = F.length := by rw [← hacc, List.length_append]
  have hpos := pnumL_pos m bias k
  have HBB := hid hB; have HKK := hid hK; have HZ := hid hz; have HI := hid hI
  clear hB hK hz hI
  by_cases hlt : m < t
  · obtain ⟨s1, s1'⟩ := ltT m t hlt
    rw [pnumL_stop (by rw [ht]; exact hlt)] at hacc
    have PD := pdigit_any m wr (by omega)
    have hd256 : digN m < 256 := by unfold digN; split <;> omega
    obtain ⟨c, hc1, hc2⟩ := u8_of hd256
    rw [← hc1] at PD
    have PD := hid PD
    have WB := hid (writeByte_any B b (l ++ u8L acc) c wr HI.out (by simp [u8L]; omega) HBz.out)
    have HFF : Hid (l ++ u8L acc ++ [c] = l ++ u8L F) := hid (by rw [← hacc, u8L_app, ← hc2]; simp [u8L])
    clear ht hlt hacc hal hpos hc1 hc2 hd256
    go_wp2_with fail
    refine TH.out.mono ?_
    rintro e w1 ⟨rfl, rfl⟩
    go_wp2_with fail
    refine PD.out.mono ?_
    rintro e w1 ⟨rfl, rfl⟩
    go_wp2_with fail
    refine WB.out.mono ?_
    rintro e w2 ⟨rfl, h2, hb2, hk2⟩
    rw [HFF.out] at h2
    have HE : Hid (BIs B b (l ++ u8L F) w2 ∧ Below B w w2 ∧ Kept b w w2 ∧ w.heap.size ≤ w2.heap.size) := hid ⟨h2, HBB.out.trans hb2, HKK.out.trans HZ.out hk2, Nat.le_trans HZ.out hb2.size⟩
    clear h2 hb2 hk2
    go_wp2
    refine bodyPost_ret (v := .tuple #[]) (by simp [results, Tryz.results222, go_sem]) rfl ?_
    exact ⟨rfl, HE.out⟩
  · obtain ⟨s1, s1'⟩ := ltF m t hlt
    have hgo := pnumL_go (n := m) (b := bias) (k := k) (by rw [ht]; exact hlt)
    have hls := num_less (n := m) (b := bias) (k := k) (by rw [ht]; exact hlt)
    rw [ht] at hgo hls
    rw [hgo] at hacc
    obtain ⟨r, hr⟩ : ∃ r, (m - t) % (36 - t) = r := ⟨_, rfl⟩
    obtain ⟨q, hq⟩ : ∃ q, (m - t) / (36 - t) = q := ⟨_, rfl⟩
    rw [hr, hq] at hacc
    rw [hq] at hls
    have hr36 : r < 36 - t := by rw [← hr]; exact Nat.mod_lt _ (by omega)
    obtain ⟨d, hd⟩ : ∃ d, t + r = d := ⟨_, rfl⟩
    rw [hd] at hacc
    have w1 : IntKind.i64.wrap ((m : Int) - (t : Int)) = (m : Int) - (t : Int) := i64n _ (by omega)
    have w2 : IntKind.i64.wrap (36 - (t : Int)) = 36 - (t : Int) := i64n _ (by omega)
    have w3 : ((m : Int) - (t : Int)).tmod (36 - (t : Int)) = (r : Int) := by
     rw [show (m : Int) - (t : Int) = ((m - t : Nat) : Int) by omega, show (36 : Int) - (t : Int) = ((36 - t : Nat) : Int) by omega, ← hr]
     exact (Int.ofNat_tmod _ _).symm
    have w4 : ((m : Int) - (t : Int)).tdiv (36 - (t : Int)) = (q : Int) := by
     rw [show (m : Int) - (t : Int) = ((m - t : Nat) : Int) by omega, show (36 : Int) - (t : Int) = ((36 - t : Nat) : Int) by omega, ← hq]
     exact (Int.ofNat_tdiv _ _).symm
    have w5 : ((36 - (t : Int)) == 0) = false := by simp; omega
    have w5' : (36 - (t : Int) = 0) = False := by simp; omega
    have w6 : IntKind.i64.wrap (r : Int) = (r : Int) := i64n _ (by omega)
    have w7 : IntKind.i64.wrap ((t : Int) + (r : Int)) = (d : Int) := by rw [i64n _ (by omega)]; omega
    have w8 : IntKind.i64.wrap (q : Int) = (q : Int) := i64n _ (by omega)
    have w9 : IntKind.i64.wrap ((k : Int) + 36) = (k : Int) + 36 := i64n _ (by omega)
    have PD := pdigit_any d wr (by omega)
    have hd256 : digN d < 256 := by unfold digN; split <;> omega
    obtain ⟨c, hc1, hc2⟩ := u8_of hd256
    rw [← hc1] at PD
    have PD := hid PD
    have WB := hid (writeByte_any B b (l ++ u8L acc) c wr HI.out (by simp [u8L]; omega) HBz.out)
    have HRN : Hid (∀ W, BIs B b (l ++ u8L acc ++ [c]) W → Below B wr W → Kept b wr W → PnRel B b l bias n F w (.int .i64 q) (.int .i64 ((k : Int) + 36)) W) := hid (fun W h2 hb2 hk2 => ⟨q, k + 36, acc ++ [digN d], rfl, by go_num, by omega, by omega, by rw [← hacc]; simp, by
     have : u8L (acc ++ [digN d]) = u8L acc ++ [c] := by rw [u8L_app, ← hc2]; rfl
     rw [this, ← List.append_assoc]; exact h2, HBB.out.trans hb2, HKK.out.trans HZ.out hk2, Nat.le_trans HZ.out hb2.size⟩)
    have HLS := hid hls
    clear ht hlt hacc hal hpos hc1 hc2 hd256 hgo hr hq hd hls hr36 hm hk
    go_wp2_with fail
    refine TH.out.mono ?_
    rintro e w1 ⟨rfl, rfl⟩
    go_wp2_with fail
    refine PD.out.mono ?_
    rintro e w1 ⟨rfl, rfl⟩
    go_wp2_with fail
    refine WB.out.mono ?_
    rintro e w2 ⟨rfl, h2, hb2, hk2⟩
    have HRR := hid (HRN.out _ h2 hb2 hk2)
    clear h2 hb2 hk2
    go_wp2
    refine ⟨?_, by have := HLS.out; simp [intOf]; omega⟩
    first | exact HRR.out | ((repeat apply Exists.intro); exact ⟨HRR.out, rfl⟩)
end
end Go.Proofs.YtbeodjipdpcaiaaGreatDoor
