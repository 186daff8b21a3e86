/- Texts put together. -/
import Derived.Test.YtbeodjipdpcaiaaGreatDoorYLab0s
import Derived.Test.YtbeodjipdpcaiaaGreatDoorYPnw1s
import Derived.Test.YtbeodjipdpcaiaaGreatDoorYFow1s
import Derived.Test.YtbeodjipdpcaiaaGreatDoorZShelf
import Derived.Great.BuildSlice
set_option maxRecDepth 100000
set_option maxHeartbeats 2000000
namespace Go.Proofs.YtbeodjipdpcaiaaGreatDoor
section
open Go.RowKit
theorem small_tab : ∀ c : Fin 128, decide (0 ≤ Go.Lib.indexByte (⟨#[97, 98, 99, 100, 101, 102, 103, 104, 105, 106, 107, 108, 109, 110, 111, 112, 113, 114, 115, 116, 117, 118, 119, 120, 121, 122, 48, 49, 50, 51, 52, 53, 54, 55, 56, 57, 45]⟩ : ByteArray).data.toList ((c.val : Int).toNat.toUInt8)) = lcN c.val := by decide +kernel
theorem small_any (c : Nat) (w : World) : Calls Tryz.prog 172 #[.int .i64 c] w fun e w' => e = .returned (.bool (lcN c)) ∧ w' = w := by
 have t0 : decide ((0 : Int) ≤ (c : Int)) = true := dcT (by omega)
 by_cases hc : c < 128
 · have t1 : decide ((c : Int) < 128) = true := dcT (by omega)
   have t1' : decide (c < 128) = true := dcT hc
   have p1 : IntKind.u8.wrap (c : Int) = (c : Int) := IntWalk.u8_in _ (by omega)
   obtain ⟨Z, hZ⟩ : ∃ Z, Go.Lib.indexByte (⟨#[97, 98, 99, 100, 101, 102, 103, 104, 105, 106, 107, 108, 109, 110, 111, 112, 113, 114, 115, 116, 117, 118, 119, 120, 121, 122, 48, 49, 50, 51, 52, 53, 54, 55, 56, 57, 45]⟩ : ByteArray).data.toList ((c : Int).toNat.toUInt8) = Z := ⟨_, rfl⟩
   have tZ : decide (0 ≤ Z) = lcN c := by rw [← hZ]; exact small_tab ⟨c, hc⟩
   have K := hid (fun W => Tryz.strings_IndexByte ⟨#[97, 98, 99, 100, 101, 102, 103, 104, 105, 106, 107, 108, 109, 110, 111, 112, 113, 114, 115, 116, 117, 118, 119, 120, 121, 122, 48, 49, 50, 51, 52, 53, 54, 55, 56, 57, 45]⟩ (c : Int) W)
   rw [hZ] at K
   obtain ⟨tb, htb⟩ : ∃ tb, lcN c = tb := ⟨_, rfl⟩
   rw [htb] at tZ ⊢
   clear hZ hc htb
   go_enter Tryz.func172, Tryz.ntmps172
   go_wp2_with fail
   refine (K.out _).mono ?_
   rintro e w1 ⟨rfl, hw⟩
   have hw' := hw.symm
   subst hw'
   clear hw
   go_wp2
   go_ret
   exact ⟨rfl, rfl⟩
 · have t1 : decide ((c : Int) < 128) = false := dcF (by omega)
   have t1' : decide (c < 128) = false := dcF hc
   have hl : lcN c = false := by
    cases h : lcN c with
    | false => rfl
    | true => have := small_lt h; omega
   rw [hl]
   clear hc hl
   go_enter Tryz.func172, Tryz.ntmps172
   go_wp2
   go_ret
   exact ⟨rfl, rfl⟩
def PlRel (cs : List Nat) (w : World) (k : Value) (wr : World) : Prop := wr = w ∧ ∃ j : Nat, k = .int .i64 j ∧ j ≤ cs.length ∧ ∀ i, i < j → ∀ x, cs[i]? = some x → x < 128
theorem plain_any (v : Value) (cs : List Nat) (w : World) (h : Rd (Own w) w v (intsD cs)) (hl : cs.length ≤ 1000000) :
    Calls Tryz.prog 171 #[v] w fun e w' => e = .returned (.bool (cs.all fun c => decide (c < 128))) ∧ w' = w := by
 obtain ⟨a, c, rfl, _, hcap, hx⟩ := h.nats_inv
 have HX := hid hx
 obtain ⟨n0, hn0⟩ : ∃ n, cs.length = n := ⟨_, rfl⟩
 have HN := hid hn0
 obtain ⟨tb, htb⟩ : ∃ tb, (cs.all fun c => decide (c < 128)) = tb := ⟨_, rfl⟩
 have HTB := hid htb
 rw [htb]
 rw [hn0] at hcap hl ⊢
 clear h hx hn0 htb
 go_enter Tryz.func171, Tryz.ntmps171
 go_wp2_with fail
 go_loopw [7] (PlRel cs w) (fun k _ => n0 - (intOf k).toNat)
 case atStart => exact ⟨rfl, 0, rfl, Nat.zero_le _, fun i hi => by omega⟩
 case round =>
  obtain ⟨rfl, j, rfl, hj, hlow⟩ := hrel
  rw [HN.out] at hj
  have HLOW := hid hlow
  clear hlow
  by_cases hlt : j < n0
  · obtain ⟨t1, t1'⟩ := ltT j n0 hlt
    have q1 := inc j (by omega)
    obtain ⟨b1, o1, rfl, hb1, hc1⟩ := HX.out (by rw [HN.out]; omega)
    obtain ⟨x, hx⟩ := get_ex cs j (by rw [HN.out]; exact hlt)
    have hxv : cs[j]'(by rw [HN.out]; exact hlt) = x := (List.getElem?_eq_some_iff.1 hx).2
    have c0 := hc1 j (by rw [HN.out]; exact hlt)
    rw [hxv] at c0
    have HXJ := hid hx; have HLT := hid hlt
    clear hc1 hx hxv hb1 hlt
    by_cases h128 : 128 ≤ x
    · have t2 : decide ((128 : Int) ≤ (x : Int)) = true := dcT (by omega)
      have t2' : decide (128 ≤ x) = true := dcT h128
      have hF : tb = false := by
       rw [← HTB.out, List.all_eq_false]
       exact ⟨x, List.mem_of_getElem? HXJ.out, by simp; omega⟩
      subst hF
      clear h128
      go_wp2
      go_ret
      exact ⟨rfl, rfl⟩
    · have t2 : decide ((128 : Int) ≤ (x : Int)) = false := dcF (by omega)
      have t2' : decide (128 ≤ x) = false := dcF h128
      have HRL : Hid (PlRel cs wr (.int .i64 ((j : Int) + 1)) wr) := hid ⟨rfl, j + 1, by go_num, by rw [HN.out]; exact HLT.out, fun i hi y hy => by
       by_cases e : i = j
       · subst e; rw [HXJ.out] at hy; cases hy; omega
       · exact HLOW.out i (by omega) y hy⟩
      have hjn := HLT.out
      clear h128
      go_wp2
      refine ⟨?_, by simp [intOf] <;> omega⟩
      first | exact HRL.out | ((repeat apply Exists.intro); exact ⟨HRL.out, rfl⟩)
  · obtain ⟨t1, t1'⟩ := ltF j n0 hlt
    have hF : tb = true := by
     rw [← HTB.out, List.all_eq_true]
     intro x hx
     obtain ⟨i, hi, he⟩ := List.getElem_of_mem hx
     exact dcT (HLOW.out i (by rw [HN.out] at hi; omega) x (List.getElem?_eq_some_iff.2 ⟨hi, he⟩))
    subst hF
    clear hlt
    go_wp2
    go_ret
    exact ⟨rfl, rfl⟩
end
section
open Go.RowKit
theorem marksN_eq (l : List Nat) : marksN l = (decide (l ≠ []) && (decide (l[0]?.getD 0 ≠ 45) && (decide (l[l.length - 1]?.getD 0 ≠ 45) && (decide (l.length < 4) || (decide (l[2]?.getD 0 ≠ 45) || decide (l[3]?.getD 0 ≠ 45)))))) := by
 unfold marksN lastN
 rw [List.getLast?_eq_getElem?, Bool.eq_iff_iff]
 simp
theorem marks_any (v : Value) (cs : List Nat) (w : World) (h : Rd (Own w) w v (intsD cs)) (hl : cs.length ≤ 1000000) :
    Calls Tryz.prog 175 #[v] w fun e w' => e = .returned (.bool (marksN cs)) ∧ w' = w := by
 obtain ⟨a, c, rfl, _, hcap, hx⟩ := h.nats_inv
 have he := marksN_eq cs
 obtain ⟨R, hR⟩ : ∃ R, marksN cs = R := ⟨_, rfl⟩
 rw [hR] at he ⊢
 obtain ⟨n, hn⟩ : ∃ n, cs.length = n := ⟨_, rfl⟩
 have cell : ∀ (b o : Nat), (∀ (j : Nat) (hj : j < cs.length), w.cell? ⟨b, o + j, none⟩ = some (.int .i64 (cs[j]'hj : Nat))) → ∀ j, j < n → w.cell? ⟨b, o + j, none⟩ = some (.int .i64 (cs[j]?.getD 0 : Nat)) := fun b o hc j hj => by
  have hj' : j < cs.length := by omega
  rw [List.getElem?_eq_getElem hj']; exact hc j hj'
 by_cases h0 : n = 0
 · have e0 : cs = [] := List.eq_nil_of_length_eq_zero (by omega)
   rw [e0] at he
   have hF : R = false := he
   subst hF
   rw [hn]
   subst h0
   clear h hx hR hn he e0 cell hl
   go_enter Tryz.func175, Tryz.ntmps175
   go_wp2
   go_ret
   exact ⟨rfl, rfl⟩
 · obtain ⟨b, o, rfl, hb, hk⟩ := hx (by omega)
   have hc := cell b o hk
   have hne : decide (cs ≠ []) = true := dcT (fun e => by rw [e] at hn; exact h0 hn.symm)
   rw [hn] at he hcap hl ⊢
   rw [hne, Bool.true_and] at he
   have c0 : w.cell? ⟨b, o, none⟩ = some (.int .i64 (cs[0]?.getD 0 : Nat)) := hc 0 (by omega)
   have c1 := hc (n - 1) (by omega)
   have c2 : ¬ n < 4 → _ := fun h4 => hc 2 (by omega)
   have c3 : ¬ n < 4 → _ := fun h4 => hc 3 (by omega)
   obtain ⟨x0, e0⟩ : ∃ x, cs[0]?.getD 0 = x := ⟨_, rfl⟩
   obtain ⟨x1, e1⟩ : ∃ x, cs[n - 1]?.getD 0 = x := ⟨_, rfl⟩
   obtain ⟨x2, e2⟩ : ∃ x, cs[2]?.getD 0 = x := ⟨_, rfl⟩
   obtain ⟨x3, e3⟩ : ∃ x, cs[3]?.getD 0 = x := ⟨_, rfl⟩
   rw [e0] at he c0
   rw [e1] at he c1
   rw [e2] at he c2
   rw [e3] at he c3
   obtain ⟨m, hm⟩ : ∃ m, n - 1 = m := ⟨_, rfl⟩
   rw [hm] at c1
   have q1 : IntKind.i64.wrap ((n : Int) - 1) = (m : Int) := by rw [show (n : Int) - 1 = (m : Int) by omega]; exact i64n _ (by omega)
   have t0 : ((n : Int) == 0) = false := by simp; omega
   have t0' : ((n : Int) = 0) = False := by simp; omega
   have t0'' : (n = 0) = False := by simp; omega
   have tm : decide (m < n) = true := dcT (by omega)
   have tp : decide (0 < n) = true := dcT (by omega)
   have hmn : m < n := by omega
   have hn0 : 0 < n := by omega
   clear h hx hR cell hc hk hne e0 e1 e2 e3
   by_cases hx0 : x0 = 45
   · have hF : R = false := by rw [he, hx0]; rfl
     subst hF; subst hx0
     clear he h0 hm c2 c3
     go_enter Tryz.func175, Tryz.ntmps175
     go_wp2
     go_ret
     exact ⟨rfl, rfl⟩
   · have t1 : ((x0 : Int) == 45) = false := by simp; omega
     rw [dcT hx0, Bool.true_and] at he
     by_cases hx1 : x1 = 45
     · have hF : R = false := by rw [he, hx1]; rfl
       subst hF; subst hx1
       clear he h0 hm hx0 c2 c3
       go_enter Tryz.func175, Tryz.ntmps175
       go_wp2
       go_ret
       exact ⟨rfl, rfl⟩
     · have t2 : ((x1 : Int) == 45) = false := by simp; omega
       rw [dcT hx1, Bool.true_and] at he
       by_cases h4 : n < 4
       · have t3 : decide ((n : Int) < 4) = true := dcT (by omega)
         have t3' : decide (n < 4) = true := dcT h4
         have hF : R = true := by rw [he, t3']; rfl
         subst hF
         clear he h0 hm hx0 hx1 h4 c2 c3
         go_enter Tryz.func175, Tryz.ntmps175
         go_wp2
         go_ret
         exact ⟨rfl, rfl⟩
       · have t3 : decide ((n : Int) < 4) = false := dcF (by omega)
         have t3' : decide (n < 4) = false := dcF h4
         have c2 := c2 h4; have c3 := c3 h4
         have i2 : (2 : Nat) < n := by omega
         have i3 : (3 : Nat) < n := by omega
         rw [t3', Bool.false_or] at he
         by_cases hx2 : x2 = 45
         · have t4 : ((x2 : Int) != 45) = false := by rw [hx2]; rfl
           rw [dcF (fun e => e hx2), Bool.false_or] at he
           have t5 : ((x3 : Int) != 45) = R := by
            rw [he, Bool.eq_iff_iff]; simp; omega
           clear he h0 hm hx0 hx1 h4 hx2
           go_enter Tryz.func175, Tryz.ntmps175
           go_wp2
           go_ret
           exact ⟨rfl, rfl⟩
         · have t4 : ((x2 : Int) != 45) = true := by simp; omega
           have hF : R = true := by rw [he, dcT hx2]; rfl
           subst hF
           clear he h0 hm hx0 hx1 h4 hx2
           go_enter Tryz.func175, Tryz.ntmps175
           go_wp2
           go_ret
           exact ⟨rfl, rfl⟩
end
section
open Go.RowKit
def allowC : Array Value := #[.int .i64 223, .int .i64 246, .int .i64 248, .int .i64 8191, .int .i64 11264, .int .i64 12287, .int .i64 12293, .int .i64 55295, .int .i64 63744, .int .i64 64975, .int .i64 65008, .int .i64 65023, .int .i64 65536, .int .i64 262143]
def loA (j : Nat) : Nat := #[223, 248, 11264, 12293, 63744, 65008, 65536][j]?.getD 0
def hiA (j : Nat) : Nat := #[246, 8191, 12287, 55295, 64975, 65023, 262143][j]?.getD 0
def AllowT (w : World) : Prop := ∃ fr, w.heap[1]? = some (.cells allowC 244 fr)
theorem AllowT.ext {w w' : World} (h : AllowT w) (hb : Below w.heap.size w w') : AllowT w' := by
 obtain ⟨fr, h⟩ := h
 exact ⟨fr, by rw [hb.block _ (Array.getElem?_eq_some_iff.1 h).1]; exact h⟩
theorem allow_at (j : Nat) (hj : j < 7) (W : World) : (Instr.index 244 (.agg allowC) (.int .i64 (j : Int))).run Tryz.prog W = .ok (.agg #[.int .i64 (loA j : Nat), .int .i64 (hiA j : Nat)]) W := by
 match j, hj with
 | 0, _ => simp [Instr.index, run_underlying Tryz.underlying244, allowC, loA, hiA, asIntOf, part, Result.andThen]
 | 1, _ => simp [Instr.index, run_underlying Tryz.underlying244, allowC, loA, hiA, asIntOf, part, Result.andThen]
 | 2, _ => simp [Instr.index, run_underlying Tryz.underlying244, allowC, loA, hiA, asIntOf, part, Result.andThen]
 | 3, _ => simp [Instr.index, run_underlying Tryz.underlying244, allowC, loA, hiA, asIntOf, part, Result.andThen]
 | 4, _ => simp [Instr.index, run_underlying Tryz.underlying244, allowC, loA, hiA, asIntOf, part, Result.andThen]
 | 5, _ => simp [Instr.index, run_underlying Tryz.underlying244, allowC, loA, hiA, asIntOf, part, Result.andThen]
 | 6, _ => simp [Instr.index, run_underlying Tryz.underlying244, allowC, loA, hiA, asIntOf, part, Result.andThen]
theorem and_fffe (c : Nat) : c &&& 65534 = 2 * ((c / 2) % 32768) := by
 have h1 : (c &&& 65534) / 2 = (c / 2) % 32768 := by
  rw [Nat.and_div_two]
  exact Nat.and_two_pow_sub_one_eq_mod (c / 2) 15
 have h2 : (c &&& 65534) % 2 = 0 := by
  have h := Nat.testBit_and c 65534 0
  rw [Nat.testBit_zero, Nat.testBit_zero, Nat.testBit_zero] at h
  have : decide ((c &&& 65534) % 2 = 1) = false := by rw [h]; simp
  have := of_decide_eq_false this
  omega
 omega
def maskN (c : Nat) : Bool := decide (c % 65536 < 65534)
theorem bits_fffe (c : Nat) (hc : c ≤ 4000000000) : ∃ m : Nat, bits .and .i64 (c : Int) 65534 = (m : Int) ∧ ((m : Int) != 65534) = maskN c := by
 refine ⟨2 * ((c / 2) % 32768), ?_, ?_⟩
 · rw [← and_fffe]
   have h1 : (BitVec.ofInt 64 65534).toNat = 65534 := by decide
   have h2 : (BitVec.ofInt 64 (c : Int)).toNat = c := by
    rw [BitVec.toNat_ofInt]
    omega
   show IntKind.i64.wrap ((BitVec.ofInt 64 (c : Int) &&& BitVec.ofInt 64 65534).toNat : Nat) = _
   rw [BitVec.toNat_and, h1, h2]
   have := and_fffe c
   exact i64n _ (by omega)
 · unfold maskN
   rw [Bool.eq_iff_iff]; simp; omega
def charF (c : Nat) : Nat → Nat → Bool
 | 0, _ => false
 | f + 1, j => if loA j ≤ c ∧ c ≤ hiA j then maskN c else charF c f (j + 1)
theorem charF_is (c : Nat) : charF c 7 0 = charN c := by
 simp only [charF, loA, hiA]
 unfold charN maskN
 simp
 repeat' split
 all_goals (rw [Bool.eq_iff_iff]; simp; omega)
theorem wpList_loadVarRow {P : Program} {w : World} {ops : Array Oper} {rest : List Oper} {o : Oper} {a : Act} {Q : Exit → Act → World → Prop} (t : TypeId) (b : Nat) (v : Value) (hl : (loadVar t ⟨b, 0, none⟩).run P w = .ok v w)
    (x : Operand) (hgd : o.guard = none) (ho : o.op = .load t x) (hx : a.eval x = .pointer (some ⟨b, 0, none⟩)) (hK : wpList P ops Q rest (a.put o.dst v) w) : wpList P ops Q (o :: rest) a w := by
 refine wpList_plain hgd fun K hK' => ?_
 unfold Oper.wp
 simp [execOp, ho, hx, Instr.loadAt, Instr.sureAddr, hl, Result.andThen]
 exact hK' _ _ hK
theorem allow_load {w : World} (h : AllowT w) : (loadVar 244 ⟨1, 0, none⟩).run Tryz.prog w = .ok (.agg allowC) w := by
 obtain ⟨fr, h⟩ := h
 exact run_loadVar_row _ _ 244 244 _ fr _ h Tryz.underlying244 rfl (by kernel_rfl)
def ChRel (c : Nat) (R : Bool) (w : World) (k : Value) (wr : World) : Prop := ∃ j : Nat, k = .int .i64 j ∧ j ≤ 7 ∧ Below w.heap.size w wr ∧ charF c (7 - j) j = R
theorem allowC_size : allowC.size = 14 := rfl
theorem char_any (c : Nat) (w : World) (h : AllowT w) (hc : c ≤ 4000000000) : Calls Tryz.prog 173 #[.int .i64 c] w fun e w' => e = .returned (.bool (charN c)) ∧ Below w.heap.size w w' := by
 obtain ⟨m, hm, hmm⟩ := bits_fffe c hc
 obtain ⟨R, hR⟩ : ∃ R, charN c = R := ⟨_, rfl⟩
 have HRR := hid ((charF_is c).trans hR)
 rw [hR]
 have AL := hid (allow_load h)
 have AT := hid (fun (j : Nat) (hj : j < 7) (W : World) => allow_at j hj W)
 have HMM := hid hmm
 obtain ⟨A, hA⟩ : ∃ A, allowC = A := ⟨_, rfl⟩
 rw [hA] at AL AT
 clear hmm hR h hA
 go_enter Tryz.func173, Tryz.ntmps173
 go_wp2_with (refine wpList_loadVarRow _ _ _ AL.out _ rfl rfl rfl ?_)
 go_loopw [6] (ChRel c R w) (fun k _ => 7 - (intOf k).toNat)
 case atStart => exact ⟨0, rfl, by omega, Below.refl _ _, HRR.out⟩
 case round =>
  obtain ⟨j, rfl, hj, hb, hr⟩ := hrel
  have HB := hid hb
  clear hb
  by_cases hlt : j < 7
  · have t1 : decide ((j : Int) < 7) = true := dcT (by omega)
    have t1' : decide (j < 7) = true := dcT hlt
    have q1 := inc j (by omega)
    have at1 := AT.out j hlt
    rw [show 7 - j = (7 - (j + 1)) + 1 by omega, charF] at hr
    obtain ⟨lo, hlo⟩ : ∃ x, loA j = x := ⟨_, rfl⟩
    obtain ⟨hi, hhi⟩ : ∃ x, hiA j = x := ⟨_, rfl⟩
    rw [hlo, hhi] at at1 hr
    clear hlo hhi
    have HRJ := hid hr
    have HW : Hid (∀ o : Obj, Below w.heap.size w (wr.alloc o)) := hid (fun o => ext_alloc HB.out o)
    clear hr
    by_cases h1 : lo ≤ c
    · have t2 : decide ((lo : Int) ≤ (c : Int)) = true := dcT (by omega)
      have t2' : decide (lo ≤ c) = true := dcT h1
      by_cases h2 : c ≤ hi
      · have t3 : decide ((c : Int) ≤ (hi : Int)) = true := dcT (by omega)
        have t3' : decide (c ≤ hi) = true := dcT h2
        have t4 : ((m : Int) != 65534) = R := by rw [HMM.out, ← HRJ.out, if_pos ⟨h1, h2⟩]
        clear h1 h2
        go_wp2
        go_ret
        exact ⟨rfl, ext_alloc HB.out _⟩
      · have t3 : decide ((c : Int) ≤ (hi : Int)) = false := dcF (by omega)
        have t3' : decide (c ≤ hi) = false := dcF h2
        have hnx : charF c (7 - (j + 1)) (j + 1) = R := by have := HRJ.out; rw [if_neg (fun e => h2 e.2)] at this; exact this
        have HRL : Hid (∀ W, Below w.heap.size w W → ChRel c R w (.int .i64 ((j : Int) + 1)) W) := hid (fun W hW => ⟨j + 1, by go_num, by omega, hW, hnx⟩)
        clear h1 h2 hnx
        go_wp2
        refine ⟨?_, by simp [intOf] <;> omega⟩
        have R1 := HRL.out _ (ext_alloc HB.out (.cells #[.int .i64 lo, .int .i64 hi] 243))
        first | exact R1 | ((repeat apply Exists.intro); exact ⟨R1, rfl⟩)
    · have t2 : decide ((lo : Int) ≤ (c : Int)) = false := dcF (by omega)
      have t2' : decide (lo ≤ c) = false := dcF h1
      have hnx : charF c (7 - (j + 1)) (j + 1) = R := by have := HRJ.out; rw [if_neg (fun e => h1 e.1)] at this; exact this
      have HRL : Hid (∀ W, Below w.heap.size w W → ChRel c R w (.int .i64 ((j : Int) + 1)) W) := hid (fun W hW => ⟨j + 1, by go_num, by omega, hW, hnx⟩)
      clear h1 hnx
      go_wp2
      refine ⟨?_, by simp [intOf] <;> omega⟩
      have R1 := HRL.out _ (ext_alloc HB.out (.cells #[.int .i64 lo, .int .i64 hi] 243))
      first | exact R1 | ((repeat apply Exists.intro); exact ⟨R1, rfl⟩)
  · have t1 : decide ((j : Int) < 7) = false := dcF (by omega)
    have t1' : decide (j < 7) = false := dcF hlt
    have hF : R = false := by rw [← hr, show 7 - j = 0 by omega]; rfl
    subst hF
    clear hlt hr
    go_wp2
    go_ret
    exact ⟨rfl, HB.out⟩
end
section
open Go.RowKit
theorem coded_text (s : ByteArray) (h : 4 ≤ s.size) : s.extract 2 4 = (⟨#[45, 45]⟩ : ByteArray) ↔ codedN (bytesN s) = true := by
 have h4 : 4 ≤ (bytesN s).length := by rw [bytesN_len]; exact h
 unfold codedN
 have g2 : (bytesN s)[2]?.getD 0 = byteAt s 2 := by rw [bytesN_get (show 2 < s.size by omega)]; rfl
 have g3 : (bytesN s)[3]?.getD 0 = byteAt s 3 := by rw [bytesN_get (show 3 < s.size by omega)]; rfl
 rw [decide_eq_true_eq, g2, g3]
 have e0 : ∀ j, j < 2 → byteAt (s.extract 2 4) j = byteAt s (2 + j) := fun j hj => by
  unfold byteAt
  rw [ByteArray.data_extract, Array.getElem?_extract]
  split
  · rfl
  · rw [Array.getElem?_eq_none (by omega)]
 constructor
 · intro hx
   have a0 := e0 0 (by omega)
   have a1 := e0 1 (by omega)
   rw [hx] at a0 a1
   exact ⟨h4, a0.symm, a1.symm⟩
 · rintro ⟨_, h2, h3⟩
   have hz : (s.extract 2 4).data.size = 2 := by
    have : (s.extract 2 4).size = 2 := by simp; omega
    exact this
   have a0 := e0 0 (by omega)
   have a1 := e0 1 (by omega)
   rw [h2] at a0
   rw [h3] at a1
   generalize s.extract 2 4 = x at *
   obtain ⟨⟨l⟩⟩ := x
   match l, hz with
   | [p, q], _ =>
     have b0 : p.toNat = 45 := a0
     have b1 : q.toNat = 45 := a1
     have c0 : p = 45 := UInt8.toNat_inj.1 b0
     have c1 : q = 45 := UInt8.toNat_inj.1 b1
     rw [c0, c1]
theorem coded_any (s : ByteArray) (w : World) (hs : s.size ≤ 1000000) : Calls Tryz.prog 118 #[.string s] w fun e w' => e = .returned (.bool (codedN (bytesN s))) ∧ w' = w := by
 by_cases h4 : 4 ≤ s.size
 · have t1 : decide ((4 : Int) ≤ (s.size : Int)) = true := dcT (by omega)
   have t1' : decide (4 ≤ s.size) = true := dcT h4
   have hcd := coded_text s h4
   obtain ⟨x, hx⟩ : ∃ x, s.extract 2 4 = x := ⟨_, rfl⟩
   have sl : ∀ W, (Instr.slice 9 (.string s) (some (.int .i64 2)) (some (.int .i64 4)) none).run Tryz.prog W = .ok (.string x) W := sl_both s 2 4 (by omega) h4 x hx
   rw [hx] at hcd
   by_cases hh : x = (⟨#[45, 45]⟩ : ByteArray)
   · have hT := hcd.1 hh
     rw [hT]
     subst hh
     clear hcd hT hx h4
     go_enter Tryz.func118, Tryz.ntmps118
     go_wp2
     go_ret
     exact ⟨rfl, rfl⟩
   · have hF : codedN (bytesN s) = false := by
       cases h : codedN (bytesN s) with
       | false => rfl
       | true => exact absurd (hcd.2 h) hh
     have t2 : (x.toList == [45, 45]) = false := by
      have h := beqS_f hh
      rw [show (⟨#[45, 45]⟩ : ByteArray).toList = [45, 45] by rw [ByteArray.toList_eq]] at h
      exact h
     rw [hF]
     clear hcd hF hx h4 hh
     go_enter Tryz.func118, Tryz.ntmps118
     go_wp2
     go_ret
     exact ⟨rfl, rfl⟩
 · have t1 : decide ((4 : Int) ≤ (s.size : Int)) = false := dcF (by omega)
   have t1' : decide (4 ≤ s.size) = false := dcF h4
   have hF : codedN (bytesN s) = false := by
    unfold codedN
    exact dcF (fun h => h4 (by have := h.1; rw [bytesN_len] at this; exact this))
   rw [hF]
   clear hF h4
   go_enter Tryz.func118, Tryz.ntmps118
   go_wp2
   go_ret
   exact ⟨rfl, rfl⟩
end
end Go.Proofs.YtbeodjipdpcaiaaGreatDoor
