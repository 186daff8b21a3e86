/- scan.text: the walk, whoever is told its characters. -/
import Derived.Test.YtmhfbdeeebbloaaDoorScan4
namespace Go.Proofs.YtmhfbdeeebbloaaDoor
open Go.RowKit
theorem decU_right {B : ByteArray} {i : Nat} (h : decU B i ≠ (65533, 1)) : rightN ((decU B i).1 : Int) = true := by
  have h0 := byteAt_lt B i; have h1 := byteAt_lt B (i + 1); have h2 := byteAt_lt B (i + 2); have h3 := byteAt_lt B (i + 3)
  rw [right_iff]
  unfold decU Go.Lib.decodeN at h ⊢
  repeat' split
  all_goals first | (simp only; omega) | (exfalso; simp_all; done) | skip
theorem textStep_right {B : ByteArray} {i : Nat} {x : Nat × Nat} (h : textStep B i = .ok x) : rightN (x.1 : Int) = true := by
  unfold textStep at h
  split at h
  · unfold escapeS at h
    split at h
    · cases h
    · split at h
      · obtain ⟨n, h1, h2⟩ := Sc.bind_eq_ok h
        have hn := unitS_lt h1
        split at h2
        · obtain rfl := Sc.ok.inj h2
          rw [right_iff]; simp only; omega
        · split at h2
          · cases hl : unitS B (i + 6) with
            | ok m =>
              rw [hl] at h2
              simp only [pairLow] at h2
              split at h2
              · obtain rfl := Sc.ok.inj h2
                rw [right_iff]; simp only; omega
              · cases h2
            | no k j =>
              rw [hl] at h2
              simp only [pairLow] at h2
              split at h2 <;> cases h2
          · cases h2
      · split at h
        · rename_i y hy
          obtain rfl := Sc.ok.inj h
          have hc := byteAt_lt B (i + 1)
          have : y < 256 := by
            unfold simpleS at hy
            repeat' split at hy
            all_goals first | (cases hy; done) | (cases hy; omega)
          rw [right_iff]; simp only; omega
        · cases h
  · unfold charS at h
    split at h
    · cases h
    · split at h
      · cases h
      · rename_i hne
        obtain rfl := Sc.ok.inj h
        exact decU_right hne
/-- Who is told the characters keeps I, which says which ones were told. -/
inductive TellOk (I : List Nat → World → Prop) : Value → Prop
  | nil (h : ∀ acc c W, I acc W → I (acc ++ [c]) W) : TellOk I .nilFunc
  | fn (L : Nat) (h : ∀ acc (c : Nat) W, acc.length ≤ 1000000 → I acc W → rightN (c : Int) = true → Calls Tryd.prog 56 #[.int .i64 c, .pointer (some ⟨L, 0, none⟩)] W fun e W' => e = .returned (.tuple #[]) ∧ I (acc ++ [c]) W') : TellOk I (.func (.func 56) #[] #[.pointer (some ⟨L, 0, none⟩)])
structure Telling (v : Value) (B : ByteArray) (I : List Nat → World → Prop) : Prop where
  reads : ∀ acc W, I acc W → Rd (Own W) W v (bytesDB B)
  tabs : ∀ acc W, I acc W → Utf8T W
  ext : ∀ acc W W', I acc W → Below W.heap.size W W' → I acc W'
def TxPost (I : List Nat → World → Prop) (r : Sc (List Nat × Nat)) (e : Ending) (w' : World) : Prop := match r with
  | .ok x => e = .returned (.tuple #[.int .i64 x.2, .nilIface]) ∧ I x.1 w'
  | .no k i => ∃ u acc W, e = .returned (.tuple #[.int .i64 0, .iface 119 (.pointer (some u))]) ∧ I acc W ∧ Failed W k i (.iface 119 (.pointer (some u))) w'
theorem eqIn_nil (d : Nat) (w : World) : (Op.equalIn (d + 1) 99 .nilFunc .nilFunc).run Tryd.prog w = .ok true w := by simp [Op.equalIn, run_underlying (P := Tryd.prog) Tryd.underlying99]
theorem eqIn_fn (d : Nat) (k : FuncId) (b : Array Value) (w : World) : (Op.equalIn (d + 1) 99 (.func (.func k) #[] b) .nilFunc).run Tryd.prog w = .ok false w := by simp [Op.equalIn, run_underlying (P := Tryd.prog) Tryd.underlying99]
theorem run_nil_nil (w : World) : (binOp .neq 99 .nilFunc .nilFunc).run Tryd.prog w = .ok (.bool false) w := by
  simp only [binOp]
  simp [Op.equal, Op.maxDepth, eqIn_nil 9999 w]
theorem run_fn_nil (k : FuncId) (b : Array Value) (w : World) : (binOp .neq 99 (.func (.func k) #[] b) .nilFunc).run Tryd.prog w = .ok (.bool true) w := by
  simp only [binOp]
  simp [Op.equal, Op.maxDepth, eqIn_fn 9999 k b w]
def TxRel (B : ByteArray) (I : List Nat → World → Prop) (R : Sc (List Nat × Nat)) (k : Value) (wr : World) : Prop := ∃ (j : Nat) (acc : List Nat), k = .int .i64 j ∧ j ≤ B.size ∧ acc.length ≤ j ∧ I acc wr ∧ textS B j acc = R
set_option maxRecDepth 100000 in
set_option maxHeartbeats 16000000 in
theorem text_any (v : Value) (B : ByteArray) (i : Nat) (I : List Nat → World → Prop) (tell : Value) (acc0 : List Nat) (w : World) (hT : Telling v B I) (ht : TellOk I tell) (hI : I acc0 w) (hm : B.size ≤ 1000000) (hi : i ≤ B.size) (ha : acc0.length ≤ i) :
    Calls Tryd.prog 55 #[v, .int .i64 i, tell] w (TxPost I (textS B i acc0)) := by
  obtain ⟨R, hR⟩ : ∃ R, textS B i acc0 = R := ⟨_, rfl⟩
  rw [hR]
  obtain ⟨a, c, rfl, _, _, _⟩ := (hT.reads _ _ hI).by_inv
  have HR := Lib.hid hR; have HT := Lib.hid hT; have HTE := Lib.hid ht; have HI := Lib.hid hI
  clear hR hT ht hI
  go_enter Tryd.func55, Tryd.ntmps55
  go_wp2_with fail
  go_loopw [1] (TxRel B I R) (fun k _ => B.size - (intOf k).toNat)
  case atStart => exact ⟨i, acc0, rfl, hi, ha, HI.out, HR.out⟩
  case round =>
    obtain ⟨j, acc, rfl, hj, hal, hI, hr⟩ := hrel
    rw [textS_step hj] at hr
    have hrd := HT.out.reads _ _ hI
    by_cases hend : j = B.size
    · rw [if_pos hend] at hr
      subst hr
      have t1 : ((j : Int) == (B.size : Int)) = true := beq_iff_eq.2 (by omega)
      have HS := Lib.hid (short_any _ B wr hrd)
      have HIA := Lib.hid hI
      clear hrd hI hend
      go_wp2_with fail
      refine HS.out.mono ?_
      rintro e w1 ⟨u, rfl, hx⟩
      obtain ⟨p, rfl⟩ := hx.form
      have HX := Lib.hid hx
      clear hx
      go_wp2
      go_ret2
      exact ⟨_, _, _, rfl, HIA.out, HX.out⟩
    · rw [if_neg hend] at hr
      have hlt : j < B.size := by omega
      have t1 : ((j : Int) == (B.size : Int)) = false := beq_eq_false_iff_ne.2 (by omega)
      obtain ⟨a', c', e1, _, _, hc⟩ := hrd.by_inv
      cases e1
      obtain ⟨b, off, rfl, _, x0⟩ := hc (by omega)
      have x1 := x0 j hlt
      have hbl := byteAt_lt B j
      by_cases hq : byteAt B j = 34
      · rw [if_pos hq] at hr
        subst hr
        have t2 : ((byteAt B j : Int) == 34) = true := beq_iff_eq.2 (by omega)
        have HIA := Lib.hid hI
        clear hrd hI hend x0 hc hq
        go_wp2
        go_ret2
        exact ⟨rfl, HIA.out⟩
      · rw [if_neg hq] at hr
        have t2 : ((byteAt B j : Int) == 34) = false := beq_eq_false_iff_ne.2 (by omega)
        by_cases hs : byteAt B j < 32
        · rw [if_pos hs] at hr
          subst hr
          have t3 : decide ((byteAt B j : Int) < 32) = true := decide_eq_true (by omega)
          have HIA := Lib.hid hI
          clear hrd hI hend x0 hc hq
          go_wp2_with fail
          refine (fails 11 _ _).mono ?_
          rintro e w1 ⟨u, rfl, hx⟩
          obtain ⟨p, rfl⟩ := hx.form
          have HX := Lib.hid hx
          clear hx
          go_wp2
          go_ret2
          exact ⟨_, _, _, rfl, HIA.out, HX.out⟩
        · rw [if_neg hs] at hr
          have t3 : decide ((byteAt B j : Int) < 32) = false := decide_eq_false (by omega)
          have cE := escape_any _ B j wr hrd hm hlt
          have cN := unext_any _ B j wr hrd (HT.out.tabs _ _ hI) hm hlt
          have hstep : textStep B j = textStep B j := rfl
          conv at hstep => rhs; unfold textStep
          have hbs : byteAt B j = 92 ∨ byteAt B j ≠ 92 := by omega
          cases hx : textStep B j with
          | no k p =>
            rw [hx] at hr hstep
            rw [Sc.bind_no] at hr
            subst hr
            have HIA := Lib.hid hI
            rcases hbs with hbs | hbs
            · rw [if_pos hbs] at hstep
              rw [← hstep] at cE
              have CE := Lib.hid cE
              have t4 : ((byteAt B j : Int) == 92) = true := beq_iff_eq.2 (by omega)
              clear hstep hrd hI hend x0 hc hq hs cE cN hx hbs
              go_wp2_with fail
              refine CE.out.mono ?_
              rintro e w1 ⟨u, rfl, hx⟩
              have HX := Lib.hid hx
              clear hx
              go_wp2
              go_ret2
              exact ⟨_, _, _, rfl, HIA.out, HX.out⟩
            · rw [if_neg hbs] at hstep
              rw [← hstep] at cN
              have CE := Lib.hid cN
              have t4 : ((byteAt B j : Int) == 92) = false := beq_eq_false_iff_ne.2 (by omega)
              clear hstep hrd hI hend x0 hc hq hs cE cN hx hbs
              go_wp2_with fail
              refine CE.out.mono ?_
              rintro e w1 ⟨u, rfl, hx⟩
              have HX := Lib.hid hx
              clear hx
              go_wp2
              go_ret2
              exact ⟨_, _, _, rfl, HIA.out, HX.out⟩
          | ok x =>
            have hok := textStep_ok hlt hx
            have hri := Lib.hid (textStep_right hx)
            rw [hx] at hr hstep
            rw [Sc.bind_ok] at hr
            obtain ⟨ch, n⟩ := x
            simp only at hr hok
            have HRN := Lib.hid hr
            have HIA := Lib.hid hI
            have hn1 : 0 < n := hok.1
            have hn2 : j + n ≤ B.size := hok.2
            rcases hbs with hbs | hbs
            · rw [if_pos hbs] at hstep
              rw [← hstep] at cE
              have CE := Lib.hid cE
              have t4 : ((byteAt B j : Int) == 92) = true := beq_iff_eq.2 (by omega)
              clear hstep hrd hI hend x0 hc hq hs cE cN hx hbs hr hok
              go_wp2_with fail
              refine CE.out.mono ?_
              rintro e w1 ⟨rfl, hb⟩
              have HI1 := Lib.hid (HT.out.ext _ _ _ HIA.out hb)
              clear hb
              cases HTE.out with
              | nil h =>
                have R : TxRel B I R (.int .i64 (j + n)) w1 := ⟨j + n, _, by go_num, hn2, by simp; omega, h _ ch _ HI1.out, HRN.out⟩
                have HRR := Lib.hid R
                have rn := run_nil_nil
                clear R h
                go_wp2
                refine ⟨?_, by simp [intOf] <;> omega⟩
                have R := HRR.out
                first | exact R | ((repeat apply Exists.intro); exact ⟨R, rfl⟩)
              | fn L h =>
                have CT := Lib.hid (h _ ch _ (by omega) HI1.out hri.out)
                have rn := run_fn_nil
                clear h
                go_wp2_with fail
                refine CT.out.mono ?_
                rintro e w2 ⟨rfl, hI2⟩
                have R : TxRel B I R (.int .i64 (j + n)) w2 := ⟨j + n, _, by go_num, hn2, by simp; omega, hI2, HRN.out⟩
                have HRR := Lib.hid R
                clear R hI2
                go_wp2
                refine ⟨?_, by simp [intOf] <;> omega⟩
                have R := HRR.out
                first | exact R | ((repeat apply Exists.intro); exact ⟨R, rfl⟩)
            · rw [if_neg hbs] at hstep
              rw [← hstep] at cN
              have CE := Lib.hid cN
              have t4 : ((byteAt B j : Int) == 92) = false := beq_eq_false_iff_ne.2 (by omega)
              clear hstep hrd hI hend x0 hc hq hs cE cN hx hbs hr hok
              go_wp2_with fail
              refine CE.out.mono ?_
              rintro e w1 ⟨rfl, hb⟩
              have HI1 := Lib.hid (HT.out.ext _ _ _ HIA.out hb)
              clear hb
              cases HTE.out with
              | nil h =>
                have R : TxRel B I R (.int .i64 (j + n)) w1 := ⟨j + n, _, by go_num, hn2, by simp; omega, h _ ch _ HI1.out, HRN.out⟩
                have HRR := Lib.hid R
                have rn := run_nil_nil
                clear R h
                go_wp2
                refine ⟨?_, by simp [intOf] <;> omega⟩
                have R := HRR.out
                first | exact R | ((repeat apply Exists.intro); exact ⟨R, rfl⟩)
              | fn L h =>
                have CT := Lib.hid (h _ ch _ (by omega) HI1.out hri.out)
                have rn := run_fn_nil
                clear h
                go_wp2_with fail
                refine CT.out.mono ?_
                rintro e w2 ⟨rfl, hI2⟩
                have R : TxRel B I R (.int .i64 (j + n)) w2 := ⟨j + n, _, by go_num, hn2, by simp; omega, hI2, HRN.out⟩
                have HRR := Lib.hid R
                clear R hI2
                go_wp2
                refine ⟨?_, by simp [intOf] <;> omega⟩
                have R := HRR.out
                first | exact R | ((repeat apply Exists.intro); exact ⟨R, rfl⟩)
end Go.Proofs.YtmhfbdeeebbloaaDoor
