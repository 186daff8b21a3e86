/- Cnx3, Cnx4 in one text (a claim holds at most 60 files). -/
import Derived.Test.YtheoaijheijojaaGreatDoorZCnx0s
import Derived.Test.YtheoaijheijojaaGreatDoorZSrt0s
namespace Go.Proofs.YtheoaijheijojaaGreatDoor
section
open Go.RowKit
set_option maxRecDepth 100000 in
set_option maxHeartbeats 8000000 in
theorem rstep8_any (D gn cn gu cu : Nat) (s : PS) (id : Int) (x : ByteArray) (w : World) (hv : RView w D s gn cn gu cu) (hjl : s.js.length ≤ 100000) (hx : x.size ≤ 1000000) :
    Calls Tryz.prog 48 #[ptrV D, .int .i64 id, .string x] w (StPost8 w (stepS s.js s.ups id x)) := by
  have HAS := rhas7_any w D gn cn gu cu s id hv
  by_cases hin : 0 ≤ id ∧ id < s.js.length
  · rw [decide_eq_true hin] at HAS
    obtain ⟨i, rfl⟩ : ∃ i : Nat, id = i := ⟨id.toNat, by omega⟩
    have hil : i < s.js.length := by omega
    obtain ⟨y, hy⟩ := get_ex s.js i hil
    have ht : textA s.js i = y := by unfold textA; rw [hy]; rfl
    have hstep : stepS s.js s.ups i x = (if y.kind = 6 then (if anyK s.js (kids s.ups i) x = true then ((lastK s.js (kids s.ups i) x, 0) : Int × Int) else (0, 30))
      else if y.kind = 5 then (match numberF 10 1000000 x with
        | .ok n => (if h : n < (kids s.ups i).length then ((((kids s.ups i)[n] : Nat) : Int), (0 : Int)) else (0, 30))
        | .no _ _ => ((0, 11) : Int × Int)) else (0, 32) : Int × Int) := by
      unfold stepS
      rw [if_pos hin, Int.toNat_natCast, ht]
      rfl
    have HAS := Lib.hid HAS
    have c0 := hv.c0
    obtain ⟨n0, _, _, _⟩ := hv.nd i y hy
    have hki := kids_le s.ups i
    have hul := hv.ul
    have MB := rmember7_any w D gn cn gu cu s i x hv (by omega)
    have KD := fun n => rkids7_any (w.drewN n) D gn cn gu cu s i (hv.below (drewN_below _ n)) (by omega)
    have NU := Lib.hid (rnum10_any x 1000000 w (by unfold maxLen; omega) (by decide))
    obtain ⟨R, hR⟩ : ∃ R, stepS s.js s.ups i x = R := ⟨_, rfl⟩
    rw [hR] at hstep ⊢
    clear hR
    obtain ⟨kd, key, text, at_⟩ := y
    simp only at hstep n0
    by_cases h6 : kd = 6
    · subst h6
      rw [if_pos rfl] at hstep
      by_cases ha : anyK s.js (kids s.ups i) x = true
      · rw [if_pos ha] at hstep
        rw [ha] at MB
        obtain ⟨L, hL⟩ : ∃ L, lastK s.js (kids s.ups i) x = L := ⟨_, rfl⟩
        rw [hL] at hstep MB
        have HR : Hid (R = (L, 0)) := Lib.hid hstep
        have MB := Lib.hid MB
        clear hv hin hy ht hstep KD ha hL hki hul hjl hx
        go_enter Tryz.func48, Tryz.ntmps48
        go_wp2_with fail
        refine HAS.out.mono ?_
        rintro _ w2 ⟨rfl, rfl⟩
        go_wp2_with fail
        go_at_call 81
        refine MB.out.mono ?_
        rintro _ w4 ⟨rfl, hb4⟩
        have HB4 := Lib.hid hb4
        clear hb4
        go_wp2
        refine bodyPost_ret (v := .tuple #[.int .i64 L, .int .i64 0]) (by simp [results, Tryz.results48, go_sem]) rfl ⟨by rw [HR.out], HB4.out⟩
      · rw [if_neg ha] at hstep
        have ha' : anyK s.js (kids s.ups i) x = false := by simpa using ha
        rw [ha'] at MB
        have HR : Hid (R = (0, 30)) := Lib.hid hstep
        have MB := Lib.hid MB
        clear hv hin hy ht hstep KD ha ha' hki hul hjl hx
        go_enter Tryz.func48, Tryz.ntmps48
        go_wp2_with fail
        refine HAS.out.mono ?_
        rintro _ w2 ⟨rfl, rfl⟩
        go_wp2_with fail
        go_at_call 81
        refine MB.out.mono ?_
        rintro _ w4 ⟨rfl, hb4⟩
        have HB4 := Lib.hid hb4
        clear hb4
        go_wp2
        refine bodyPost_ret (v := .tuple #[.int .i64 0, .int .i64 30]) (by simp [results, Tryz.results48, go_sem]) rfl ⟨by rw [HR.out], HB4.out⟩
    · rw [if_neg h6] at hstep
      have t6 : (kd == 6) = false := beq_eq_false_iff_ne.2 h6
      by_cases h5 : kd = 5
      · subst h5
        rw [if_pos rfl] at hstep
        obtain ⟨ks, hks⟩ : ∃ ks, kids s.ups i = ks := ⟨_, rfl⟩
        rw [hks] at hki hstep KD
        have hkl : ks.length ≤ 100000 := by omega
        have KD := Lib.hid KD
        have HST := Lib.hid hstep
        clear hv hin hy ht hstep MB hks hki hul hjl hx h6
        go_enter Tryz.func48, Tryz.ntmps48
        go_wp2_with fail
        refine HAS.out.mono ?_
        rintro _ w2 ⟨rfl, rfl⟩
        go_wp2_with fail
        go_at_call 82
        refine NU.out.mono ?_
        intro e w4 hsc
        obtain ⟨⟨q, rfl⟩, hsc⟩ := hsc
        cases hr : numberF 10 1000000 x with
        | no k p =>
          rw [hr] at hsc
          simp only at hsc
          subst hsc
          have HR : Hid (R = (0, 11)) := Lib.hid (by rw [HST.out, hr])
          have hk0 : k ≠ 0 := by
            unfold numberF at hr
            split at hr
            · cases hr; decide
            · split at hr
              · cases hr; decide
              · split at hr
                · cases hr; decide
                · cases hr
          have tk : ((k : Int) != 0) = true := bne_iff_ne.2 (by omega)
          clear hr hk0
          go_wp2
          refine bodyPost_ret (v := .tuple #[.int .i64 0, .int .i64 11]) (by simp [results, Tryz.results48, go_sem]) rfl ⟨by rw [HR.out], ext_drewN _ (Below.refl _ _)⟩
        | ok n =>
          rw [hr] at hsc
          simp only at hsc
          subst hsc
          have hst2 := HST.out
          rw [hr] at hst2
          simp only at hst2
          have hn : n ≤ 1000000 := by
            unfold numberF at hr
            split at hr
            · cases hr
            · split at hr
              · cases hr
              · split at hr
                · cases hr
                · cases hr; omega
          have HS2 := Lib.hid hst2
          clear hr hst2 HST
          go_wp2_with fail
          go_at_call 38
          refine (KD.out q).mono ?_
          rintro _ w5 ⟨v5, rfl, hr5, hb5⟩
          obtain ⟨a5, c5, rfl, _, hc5, hx5⟩ := hr5.nats_inv
          have HX5 := Lib.hid hx5
          have HB5 := Lib.hid (ext_trans (ext_drewN q (Below.refl _ w)) hb5)
          clear hb5 hr5 hx5
          have cv : IntKind.u64.wrap (ks.length : Int) = (ks.length : Int) := IntWalk.u64_in _ (by omega)
          by_cases hlt : n < ks.length
          · obtain ⟨b, off, rfl, _, hc⟩ := HX5.out (by omega)
            have cc := hc n hlt
            have t1 : decide ((ks.length : Int) ≤ (n : Int)) = false := decide_eq_false (by omega)
            have t1' : decide (ks.length ≤ n) = false := decide_eq_false (by omega)
            have hst2 := HS2.out
            rw [dif_pos hlt] at hst2
            obtain ⟨z, hz⟩ : ∃ z, ks[n] = z := ⟨_, rfl⟩
            rw [hz] at cc hst2
            have HR : Hid (R = (((z : Nat) : Int), 0)) := Lib.hid hst2
            have HLT := Lib.hid hlt
            have hlt2 : (n : Int) < (ks.length : Int) := by omega
            clear hc hz HX5 hst2 HS2
            go_wp2
            refine bodyPost_ret (v := .tuple #[.int .i64 z, .int .i64 0]) (by simp [results, Tryz.results48, go_sem]) rfl ⟨by rw [HR.out], HB5.out⟩
          · have t1 : decide ((ks.length : Int) ≤ (n : Int)) = true := decide_eq_true (by omega)
            have t1' : decide (ks.length ≤ n) = true := decide_eq_true (by omega)
            have hst2 := HS2.out
            rw [dif_neg hlt] at hst2
            have HR : Hid (R = (0, 30)) := Lib.hid hst2
            clear HX5 hlt hst2 HS2
            go_wp2
            refine bodyPost_ret (v := .tuple #[.int .i64 0, .int .i64 30]) (by simp [results, Tryz.results48, go_sem]) rfl ⟨by rw [HR.out], HB5.out⟩
      · rw [if_neg h5] at hstep
        have HR : Hid (R = (0, 32)) := Lib.hid hstep
        have t5 : (kd == 5) = false := beq_eq_false_iff_ne.2 h5
        have t5' : (kd != 5) = true := bne_iff_ne.2 h5
        clear hv hin hy ht hstep MB KD hki hul hjl hx h6 h5
        go_enter Tryz.func48, Tryz.ntmps48
        go_wp2_with fail
        refine HAS.out.mono ?_
        rintro _ w2 ⟨rfl, rfl⟩
        go_wp2
        refine bodyPost_ret (v := .tuple #[.int .i64 0, .int .i64 32]) (by simp [results, Tryz.results48, go_sem]) rfl ⟨by rw [HR.out], Below.refl _ _⟩
  · rw [decide_eq_false hin] at HAS
    have hstep : stepS s.js s.ups id x = (0, 30) := by unfold stepS; rw [if_neg hin]
    have HAS := Lib.hid HAS
    rw [hstep]
    clear hv hin hstep
    go_enter Tryz.func48, Tryz.ntmps48
    go_wp2_with fail
    refine HAS.out.mono ?_
    rintro _ w2 ⟨rfl, rfl⟩
    go_wp2
    refine bodyPost_ret (v := .tuple #[.int .i64 0, .int .i64 30]) (by simp [results, Tryz.results48, go_sem]) rfl ⟨rfl, Below.refl _ _⟩
def no47 (c : Nat) : Bool := !(c == 47)
def restP (P : ByteArray) (a : Nat) : List ByteArray := if a < P.size then segsB (P.extract (a + 1) P.size) else []
def RpRel8 (s : PS) (P : ByteArray) (R : Int × Int × Int) (W : World) (vi va : Value) (wr : World) : Prop := ∃ (a : Nat) (id : Int), vi = .int .i64 id ∧ va = .int .i64 a ∧ a ≤ P.size ∧ pathL s.js s.ups (restP P a) a id = R ∧ Below W.heap.size W wr
def RqRel8 (j : Nat) (a : Nat) (W : World) (v : Value) (wr : World) : Prop := wr = W ∧ ∃ t : Nat, v = .int .i64 t ∧ a + 1 ≤ t ∧ t ≤ j
theorem rest_next {P : ByteArray} {a : Nat} (ha : a < P.size) : a + 1 ≤ skip no47 P (a + 1) ∧ skip no47 P (a + 1) ≤ P.size ∧ restP P a = P.extract (a + 1) (skip no47 P (a + 1)) :: restP P (skip no47 P (a + 1)) ∧
    (∀ t, a + 1 ≤ t → t < skip no47 P (a + 1) → byteAt P t ≠ 47) ∧ (skip no47 P (a + 1) < P.size → byteAt P (skip no47 P (a + 1)) = 47) := by
  have h1 := skip_ge no47 P (a + 1)
  have h2 := skip_le no47 P (a + 1) ha
  have h3 : ∀ t, a + 1 ≤ t → t < skip no47 P (a + 1) → byteAt P t ≠ 47 := fun t ht1 ht2 => by
    have := skip_all no47 P _ (a + 1) t rfl ht1 ht2
    simpa [no47] using this
  have h4 : skip no47 P (a + 1) < P.size → byteAt P (skip no47 P (a + 1)) = 47 := fun h => by
    have := skip_end no47 P _ (a + 1) rfl h
    simpa [no47] using this
  refine ⟨h1, h2, ?_, h3, h4⟩
  unfold restP
  rw [if_pos ha]
  exact seg_next h1 h2 h3 (by
    by_cases h : skip no47 P (a + 1) < P.size
    · exact .inr (h4 h)
    · exact .inl (by omega))
def RaPost (w : World) (R : Int × Int × Int) (e : Ending) (w' : World) : Prop := e = .returned (.tuple #[.int .i64 R.1, .int .i64 R.2.1, .int .i64 R.2.2]) ∧ Below w.heap.size w w'
set_option maxRecDepth 100000 in
set_option maxHeartbeats 16000000 in
theorem rpath8_any (D gn cn gu cu : Nat) (s : PS) (id : Int) (P : ByteArray) (w : World) (hv : RView w D s gn cn gu cu) (hjl : s.js.length ≤ 100000) (hz : P.size ≤ 1000000) :
    Calls Tryz.prog 20 #[ptrV D, .int .i64 id, .string P] w (RaPost w (pathS s.js s.ups id P)) := by
  have HAS := rhas7_any w D gn cn gu cu s id hv
  by_cases h0 : P.size = 0
  · have hR : pathS s.js s.ups id P = if 0 ≤ id ∧ id < s.js.length then (id, 0, 0) else (0, 30, 0) := by unfold pathS; rw [if_pos h0]
    have t0 : decide ((0 : Int) < (P.size : Int)) = false := decide_eq_false (by omega)
    have t0' : decide (0 < P.size) = false := decide_eq_false (by omega)
    have t0e : ((P.size : Int) == 0) = true := beq_iff_eq.2 (by omega)
    rw [hR]
    by_cases hin : 0 ≤ id ∧ id < s.js.length
    · rw [decide_eq_true hin] at HAS
      rw [if_pos hin]
      have HAS := Lib.hid HAS
      clear hv hin hR h0
      go_enter Tryz.func20, Tryz.ntmps20
      go_wp2_with fail
      refine HAS.out.mono ?_
      rintro _ w2 ⟨rfl, rfl⟩
      go_wp2
      refine bodyPost_ret (v := .tuple #[.int .i64 id, .int .i64 0, .int .i64 0]) (by simp [results, Tryz.results20, go_sem]) rfl ⟨rfl, Below.refl _ _⟩
    · rw [decide_eq_false hin] at HAS
      rw [if_neg hin]
      have HAS := Lib.hid HAS
      clear hv hin hR h0
      go_enter Tryz.func20, Tryz.ntmps20
      go_wp2_with fail
      refine HAS.out.mono ?_
      rintro _ w2 ⟨rfl, rfl⟩
      go_wp2
      refine bodyPost_ret (v := .tuple #[.int .i64 0, .int .i64 30, .int .i64 0]) (by simp [results, Tryz.results20, go_sem]) rfl ⟨rfl, Below.refl _ _⟩
  · have hpos : 0 < P.size := by omega
    have t0 : decide ((0 : Int) < (P.size : Int)) = true := decide_eq_true (by omega)
    have t0' : decide (0 < P.size) = true := decide_eq_true hpos
    have t0e : ((P.size : Int) == 0) = false := beq_eq_false_iff_ne.2 (by omega)
    have hb0 : (P[0]'hpos).toNat = byteAt P 0 := (byteAt_get P 0 hpos).symm
    by_cases h47 : byteAt P 0 = 47
    · have hR : pathS s.js s.ups id P = pathL s.js s.ups (restP P 0) ((0 : Nat) : Int) id := by unfold pathS restP; rw [if_neg h0, if_pos h47, if_pos hpos]; rfl
      rw [hR]
      have t47 : (((P[0]'hpos).toNat : Int) != 47) = false := by rw [hb0, h47]; rfl
      obtain ⟨R, hRR⟩ : ∃ R, pathL s.js s.ups (restP P 0) ((0 : Nat) : Int) id = R := ⟨_, rfl⟩
      rw [hRR]
      have R0 : RpRel8 s P R w (.int .i64 id) (.int .i64 0) w := ⟨0, id, rfl, rfl, Nat.zero_le _, hRR, Below.refl _ _⟩
      have HR0 := Lib.hid R0
      have ST := Lib.hid (fun W (hW : Below w.heap.size w W) (id : Int) (x : ByteArray) (hx : x.size ≤ 1000000) => rstep8_any D gn cn gu cu s id x W (hv.below hW) hjl hx)
      clear hv hjl h0 hb0 h47 hR hRR R0 HAS
      go_enter Tryz.func20, Tryz.ntmps20
      go_wp2_with fail
      go_loopw [1, 9] (RpRel8 s P R w) (fun _ a _ => P.size - (intOf a).toNat)
      case atStart => exact HR0.out
      case round =>
        obtain ⟨a, id1, rfl, rfl, ha, hpl, hb⟩ := hrel
        by_cases hlt : a < P.size
        · have t1 : decide ((a : Int) < (P.size : Int)) = true := decide_eq_true (by omega)
          have t1' : decide (a < P.size) = true := decide_eq_true hlt
          have q1 : IntKind.i64.wrap ((a : Int) + 1) = (a : Int) + 1 := IntWalk.i64_in _ (by omega)
          obtain ⟨r1, r2, r3, r4, r5⟩ := rest_next hlt
          rw [r3, pathL] at hpl
          obtain ⟨j, hj⟩ : ∃ j, skip no47 P (a + 1) = j := ⟨_, rfl⟩
          rw [hj] at r1 r2 r4 r5 hpl
          have hxs : (P.extract (a + 1) j).size = j - (a + 1) := by rw [ByteArray.size_extract]; omega
          have R4 := Lib.hid r4; have R5 := Lib.hid r5; have HPL := Lib.hid hpl; have HB := Lib.hid hb; have HXS := Lib.hid hxs
          have RQ0 : RqRel8 j a wr (.int .i64 ((a : Int) + 1)) wr := ⟨rfl, a + 1, by go_num, Nat.le_refl _, r1⟩
          have HRQ := Lib.hid RQ0
          clear hpl r3 r4 r5 hb hj hxs RQ0 HR0
          go_wp2_with fail
          go_loopw [10] (RqRel8 j a wr) (fun t _ => j - (intOf t).toNat)
          case atStart => exact HRQ.out
          case round =>
            obtain ⟨rfl, t, rfl, ht1, ht2⟩ := hrel
            by_cases htj : t < j
            · have htp : t < P.size := by omega
              have u1 : decide ((t : Int) < (P.size : Int)) = true := decide_eq_true (by omega)
              have u1' : decide (t < P.size) = true := decide_eq_true htp
              have q2 : IntKind.i64.wrap ((t : Int) + 1) = (t : Int) + 1 := IntWalk.i64_in _ (by omega)
              have hbt : (P[t]'htp).toNat = byteAt P t := (byteAt_get P t htp).symm
              have u2 : (((P[t]'htp).toNat : Int) != 47) = true := bne_iff_ne.2 (by rw [hbt]; have := R4.out t ht1 htj; omega)
              have RR : RqRel8 j a wr (.int .i64 ((t : Int) + 1)) wr := ⟨rfl, t + 1, by go_num, by omega, by omega⟩
              have HRR := Lib.hid RR
              clear RR hbt
              go_wp2
              refine ⟨?_, by simp [intOf]; omega⟩
              have R := HRR.out
              first | exact R | ((repeat apply Exists.intro); exact ⟨R, rfl⟩)
            · obtain rfl : t = j := by omega
              have SX := Lib.hid (ST.out wr HB.out id1 (P.extract (a + 1) t) (by rw [HXS.out]; omega))
              obtain ⟨⟨n1, k1⟩, hst⟩ : ∃ r, stepS s.js s.ups id1 (P.extract (a + 1) t) = r := ⟨_, rfl⟩
              have hpl := HPL.out
              rw [hst] at SX hpl
              simp only at hpl
              have hat : ((a : Int) + ((P.extract (a + 1) t).size : Nat) + 1) = ((t : Nat) : Int) := by rw [HXS.out]; omega
              rw [hat] at hpl
              obtain ⟨Z, hZ⟩ : ∃ Z, P.extract (a + 1) t = Z := ⟨_, rfl⟩
              rw [hZ] at SX
              have sl : ∀ W, (Instr.slice 9 (.string P) (some (.int .i64 ((a : Int) + 1))) (some (.int .i64 (t : Int))) none).run Tryz.prog W = .ok (.string Z) W := fun W => by
                rw [← hZ]
                have e1 : ((a : Int) + 1).toNat = a + 1 := by omega
                have e2 : (0 : Int) ≤ (a : Int) + 1 := by omega
                have e3 : (t : Int) ≤ (P.size : Int) := by omega
                have e4 : (a : Int) + 1 ≤ (t : Int) := by omega
                simp [Instr.slice, run_underlying Tryz.underlying9, Instr.sliceBounds, run_sliceBound, e1, e2, e3, e4]
              have HPL2 := Lib.hid hpl
              clear hst hpl hat hZ HRQ htj
              have fin : ∀ w4, Below wr.heap.size wr w4 → (k1 = 0 → RpRel8 s P R w (.int .i64 n1) (.int .i64 (t : Nat)) w4) ∧ (k1 ≠ 0 → R = (0, k1, (a : Int))) ∧ Below w.heap.size w w4 := fun w4 hb4 => by
                have hbw := HB.out.trans (hb4.mono HB.out.size)
                refine ⟨fun hk => ⟨t, n1, rfl, rfl, r2, ?_, hbw⟩, fun hk => ?_, hbw⟩
                · have := HPL2.out; rw [if_pos hk] at this; exact this
                · have := HPL2.out; rw [if_neg hk] at this; exact this.symm
              have FIN := Lib.hid fin
              clear fin HPL2 HPL
              have main : (k1 != 0) = decide (k1 ≠ 0) := by by_cases h : k1 = 0 <;> simp [h]
              by_cases htp : t < P.size
              · have u1 : decide ((t : Int) < (P.size : Int)) = true := decide_eq_true (by omega)
                have u1' : decide (t < P.size) = true := decide_eq_true htp
                have hbt : (P[t]'htp).toNat = byteAt P t := (byteAt_get P t htp).symm
                have u2 : (((P[t]'htp).toNat : Int) != 47) = false := by rw [hbt, R5.out htp]; rfl
                clear hbt main
                by_cases hk : k1 = 0
                · have tk : (k1 != 0) = false := by rw [hk]; rfl
                  have HK := Lib.hid hk
                  clear hk
                  go_wp2_with fail
                  go_at_call 48
                  refine SX.out.mono ?_
                  rintro _ w4 ⟨rfl, hb4⟩
                  have HRR := Lib.hid ((FIN.out w4 hb4).1 HK.out)
                  clear hb4
                  go_wp2
                  refine ⟨?_, by simp [intOf]; omega⟩
                  have R := HRR.out
                  first | exact R | ((repeat apply Exists.intro); exact ⟨R, rfl⟩)
                · have tk : (k1 != 0) = true := bne_iff_ne.2 hk
                  have HK := Lib.hid hk
                  clear hk
                  go_wp2_with fail
                  go_at_call 48
                  refine SX.out.mono ?_
                  rintro _ w4 ⟨rfl, hb4⟩
                  have HRR := Lib.hid ((FIN.out w4 hb4).2.1 HK.out)
                  have HBF := Lib.hid ((FIN.out w4 hb4).2.2)
                  clear hb4
                  go_wp2
                  refine bodyPost_ret (v := .tuple #[.int .i64 0, .int .i64 k1, .int .i64 (a : Nat)]) (by simp [results, Tryz.results20, go_sem]) rfl ⟨by rw [HRR.out], HBF.out⟩
              · have u1 : decide ((t : Int) < (P.size : Int)) = false := decide_eq_false (by omega)
                have u1' : decide (t < P.size) = false := decide_eq_false htp
                clear main
                by_cases hk : k1 = 0
                · have tk : (k1 != 0) = false := by rw [hk]; rfl
                  have HK := Lib.hid hk
                  clear hk
                  go_wp2_with fail
                  go_at_call 48
                  refine SX.out.mono ?_
                  rintro _ w4 ⟨rfl, hb4⟩
                  have HRR := Lib.hid ((FIN.out w4 hb4).1 HK.out)
                  clear hb4
                  go_wp2
                  refine ⟨?_, by simp [intOf]; omega⟩
                  have R := HRR.out
                  first | exact R | ((repeat apply Exists.intro); exact ⟨R, rfl⟩)
                · have tk : (k1 != 0) = true := bne_iff_ne.2 hk
                  have HK := Lib.hid hk
                  clear hk
                  go_wp2_with fail
                  go_at_call 48
                  refine SX.out.mono ?_
                  rintro _ w4 ⟨rfl, hb4⟩
                  have HRR := Lib.hid ((FIN.out w4 hb4).2.1 HK.out)
                  have HBF := Lib.hid ((FIN.out w4 hb4).2.2)
                  clear hb4
                  go_wp2
                  refine bodyPost_ret (v := .tuple #[.int .i64 0, .int .i64 k1, .int .i64 (a : Nat)]) (by simp [results, Tryz.results20, go_sem]) rfl ⟨by rw [HRR.out], HBF.out⟩
        · have hap : a = P.size := by omega
          have t1 : decide ((a : Int) < (P.size : Int)) = false := decide_eq_false (by omega)
          have t1' : decide (a < P.size) = false := decide_eq_false hlt
          have hr : restP P a = [] := by unfold restP; rw [if_neg hlt]
          rw [hr, pathL] at hpl
          have HRE := Lib.hid hpl
          have HB := Lib.hid hb
          clear hpl hr hb hap hlt HR0
          go_wp2
          refine bodyPost_ret (v := .tuple #[.int .i64 id1, .int .i64 0, .int .i64 0]) (by simp [results, Tryz.results20, go_sem]) rfl ⟨by rw [← HRE.out], HB.out⟩
    · have hR : pathS s.js s.ups id P = (0, 11, 0) := by unfold pathS; rw [if_neg h0, if_neg h47]
      rw [hR]
      have t47 : (((P[0]'hpos).toNat : Int) != 47) = true := bne_iff_ne.2 (by rw [hb0]; omega)
      clear hv h0 hb0 h47 hR HAS
      go_enter Tryz.func20, Tryz.ntmps20
      go_wp2
      refine bodyPost_ret (v := .tuple #[.int .i64 0, .int .i64 11, .int .i64 0]) (by simp [results, Tryz.results20, go_sem]) rfl ⟨rfl, Below.refl _ _⟩
end
section
open Go.RowKit
set_option maxRecDepth 100000 in
set_option maxHeartbeats 64000000 in
theorem canonPaths_any (va : Value) (B : ByteArray) (id : Int) (P : ByteArray) (w : World) (he : CE w) (hg : Glob w) (ha : Rd (Own w) w va (bytesDB B)) :
    Calls Tryz.prog 5 #[va, .int .i64 id, .string P] w fun e w' => e = .returned (.bool true) ∧ Below w.heap.size w w' := by
  obtain ⟨a1, c1, rfl, _, _, _⟩ := ha.by_inv
  have SP := Lib.hid (speaks08 w he)
  have HE := Lib.hid he; have HA := Lib.hid ha; have HG := Lib.hid hg
  clear he ha hg
  by_cases b1 : 2000 < B.size
  · have t1 : decide ((2000 : Int) < (B.size : Int)) = true := decide_eq_true (by omega)
    clear b1
    go_enter Tryz.func5, Tryz.ntmps5
    go_wp2_with fail
    refine SP.out.mono ?_
    rintro e w1 ⟨rfl, hb⟩
    have HB := Lib.hid hb; clear hb
    go_wp2
    go_ret
    exact ⟨rfl, HB.out⟩
  have t1 : decide ((2000 : Int) < (B.size : Int)) = false := decide_eq_false (by omega)
  by_cases b2 : 300 < P.size
  · have t2 : decide ((300 : Int) < (P.size : Int)) = true := decide_eq_true (by omega)
    clear b1 b2
    go_enter Tryz.func5, Tryz.ntmps5
    go_wp2_with fail
    refine SP.out.mono ?_
    rintro e w1 ⟨rfl, hb⟩
    have HB := Lib.hid hb; clear hb
    go_wp2
    go_ret
    exact ⟨rfl, HB.out⟩
  have t2 : decide ((300 : Int) < (P.size : Int)) = false := decide_eq_false (by omega)
  have zB : B.size ≤ 2000 := by omega
  have zP : P.size ≤ 300 := by omega
  have PA := Lib.hid (fun W (hW : Below w.heap.size w W) => parse_any W _ B ⟨1048576, 64, 5000⟩ (HA.out.ext hW) (HE.out.ext hW).sc (by omega))
  have RA := Lib.hid (fun W (hW : Below w.heap.size w W) => rparse_any W _ B ⟨1048576, 64, 5000⟩ (HA.out.ext hW) (HE.out.ext hW).sc (by omega))
  clear b1 b2
  go_enter Tryz.func5, Tryz.ntmps5
  go_wp2_with fail
  refine SP.out.mono ?_
  rintro e w1 ⟨rfl, hb⟩
  have HB1 := Lib.hid hb; clear hb
  go_wp2_with fail
  refine (wide_any _).mono ?_
  rintro e w2 ⟨rfl, hb⟩
  have HB2 := Lib.hid (ext_trans HB1.out hb); clear hb
  have PX := PA.out _ HB2.out
  cases hx : parseS B ⟨1048576, 64, 5000⟩ with
  | no q p =>
    rw [hx] at PX
    have PX := Lib.hid PX
    clear hx
    go_wp2_with fail
    refine PX.out.mono ?_
    rintro e w3 ⟨u, rfl, hf⟩
    have HB3 := Lib.hid (ext_trans HB2.out hf.2)
    clear hf PX
    go_wp2
    go_ret
    exact ⟨rfl, HB3.out⟩
  | ok s =>
    rw [hx] at PX
    have PX := Lib.hid PX
    have HX := Lib.hid hx
    clear hx
    go_wp2_with fail
    refine PX.out.mono ?_
    rintro e w3 ⟨D, T, tv, ns, rfl, hd, hb⟩
    have HB3 := Lib.hid (ext_trans HB2.out hb)
    have HV3 := Lib.hid (pview_of hd HX.out (by omega))
    clear hb hd PX
    go_wp2_with fail
    refine (wide_any _).mono ?_
    rintro e w4 ⟨rfl, hb⟩
    have HV4 := Lib.hid (HV3.out.below hb)
    have HB4 := Lib.hid (ext_trans HB3.out hb); clear hb
    have RX := RA.out _ HB4.out
    rw [HX.out] at RX
    have RX := Lib.hid RX
    go_wp2_with fail
    refine RX.out.mono ?_
    rintro e w5 ⟨R, gn, cn, gu, cu, rfl, hr, hb⟩
    have HV5 := Lib.hid (HV4.out.below hb)
    have HB5 := Lib.hid (ext_trans HB4.out hb)
    have HR5 := Lib.hid hr
    clear hb hr RX
    have hjl := parse_len HX.out
    have PX := path_any8 _ D T s 5000 tv ns id P w5 HV5.out (HE.out.ext HB5.out).mx (by omega)
    have RX := fun W (hW : Below w5.heap.size w5 W) => rpath8_any R gn cn gu cu s id P W (HR5.out.below hW) (by omega) (by omega)
    obtain ⟨⟨r1, r2, r3⟩, hQ⟩ : ∃ Q, pathS s.js s.ups id P = Q := ⟨_, rfl⟩
    rw [hQ] at PX RX
    have PX := Lib.hid PX; have RX := Lib.hid RX
    clear hQ hjl
    go_wp2_with fail
    refine PX.out.mono ?_
    rintro e w6 ⟨u, rfl, hu, hb⟩
    have HB6 := Lib.hid (ext_trans HB5.out hb)
    have HU := Lib.hid hu
    have RY := Lib.hid (RX.out _ hb)
    simp only
    clear hb hu PX RX
    go_wp2_with fail
    refine RY.out.mono ?_
    rintro e w7 ⟨rfl, hb⟩
    have HB7 := Lib.hid (ext_trans HB6.out hb)
    have TD := Lib.hid (told8_any w7 u r2 r3 (HG.out.ext HB7.out) (HU.out.ext hb))
    have tr : (r1 == r1) = true := beq_self_eq_true _
    clear hb RY
    go_wp2_with fail
    go_at_call 21
    refine TD.out.mono ?_
    rintro e w8 ⟨rfl, hb⟩
    have HB8 := Lib.hid (ext_trans HB7.out hb); clear hb
    go_wp2
    go_ret
    exact ⟨rfl, HB8.out⟩
end
end Go.Proofs.YtheoaijheijojaaGreatDoor
