/- JsonpBounds: the walk. -/
import Derived.Test.YtmhfbdeeebbloaaGreatDoorZJrM5
import Derived.Test.YtmhfbdeeebbloaaGreatDoorZJbP0
namespace Go.Proofs.YtmhfbdeeebbloaaGreatDoor
open Go.RowKit
theorem take_len {B : ByteArray} {m : Bd} {s s' : PS} {t : Tok} (h : takeS B m s t = .ok s') : (s'.js.length : Int) ≤ max (s.js.length : Int) m.nodes := by
  unfold takeS valueS keyS betweenS wrongS addS at h
  repeat' split at h
  all_goals first
    | (cases h; done)
    | (cases h; (try simp only [List.length_append, List.length_cons, List.length_nil]); omega)
theorem run_len (B : ByteArray) (m : Bd) : ∀ f i s s', runF B m f i s = .ok s' → (s'.js.length : Int) ≤ max (s.js.length : Int) m.nodes
  | 0, i, s, s', h => by cases h; omega
  | f + 1, i, s, s', h => by
    rw [runF] at h
    obtain ⟨t, hn, h⟩ := Sc.bind_eq_ok h
    obtain ⟨s2, ht, h⟩ := Sc.bind_eq_ok h
    have h2 := take_len ht
    split at h
    · cases h; exact h2
    · have := run_len B m f _ s2 s' h; omega
theorem bounds_len {B : ByteArray} {m : Bd} {s : PS} (h : parseS B m = .ok s) : (s.js.length : Int) ≤ max 0 m.nodes := by
  unfold parseS at h
  split at h
  · cases h
  · have := run_len B m _ _ _ _ h
    exact this
theorem chainF_le (ups : List Nat) : ∀ f k, chainF ups f k ≤ f
  | 0, _ => Nat.le_refl _
  | f + 1, k => by
    rw [chainF]
    split
    · omega
    · cases ups[k]? with
      | none => simp
      | some u => have := chainF_le ups f u; simp only; omega
theorem chainU_le (ups : List Nat) (k : Nat) : chainU ups k ≤ k + 1 := chainF_le ups _ k
theorem deepTo_le (js : List JN) (ups : List Nat) : ∀ n, deepTo js ups n ≤ n
  | 0 => Nat.le_refl _
  | n + 1 => by
    rw [deepTo_succ]
    have := deepTo_le js ups n
    have := chainU_le ups n
    split
    · split
      · omega
      · exact Nat.max_le.2 ⟨by omega, by omega⟩
    · omega
def DpRel7 (js : List JN) (ups : List Nat) (W : World) (d k : Value) (wr : World) : Prop := ∃ j : Nat, k = .int .i64 j ∧ j ≤ js.length ∧ d = .int .i64 (deepTo js ups j : Nat) ∧ wr = W
def ChRel7 (ups : List Nat) (i : Nat) (W : World) (n k : Value) (wr : World) : Prop := wr = W ∧ ∃ c : Nat, n = .int .i64 c ∧ c ≤ chainU ups i ∧
  ((∃ kk : Nat, k = .int .i64 kk ∧ kk ≤ i ∧ c + chainU ups kk = chainU ups i) ∨ (k = .int .i64 (-1) ∧ c = chainU ups i))
set_option maxRecDepth 100000 in
set_option maxHeartbeats 16000000 in
theorem jsonpBounds_any (v : Value) (B : ByteArray) (w : World) (he : ScEnv w) (h : Rd (Own w) w v (bytesDB B)) :
    Calls Tryz.prog 3 #[v] w fun e w' => e = .returned (.bool true) ∧ Below w.heap.size w w' := by
  obtain ⟨a0, c0, rfl, _, _, _⟩ := h.by_inv
  have SP := Lib.hid (speaks07 w he)
  have HE := Lib.hid he; have HH := Lib.hid h
  clear he h
  by_cases hbig : 2000 < B.size
  · have q : decide ((2000 : Int) < (B.size : Int)) = true := decide_eq_true (by omega)
    clear hbig
    go_enter Tryz.func3, Tryz.ntmps3
    go_wp2_with fail
    refine SP.out.mono ?_
    rintro e w1 ⟨rfl, hb⟩
    have HB := Lib.hid hb; clear hb
    go_wp2
    go_ret
    exact ⟨rfl, HB.out⟩
  · have t1 : decide ((2000 : Int) < (B.size : Int)) = false := decide_eq_false (by omega)
    have hB : B.size ≤ 2000 := by omega
    have PA := Lib.hid (fun W (hW : Below w.heap.size w W) (m : Bd) => parse_any W _ B m (HH.out.ext hW) (HE.out.ext hW) (by omega))
    have RP := Lib.hid (fun W (hW : Below w.heap.size w W) (m : Bd) => rparse_any W _ B m (HH.out.ext hW) (HE.out.ext hW) (by omega))
    clear hbig
    go_enter Tryz.func3, Tryz.ntmps3
    go_wp2_with fail
    refine SP.out.mono ?_
    rintro e w2 ⟨rfl, hb⟩
    have HB2 := Lib.hid hb; clear hb
    go_wp2_with fail
    refine (wide_any _).mono ?_
    rintro e w3 ⟨rfl, hb⟩
    have HB3 := Lib.hid (ext_trans HB2.out hb); clear hb
    have PX := PA.out _ HB3.out ⟨1048576, 64, 5000⟩
    cases hx : parseS B ⟨1048576, 64, 5000⟩ with
    | no k i =>
      rw [hx] at PX
      have PX := Lib.hid PX
      clear hx
      go_wp2_with fail
      refine PX.out.mono ?_
      rintro e w4 ⟨u, rfl, hf⟩
      have HF := Lib.hid (ext_trans HB3.out hf.2)
      clear hf
      go_wp2
      go_ret
      exact ⟨rfl, HF.out⟩
    | ok s =>
      rw [hx] at PX
      have HX := Lib.hid hx
      have PX := Lib.hid PX
      clear hx
      go_wp2_with fail
      refine PX.out.mono ?_
      rintro e w4 ⟨D, T, tv, ns, rfl, hd, hb4⟩
      have HD := Lib.hid hd
      have HB4 := Lib.hid (ext_trans HB3.out hb4)
      have HWF := Lib.hid hd.wf
      clear hd hb4 PX
      go_wp2_with fail
      refine (wide_any _).mono ?_
      rintro e w5 ⟨rfl, hb5⟩
      have HD5 := Lib.hid (HD.out.below hb5)
      have HB5 := Lib.hid (ext_trans HB4.out hb5); clear hb5
      have RX := RP.out _ HB5.out ⟨1048576, 64, 5000⟩
      rw [HX.out] at RX
      have RX := Lib.hid RX
      go_wp2_with fail
      refine RX.out.mono ?_
      rintro e w6 ⟨DR, gn, cn, gu, cu, rfl, hv, hb6⟩
      have HD6 := Lib.hid (HD5.out.below hb6)
      have HB6 := Lib.hid (ext_trans HB5.out hb6)
      have HV := Lib.hid hv
      have c0 := hv.c0
      have c1 := hv.c1
      have zD := hv.zD
      have zN := hv.zN
      have zU := hv.zU
      have hul := hv.ul
      have hupz := hv.up0
      obtain ⟨L, hL⟩ : ∃ L, s.js.length = L := ⟨_, rfl⟩
      have hjl : L ≤ 5000 := by
        have := bounds_len HX.out
        rw [hL] at this
        have : (L : Int) ≤ max 0 5000 := this
        omega
      rw [hL] at c0 c1 hul
      have HLL := Lib.hid hL
      have R0 : DpRel7 s.js s.ups w6 (.int .i64 0) (.int .i64 0) w6 := ⟨0, rfl, Nat.zero_le _, rfl, rfl⟩
      have HR0 := Lib.hid R0
      clear hv hb6 R0 RX hL
      go_wp2_with fail
      go_loopw [8, 50] (DpRel7 s.js s.ups w6) (fun _ k _ => L - (intOf k).toNat)
      case atStart => exact HR0.out
      case round =>
        obtain ⟨j, rfl, hjl2, rfl, rfl⟩ := hrel
        rw [HLL.out] at hjl2
        have hdl := deepTo_le s.js s.ups j
        by_cases hlt : j < L
        · have t2 : decide ((j : Int) < (L : Int)) = true := decide_eq_true (by omega)
          have t2' : decide (j < L) = true := decide_eq_true hlt
          have q1 : IntKind.i64.wrap ((j : Int) + 1) = (j : Int) + 1 := IntWalk.i64_in _ (by omega)
          obtain ⟨x, hx⟩ := get_ex s.js j (by rw [HLL.out]; exact hlt)
          obtain ⟨n0, _, _, _⟩ := HV.out.nd j x hx
          have hds := deepTo_succ s.js s.ups j
          rw [hx] at hds
          simp only at hds
          by_cases hk : x.kind < 5
          · rw [if_pos hk] at hds
            have t3 : decide (x.kind < 5) = true := decide_eq_true hk
            have R : DpRel7 s.js s.ups wr (.int .i64 (deepTo s.js s.ups j : Nat)) (.int .i64 ((j : Int) + 1)) wr := ⟨j + 1, by go_num, by rw [HLL.out]; omega, by rw [hds], rfl⟩
            have HRR := Lib.hid R
            clear R hds hk hx
            generalize deepTo s.js s.ups j = dd at *
            go_wp2
            refine ⟨?_, by simp [intOf]; omega⟩
            have R := HRR.out
            first | exact R | ((repeat apply Exists.intro); exact ⟨R, rfl⟩)
          · rw [if_neg hk] at hds
            have t3 : decide (x.kind < 5) = false := decide_eq_false hk
            have hcu := chainU_le s.ups j
            have R : DpRel7 s.js s.ups wr (.int .i64 (max (deepTo s.js s.ups j : Nat) (chainU s.ups j : Nat) : Int)) (.int .i64 ((j : Int) + 1)) wr := ⟨j + 1, by go_num, by rw [HLL.out]; omega, by rw [hds]; congr 1; omega, rfl⟩
            have HRR := Lib.hid R
            have C0 : ChRel7 s.ups j wr (.int .i64 0) (.int .i64 j) wr := ⟨rfl, 0, rfl, Nat.zero_le _, .inl ⟨j, rfl, Nat.le_refl _, by omega⟩⟩
            have HC0 := Lib.hid C0
            clear R hds hk hx C0
            generalize deepTo s.js s.ups j = dd at *
            go_wp2_with fail
            go_loopw [10, 11] (ChRel7 s.ups j wr) (fun _ k _ => (intOf k + 1).toNat)
            case atStart => exact HC0.out
            case round =>
              obtain ⟨rfl, c, rfl, hcc, hh⟩ := hrel
              rcases hh with ⟨kk, rfl, hkj, hch⟩ | ⟨rfl, hch⟩
              · have t4 : decide ((0 : Int) ≤ (kk : Int)) = true := decide_eq_true (by omega)
                have q2 : IntKind.i64.wrap ((c : Int) + 1) = (c : Int) + 1 := IntWalk.i64_in _ (by omega)
                by_cases hk0 : kk = 0
                · subst hk0
                  have h0 := chainU_0 s.ups
                  have R : ChRel7 s.ups j wr (.int .i64 ((c : Int) + 1)) (.int .i64 (-1)) wr := ⟨rfl, c + 1, by go_num, by omega, .inr ⟨rfl, by omega⟩⟩
                  have HCR := Lib.hid R
                  have hL0 : 0 < L := by omega
                  clear R h0 hch
                  go_wp2
                  refine ⟨?_, by simp [intOf]⟩
                  have R := HCR.out
                  first | exact R | ((repeat apply Exists.intro); exact ⟨R, rfl⟩)
                · obtain ⟨u, hu⟩ := get_ex s.ups kk (by omega)
                  have hux := HV.out.up kk u (by omega) hu
                  have hlu := HWF.out kk u (by omega) hu
                  have hcs := chainU_up HWF.out (by omega) hu
                  have R : ChRel7 s.ups j wr (.int .i64 ((c : Int) + 1)) (.int .i64 u) wr := ⟨rfl, c + 1, by go_num, by have := chainU_pos (ups := s.ups) (k := u) (by omega); omega, .inl ⟨u, rfl, by omega, by omega⟩⟩
                  have HCR := Lib.hid R
                  have hkL : kk < L := by omega
                  clear R hcs hch hu
                  go_wp2
                  refine ⟨?_, by simp [intOf]; omega⟩
                  have R := HCR.out
                  first | exact R | ((repeat apply Exists.intro); exact ⟨R, rfl⟩)
              · subst hch
                go_wp2
                refine ⟨?_, by simp [intOf]; omega⟩
                have R := HRR.out
                first | exact R | ((repeat apply Exists.intro); exact ⟨R, rfl⟩)
        · have t2 : decide ((j : Int) < (L : Int)) = false := decide_eq_false (by omega)
          have t2' : decide (j < L) = false := decide_eq_false hlt
          obtain rfl : j = L := by omega
          obtain ⟨b1, b2, ⟨p3, b3⟩, b4, b5⟩ := bounds_law HX.out
          have hds : deepTo s.js s.ups j = deepS s.js s.ups := by unfold deepS; rw [HLL.out]
          rw [hds] at hdl ⊢
          rw [HLL.out] at b1 b2 b3 b4 b5
          generalize deepS s.js s.ups = dp at *
          have LN := Lib.hid (fun V (hV : Below wr.heap.size wr V) => by
            have := tlen_any V _ D T s 5000 tv ns (HD6.out.below hV)
            rw [HLL.out] at this
            exact this)
          have PF := fun W hW => PA.out W hW ⟨B.size, dp, j⟩
          rw [b1] at PF
          have PG := fun W hW => PA.out W hW ⟨B.size - 1, dp, j⟩
          rw [b2] at PG
          have PH := fun W hW => PA.out W hW ⟨B.size, dp, j - 1⟩
          rw [b3] at PH
          have PK := fun W hW => PA.out W hW ⟨B.size, dp - 1, j⟩
          have q3 : IntKind.i64.wrap ((B.size : Int) - 1) = (B.size : Int) - 1 := IntWalk.i64_in _ (by omega)
          have q4 : IntKind.i64.wrap ((dp : Int) - 1) = (dp : Int) - 1 := IntWalk.i64_in _ (by omega)
          have q5 : IntKind.i64.wrap ((j : Int) - 1) = (j : Int) - 1 := IntWalk.i64_in _ (by omega)
          have PF := Lib.hid PF; have PG := Lib.hid PG; have PH := Lib.hid PH
          have HB4 := Lib.hid b4; have HB5' := Lib.hid b5; have PK := Lib.hid PK
          clear b1 b2 b3 b4 b5 hds HR0 hlt c0 c1 hupz zD zN zU
          go_wp2_with fail
          refine (LN.out _ (Below.refl _ _)).mono ?_
          rintro e w7 ⟨rfl, rfl⟩
          go_wp2_with fail
          refine (PF.out _ (ext_alloc HB6.out _)).mono ?_
          rintro e w8 ⟨D8, T8, tv8, ns8, rfl, _, hb8⟩
          have HB8 := Lib.hid (ext_trans (ext_alloc HB6.out _) hb8)
          have HV8 := Lib.hid (ext_trans (ext_alloc (Below.refl wr.heap.size wr) _) hb8)
          clear hb8
          go_wp2_with fail
          refine (LN.out _ HV8.out).mono ?_
          rintro e w9 ⟨rfl, rfl⟩
          go_wp2_with fail
          refine (PG.out _ HB8.out).mono ?_
          rintro e w9 ⟨u9, rfl, hf9⟩
          have HB9 := Lib.hid (ext_trans HB8.out hf9.2)
          have HV9 := Lib.hid (ext_trans HV8.out hf9.2)
          have HF9 := Lib.hid (hf9.1.wide (S' := Own w9) (fun b hb => hb.2))
          clear hf9
          go_wp2_with fail
          refine (LN.out _ HV9.out).mono ?_
          rintro e w10 ⟨rfl, rfl⟩
          go_wp2_with fail
          refine (PH.out _ HB9.out).mono ?_
          rintro e w10 ⟨u10, rfl, hf10⟩
          have HB10 := Lib.hid (ext_trans HB9.out hf10.2)
          have HV10 := Lib.hid (ext_trans HV9.out hf10.2)
          have HG9 := Lib.hid (HF9.out.ext hf10.2)
          have HF10 := Lib.hid (hf10.1.wide (S' := Own w10) (fun b hb => hb.2))
          clear hf10
          go_wp2_with fail
          refine (LN.out _ HV10.out).mono ?_
          rintro e w11 ⟨rfl, rfl⟩
          by_cases hd0 : dp = 0
          · have PK2 := PK.out _ HB10.out
            rw [HB4.out hd0] at PK2
            have PK2 := Lib.hid PK2
            subst hd0
            go_wp2_with fail
            refine PK2.out.mono ?_
            rintro e w12 ⟨D12, T12, tv12, ns12, rfl, _, hb12⟩
            have HA := Lib.hid (has_any _ 14 _ w12 (HG9.out.ext hb12))
            have HC := Lib.hid (has_any _ 15 _ w12 (HF10.out.ext hb12))
            have HFF := Lib.hid (ext_trans HB10.out hb12)
            clear hb12
            go_wp2_with fail
            refine HA.out.mono ?_
            rintro e w13 ⟨rfl, rfl⟩
            simp only [isKind]
            go_wp2_with fail
            refine HC.out.mono ?_
            rintro e w13 ⟨rfl, rfl⟩
            simp only [isKind]
            go_wp2
            go_ret
            exact ⟨rfl, HFF.out⟩
          · obtain ⟨p5, b5⟩ := HB5'.out (by omega)
            have PK2 := PK.out _ HB10.out
            rw [b5] at PK2
            have PK2 := Lib.hid PK2
            have td : ((dp : Int) == 0) = false := beq_eq_false_iff_ne.2 (by omega)
            clear hd0 b5
            go_wp2_with fail
            refine PK2.out.mono ?_
            rintro e w12 ⟨u12, rfl, hf12⟩
            have HA := Lib.hid (has_any _ 14 _ w12 (HG9.out.ext hf12.2))
            have HC := Lib.hid (has_any _ 15 _ w12 (HF10.out.ext hf12.2))
            have HK := Lib.hid (has_any _ 13 _ w12 hf12.1)
            have HFF := Lib.hid (ext_trans HB10.out hf12.2)
            clear hf12
            go_wp2_with fail
            refine HA.out.mono ?_
            rintro e w13 ⟨rfl, rfl⟩
            simp only [isKind]
            go_wp2_with fail
            refine HC.out.mono ?_
            rintro e w13 ⟨rfl, rfl⟩
            simp only [isKind]
            go_wp2_with fail
            refine HK.out.mono ?_
            rintro e w13 ⟨rfl, rfl⟩
            simp only [isKind]
            go_wp2
            go_ret
            exact ⟨rfl, HFF.out⟩
end Go.Proofs.YtmhfbdeeebbloaaGreatDoor
