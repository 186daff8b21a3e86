/- The document's reader of chapter 6: escaped.  -/
import Derived.Test.YtmdalkjhlhkloaaDoorEyeP
import Derived.Deep.RegionHeld3
namespace Go.Proofs.YtmdalkjhlhkloaaDoor
open Go.RowKit
def EsRel (c : Nat) (W : World) (i : Value) (wr : World) : Prop := ∃ j n : Nat, i = .int .i64 j ∧ j ≤ 8 ∧ (∀ m, m < j → escNames[m]? ≠ some c) ∧ wr = W.drewN n
theorem esc_hit : ∀ j : Fin 8, ∀ c : Fin 256, escNames[j.val]? = some c.val → escNames.contains c.val = true ∧ escVals[escNames.idxOf c.val]?.getD 0 = escVals[j.val]?.getD 0 := by decide +kernel
theorem esc_none : ∀ c : Fin 256, (∀ j : Fin 8, escNames[j.val]? ≠ some c.val) → escNames.contains c.val = false := by decide +kernel
set_option maxRecDepth 100000 in
set_option maxHeartbeats 8000000 in
theorem eescaped_any (E : Nat) (v : Value) (B : ByteArray) (i : Nat) (sa : Int) (w : World) (hz : B.size ≤ 1000000) (hs : i < B.size) (h : EyeS w E v ⟨i, 0, sa⟩) (hB : EyeB w E v B) :
    Calls Tryd.prog 126 #[.pointer (some ⟨E, 0, none⟩)] w (UePost E v w (escE B ⟨i, 0, sa⟩).1 (escE B ⟨i, 0, sa⟩).2) := by
  have hst := EyeAt.stepped h
  have hc0 := h.cell; have hf0 := h.frozen
  obtain ⟨W, hW⟩ : ∃ W, w.setCell ⟨E, 1, none⟩ (.int .i64 ((i : Int) + 1)) = W := ⟨_, rfl⟩
  rw [hW] at hst
  have hE1 : EyeS W E v ⟨i + 1, 0, sa⟩ := hst.2.1
  have hO1 : OnlyE E w W := hst.2.2
  have hB1 : EyeB W E v B := hB.only hO1
  have HF := Lib.hid (fun n (k : Nat) (p : Int) => (efail_any E v ⟨i + 1, 0, sa⟩ k p (W.drewN n) hE1).mono fun e w' hp => hp.after (hO1.trans (only_drewN E W n)))
  have HB1 := Lib.hid hB1; have HE1 := Lib.hid hE1; have HO1 := Lib.hid hO1; have HB := Lib.hid hB; have H0 := Lib.hid h
  have hc := hE1.cell; have hf := hE1.frozen
  have q1 : IntKind.i64.wrap ((i : Int) + 1) = (i : Int) + 1 := IntWalk.i64_in _ (by omega)
  obtain ⟨a, c, rfl, _, hac, hx⟩ := hB1.by_inv
  obtain ⟨b, off, rfl, hne, hx⟩ := hx (by omega)
  have HX := Lib.hid hx
  clear hst h hB hE1 hO1 hB1 hx
  by_cases hend : i + 1 = B.size
  · have t1 : ((i : Int) + 1 == (B.size : Int)) = true := beq_iff_eq.2 (by omega)
    have HE : Hid (escE B ⟨i, 0, sa⟩ = (failE ⟨i + 1, 0, sa⟩ 10 ((i + 1 : Nat) : Int), 0)) := Lib.hid (by unfold escE; rw [if_pos hend]; rfl)
    clear hend
    go_enter Tryd.func126, Tryd.ntmps126
    go_wp2
    go_quiet (fail)
    go_wp2_with fail
    rw [show (i : Int) + 1 = ((i + 1 : Nat) : Int) by omega]
    refine (HF.out _ 10 _).mono ?_
    rintro e w1 ⟨rfl, h1, h2⟩
    have H1 := Lib.hid h1; have H2 := Lib.hid h2
    clear h1 h2
    go_wp2
    go_ret
    rw [HE.out]
    exact ⟨rfl, H1.out, H2.out⟩
  · have hlt : i + 1 < B.size := by omega
    have t1 : ((i : Int) + 1 == (B.size : Int)) = false := beq_eq_false_iff_ne.2 (by omega)
    have x1 := HX.out (i + 1) hlt
    have q4 : (i : Int) + 1 < (B.size : Int) := by omega
    have q6 : (0 : Int) ≤ (i : Int) + 1 := by omega
    have q7 : ((i : Int) + 1).toNat = i + 1 := by omega
    have q8 : i + 1 < B.size := hlt
    have hcb : byteAt B (i + 1) < 256 := byteAt_lt B _
    have HE : Hid (escE B ⟨i, 0, sa⟩ = if escNames.contains (byteAt B (i + 1)) then (stepE (stepE ⟨i, 0, sa⟩), escVals[escNames.idxOf (byteAt B (i + 1))]?.getD 0) else if byteAt B (i + 1) ≠ 117 then (failE (stepE ⟨i, 0, sa⟩) 11 ((i + 1 : Nat) : Int), 0) else pairE B ⟨i, 0, sa⟩) := Lib.hid (by unfold escE; rw [if_neg hend])
    obtain ⟨ch, hch⟩ : ∃ ch, byteAt B (i + 1) = ch := ⟨_, rfl⟩
    rw [hch] at x1 HE hcb
    have HCB := Lib.hid hcb
    have q5 : IntKind.i64.wrap ((i : Int) + 1 + 1) = (i : Int) + 1 + 1 := IntWalk.i64_in _ (by omega)
    have HSTP : Hid (∀ n, UePost E (.slice (some ⟨b, off, none⟩) B.size c) w (stepE (stepE ⟨i, 0, sa⟩)) 0 (.returned (.int .i64 0)) ((W.drewN n).setCell ⟨E, 1, none⟩ (.int .i64 ((i : Int) + 1 + 1)))) := Lib.hid (fun n => by
      have := EyeAt.stepped (HE1.out.drewN n)
      have e : ((i + 1 : Nat) : Int) + 1 = (i : Int) + 1 + 1 := by omega
      rw [e] at this
      exact ⟨rfl, this.2.1, (HO1.out.trans (only_drewN E W n)).trans this.2.2⟩)
    obtain ⟨S1, hS1⟩ : ∃ S : ByteArray, (⟨#[34, 92, 47, 98, 102, 110, 114, 116]⟩ : ByteArray) = S := ⟨_, rfl⟩
    obtain ⟨S2, hS2⟩ : ∃ S : ByteArray, (⟨#[34, 92, 47, 8, 12, 10, 13, 9]⟩ : ByteArray) = S := ⟨_, rfl⟩
    have hz1 : S1.size = 8 := by rw [← hS1]; rfl
    have hz2 : S2.size = 8 := by rw [← hS2]; rfl
    have HN1 : Hid (∀ j (h : j < S1.size), escNames[j]? = some (S1[j]'h).toNat) := Lib.hid (by
      subst hS1
      intro j h
      have h' : j < 8 := h
      revert h
      have hj : j = 0 ∨ j = 1 ∨ j = 2 ∨ j = 3 ∨ j = 4 ∨ j = 5 ∨ j = 6 ∨ j = 7 := by omega
      rcases hj with rfl | rfl | rfl | rfl | rfl | rfl | rfl | rfl <;> exact fun _ => rfl)
    have HN2 : Hid (∀ j (h : j < S2.size), escVals[j]?.getD 0 = (S2[j]'h).toNat) := Lib.hid (by
      subst hS2
      intro j h
      have h' : j < 8 := h
      revert h
      have hj : j = 0 ∨ j = 1 ∨ j = 2 ∨ j = 3 ∨ j = 4 ∨ j = 5 ∨ j = 6 ∨ j = 7 := by omega
      rcases hj with rfl | rfl | rfl | rfl | rfl | rfl | rfl | rfl <;> exact fun _ => rfl)
    have HZ1 := Lib.hid hz1; have HZ2 := Lib.hid hz2
    clear hend hlt hch hcb hz1 hz2
    go_enter Tryd.func126, Tryd.ntmps126
    rw [hS1, hS2]
    clear hS1 hS2
    go_wp2
    go_quiet (fail)
    go_wp2_with fail
    go_loopw [6] (EsRel ch W) (fun k _ => 8 - (intOf k).toNat)
    case atStart => exact ⟨0, _, rfl, by decide, fun m h => by omega, rfl⟩
    case round =>
      obtain ⟨j, nq, rfl, hj, hn, rfl⟩ := hrel
      have HNN := Lib.hid hn
      clear hn
      by_cases hlt : j < 8
      · have t2 : decide ((j : Int) < 8) = true := decide_eq_true (by omega)
        have t2' : decide (j < 8) = true := decide_eq_true hlt
        have hj1 : j < S1.size := by rw [HZ1.out]; exact hlt
        have hj2 : j < S2.size := by rw [HZ2.out]; exact hlt
        have hb := HN1.out j hj1
        by_cases he : ch = (S1[j]'hj1).toNat
        · have t3 : ((ch : Int) == ((S1[j]'hj1).toNat : Int)) = true := beq_iff_eq.2 (by omega)
          have t3' : (ch == (S1[j]'hj1).toNat) = true := beq_iff_eq.2 he
          have HEH : Hid (escE B ⟨i, 0, sa⟩ = (stepE (stepE ⟨i, 0, sa⟩), (S2[j]'hj2).toNat)) := Lib.hid (by
            have := esc_hit ⟨j, hlt⟩ ⟨ch, HCB.out⟩ (by show escNames[j]? = some ch; rw [hb, he])
            rw [HE.out, if_pos this.1, this.2]
            show _ = _
            rw [← HN2.out j hj2])
          have hbd : (S2[j]'hj2).toNat < 256 := UInt8.toNat_lt _
          clear hb he
          go_wp2
          go_quiet (fail)
          go_wp2
          go_ret
          rw [HEH.out]
          exact ⟨rfl, (HSTP.out _).2.1, (HSTP.out _).2.2⟩
        · have t3 : ((ch : Int) == ((S1[j]'hj1).toNat : Int)) = false := beq_eq_false_iff_ne.2 (by omega)
          have t3' : (ch == (S1[j]'hj1).toNat) = false := beq_eq_false_iff_ne.2 he
          have R : ∀ n, EsRel ch W (.int .i64 (j + 1)) (W.drewN n) := fun n => ⟨j + 1, n, by go_num, by omega, fun m hm => by
            by_cases e : m = j
            · subst e; rw [hb]; intro h; exact he (Option.some.inj h).symm
            · exact HNN.out m (by omega), rfl⟩
          have HR := Lib.hid R
          clear hb he R
          go_wp2
          go_quiet (fail)
          go_wp2
          refine ⟨?_, by simp [intOf] <;> omega⟩
          have R := HR.out
          first | exact R _ | ((repeat apply Exists.intro); exact ⟨R _, rfl⟩)
      · have hcn : escNames.contains ch = false := esc_none ⟨ch, HCB.out⟩ (fun m => HNN.out m.val (by omega))
        have t2 : decide ((j : Int) < 8) = false := decide_eq_false (by omega)
        have t2' : decide (j < 8) = false := decide_eq_false hlt
        by_cases hu : ch = 117
        · have t4 : ((ch : Int) != 117) = false := by rw [hu]; rfl
          have t4' : (ch != 117) = false := by rw [hu]; rfl
          have HEH : Hid (escE B ⟨i, 0, sa⟩ = pairE B ⟨i, 0, sa⟩) := Lib.hid (by rw [HE.out, hcn, if_neg (by decide), if_neg (by rw [hu]; decide)])
          have HMV := Lib.hid (fun n => (HE1.out.drewN n).move i)
          have HOV : Hid (∀ n, OnlyE E w ((W.drewN n).setCell ⟨E, 1, none⟩ (.int .i64 i))) := Lib.hid (fun n => (HO1.out.trans (only_drewN E W n)).set (p := ⟨E, 1, none⟩) (fun _ => rfl) _)
          have HUN := Lib.hid (fun n => eunit_any E (.slice (some ⟨b, off, none⟩) B.size c) B ⟨i, 0, sa⟩ ((W.drewN n).setCell ⟨E, 1, none⟩ (.int .i64 i)) hz (by show i ≤ B.size; omega) (HMV.out n) (HB.out.only (HOV.out n)))
          clear hcn hu hlt
          go_wp2
          go_quiet (fail)
          go_wp2_with fail
          refine (HUN.out _).mono ?_
          rintro e w1 ⟨rfl, h1, h2⟩
          have HOU := Lib.hid ((HOV.out _).trans h2); have H1 := Lib.hid h1
          have hcu := h1.cell; have hfu := h1.frozen
          clear h1 h2 hc hf hc0 hf0 x1
          have HP1 : Hid ((unitE B ⟨i, 0, sa⟩).k ≠ 0 ∨ halfN (unitV B ⟨i, 0, sa⟩) = 0 → pairE B ⟨i, 0, sa⟩ = (unitE B ⟨i, 0, sa⟩, unitV B ⟨i, 0, sa⟩)) := Lib.hid (fun h => by unfold pairE; rw [if_pos h])
          have HP2 : Hid ((unitE B ⟨i, 0, sa⟩).k = 0 → halfN (unitV B ⟨i, 0, sa⟩) ≠ 0 → halfN (unitV B ⟨i, 0, sa⟩) ≠ 1 → pairE B ⟨i, 0, sa⟩ = (failE (unitE B ⟨i, 0, sa⟩) 11 (i : Int), 0)) := Lib.hid (fun h1 h2 h3 => by unfold pairE; rw [if_neg (by simp [h1, h2]), if_neg h3])
          have HP3 : Hid ((unitE B ⟨i, 0, sa⟩).k = 0 → halfN (unitV B ⟨i, 0, sa⟩) = 1 → pairE B ⟨i, 0, sa⟩ = if (lowE B (unitE B ⟨i, 0, sa⟩)).k = 0 ∧ halfN (lowV B (unitE B ⟨i, 0, sa⟩)) = 2 then (⟨(lowE B (unitE B ⟨i, 0, sa⟩)).i, (unitE B ⟨i, 0, sa⟩).k, (unitE B ⟨i, 0, sa⟩).a⟩, (rwholeN (unitV B ⟨i, 0, sa⟩) (lowV B (unitE B ⟨i, 0, sa⟩))).toNat) else if (lowE B (unitE B ⟨i, 0, sa⟩)).k = 10 then (failE (unitE B ⟨i, 0, sa⟩) 10 (lowE B (unitE B ⟨i, 0, sa⟩)).a, 0) else (failE (unitE B ⟨i, 0, sa⟩) 11 (i : Int), 0)) := Lib.hid (fun h1 h2 => by unfold pairE; rw [if_neg (by rw [h1, h2]; decide), if_pos h2])
          have HUI : Hid ((unitE B ⟨i, 0, sa⟩).i ≤ B.size) := Lib.hid (unit_le (by show i ≤ B.size; omega))
          generalize unitE B ⟨i, 0, sa⟩ = u at *
          generalize unitV B ⟨i, 0, sa⟩ = n at *
          have HHF := Lib.hid (fun W => rhalf_any (n : Int) W)
          by_cases hk : u.k = 0
          · cases hh : (halfN (n : Int) == 0) with
            | true =>
              have HP := Lib.hid (HP1.out (.inr (beq_iff_eq.1 hh)))
              rw [hk] at hcu
              clear hk
              go_wp2_with fail
              refine (HHF.out _).mono ?_
              rintro e w2 ⟨rfl, rfl⟩
              go_wp2
              go_ret
              rw [HEH.out, HP.out]
              exact ⟨rfl, H1.out, HOU.out⟩
            | false =>
              have h0' : halfN (n : Int) ≠ 0 := by simpa using hh
              have HFU := Lib.hid (efail_any E (.slice (some ⟨b, off, none⟩) B.size c) u 11 (i : Int) w1 H1.out)
              rw [hk] at hcu
              cases hq : (halfN (n : Int) == 1) with
              | true =>
                have HP := Lib.hid (HP3.out hk (by simpa using hq))
                have HLS : Hid (EyeS (w1.alloc (.cells #[.slice (some ⟨b, off, none⟩) B.size c, .int .i64 u.i, .int .i64 0, .int .i64 0] 138)).drew w1.heap.size (.slice (some ⟨b, off, none⟩) B.size c) ⟨u.i, 0, 0⟩) := Lib.hid (by show (w1.heap.push _)[w1.heap.size]? = _; simp)
                have HLB : Hid (EyeB (w1.alloc (.cells #[.slice (some ⟨b, off, none⟩) B.size c, .int .i64 u.i, .int .i64 0, .int .i64 0] 138)).drew w1.heap.size (.slice (some ⟨b, off, none⟩) B.size c) B) := Lib.hid (by
                  have hzz := HOU.out.size
                  refine Rd.mono HB.out (fun k hk => ?_) (fun k hk => ⟨by have := hk.2; omega, by have := hk.2; simp; omega⟩)
                  have h1 : (w1.alloc (.cells #[.slice (some ⟨b, off, none⟩) B.size c, .int .i64 u.i, .int .i64 0, .int .i64 0] 138)).drew.heap[k]? = w1.heap[k]? := Below.heap_alloc w1 _ k (by have := hk.2; omega)
                  rw [h1]; exact HOU.out.block k hk.2 hk.1)
                have HLC : Hid (Calls Tryd.prog 165 #[.pointer (some ⟨w1.heap.size, 0, none⟩)] (w1.alloc (.cells #[.slice (some ⟨b, off, none⟩) B.size c, .int .i64 u.i, .int .i64 0, .int .i64 0] 138)).drew (UePost w1.heap.size (.slice (some ⟨b, off, none⟩) B.size c) (w1.alloc (.cells #[.slice (some ⟨b, off, none⟩) B.size c, .int .i64 u.i, .int .i64 0, .int .i64 0] 138)).drew (lowE B u) (lowV B u))) := Lib.hid (eunit_any w1.heap.size (.slice (some ⟨b, off, none⟩) B.size c) B ⟨u.i, 0, 0⟩ _ hz HUI.out HLS.out HLB.out)
                generalize lowE B u = l at *
                generalize lowV B u = m at *
                have HWC := Lib.hid (fun W => rwhole_any (n : Int) (m : Int) W)
                rw [hq] at HWC
                have HWP : Hid (halfN (m : Int) = 2 → ∃ x : Nat, rwholeN (n : Int) (m : Int) = (x : Int) ∧ (rwholeN (n : Int) (m : Int)).toNat = x) := Lib.hid (fun hm => by
                  have h1 := half_one.1 (by simpa using hq)
                  have h2 := half_two.1 hm
                  unfold rwholeN
                  split
                  · exact ⟨65536 + 1024 * (n - 55296) + (m - 56320), by omega, by omega⟩
                  · exact ⟨0, rfl, rfl⟩)
                have HKE : Hid (∀ w3, OnlyE w1.heap.size (w1.alloc (.cells #[.slice (some ⟨b, off, none⟩) B.size c, .int .i64 u.i, .int .i64 0, .int .i64 0] 138)).drew w3 → EyeS w3 E (.slice (some ⟨b, off, none⟩) B.size c) u ∧ OnlyE E w w3) := Lib.hid (fun w3 h3 => by
                  have hzz := HOU.out.size
                  have hlt := H1.out.lt
                  have hk3 : ∀ k, k < w1.heap.size → w3.heap[k]? = w1.heap[k]? := fun k hk => (h3.block k (by simp; omega) (by omega)).trans (Below.heap_alloc w1 _ k hk)
                  refine ⟨EyeAt.ext H1.out (hk3 E hlt), HOU.out.trans (Only.of ⟨h3.os, h3.tape, h3.output, ?_, hk3⟩)⟩
                  have := h3.size; simp at this; omega)
                clear h0'
                go_wp2_with fail
                refine (HHF.out _).mono ?_
                rintro e w2 ⟨rfl, rfl⟩
                go_wp2_with fail
                refine (HHF.out _).mono ?_
                rintro e w2 ⟨rfl, rfl⟩
                go_wp2_with fail
                go_region_held3 (fun W' => (∀ o, W'.cell? ⟨E, o, none⟩ = w1.cell? ⟨E, o, none⟩)) (first | assumption | exact fun o => (bcell1 (ext_alloc (Below.refl _ w1) (.cells #[.slice (some ⟨b, off, none⟩) B.size c, .int .i64 u.i, .int .i64 0, .int .i64 0] 138)) H1.out.lt o) | (intro o; rfl)) (fail)
                rename_i hHeld
                clear hHeld
                go_wp2_with fail
                refine HLC.out.mono ?_
                rintro e w3 ⟨rfl, g1, g2⟩
                have HLE : Hid (EyeS w3 w1.heap.size (.slice (some ⟨b, off, none⟩) B.size c) l) := Lib.hid g1
                have hk3 := HKE.out w3 g2
                have HE3 := Lib.hid hk3.1; have HO3 := Lib.hid hk3.2
                have hcl := HLE.out.cell; have hfl := HLE.out.frozen
                have hcE := HE3.out.cell; have hfE := HE3.out.frozen
                clear g1 g2 hk3 HLC HLS HLB HKE hcu hfu
                have HFL : Hid (∀ (s : St) (k : Nat) (p : Int) W, EyeS W E (.slice (some ⟨b, off, none⟩) B.size c) s → OnlyE E w W → Calls Tryd.prog 83 #[.pointer (some ⟨E, 0, none⟩), .int .i64 k, .int .i64 p] W (EyPost E (.slice (some ⟨b, off, none⟩) B.size c) w (failE s k p))) := Lib.hid (fun s k p W hS hO => (efail_any E _ s k p W hS).mono fun e w' hp => hp.after hO)
                by_cases hlk : l.k = 0
                · have t8 : ((l.k : Int) == 0) = true := beq_iff_eq.2 (by omega)
                  have t8' : ((l.k : Int) == 10) = false := beq_eq_false_iff_ne.2 (by omega)
                  cases hm : (halfN (m : Int) == 2) with
                  | true =>
                    have hm' : halfN (m : Int) = 2 := by simpa using hm
                    rw [hm] at HWC
                    obtain ⟨x, hx1, hx2⟩ := HWP.out hm'
                    rw [hx1] at HWC
                    have HPA : Hid (pairE B ⟨i, 0, sa⟩ = (⟨l.i, u.k, u.a⟩, x)) := Lib.hid (by rw [HP.out, if_pos ⟨hlk, hm'⟩, hx2])
                    have HMV3 := Lib.hid (HE3.out.move l.i)
                    have HOV3 : Hid (OnlyE E w (w3.setCell ⟨E, 1, none⟩ (.int .i64 l.i))) := Lib.hid (HO3.out.set (p := ⟨E, 1, none⟩) (fun _ => rfl) _)
                    clear hlk hx1 hx2 hm' hm hk
                    go_wp2_with fail
                    refine (HWC.out _).mono ?_
                    rintro e w4 ⟨rfl, rfl⟩
                    go_wp2_with fail
                    go_ret
                    rw [HEH.out, HPA.out]
                    exact ⟨rfl, HMV3.out, HOV3.out⟩
                  | false =>
                    have hm' : ¬ halfN (m : Int) = 2 := by simpa using hm
                    rw [hm] at HWC
                    have HPA : Hid (pairE B ⟨i, 0, sa⟩ = (failE u 11 (i : Int), 0)) := Lib.hid (by rw [HP.out, if_neg (by simp [hm']), if_neg (by omega)])
                    clear hlk hm' hm hk
                    go_wp2_with fail
                    refine (HWC.out _).mono ?_
                    rintro e w4 ⟨rfl, rfl⟩
                    go_wp2_with fail
                    refine (HFL.out _ 11 _ _ HE3.out HO3.out).mono ?_
                    rintro e w5 ⟨rfl, k1, k2⟩
                    have K1 := Lib.hid k1; have K2 := Lib.hid k2
                    clear k1 k2
                    go_wp2
                    go_ret
                    rw [HEH.out, HPA.out]
                    exact ⟨rfl, K1.out, K2.out⟩
                · have t8 : ((l.k : Int) == 0) = false := beq_eq_false_iff_ne.2 (by omega)
                  by_cases hl10 : l.k = 10
                  · have t9 : ((l.k : Int) == 10) = true := beq_iff_eq.2 (by omega)
                    have HPA : Hid (pairE B ⟨i, 0, sa⟩ = (failE u 10 l.a, 0)) := Lib.hid (by rw [HP.out, if_neg (by simp [hlk]), if_pos hl10])
                    clear hlk hl10 
                    go_wp2_with fail
                    refine (HWC.out _).mono ?_
                    rintro e w4 ⟨rfl, rfl⟩
                    go_wp2_with fail
                    have HF2 : Hid (failE (failE u 10 l.a) 11 (i : Int) = failE u 10 l.a) := Lib.hid (by unfold failE; rw [hk, if_pos rfl, if_neg (by simp)])
                    clear hk
                    refine (HFL.out _ 10 _ _ HE3.out HO3.out).mono ?_
                    rintro e w5 ⟨rfl, k1, k2⟩
                    have K1 := Lib.hid k1; have K2 := Lib.hid k2
                    clear k1 k2
                    go_wp2_with fail
                    refine (HFL.out _ 11 _ _ K1.out K2.out).mono ?_
                    rintro e w6 ⟨rfl, k1, k2⟩
                    have J1 := Lib.hid k1; have J2 := Lib.hid k2
                    clear k1 k2
                    go_wp2
                    go_ret
                    rw [HF2.out] at J1
                    rw [HEH.out, HPA.out]
                    exact ⟨rfl, J1.out, J2.out⟩
                  · have t9 : ((l.k : Int) == 10) = false := beq_eq_false_iff_ne.2 (by omega)
                    have HPA : Hid (pairE B ⟨i, 0, sa⟩ = (failE u 11 (i : Int), 0)) := Lib.hid (by rw [HP.out, if_neg (by simp [hlk]), if_neg hl10])
                    clear hlk hl10 hk
                    go_wp2_with fail
                    refine (HWC.out _).mono ?_
                    rintro e w4 ⟨rfl, rfl⟩
                    go_wp2_with fail
                    refine (HFL.out _ 11 _ _ HE3.out HO3.out).mono ?_
                    rintro e w5 ⟨rfl, k1, k2⟩
                    have K1 := Lib.hid k1; have K2 := Lib.hid k2
                    clear k1 k2
                    go_wp2
                    go_ret
                    rw [HEH.out, HPA.out]
                    exact ⟨rfl, K1.out, K2.out⟩
              | false =>
                have HP := Lib.hid (HP2.out hk h0' (by simpa using hq))
                clear hk h0'
                go_wp2_with fail
                refine (HHF.out _).mono ?_
                rintro e w2 ⟨rfl, rfl⟩
                go_wp2_with fail
                refine (HHF.out _).mono ?_
                rintro e w2 ⟨rfl, rfl⟩
                go_wp2_with fail
                refine HFU.out.mono ?_
                rintro e w3 ⟨rfl, g1, g2⟩
                have G1 := Lib.hid g1; have G2 := Lib.hid (HOU.out.trans g2)
                clear g1 g2
                go_wp2
                go_ret
                rw [HEH.out, HP.out]
                exact ⟨rfl, G1.out, G2.out⟩
          · have t5 : ((u.k : Int) != 0) = true := bne_iff_ne.2 (by omega)
            have HP := Lib.hid (HP1.out (.inl hk))
            clear hk
            go_wp2
            go_ret
            rw [HEH.out, HP.out]
            exact ⟨rfl, H1.out, HOU.out⟩
        · have t4 : ((ch : Int) != 117) = true := bne_iff_ne.2 (by omega)
          have t4' : (ch != 117) = true := bne_iff_ne.2 hu
          have HEH : Hid (escE B ⟨i, 0, sa⟩ = (failE ⟨i + 1, 0, sa⟩ 11 ((i + 1 : Nat) : Int), 0)) := Lib.hid (by rw [HE.out, hcn, if_neg (by decide), if_pos hu]; rfl)
          clear hcn hu hlt
          go_wp2
          go_quiet (fail)
          go_wp2_with fail
          rw [show (i : Int) + 1 = ((i + 1 : Nat) : Int) by omega]
          refine (HF.out _ 11 _).mono ?_
          rintro e w1 ⟨rfl, h1, h2⟩
          have H1 := Lib.hid h1; have H2 := Lib.hid h2
          clear h1 h2
          go_wp2
          go_ret
          rw [HEH.out]
          exact ⟨rfl, H1.out, H2.out⟩
end Go.Proofs.YtmdalkjhlhkloaaDoor
