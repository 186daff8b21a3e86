/- Texts put together. -/
import Derived.Test.YtcaiibkgajhohaaGreatDoorYScan1s
import Derived.Test.YtcaiibkgajhohaaGreatDoorYFold0s
import Derived.Test.YtcaiibkgajhohaaGreatDoorYUtf0s
namespace Go.Proofs.YtcaiibkgajhohaaGreatDoor
section
open Go.RowKit
/-- The bytes from a place on, so many. -/
def subB (B : ByteArray) (p n : Nat) : ByteArray := ⟨B.data.extract p (p + n)⟩
theorem subB_size (B : ByteArray) (p n : Nat) (h : p + n ≤ B.size) : (subB B p n).size = n := by
 show (B.data.extract p (p + n)).size = n
 have h' : p + n ≤ B.data.size := h
 simp; omega
theorem subB_at (B : ByteArray) (p n j : Nat) (hj : j < n) : byteAt (subB B p n) j = byteAt B (p + j) := by
 unfold byteAt subB
 simp only [Array.getElem?_extract]
 split
 · rfl
 · rename_i h
   have hz : B.data.size = B.size := rfl
   have : B.data.size ≤ p + j := by simp at h; omega
   rw [Array.getElem?_eq_none this]
theorem bytes_back (w : World) (b off n cap : Nat) (S : ByteArray) (hS : S.size = n) (hc : ∀ j, j < n → w.cell? ⟨b, off + j, none⟩ = some (.int .u8 (byteAt S j))) :
    (convert 22 9 (.slice (some ⟨b, off, none⟩) n cap)).run Tryz.prog w = .ok (.string S) w := by
 have hl : S.data.toList.length = n := by rw [Array.length_toList]; exact hS
 have := run_convert_bytes_back (P := Tryz.prog) w 22 9 5 ⟨b, off, none⟩ cap S.data.toList Tryz.underlying22 Tryz.underlying5 Tryz.underlying9 (fun j hj => by
  rw [Addr.add_lit, hc j (by omega)]
  have hj' : j < S.data.size := by rw [← Array.length_toList]; exact hj
  unfold byteAt
  rw [Array.getElem?_eq_getElem hj']; rfl)
 rwa [hl, Array.toArray_toList] at this
theorem isHex_digV (c : Nat) : isHex c = decide (digV c < 16) := by
 rw [Bool.eq_iff_iff, decide_eq_true_eq]
 simp only [isHex, isDig, Bool.or_eq_true, Bool.and_eq_true, decide_eq_true_eq]
 unfold digV
 split
 · omega
 · split
   · omega
   · split <;> omega
theorem hexV_digV {c : Nat} (h : isHex c = true) : hexV c = digV c := by
 simp only [isHex, isDig, Bool.or_eq_true, Bool.and_eq_true, decide_eq_true_eq] at h
 unfold hexV digV
 repeat' split
 all_goals omega
theorem hex1 (B : ByteArray) (p : Nat) (h : p < B.size) : numberF 16 65535 (subB B p 1) = if isHex (byteAt B p) then .ok (digV (byteAt B p)) else .no 11 0 := by
 have hs := subB_size B p 1 (by omega)
 have h0 := subB_at B p 1 0 (by omega)
 rw [Nat.add_zero] at h0
 by_cases hx : isHex (byteAt B p) = true
 · rw [if_pos hx]
   have hd : digV (byteAt B p) < 16 := by rw [isHex_digV] at hx; exact of_decide_eq_true hx
   rw [numberF_end (by omega) (fun m hm => by
    obtain rfl : m = 0 := by omega
    unfold notDigit; rw [h0]; exact decide_eq_false (by omega)), hs]
   simp only [numVal, h0, Nat.zero_mul, Nat.zero_add]
   rw [if_neg (by omega)]
 · rw [if_neg hx]
   have hd : ¬ digV (byteAt B p) < 16 := fun h => hx (by rw [isHex_digV]; exact decide_eq_true h)
   exact numberF_bad (j := 0) (by omega) (by unfold notDigit; rw [h0]; exact decide_eq_true (by omega)) (fun m hm => by omega)
theorem hex4_num (B : ByteArray) (p : Nat) (h : p + 4 ≤ B.size) (hx : ∀ k, k < 4 → isHex (byteAt B (p + k)) = true) : numberF 16 65535 (subB B p 4) = .ok (hex4 B p) ∧ hex4 B p < 65536 := by
 have hs := subB_size B p 4 h
 have hd : ∀ k, k < 4 → digV (byteAt B (p + k)) < 16 := fun k hk => by have := hx k hk; rw [isHex_digV] at this; exact of_decide_eq_true this
 have d0 := hd 0 (by omega); have d1 := hd 1 (by omega); have d2 := hd 2 (by omega); have d3 := hd 3 (by omega)
 have e0 := hexV_digV (hx 0 (by omega)); have e1 := hexV_digV (hx 1 (by omega)); have e2 := hexV_digV (hx 2 (by omega)); have e3 := hexV_digV (hx 3 (by omega))
 have s0 := subB_at B p 4 0 (by omega); have s1 := subB_at B p 4 1 (by omega); have s2 := subB_at B p 4 2 (by omega); have s3 := subB_at B p 4 3 (by omega)
 rw [Nat.add_zero] at d0 e0 s0
 have hv : numVal 16 (subB B p 4) 4 = hex4 B p := by
  simp only [numVal, s0, s1, s2, s3, hex4, e0, e1, e2, e3]
  omega
 have hlt : hex4 B p < 65536 := by unfold hex4; omega
 refine ⟨?_, hlt⟩
 rw [numberF_end (by omega) (fun m hm => by
  unfold notDigit
  rw [subB_at B p 4 m (by omega)]
  exact decide_eq_false (by have := hd m (by omega); omega)), hs, hv, if_neg (by omega)]
def UnRel (B : ByteArray) (i : Nat) (w : World) (k : Value) (wr : World) : Prop := ∃ j : Nat, k = .int .i64 ((i + j : Nat) : Int) ∧ j ≤ 6 ∧ Below w.heap.size w wr ∧ ∀ m, m < j → unitFit B i m = true
set_option maxRecDepth 100000 in
set_option maxHeartbeats 8000000 in
theorem unit_any (v : Value) (B : ByteArray) (i : Nat) (w : World) (h : Rd (Own w) w v (bytesDB B)) (hm : B.size ≤ 1100000) (hi : i ≤ B.size) :
    Calls Tryz.prog 185 #[v, .int .i64 i] w (ScB w (unitS B i)) := by
 unfold unitS
 have HR := Lib.hid h
 obtain ⟨a, c, rfl, _, hcap, hc⟩ := h.by_inv
 clear h hc
 go_enter Tryz.func185, Tryz.ntmps185
 go_wp2_with fail
 go_loopw [6] (UnRel B i w) (fun k _ => i + 6 - (intOf k).toNat)
 case atStart => exact ⟨0, rfl, by omega, Below.refl _ _, fun m h => by omega⟩
 case round =>
  obtain ⟨j, rfl, hj, hb, hf⟩ := hrel
  have hR := HR.out.ext hb
  by_cases hlt : j < 6
  · have t0 : decide (((i + j : Nat) : Int) < (i : Int) + 6) = true := decide_eq_true (by omega)
    by_cases hend : i + j = B.size
    · have hE : (firstBad B i 6 (unitFit B i)) = .no 10 B.size := by
        rw [firstBad_no hlt (by simp [unitFit]; omega) hf, if_pos hend]
      have HE := Lib.hid hE; have HB := Lib.hid hb
      have t1 : (((i + j : Nat) : Int) == (B.size : Int)) = true := beq_iff_eq.2 (by omega)
      have HS := Lib.hid (short_any _ B wr hR)
      have hend' := Lib.hid hend
      clear hE hf hend hR hb
      go_wp2_with fail
      refine HS.out.mono ?_
      rintro e w1 ⟨u, rfl, hx⟩
      obtain ⟨p, rfl⟩ := hx.form
      have HX := Lib.hid (hx.after HB.out)
      clear hx
      go_wp2
      go_ret2
      rw [HE.out]
      exact ⟨_, rfl, HX.out⟩
    · have hlt2 : i + j < B.size := by
        by_cases h0 : j = 0
        · omega
        · have := unitFit_lt (hf (j - 1) (by omega))
          omega
      obtain ⟨a', c', e1, _, _, hc⟩ := hR.by_inv
      cases e1
      obtain ⟨b, off, rfl, _, x0⟩ := hc (by omega)
      have x1 := x0 (i + j) hlt2
      have t1 : (((i + j : Nat) : Int) == (B.size : Int)) = false := beq_eq_false_iff_ne.2 (by omega)
      have stop : unitFit B i j = false → (firstBad B i 6 (unitFit B i)) = .no 11 (i + j : Nat) := fun hb => by
       rw [firstBad_no hlt hb hf, if_neg hend]
      have go : unitFit B i j = true → ∀ W, Below w.heap.size w W → UnRel B i w (.int .i64 ((i + j : Nat) + 1 : Int)) W := fun ht W hW => ⟨j + 1, by go_num, by omega, hW, fun m hm => by
       by_cases e : m = j
       · subst e; exact ht
       · exact hf m (by omega)⟩
      have hw : unitFit B i j = (if j = 0 then byteAt B i == 92 else if j = 1 then byteAt B (i + 1) == 117 else isHex (byteAt B (i + j))) := by
       unfold unitFit; rw [decide_eq_true hlt2, Bool.true_and]
      have hj0 : j = 0 ∨ j = 1 ∨ 2 ≤ j := by omega
      rcases hj0 with rfl | rfl | hj2
      · rw [if_pos rfl] at hw
        simp only [Nat.add_zero] at *
        have t2 : ((i : Int) == (i : Int)) = true := beq_self_eq_true _
        by_cases hx : byteAt B i = 92
        · have t3 : ((byteAt B i : Int) == 92) = true := beq_iff_eq.2 (by omega)
          have HRR := Lib.hid (go (by rw [hw]; simp [hx]) wr hb)
          clear go stop hw hf x0 hR hb hx hc
          go_wp2
          refine ⟨?_, by simp [intOf] <;> omega⟩
          have R := HRR.out
          first | exact R | ((repeat apply Exists.intro); exact ⟨R, rfl⟩)
        · have t3 : ((byteAt B i : Int) == 92) = false := beq_eq_false_iff_ne.2 (by omega)
          have HE := Lib.hid (stop (by rw [hw]; simp [hx]))
          have HB := Lib.hid hb
          clear go stop hw hf x0 hR hb hx hc
          go_wp2_with fail
          refine (fails 11 _ _).mono ?_
          rintro e w1 ⟨u, rfl, hx⟩
          obtain ⟨p, rfl⟩ := hx.form
          have HX := Lib.hid (hx.after HB.out)
          clear hx
          go_wp2
          go_ret2
          rw [HE.out]
          exact ⟨_, rfl, HX.out⟩
      · rw [if_neg (by omega), if_pos rfl] at hw
        have t2 : (((i + 1 : Nat) : Int) == (i : Int)) = false := beq_eq_false_iff_ne.2 (by omega)
        have t4 : (((i + 1 : Nat) : Int) == (i : Int) + 1) = true := beq_iff_eq.2 (by omega)
        by_cases hx : byteAt B (i + 1) = 117
        · have t3 : ((byteAt B (i + 1) : Int) == 117) = true := beq_iff_eq.2 (by omega)
          have HRR := Lib.hid (go (by rw [hw]; simp [hx]) wr hb)
          clear go stop hw hf x0 hR hb hx hc
          generalize hp : i + 1 = p at *
          have HP := Lib.hid hp
          clear hp
          go_wp2
          refine ⟨?_, by have := HP.out; simp [intOf] <;> omega⟩
          have R := HRR.out
          first | exact R | ((repeat apply Exists.intro); exact ⟨R, rfl⟩)
        · have t3 : ((byteAt B (i + 1) : Int) == 117) = false := beq_eq_false_iff_ne.2 (by omega)
          have HE := Lib.hid (stop (by rw [hw]; simp [hx]))
          have HB := Lib.hid hb
          clear go stop hw hf x0 hR hb hx hc
          generalize hp : i + 1 = p at *
          have HP := Lib.hid hp
          clear hp
          go_wp2_with fail
          refine (fails 11 _ _).mono ?_
          rintro e w1 ⟨u, rfl, hx⟩
          obtain ⟨p, rfl⟩ := hx.form
          have HX := Lib.hid (hx.after HB.out)
          clear hx
          go_wp2
          go_ret2
          rw [HE.out]
          exact ⟨_, rfl, HX.out⟩
      · rw [if_neg (by omega), if_neg (by omega)] at hw
        have t2 : (((i + j : Nat) : Int) == (i : Int)) = false := beq_eq_false_iff_ne.2 (by omega)
        have t4 : (((i + j : Nat) : Int) == (i : Int) + 1) = false := beq_eq_false_iff_ne.2 (by omega)
        have q1 : ((i + j : Nat) : Int) < (i : Int) + 6 := by omega
        generalize hp : i + j = p at *
        have HP := Lib.hid hp
        have cv := bytes_back wr b (off + p) 1 (c - p) (subB B p 1) (subB_size B p 1 (by omega)) (fun k hk => by
         obtain rfl : k = 0 := by omega
         rw [subB_at B p 1 0 hk, Nat.add_zero, Nat.add_zero]; exact x1)
        have HX1 := hex_any (subB B p 1) 65535 wr (by rw [subB_size B p 1 (by omega)]; omega) (by decide)
        rw [hex1 B p hlt2] at HX1
        have q2 : (p : Int) < (c : Int) := by omega
        have q3 : p + 1 ≤ c := by omega
        cases hx : isHex (byteAt B p) with
        | true =>
          rw [hx, if_pos rfl] at HX1
          have HX1 := Lib.hid HX1
          have HG := Lib.hid (go (by rw [hw]; exact hx))
          have HB := Lib.hid hb
          clear go stop hw hf x0 hR hb hx hc hp
          go_wp2_with fail
          refine HX1.out.mono ?_
          rintro e w1 ⟨rfl, hb1⟩
          have R := HG.out w1 (ext_trans HB.out hb1)
          have HRR := Lib.hid R
          clear R hb1
          go_wp2
          refine ⟨?_, by have := HP.out; simp [intOf] <;> omega⟩
          have R := HRR.out
          first | exact R | ((repeat apply Exists.intro); exact ⟨R, rfl⟩)
        | false =>
          rw [hx, if_neg (by simp)] at HX1
          have HX1 := Lib.hid HX1
          have HE := Lib.hid (stop (by rw [hw]; exact hx))
          have HB := Lib.hid hb
          clear go stop hw hf x0 hR hb hx hc hp
          go_wp2_with fail
          refine HX1.out.mono ?_
          rintro e w1 ⟨u, rfl, hx1⟩
          have HB1 := Lib.hid (ext_trans HB.out hx1.2)
          clear hx1
          go_wp2_with fail
          refine (fails 11 _ _).mono ?_
          rintro e w2 ⟨u2, rfl, hx⟩
          obtain ⟨p2, rfl⟩ := hx.form
          have HX := Lib.hid (hx.after HB1.out)
          clear hx
          go_wp2
          go_ret2
          rw [HE.out]
          exact ⟨_, rfl, HX.out⟩
  · obtain rfl : j = 6 := by omega
    have hE : (firstBad B i 6 (unitFit B i)) = .ok () := firstBad_ok hf
    have hsz : i + 6 ≤ B.size := by have := unitFit_lt (hf 5 (by omega)); omega
    have hx4 : ∀ k, k < 4 → isHex (byteAt B (i + 2 + k)) = true := fun k hk => by
     have := hf (k + 2) (by omega)
     simp only [unitFit, Bool.and_eq_true] at this
     rw [if_neg (by omega), if_neg (by omega)] at this
     rw [show i + 2 + k = i + (k + 2) by omega]; exact this.2
    obtain ⟨hnum, hlt4⟩ := hex4_num B (i + 2) (by omega) hx4
    obtain ⟨a', c', e1, _, _, hc⟩ := hR.by_inv
    cases e1
    obtain ⟨b, off, rfl, _, x0⟩ := hc (by omega)
    have cv := bytes_back wr b (off + (i + 2)) 4 (c - (i + 2)) (subB B (i + 2) 4) (subB_size B (i + 2) 4 (by omega)) (fun k hk => by
     rw [subB_at B (i + 2) 4 k hk, Nat.add_assoc]; exact x0 (i + 2 + k) (by omega))
    have HX1 := hex_any (subB B (i + 2) 4) 65535 wr (by rw [subB_size B (i + 2) 4 (by omega)]; omega) (by decide)
    rw [hnum] at HX1
    have HX1 := Lib.hid HX1; have HE := Lib.hid hE; have HB := Lib.hid hb
    generalize hN : hex4 B (i + 2) = N at *
    have HN := Lib.hid hN
    have q0 : i + 6 ≤ c := by omega
    have q1 : (i : Int) + 2 ≤ (c : Int) := by omega
    have q2 : (i : Int) + 6 ≤ (c : Int) := by omega
    have q3 : (N : Int) < 65536 := by omega
    clear hf hE hx4 hnum hR hc x0 hb hN
    go_wp2_with fail
    refine HX1.out.mono ?_
    rintro e w1 ⟨rfl, hb1⟩
    have HB1 := Lib.hid (ext_trans HB.out hb1)
    clear hb1
    go_wp2
    go_ret2
    rw [HE.out, Sc.bind_ok, HN.out]
    exact ⟨rfl, HB1.out⟩
section
variable {v : Value} {B : ByteArray} {w : World}
theorem unit_ok {i n : Nat} (hr : unitS B i = .ok n) (h : Rd (Own w) w v (bytesDB B)) (hm : B.size ≤ 1100000) (hi : i ≤ B.size) :
    Calls Tryz.prog 185 #[v, .int .i64 i] w fun ev w' => ev = .returned (.tuple #[.int .i64 n, .nilIface]) ∧ Below w.heap.size w w' := by
 have := unit_any v B i w h hm hi
 rwa [hr] at this
theorem unit_no {i k : Nat} {p : Int} (hr : unitS B i = .no k p) (h : Rd (Own w) w v (bytesDB B)) (hm : B.size ≤ 1100000) (hi : i ≤ B.size) :
    Calls Tryz.prog 185 #[v, .int .i64 i] w fun ev w' => ∃ u, ev = .returned (.tuple #[.int .i64 0, .iface 85 (.pointer (some u))]) ∧ Failed w k p (.iface 85 (.pointer (some u))) w' := by
 have := unit_any v B i w h hm hi
 rw [hr] at this
 exact this
end
set_option maxRecDepth 100000 in
set_option maxHeartbeats 8000000 in
theorem pair_any (v : Value) (B : ByteArray) (i : Nat) (w : World) (h : Rd (Own w) w v (bytesDB B)) (hm : B.size ≤ 1100000) (hi : i ≤ B.size) :
    Calls Tryz.prog 173 #[v, .int .i64 i] w (ScP w (pairS B i)) := by
 unfold pairS
 have HR := Lib.hid h
 clear h
 cases hu : unitS B i with
 | no k p =>
   have HU := Lib.hid (unit_no hu HR.out hm hi)
   clear hu
   go_enter Tryz.func173, Tryz.ntmps173
   go_wp2_with fail
   refine HU.out.mono ?_
   rintro e w1 ⟨u, rfl, hf⟩
   have HF := Lib.hid hf; clear hf
   go_wp2
   go_ret3
   exact ⟨_, rfl, HF.out⟩
 | ok n =>
   have HU := Lib.hid (unit_ok hu HR.out hm hi)
   have hn := unitS_lt hu
   have h6 := (unitS_ok hu).2.2
   clear hu
   rw [Sc.bind_ok]
   have hH : ∀ W, Calls Tryz.prog 186 #[.int .i64 n] W fun e w' => e = .returned (.int .i64 (halfN n)) ∧ W = w' := fun W => half_any n W
   by_cases h0 : n < 55296 ∨ 57343 < n
   · have e0 : halfN n = 0 := by unfold halfN; rw [if_neg (by omega), if_neg (by omega)]
     rw [e0] at hH
     have HH := Lib.hid hH
     rw [if_pos h0]
     clear hH e0 h0
     go_enter Tryz.func173, Tryz.ntmps173
     go_wp2_with fail
     refine HU.out.mono ?_
     rintro e w1 ⟨rfl, hb⟩
     have HB := Lib.hid hb; clear hb
     go_wp2_with fail
     refine (HH.out _).mono ?_
     rintro e w2 ⟨rfl, rfl⟩
     go_wp2
     go_ret3
     exact ⟨rfl, HB.out⟩
   · rw [if_neg h0]
     by_cases h1 : n < 56320
     · have e0 : halfN n = 1 := by unfold halfN; rw [if_pos (by omega)]
       rw [e0] at hH
       have HH := Lib.hid hH
       rw [if_pos h1]
       cases hl : unitS B (i + 6) with
       | ok m =>
         have hm2 := unitS_lt hl
         have HL := Lib.hid (fun W (hW : Below w.heap.size w W) => unit_ok hl (HR.out.ext hW) hm h6)
         clear hH e0 hl
         by_cases hc : 56320 ≤ m ∧ m ≤ 57343
         · have HW := Lib.hid (fun W => whole_in (n : Int) (m : Int) W (by omega) (by omega) (by omega) (by omega))
           have HE : pairLow B i n (.ok m) = .ok (65536 + (n - 55296) * 1024 + (m - 56320), 12) := by
            simp only [pairLow]; rw [if_pos hc]
           have HE := Lib.hid HE
           have hv : wholeN n m = ((65536 + (n - 55296) * 1024 + (m - 56320) : Nat) : Int) := by unfold wholeN; omega
           have HV := Lib.hid hv
           clear hc h0 h1 hv
           go_enter Tryz.func173, Tryz.ntmps173
           go_wp2_with fail
           refine HU.out.mono ?_
           rintro e w1 ⟨rfl, hb⟩
           have HB := Lib.hid hb; clear hb
           go_wp2_with fail
           refine (HH.out _).mono ?_
           rintro e w2 ⟨rfl, rfl⟩
           go_wp2_with fail
           refine (HL.out _ HB.out).mono ?_
           rintro e w2 ⟨rfl, hb⟩
           have HB2 := Lib.hid (ext_trans HB.out hb); clear hb
           go_wp2_with fail
           refine (HW.out _).mono ?_
           rintro e w3 ⟨rfl, rfl⟩
           go_wp2
           go_ret3
           rw [HE.out]
           refine ⟨?_, HB2.out⟩
           rw [← HV.out]; rfl
         · have HW := Lib.hid (fun W => whole_out (n : Int) (m : Int) W (by omega))
           have HE : pairLow B i n (.ok m) = .no 11 i := by
            simp only [pairLow]; rw [if_neg hc]
           have HE := Lib.hid HE
           clear hc h0 h1
           go_enter Tryz.func173, Tryz.ntmps173
           go_wp2_with fail
           refine HU.out.mono ?_
           rintro e w1 ⟨rfl, hb⟩
           have HB := Lib.hid hb; clear hb
           go_wp2_with fail
           refine (HH.out _).mono ?_
           rintro e w2 ⟨rfl, rfl⟩
           go_wp2_with fail
           refine (HL.out _ HB.out).mono ?_
           rintro e w2 ⟨rfl, hb⟩
           have HB2 := Lib.hid (ext_trans HB.out hb); clear hb
           go_wp2_with fail
           refine (HW.out _).mono ?_
           rintro e w3 ⟨rfl, rfl⟩
           go_wp2_with fail
           refine (is_any (S := Own w2) .nilIface 10 [] w2 (by simp only [errD]; exact .nilI)).mono ?_
           rintro e w3 ⟨rfl, rfl⟩
           rw [show isKind [] 10 = false from rfl]
           go_wp2_with fail
           refine (fails 11 _ _).mono ?_
           rintro e w4 ⟨u2, rfl, hx⟩
           obtain ⟨p2, rfl⟩ := hx.form
           have HX := Lib.hid (hx.after HB2.out)
           clear hx
           go_wp2
           go_ret3
           rw [HE.out]
           exact ⟨_, rfl, HX.out⟩
       | no k p =>
         have HL := Lib.hid (fun W (hW : Below w.heap.size w W) => unit_no hl (HR.out.ext hW) hm h6)
         have HW := Lib.hid (fun W => whole_out (n : Int) 0 W (by omega))
         clear hH e0 hl h0 h1
         by_cases hk : k = 10
         · have HE : pairLow B i n (.no k p) = .no 10 p := by
             simp only [pairLow]; rw [if_pos hk]
           have HE := Lib.hid HE
           subst hk
           go_enter Tryz.func173, Tryz.ntmps173
           go_wp2_with fail
           refine HU.out.mono ?_
           rintro e w1 ⟨rfl, hb⟩
           have HB := Lib.hid hb; clear hb
           go_wp2_with fail
           refine (HH.out _).mono ?_
           rintro e w2 ⟨rfl, rfl⟩
           go_wp2_with fail
           refine (HL.out _ HB.out).mono ?_
           rintro e w2 ⟨u, rfl, hf⟩
           have HF := Lib.hid hf; clear hf
           go_wp2_with fail
           refine (HW.out _).mono ?_
           rintro e w3 ⟨rfl, rfl⟩
           go_wp2_with fail
           refine (is_any _ 10 [((10 : Nat), p)] w2 HF.out.1).mono ?_
           rintro e w3 ⟨rfl, rfl⟩
           rw [show isKind [((10 : Nat) , p)] 10 = true from rfl]
           have HX := Lib.hid (HF.out.after HB.out)
           go_wp2
           go_ret3
           rw [HE.out]
           exact ⟨_, rfl, HX.out⟩
         · have HE : pairLow B i n (.no k p) = .no 11 i := by
             simp only [pairLow]; rw [if_neg hk]
           have HE := Lib.hid HE
           have hk2 : isKind [((k : Int), p)] 10 = false := by
            simp; omega
           have HK := Lib.hid hk2
           clear hk hk2
           go_enter Tryz.func173, Tryz.ntmps173
           go_wp2_with fail
           refine HU.out.mono ?_
           rintro e w1 ⟨rfl, hb⟩
           have HB := Lib.hid hb; clear hb
           go_wp2_with fail
           refine (HH.out _).mono ?_
           rintro e w2 ⟨rfl, rfl⟩
           go_wp2_with fail
           refine (HL.out _ HB.out).mono ?_
           rintro e w2 ⟨u, rfl, hf⟩
           have HF := Lib.hid hf; clear hf
           go_wp2_with fail
           refine (HW.out _).mono ?_
           rintro e w3 ⟨rfl, rfl⟩
           go_wp2_with fail
           refine (is_any _ 10 [((k : Int), p)] w2 HF.out.1).mono ?_
           rintro e w3 ⟨rfl, rfl⟩
           rw [HK.out]
           have HB2 := Lib.hid (HF.out.after HB.out).2
           go_wp2_with fail
           refine (fails 11 _ _).mono ?_
           rintro e w4 ⟨u2, rfl, hx⟩
           obtain ⟨p2, rfl⟩ := hx.form
           have HX := Lib.hid (hx.after HB2.out)
           clear hx
           go_wp2
           go_ret3
           rw [HE.out]
           exact ⟨_, rfl, HX.out⟩
     · have e0 : halfN n = 2 := by unfold halfN; rw [if_neg (by omega), if_pos (by omega)]
       rw [e0] at hH
       have HH := Lib.hid hH
       rw [if_neg h1]
       clear hH e0 h0
       go_enter Tryz.func173, Tryz.ntmps173
       go_wp2_with fail
       refine HU.out.mono ?_
       rintro e w1 ⟨rfl, hb⟩
       have HB := Lib.hid hb; clear hb
       go_wp2_with fail
       refine (HH.out _).mono ?_
       rintro e w2 ⟨rfl, rfl⟩
       go_wp2_with fail
       refine (fails 11 _ _).mono ?_
       rintro e w2 ⟨u2, rfl, hx⟩
       obtain ⟨p2, rfl⟩ := hx.form
       have HX := Lib.hid (hx.after HB.out)
       clear hx
       go_wp2
       go_ret3
       exact ⟨_, rfl, HX.out⟩
set_option maxRecDepth 100000 in
set_option maxHeartbeats 8000000 in
theorem escape_any (v : Value) (B : ByteArray) (i : Nat) (w : World) (h : Rd (Own w) w v (bytesDB B)) (hm : B.size ≤ 1100000) (hi : i < B.size) :
    Calls Tryz.prog 153 #[v, .int .i64 i] w (ScP w (escapeS B i)) := by
 unfold escapeS
 have HS := Lib.hid (short_any v B w h)
 have HP := Lib.hid (pair_any v B i w h hm (by omega))
 obtain ⟨a, c, rfl, _, _, hc⟩ := h.by_inv
 clear h
 by_cases h1 : i + 1 = B.size
 · rw [if_pos h1]
   have t : ((i : Int) + 1 == (B.size : Int)) = true := beq_iff_eq.2 (by omega)
   clear hc h1
   go_enter Tryz.func153, Tryz.ntmps153
   go_wp2_with fail
   refine HS.out.mono ?_
   rintro e w1 ⟨u, rfl, hx⟩
   obtain ⟨p, rfl⟩ := hx.form
   have HX := Lib.hid hx; clear hx
   go_wp2
   go_ret3
   exact ⟨_, rfl, HX.out⟩
 · rw [if_neg h1]
   have t : ((i : Int) + 1 == (B.size : Int)) = false := beq_eq_false_iff_ne.2 (by omega)
   obtain ⟨b, off, rfl, _, x0⟩ := hc (by omega)
   have x1 := x0 (i + 1) (by omega)
   have hlt : i + 1 < B.size := by omega
   have q1 : (i : Int) + 1 < (B.size : Int) := by omega
   have hbl := byteAt_lt B (i + 1)
   by_cases hu : byteAt B (i + 1) = 117
   · rw [if_pos hu]
     have t2 : ((byteAt B (i + 1) : Int) == 117) = true := beq_iff_eq.2 (by omega)
     clear hc x0 h1 hu
     go_enter Tryz.func153, Tryz.ntmps153
     go_wp2_with fail
     refine HP.out.mono ?_
     intro e w1 hsc
     cases hr : pairS B i with
     | ok x =>
       rw [hr] at hsc
       obtain ⟨rfl, hb⟩ := hsc
       have HB := Lib.hid hb; have HQ := Lib.hid hr; clear hb hr
       go_wp2
       go_ret3
       rw [HQ.out]
       exact ⟨rfl, HB.out⟩
     | no k p =>
       rw [hr] at hsc
       obtain ⟨u, rfl, hf⟩ := hsc
       have HF := Lib.hid hf; have HQ := Lib.hid hr; clear hf hr
       go_wp2
       go_ret3
       rw [HQ.out]
       exact ⟨_, rfl, HF.out⟩
   · rw [if_neg hu]
     have t2 : ((byteAt B (i + 1) : Int) == 117) = false := beq_eq_false_iff_ne.2 (by omega)
     have hs := simple_any (byteAt B (i + 1)) w hbl
     cases hx : simpleS (byteAt B (i + 1)) with
     | some x =>
       have hxl : x < 256 := by
        unfold simpleS at hx
        repeat' split at hx
        all_goals first | (cases hx; done) | (cases hx; omega)
       have e0 : simpleT (byteAt B (i + 1)) = (.int .u8 x, .bool true) := by unfold simpleT; rw [hx]
       rw [e0] at hs
       have HSI := Lib.hid hs
       clear hs e0 hx hc x0 h1 hu
       go_enter Tryz.func153, Tryz.ntmps153
       go_wp2_with fail
       refine HSI.out.mono ?_
       rintro e w1 ⟨rfl, rfl⟩
       go_wp2
       go_ret3
       exact ⟨rfl, Below.refl _ _⟩
     | none =>
       have e0 : simpleT (byteAt B (i + 1)) = (.int .u8 0, .bool false) := by unfold simpleT; rw [hx]
       rw [e0] at hs
       have HSI := Lib.hid hs
       clear hs e0 hx hc x0 h1 hu
       go_enter Tryz.func153, Tryz.ntmps153
       go_wp2_with fail
       refine HSI.out.mono ?_
       rintro e w1 ⟨rfl, rfl⟩
       go_wp2_with fail
       refine (fails 11 _ _).mono ?_
       rintro e w4 ⟨u2, rfl, hx⟩
       obtain ⟨p2, rfl⟩ := hx.form
       have HX := Lib.hid hx
       clear hx
       go_wp2
       go_ret3
       exact ⟨_, rfl, HX.out⟩
end
section
open Go.RowKit
theorem decU_right {B : ByteArray} {i : Nat} (_h : decU B i ≠ (65533, 1)) : rightN ((decU B i).1 : Int) = true := by
 have h0 := byteAt_lt B i; have h1 := byteAt_lt B (i + 1); have h2 := byteAt_lt B (i + 2); have h3 := byteAt_lt B (i + 3)
 rw [right_iff]
 unfold decU Go.Lib.decodeN at _h ⊢
 repeat' split
 all_goals first | (simp only; omega) | (exfalso; simp_all; done) | skip
theorem textStep_right {B : ByteArray} {i : Nat} {x : Nat × Nat} (h : textStep B i = .ok x) : rightN (x.1 : Int) = true := by
 unfold textStep at h
 split at h
 · unfold escapeS at h
   split at h
   · cases h
   · split at h
     · obtain ⟨n, h1, h2⟩ := Sc.bind_eq_ok h
       have hn := unitS_lt h1
       split at h2
       · obtain rfl := Sc.ok.inj h2
         rw [right_iff]; simp only; omega
       · split at h2
         · cases hl : unitS B (i + 6) with
           | ok m =>
             rw [hl] at h2
             simp only [pairLow] at h2
             split at h2
             · obtain rfl := Sc.ok.inj h2
               rw [right_iff]; simp only; omega
             · cases h2
           | no k j =>
             rw [hl] at h2
             simp only [pairLow] at h2
             split at h2 <;> cases h2
         · cases h2
     · split at h
       · rename_i y hy
         obtain rfl := Sc.ok.inj h
         have hc := byteAt_lt B (i + 1)
         have : y < 256 := by
          unfold simpleS at hy
          repeat' split at hy
          all_goals first | (cases hy; done) | (cases hy; omega)
         rw [right_iff]; simp only; omega
       · cases h
 · unfold charS at h
   split at h
   · cases h
   · split at h
     · cases h
     · rename_i hne
       obtain rfl := Sc.ok.inj h
       exact decU_right hne
/-- Who is told the characters keeps I, which says which ones were told. -/
inductive TellOk (I : List Nat → World → Prop) : Value → Prop
 | nil (h : ∀ acc c W, I acc W → I (acc ++ [c]) W) : TellOk I .nilFunc
 | fn (L : Nat) (h : ∀ acc (c : Nat) W, acc.length ≤ 1100000 → I acc W → rightN (c : Int) = true → Calls Tryz.prog 156 #[.int .i64 c, .pointer (some ⟨L, 0, none⟩)] W fun e W' => e = .returned (.tuple #[]) ∧ I (acc ++ [c]) W') : TellOk I (.func (.func 156) #[] #[.pointer (some ⟨L, 0, none⟩)])
structure Telling (v : Value) (B : ByteArray) (I : List Nat → World → Prop) : Prop where
 reads : ∀ acc W, I acc W → Rd (Own W) W v (bytesDB B)
 tabs : ∀ acc W, I acc W → Utf8T W
 ext : ∀ acc W W', I acc W → Below W.heap.size W W' → I acc W'
def TxPost (I : List Nat → World → Prop) (r : Sc (List Nat × Nat)) (e : Ending) (w' : World) : Prop := match r with
 | .ok x => e = .returned (.tuple #[.int .i64 x.2, .nilIface]) ∧ I x.1 w'
 | .no k i => ∃ u acc W, e = .returned (.tuple #[.int .i64 0, .iface 85 (.pointer (some u))]) ∧ I acc W ∧ Failed W k i (.iface 85 (.pointer (some u))) w'
theorem eqIn_nil (d : Nat) (w : World) : (Op.equalIn (d + 1) 77 .nilFunc .nilFunc).run Tryz.prog w = .ok true w := by simp [Op.equalIn, run_underlying (P := Tryz.prog) Tryz.underlying77]
theorem eqIn_fn (d : Nat) (k : FuncId) (b : Array Value) (w : World) : (Op.equalIn (d + 1) 77 (.func (.func k) #[] b) .nilFunc).run Tryz.prog w = .ok false w := by simp [Op.equalIn, run_underlying (P := Tryz.prog) Tryz.underlying77]
theorem run_nil_nil (w : World) : (binOp .neq 77 .nilFunc .nilFunc).run Tryz.prog w = .ok (.bool false) w := by
 simp only [binOp]
 simp [Op.equal, Op.maxDepth, eqIn_nil 9999 w]
theorem run_fn_nil (k : FuncId) (b : Array Value) (w : World) : (binOp .neq 77 (.func (.func k) #[] b) .nilFunc).run Tryz.prog w = .ok (.bool true) w := by
 simp only [binOp]
 simp [Op.equal, Op.maxDepth, eqIn_fn 9999 k b w]
def TxRel (B : ByteArray) (I : List Nat → World → Prop) (R : Sc (List Nat × Nat)) (k : Value) (wr : World) : Prop := ∃ (j : Nat) (acc : List Nat), k = .int .i64 j ∧ j ≤ B.size ∧ acc.length ≤ j ∧ I acc wr ∧ textS B j acc = R
set_option maxRecDepth 100000 in
set_option maxHeartbeats 16000000 in
theorem text_any (v : Value) (B : ByteArray) (i : Nat) (I : List Nat → World → Prop) (tell : Value) (acc0 : List Nat) (w : World) (hT : Telling v B I) (ht : TellOk I tell) (hI : I acc0 w) (hm : B.size ≤ 1100000) (hi : i ≤ B.size) (ha : acc0.length ≤ i) :
    Calls Tryz.prog 117 #[v, .int .i64 i, tell] w (TxPost I (textS B i acc0)) := by
 obtain ⟨R, hR⟩ : ∃ R, textS B i acc0 = R := ⟨_, rfl⟩
 rw [hR]
 obtain ⟨a, c, rfl, _, _, _⟩ := (hT.reads _ _ hI).by_inv
 have HR := Lib.hid hR; have HT := Lib.hid hT; have HTE := Lib.hid ht; have HI := Lib.hid hI
 clear hR hT ht hI
 go_enter Tryz.func117, Tryz.ntmps117
 go_wp2_with fail
 go_loopw [1] (TxRel B I R) (fun k _ => B.size - (intOf k).toNat)
 case atStart => exact ⟨i, acc0, rfl, hi, ha, HI.out, HR.out⟩
 case round =>
  obtain ⟨j, acc, rfl, hj, hal, hI, hr⟩ := hrel
  rw [textS_step hj] at hr
  have hrd := HT.out.reads _ _ hI
  by_cases hend : j = B.size
  · rw [if_pos hend] at hr
    subst hr
    have t1 : ((j : Int) == (B.size : Int)) = true := beq_iff_eq.2 (by omega)
    have HS := Lib.hid (short_any _ B wr hrd)
    have HIA := Lib.hid hI
    clear hrd hI hend
    go_wp2_with fail
    refine HS.out.mono ?_
    rintro e w1 ⟨u, rfl, hx⟩
    obtain ⟨p, rfl⟩ := hx.form
    have HX := Lib.hid hx
    clear hx
    go_wp2
    go_ret2
    exact ⟨_, _, _, rfl, HIA.out, HX.out⟩
  · rw [if_neg hend] at hr
    have hlt : j < B.size := by omega
    have t1 : ((j : Int) == (B.size : Int)) = false := beq_eq_false_iff_ne.2 (by omega)
    obtain ⟨a', c', e1, _, _, hc⟩ := hrd.by_inv
    cases e1
    obtain ⟨b, off, rfl, _, x0⟩ := hc (by omega)
    have x1 := x0 j hlt
    have hbl := byteAt_lt B j
    by_cases hq : byteAt B j = 34
    · rw [if_pos hq] at hr
      subst hr
      have t2 : ((byteAt B j : Int) == 34) = true := beq_iff_eq.2 (by omega)
      have HIA := Lib.hid hI
      clear hrd hI hend x0 hc hq
      go_wp2
      go_ret2
      exact ⟨rfl, HIA.out⟩
    · rw [if_neg hq] at hr
      have t2 : ((byteAt B j : Int) == 34) = false := beq_eq_false_iff_ne.2 (by omega)
      by_cases hs : byteAt B j < 32
      · rw [if_pos hs] at hr
        subst hr
        have t3 : decide ((byteAt B j : Int) < 32) = true := decide_eq_true (by omega)
        have HIA := Lib.hid hI
        clear hrd hI hend x0 hc hq
        go_wp2_with fail
        refine (fails 11 _ _).mono ?_
        rintro e w1 ⟨u, rfl, hx⟩
        obtain ⟨p, rfl⟩ := hx.form
        have HX := Lib.hid hx
        clear hx
        go_wp2
        go_ret2
        exact ⟨_, _, _, rfl, HIA.out, HX.out⟩
      · rw [if_neg hs] at hr
        have t3 : decide ((byteAt B j : Int) < 32) = false := decide_eq_false (by omega)
        have cE := escape_any _ B j wr hrd hm hlt
        have cN := unext_any _ B j wr hrd (HT.out.tabs _ _ hI) hm hlt
        have hstep : textStep B j = textStep B j := rfl
        conv at hstep => rhs; unfold textStep
        have hbs : byteAt B j = 92 ∨ byteAt B j ≠ 92 := by omega
        cases hx : textStep B j with
        | no k p =>
          rw [hx] at hr hstep
          rw [Sc.bind_no] at hr
          subst hr
          have HIA := Lib.hid hI
          rcases hbs with hbs | hbs
          · rw [if_pos hbs] at hstep
            rw [← hstep] at cE
            have CE := Lib.hid cE
            have t4 : ((byteAt B j : Int) == 92) = true := beq_iff_eq.2 (by omega)
            clear hstep hrd hI hend x0 hc hq hs cE cN hx hbs
            go_wp2_with fail
            refine CE.out.mono ?_
            rintro e w1 ⟨u, rfl, hx⟩
            have HX := Lib.hid hx
            clear hx
            go_wp2
            go_ret2
            exact ⟨_, _, _, rfl, HIA.out, HX.out⟩
          · rw [if_neg hbs] at hstep
            rw [← hstep] at cN
            have CE := Lib.hid cN
            have t4 : ((byteAt B j : Int) == 92) = false := beq_eq_false_iff_ne.2 (by omega)
            clear hstep hrd hI hend x0 hc hq hs cE cN hx hbs
            go_wp2_with fail
            refine CE.out.mono ?_
            rintro e w1 ⟨u, rfl, hx⟩
            have HX := Lib.hid hx
            clear hx
            go_wp2
            go_ret2
            exact ⟨_, _, _, rfl, HIA.out, HX.out⟩
        | ok x =>
          have hok := textStep_ok hlt hx
          have hri := Lib.hid (textStep_right hx)
          rw [hx] at hr hstep
          rw [Sc.bind_ok] at hr
          obtain ⟨ch, n⟩ := x
          simp only at hr hok
          have HRN := Lib.hid hr
          have HIA := Lib.hid hI
          have hn1 : 0 < n := hok.1
          have hn2 : j + n ≤ B.size := hok.2
          rcases hbs with hbs | hbs
          · rw [if_pos hbs] at hstep
            rw [← hstep] at cE
            have CE := Lib.hid cE
            have t4 : ((byteAt B j : Int) == 92) = true := beq_iff_eq.2 (by omega)
            clear hstep hrd hI hend x0 hc hq hs cE cN hx hbs hr hok
            go_wp2_with fail
            refine CE.out.mono ?_
            rintro e w1 ⟨rfl, hb⟩
            have HI1 := Lib.hid (HT.out.ext _ _ _ HIA.out hb)
            clear hb
            cases HTE.out with
            | nil h =>
              have R : TxRel B I R (.int .i64 (j + n)) w1 := ⟨j + n, _, by go_num, hn2, by simp; omega, h _ ch _ HI1.out, HRN.out⟩
              have HRR := Lib.hid R
              have rn := run_nil_nil
              clear R h
              go_wp2
              refine ⟨?_, by simp [intOf] <;> omega⟩
              have R := HRR.out
              first | exact R | ((repeat apply Exists.intro); exact ⟨R, rfl⟩)
            | fn L h =>
              have CT := Lib.hid (h _ ch _ (by omega) HI1.out hri.out)
              have rn := run_fn_nil
              clear h
              go_wp2_with fail
              refine CT.out.mono ?_
              rintro e w2 ⟨rfl, hI2⟩
              have R : TxRel B I R (.int .i64 (j + n)) w2 := ⟨j + n, _, by go_num, hn2, by simp; omega, hI2, HRN.out⟩
              have HRR := Lib.hid R
              clear R hI2
              go_wp2
              refine ⟨?_, by simp [intOf] <;> omega⟩
              have R := HRR.out
              first | exact R | ((repeat apply Exists.intro); exact ⟨R, rfl⟩)
          · rw [if_neg hbs] at hstep
            rw [← hstep] at cN
            have CE := Lib.hid cN
            have t4 : ((byteAt B j : Int) == 92) = false := beq_eq_false_iff_ne.2 (by omega)
            clear hstep hrd hI hend x0 hc hq hs cE cN hx hbs hr hok
            go_wp2_with fail
            refine CE.out.mono ?_
            rintro e w1 ⟨rfl, hb⟩
            have HI1 := Lib.hid (HT.out.ext _ _ _ HIA.out hb)
            clear hb
            cases HTE.out with
            | nil h =>
              have R : TxRel B I R (.int .i64 (j + n)) w1 := ⟨j + n, _, by go_num, hn2, by simp; omega, h _ ch _ HI1.out, HRN.out⟩
              have HRR := Lib.hid R
              have rn := run_nil_nil
              clear R h
              go_wp2
              refine ⟨?_, by simp [intOf] <;> omega⟩
              have R := HRR.out
              first | exact R | ((repeat apply Exists.intro); exact ⟨R, rfl⟩)
            | fn L h =>
              have CT := Lib.hid (h _ ch _ (by omega) HI1.out hri.out)
              have rn := run_fn_nil
              clear h
              go_wp2_with fail
              refine CT.out.mono ?_
              rintro e w2 ⟨rfl, hI2⟩
              have R : TxRel B I R (.int .i64 (j + n)) w2 := ⟨j + n, _, by go_num, hn2, by simp; omega, hI2, HRN.out⟩
              have HRR := Lib.hid R
              clear R hI2
              go_wp2
              refine ⟨?_, by simp [intOf] <;> omega⟩
              have R := HRR.out
              first | exact R | ((repeat apply Exists.intro); exact ⟨R, rfl⟩)
end
end Go.Proofs.YtcaiibkgajhohaaGreatDoor
