/- Texts put together. -/
import Derived.Test.YtbeodjipdpcaiaaGreatDoorYMoreR
import Derived.Test.YtbeodjipdpcaiaaGreatDoorYHxw1s
import Derived.Test.YtbeodjipdpcaiaaGreatDoorYDec1f
import Derived.Test.YtbeodjipdpcaiaaGreatDoorYRfx6f
import Derived.Test.YtbeodjipdpcaiaaGreatDoorYRfw1s
import Derived.Test.YtbeodjipdpcaiaaGreatDoorYRfw8s
import Derived.Test.YtbeodjipdpcaiaaGreatDoorYDec0s
import Derived.Test.YtbeodjipdpcaiaaGreatDoorYHlw0f
set_option maxRecDepth 100000
set_option maxHeartbeats 16000000
namespace Go.Proofs.YtbeodjipdpcaiaaGreatDoor
open Go.RowKit
def grI (r : Option Nat) : Int := match r with
 | some n => (n : Nat)
 | none => -1
theorem grp_case (s : ByteArray) : (decide ((s.size : Int) < 1) = true ∧ grpL (bytesN s) = none) ∨ (decide ((s.size : Int) < 1) = false ∧ decide ((4 : Int) < (s.size : Int)) = true ∧ grpL (bytesN s) = none) ∨ (decide ((s.size : Int) < 1) = false ∧ decide ((4 : Int) < (s.size : Int)) = false ∧ s.size ≤ 4 ∧ ((∃ k p, numberF 16 65535 s = .no k p ∧ ((k : Int) == 0) = false ∧ (k = 0) = False ∧ grpL (bytesN s) = none) ∨ ∃ n, numberF 16 65535 s = .ok n ∧ n < 65536 ∧ grpL (bytesN s) = some n)) := by
 by_cases h0 : s.size = 0
 · refine .inl ⟨dcT (by omega), ?_⟩
   rcases grp_num s with ⟨n, h1, h2, h3, h4⟩ | ⟨h1, _⟩
   · unfold numberF at h2; rw [if_pos h0] at h2; cases h2
   · exact h1
 have d1 : decide ((s.size : Int) < 1) = false := dcF (by omega)
 by_cases h4 : 4 < s.size
 · refine .inr (.inl ⟨d1, dcT (by omega), ?_⟩)
   rcases grp_num s with ⟨n, h1, h2, h3, h5⟩ | ⟨h1, _⟩
   · omega
   · exact h1
 · refine .inr (.inr ⟨d1, dcF (by omega), by omega, ?_⟩)
   rcases grp_num s with ⟨n, h1, h2, h3, h5⟩ | ⟨h1, ⟨k, p, h2⟩ | ⟨n, h2, h3⟩⟩
   · exact .inr ⟨n, h2, h5, h1⟩
   · have := numberF_k h2
     exact .inl ⟨k, p, h2, bneI.2 (by omega), eq_false (by omega), h1⟩
   · omega
theorem rgroup_any (s : ByteArray) (w : World) : Calls Tryz.prog 194 #[.string s] w fun e w' => e = .returned (.int .i64 (grI (grpL (bytesN s)))) ∧ Below w.heap.size w w' := by
 rcases grp_case s with ⟨d1, hg⟩ | ⟨d1, d2, hg⟩ | ⟨d1, d2, h4, ⟨k, p, hn, t3, t3', hg⟩ | ⟨n, hn, hlt, hg⟩⟩
 · rw [hg]
   unfold grI
   clear hg
   go_enter Tryz.func194, Tryz.ntmps194
   go_wp2
   go_ret
   exact ⟨rfl, Below.refl _ _⟩
 · rw [hg]
   unfold grI
   clear hg
   go_enter Tryz.func194, Tryz.ntmps194
   go_wp2
   go_ret
   exact ⟨rfl, Below.refl _ _⟩
 · rw [hg]
   unfold grI
   have NU := rnum16_any s 65535 w (by unfold maxLen; omega) (by decide)
   rw [hn] at NU
   have NU := hid NU
   clear hg hn
   go_enter Tryz.func194, Tryz.ntmps194
   go_wp2_with fail
   refine NU.out.mono ?_
   rintro e w2 ⟨⟨m, rfl⟩, rfl⟩
   have HB := hid (ext_drewN m (Below.refl w.heap.size w))
   go_wp2
   go_ret
   exact ⟨rfl, HB.out⟩
 · rw [hg]
   unfold grI
   have NU := rnum16_any s 65535 w (by unfold maxLen; omega) (by decide)
   rw [hn] at NU
   have NU := hid NU
   have q1 : IntKind.i64.wrap (n : Int) = (n : Int) := i64n _ (by omega)
   clear hg hn
   go_enter Tryz.func194, Tryz.ntmps194
   go_wp2_with fail
   refine NU.out.mono ?_
   rintro e w2 ⟨⟨m, rfl⟩, rfl⟩
   have HB := hid (ext_drewN m (Below.refl w.heap.size w))
   go_wp2
   go_ret
   exact ⟨rfl, HB.out⟩
def partsR (b : List Nat) : List (List Nat) := if b = [] then [] else splitN 58 b
theorem parts_row (last : Bool) (b : List Nat) : rowL last b = rowF last (partsR b) [] := by
 unfold rowL partsR
 by_cases h : b = []
 · rw [if_pos h, if_pos h, rowF]
 · rw [if_neg h, if_neg h]
theorem splitN_cnt (m : Nat) : ∀ l : List Nat, (splitN m l).length ≤ l.length + 1 := by
 intro l
 induction l with
 | nil => exact Nat.le_refl _
 | cons c l ih =>
   rw [splitN]
   split
   · rw [List.length_cons, List.length_cons]; omega
   · split
     · rename_i h t heq
       rw [heq, List.length_cons] at ih
       rw [List.length_cons, List.length_cons]; omega
     · simp
theorem rsplit12_any (s : ByteArray) (w : World) (hs : s.size ≤ 100000) : Calls Tryz.prog 128 #[.string s] w fun e w' => Below w.heap.size w w' ∧ ∃ v, e = .returned v ∧ w'.ownsRow w.heap.size 9 1 v (partsR (bytesN s)).length (strV ((partsR (bytesN s)).map bytesL)) := by
 obtain ⟨ps, hps⟩ : ∃ ps, partsR (bytesN s) = ps := ⟨_, rfl⟩
 rw [hps]
 unfold partsR at hps
 by_cases h0 : s.size = 0
 · have t1 : ((s.size : Int) == 0) = true := beq_iff_eq.2 (by omega)
   have t1' : (s.size = 0) = True := eq_true h0
   rw [if_pos (List.eq_nil_of_length_eq_zero (by rw [bytesN_len]; exact h0))] at hps
   subst hps
   clear h0
   go_enter Tryz.func128, Tryz.ntmps128
   go_wp2
   go_ret
   exact ⟨ext_alloc (Below.refl _ _) _, _, rfl, own_empty w 9⟩
 · have t1 : ((s.size : Int) == 0) = false := bneI.2 (by omega)
   have t1' : (s.size = 0) = False := eq_false h0
   rw [if_neg (fun e => h0 (by rw [← bytesN_len, e]; rfl))] at hps
   have FD := rfields_any s 58 1000000 w (by omega) (by decide) (by decide) (by decide)
   have hlen := splitN_cnt 58 (bytesN s)
   rw [bytesN_len] at hlen
   rw [fields_ok (by decide) (by omega), hps] at FD
   have FD := hid FD
   clear h0 hps hlen
   go_enter Tryz.func128, Tryz.ntmps128
   go_wp2_with fail
   refine FD.out.mono ?_
   rintro e w2 ⟨hb2, v, rfl, ho⟩
   have HB := hid hb2; have HO := hid ho
   clear hb2 ho
   go_wp2
   go_ret
   exact ⟨HB.out, _, rfl, HO.out⟩
end Go.Proofs.YtbeodjipdpcaiaaGreatDoor
namespace Go.Proofs.YtbeodjipdpcaiaaGreatDoor
open Go.RowKit
theorem figT16 : ∀ d : Fin 16, (⟨#[48, 49, 50, 51, 52, 53, 54, 55, 56, 57, 65, 66, 67, 68, 69, 70]⟩ : ByteArray).extract d.val (d.val + 1) = ⟨#[UInt8.ofNat (hexU d.val)]⟩ := by decide
theorem hexL6_cons (r n : Nat) : UInt8.ofNat (hexU (n / 16 ^ r % 16)) :: hexL6 r n = hexL6 (r + 1) n := by
 unfold hexL6
 rw [List.range_succ_eq_map, List.map_cons, List.map_map]
 simp only [Nat.add_sub_cancel, Nat.sub_zero]
 refine congrArg _ (List.map_congr_left fun j _ => ?_)
 simp only [Function.comp]
 rw [show r - (j + 1) = r - 1 - j by omega]
theorem hexS6_cons (r n : Nat) : (⟨#[UInt8.ofNat (hexU (n / 16 ^ r % 16))]⟩ : ByteArray) ++ hexS6 r n = hexS6 (r + 1) n := by
 have : ∀ (a : UInt8) (l : List UInt8), (⟨#[a]⟩ : ByteArray) ++ ⟨l.toArray⟩ = ⟨(a :: l).toArray⟩ := fun a l => by
  apply toList_inj
  rw [ByteArray.toList_eq, ByteArray.toList_eq, ByteArray.data_append]
  simp
 unfold hexS6
 rw [this, hexL6_cons]
def WtRel16 (n : Nat) (w : World) (nv ov : Value) (wr : World) : Prop := (∃ q, wr = w.drewN q) ∧ ∃ r, r < lenH n ∧ nv = .int .u64 ((n / 16 ^ r : Nat) : Int) ∧ ov = .string (hexS6 r n)
theorem rwritten16_any (n : Nat) (w : World) (hn : n < 65536) :
    Calls Tryz.prog 129 #[.int .u64 n, .int .u64 16, .int .i64 1] w fun e w' => e = .returned (.string (hexB6 n)) ∧ Below w.heap.size w w' := by
 have FS := hid figT16
 have HL := hid (lenH_iff n)
 have HP := hid (lenH_pos n)
 have HX := hid (lenH_le hn)
 have HN := hid hn
 clear hn
 go_enter Tryz.func129, Tryz.ntmps129
 go_wp2_with fail
 obtain ⟨S, hS⟩ : ∃ S : ByteArray, (⟨#[48, 49, 50, 51, 52, 53, 54, 55, 56, 57, 65, 66, 67, 68, 69, 70]⟩ : ByteArray) = S := ⟨_, rfl⟩
 rw [hS] at FS ⊢
 have hzS : S.size = 16 := by rw [← hS]; rfl
 clear hS
 go_loopw [0, 8] (WtRel16 n w) (fun a _ _ => (intOf a).toNat)
 case atStart => exact ⟨⟨0, rfl⟩, 0, HP.out, by simp, by rw [hexS6_zero]⟩
 case round =>
  obtain ⟨⟨q, rfl⟩, r, hr, rfl, rfl⟩ := hrel
  have hsz := hexS6_size r n
  have hr20 : r < 4 := Nat.lt_of_lt_of_le hr HX.out
  obtain ⟨m, hm⟩ : ∃ m, n / 16 ^ r = m := ⟨_, rfl⟩
  have hm64 : m < 18446744073709551616 := by
   have := Nat.div_le_self n (16 ^ r)
   have := HN.out
   omega
  have hcons := hexS6_cons r n
  have hnext : n / 16 ^ (r + 1) = m / 16 := by rw [← hm, Nat.pow_succ, Nat.div_div_eq_div_mul]
  have hiff := HL.out (r + 1) (by omega)
  rw [hnext] at hiff
  rw [hm] at hcons ⊢
  obtain ⟨d, hd⟩ : ∃ d, m % 16 = d := ⟨_, rfl⟩
  obtain ⟨p, hp⟩ : ∃ p, m / 16 = p := ⟨_, rfl⟩
  rw [hd] at hcons
  rw [hp] at hiff hnext
  have hd10 : d < 16 := by omega
  have hpm : p < m ∨ (p = 0 ∧ m = 0) := by omega
  have F1 : S.extract d (d + 1) = ⟨#[UInt8.ofNat (hexU d)]⟩ := FS.out ⟨d, hd10⟩
  have tm : (m : Int).tmod 16 = (d : Int) := by rw [Int.tmod_eq_emod_of_nonneg (by omega)]; omega
  have td : (m : Int).tdiv 16 = (p : Int) := by rw [Int.tdiv_eq_ediv_of_nonneg (by omega)]; omega
  have wr1 : IntKind.u64.wrap ((d : Int) + 1) = (d : Int) + 1 := IntWalk.u64_in _ (by omega)
  have wr0 : IntKind.u64.wrap (p : Int) = (p : Int) := IntWalk.u64_in _ (by omega)
  have sl := slice_one .u64 S d (by omega) _ F1
  obtain ⟨X, hX⟩ : ∃ X : ByteArray, (⟨#[UInt8.ofNat (hexU d)]⟩ : ByteArray) = X := ⟨_, rfl⟩
  have z1 : X.size = 1 := by rw [← hX]; rfl
  rw [hX] at sl hcons
  generalize hexS6 r n = Y at *
  have hz2 : (X ++ Y).size = r + 1 := by rw [hcons, hexS6_size]
  have HCO := hid hcons
  have HNX := hid hnext
  have HPM := hid hpm
  have HDL : Hid (hexB6 n = hexS6 (lenH n) n) := hid rfl
  by_cases h0 : p = 0
  · have t0 : ((p : Int) == 0) = true := beq_iff_eq.2 (by omega)
    have hlen : lenH n = r + 1 := by have := hiff.2 h0; omega
    have HLE := hid hlen
    have tz : decide ((r : Int) + 1 < 1) = false := dcF (by omega)
    have HZ2 := hid hz2
    clear hm hd hp F1 hnext hiff hcons hX h0 hlen hr hpm hz2
    go_wp2
    go_quiet (fail)
    generalize hXY : X ++ Y = Z at *
    have hz3 : (Z.size : Int) = (r : Int) + 1 := by have := HZ2.out; omega
    have tz2 : decide (Z.size < 1) = false := dcF (by omega)
    have HXY := hid hXY
    clear hXY hsz z1 sl
    go_wp2_with fail
    go_loopw [8] (fun o W => o = .string Z ∧ ∃ q, W = w.drewN q) (fun _ _ => 0)
    case atStart => exact ⟨rfl, _, rfl⟩
    case round =>
     obtain ⟨rfl, q2, rfl⟩ := hrel
     go_wp2
     go_ret
     exact ⟨by rw [HDL.out, HLE.out, ← HCO.out]; rfl, ext_drewN _ (Below.refl _ _)⟩
  · have t0 : ((p : Int) == 0) = false := bneI.2 (by omega)
    have hr2 : r + 1 < lenH n := by
     refine Nat.lt_of_not_le fun h => h0 (hiff.1 h)
    have R : ∀ k, WtRel16 n w (.int .u64 (p : Int)) (.string (X ++ Y)) ((w.drewN q).drewN k) := fun k => ⟨⟨q + k, drewN_add _ _ _⟩, r + 1, hr2, by rw [hnext], by rw [hcons]⟩
    have HR := hid R
    have hlt : p < m := by omega
    have HLT := hid hlt
    clear hm hd hp F1 R hlt hiff hnext hcons hX hr hr2 hpm hz2 h0
    go_wp2
    go_quiet (fail)
    go_wp2
    refine ⟨?_, by have := HLT.out; simp [intOf]; omega⟩
    have R := HR.out
    first | exact R _ | simpa using R _
end Go.Proofs.YtbeodjipdpcaiaaGreatDoor
namespace Go.Proofs.YtbeodjipdpcaiaaGreatDoor
open Go.RowKit
def NumcRel (T : ByteArray) (w : World) (av : Value) (wr : World) : Prop := ∃ j : Nat, av = .int .i64 j ∧ j ≤ T.size ∧ (∀ i, j ≤ i → i < T.size → byteAt T i ≠ 46) ∧ wr = w
theorem rnumeric_any (s : ByteArray) (w : World) (hs : s.size ≤ 1000000) : Calls Tryz.prog 67 #[.string s] w fun e w' => e = .returned (.bool (numericL (bytesN s))) ∧ w' = w := by
 have CU := hid (rcut11_any s w hs)
 have htb := trimL_byte (bytesN_lt s)
 have htl := trimL_len (bytesN s)
 rw [bytesN_len] at htl
 unfold numericL
 obtain ⟨T, hT⟩ : ∃ T, bytesL (trimL (bytesN s)) = T := ⟨_, rfl⟩
 have hTN : bytesN T = trimL (bytesN s) := by rw [← hT]; exact bytesN_bytesL htb
 have hTz : T.size ≤ 1000000 := by rw [← hT, bytesL_size]; omega
 rw [hT] at CU
 rw [← hTN]
 obtain ⟨r, hr⟩ : ∃ r, numericP (lastP (bytesN T)) = r := ⟨_, rfl⟩
 rw [hr]
 have HR := hid hr
 clear hr hT hTN htb htl hs
 go_enter Tryz.func67, Tryz.ntmps67
 go_wp2_with fail
 refine CU.out.mono ?_
 rintro e w1 ⟨rfl, hw⟩
 have hw' := hw.symm
 subst hw'
 clear hw
 go_wp2_with fail
 go_loopw [4] (NumcRel T w) (fun k _ => (intOf k).toNat)
 case atStart => exact ⟨T.size, rfl, Nat.le_refl _, fun i h1 h2 => by omega, rfl⟩
 case round =>
  obtain ⟨j, rfl, hj, hn, hwr⟩ := hrel
  subst hwr
  have HN := hid hn
  clear hn
  have fin : (j = 0 ∨ ∃ i, j = i + 1 ∧ (bytesN T)[i]? = some 46) → ∃ L : ByteArray, T.extract j T.size = L ∧ L.size ≤ 1000000 ∧ numericP (bytesN L) = r := fun h => by
   refine ⟨_, rfl, by simp; omega, ?_⟩
   have e : bytesN (T.extract j T.size) = (bytesN T).drop j := by
    rw [bytesN_extract, List.take_of_length_le (by rw [List.length_drop, bytesN_len]; omega)]
   rw [e, ← HR.out]
   unfold lastP
   rw [lastP_at (by rw [bytesN_len]; exact hj) (fun c hc => by
    obtain ⟨i, hi, rfl⟩ := List.mem_iff_getElem.1 hc
    rw [List.length_drop, bytesN_len] at hi
    rw [List.getElem_drop]
    have := HN.out (j + i) (by omega) (by omega)
    have h2 := bytesN_get (B := T) (i := j + i) (by omega)
    rw [List.getElem?_eq_getElem (by rw [bytesN_len]; omega)] at h2
    have e3 := Option.some.inj h2
    rw [← e3] at this
    exact this) h]
  by_cases h0 : 0 < j
  · obtain ⟨i, hji⟩ : ∃ i, j = i + 1 := ⟨j - 1, by omega⟩
    have hi : i < T.size := by omega
    have t1 : decide ((0 : Int) < (j : Int)) = true := dcT (by omega)
    have t1' : decide (0 < j) = true := dcT h0
    have q1 : IntKind.i64.wrap ((j : Int) - 1) = (i : Int) := by rw [show (j : Int) - 1 = (i : Int) by omega]; exact i64n _ (by omega)
    have hgx : (T[i]'hi).toNat = byteAt T i := (byteAt_get T i hi).symm
    by_cases h46 : byteAt T i = 46
    · have hgi : (bytesN T)[i]? = some 46 := by rw [bytesN_get hi, h46]
      rw [h46] at hgx
      obtain ⟨L, hL, hLz, hLr⟩ := fin (.inr ⟨i, hji, hgi⟩)
      have sl : ∀ W, (Instr.slice 9 (.string T) (some (.int .i64 (j : Int))) none none).run Tryz.prog W = .ok (.string L) W := fun W => sl_from T j (by omega) L hL W
      have HX := rhexed_any L wr
      unfold numericP at hLr
      cases hh : hexedL (bytesN L) with
      | true =>
        rw [hh] at HX hLr
        rw [if_pos rfl] at hLr
        have h2 : 2 ≤ L.size := by
         unfold hexedL at hh
         have := (of_decide_eq_true hh).1
         rw [bytesN_len] at this
         omega
        obtain ⟨M, hM⟩ : ∃ M, L.extract 2 L.size = M := ⟨_, rfl⟩
        have sl2 : ∀ W, (Instr.slice 9 (.string L) (some (.int .i64 2)) none none).run Tryz.prog W = .ok (.string M) W := fun W => sl_from L 2 h2 M hM W
        have hMN : bytesN M = (bytesN L).drop 2 := by rw [← hM, bytesN_extract, List.take_of_length_le (by rw [List.length_drop, bytesN_len]; omega)]
        have AL := rall_any M ⟨#[48, 49, 50, 51, 52, 53, 54, 55, 56, 57, 97, 98, 99, 100, 101, 102, 65, 66, 67, 68, 69, 70]⟩ [48, 49, 50, 51, 52, 53, 54, 55, 56, 57, 97, 98, 99, 100, 101, 102, 65, 66, 67, 68, 69, 70] rfl wr (by rw [← hM]; simp; omega) (by decide)
        rw [all_has hexD_has M, hMN, hLr] at AL
        have AL := hid AL; have HX := hid HX
        clear fin hLr hh hMN hM hL hji hgi h46 h0
        go_wp2_with fail
        refine HX.out.mono ?_
        rintro e w2 ⟨rfl, hw⟩
        have hw' := hw.symm
        subst hw'
        clear hw
        go_wp2_with fail
        refine AL.out.mono ?_
        rintro e w3 ⟨rfl, hw⟩
        have hw' := hw.symm
        subst hw'
        clear hw
        go_wp2
        go_ret
        exact ⟨rfl, rfl⟩
      | false =>
        rw [hh] at HX hLr
        rw [if_neg (by decide)] at hLr
        have AL := rall_any L ⟨#[48, 49, 50, 51, 52, 53, 54, 55, 56, 57]⟩ [48, 49, 50, 51, 52, 53, 54, 55, 56, 57] rfl wr hLz (by decide)
        rw [all_has decD_has L] at AL
        by_cases hz : 0 < L.size
        · have t5 : decide ((0 : Int) < (L.size : Int)) = true := dcT (by omega)
          have t5' : decide (0 < L.size) = true := dcT hz
          have hne : bytesN L ≠ [] := fun e => by
           have := bytesN_len L
           rw [e, List.length_nil] at this
           omega
          rw [dcT hne, Bool.true_and] at hLr
          clear hne
          rw [hLr] at AL
          have AL := hid AL; have HX := hid HX
          clear fin hLr hh hL hji hgi h46 h0 hz
          go_wp2_with fail
          refine HX.out.mono ?_
          rintro e w2 ⟨rfl, hw⟩
          have hw' := hw.symm
          subst hw'
          clear hw
          go_wp2_with fail
          refine AL.out.mono ?_
          rintro e w3 ⟨rfl, hw⟩
          have hw' := hw.symm
          subst hw'
          clear hw
          go_wp2
          go_ret
          exact ⟨rfl, rfl⟩
        · have t5 : decide ((0 : Int) < (L.size : Int)) = false := dcF (by omega)
          have t5' : decide (0 < L.size) = false := dcF hz
          have hn : bytesN L = [] := List.eq_nil_of_length_eq_zero (by rw [bytesN_len]; omega)
          have hnn : ¬ bytesN L ≠ [] := fun h => h hn
          rw [dcF hnn, Bool.false_and] at hLr
          clear hnn
          subst hLr
          have HX := hid HX
          clear fin hh hL hji hgi h46 h0 hz hn AL
          go_wp2_with fail
          refine HX.out.mono ?_
          rintro e w2 ⟨rfl, hw⟩
          have hw' := hw.symm
          subst hw'
          clear hw
          go_wp2
          go_ret
          exact ⟨rfl, rfl⟩
    · have HRL : Hid (NumcRel T wr (.int .i64 (i : Int)) wr) := hid ⟨i, rfl, by omega, fun k h1 h2 => by
        by_cases e : k = i
        · rw [e]; exact h46
        · exact HN.out k (by omega) h2, rfl⟩
      obtain ⟨x, hx⟩ : ∃ x, byteAt T i = x := ⟨_, rfl⟩
      rw [hx] at hgx h46
      have t2 : ((x : Int) == 46) = false := by simp; omega
      have t2' : (x = 46) = False := by simp [h46]
      have HLS : Hid (i < j) := hid (by omega)
      clear fin hji hx h46 h0
      go_wp2
      refine ⟨?_, by have := HLS.out; simp [intOf]; omega⟩
      first | exact HRL.out | ((repeat apply Exists.intro); exact ⟨HRL.out, rfl⟩)
  · have hj0 : j = 0 := by omega
    subst hj0
    have e0 : ((0 : Nat) : Int) = 0 := rfl
    rw [e0]
    clear e0 HN
    obtain ⟨L, hL, hLz, hLr⟩ := fin (.inl rfl)
    have sl : ∀ W, (Instr.slice 9 (.string T) (some (.int .i64 0)) none none).run Tryz.prog W = .ok (.string L) W := fun W => sl_from T 0 (by omega) L hL W
    have HX := rhexed_any L wr
    unfold numericP at hLr
    cases hh : hexedL (bytesN L) with
    | true =>
      rw [hh] at HX hLr
      rw [if_pos rfl] at hLr
      have h2 : 2 ≤ L.size := by
       unfold hexedL at hh
       have := (of_decide_eq_true hh).1
       rw [bytesN_len] at this
       omega
      obtain ⟨M, hM⟩ : ∃ M, L.extract 2 L.size = M := ⟨_, rfl⟩
      have sl2 : ∀ W, (Instr.slice 9 (.string L) (some (.int .i64 2)) none none).run Tryz.prog W = .ok (.string M) W := fun W => sl_from L 2 h2 M hM W
      have hMN : bytesN M = (bytesN L).drop 2 := by rw [← hM, bytesN_extract, List.take_of_length_le (by rw [List.length_drop, bytesN_len]; omega)]
      have AL := rall_any M ⟨#[48, 49, 50, 51, 52, 53, 54, 55, 56, 57, 97, 98, 99, 100, 101, 102, 65, 66, 67, 68, 69, 70]⟩ [48, 49, 50, 51, 52, 53, 54, 55, 56, 57, 97, 98, 99, 100, 101, 102, 65, 66, 67, 68, 69, 70] rfl wr (by rw [← hM]; simp; omega) (by decide)
      rw [all_has hexD_has M, hMN, hLr] at AL
      have AL := hid AL; have HX := hid HX
      clear fin hLr hh hMN hM hL h0
      go_wp2_with fail
      refine HX.out.mono ?_
      rintro e w2 ⟨rfl, hw⟩
      have hw' := hw.symm
      subst hw'
      clear hw
      go_wp2_with fail
      refine AL.out.mono ?_
      rintro e w3 ⟨rfl, hw⟩
      have hw' := hw.symm
      subst hw'
      clear hw
      go_wp2
      go_ret
      exact ⟨rfl, rfl⟩
    | false =>
      rw [hh] at HX hLr
      rw [if_neg (by decide)] at hLr
      have AL := rall_any L ⟨#[48, 49, 50, 51, 52, 53, 54, 55, 56, 57]⟩ [48, 49, 50, 51, 52, 53, 54, 55, 56, 57] rfl wr hLz (by decide)
      rw [all_has decD_has L] at AL
      by_cases hz : 0 < L.size
      · have t5 : decide ((0 : Int) < (L.size : Int)) = true := dcT (by omega)
        have t5' : decide (0 < L.size) = true := dcT hz
        have hne : bytesN L ≠ [] := fun e => by
         have := bytesN_len L
         rw [e, List.length_nil] at this
         omega
        rw [dcT hne, Bool.true_and] at hLr
        clear hne
        rw [hLr] at AL
        have AL := hid AL; have HX := hid HX
        clear fin hLr hh hL h0 hz
        go_wp2_with fail
        refine HX.out.mono ?_
        rintro e w2 ⟨rfl, hw⟩
        have hw' := hw.symm
        subst hw'
        clear hw
        go_wp2_with fail
        refine AL.out.mono ?_
        rintro e w3 ⟨rfl, hw⟩
        have hw' := hw.symm
        subst hw'
        clear hw
        go_wp2
        go_ret
        exact ⟨rfl, rfl⟩
      · have t5 : decide ((0 : Int) < (L.size : Int)) = false := dcF (by omega)
        have t5' : decide (0 < L.size) = false := dcF hz
        have hn : bytesN L = [] := List.eq_nil_of_length_eq_zero (by rw [bytesN_len]; omega)
        have hnn : ¬ bytesN L ≠ [] := fun h => h hn
        rw [dcF hnn, Bool.false_and] at hLr
        clear hnn
        subst hLr
        have HX := hid HX
        clear fin hh hL h0 hz hn AL
        go_wp2_with fail
        refine HX.out.mono ?_
        rintro e w2 ⟨rfl, hw⟩
        have hw' := hw.symm
        subst hw'
        clear hw
        go_wp2
        go_ret
        exact ⟨rfl, rfl⟩
end Go.Proofs.YtbeodjipdpcaiaaGreatDoor
