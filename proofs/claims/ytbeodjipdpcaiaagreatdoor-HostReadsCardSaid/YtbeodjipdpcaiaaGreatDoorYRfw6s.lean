/- Texts put together. -/
import Derived.Test.YtbeodjipdpcaiaaGreatDoorYHlw0f
import Derived.Test.YtbeodjipdpcaiaaGreatDoorYRfw4s
import Derived.Test.YtbeodjipdpcaiaaGreatDoorYDec0s
import Derived.Test.YtbeodjipdpcaiaaGreatDoorYPnw3
import Derived.Test.YtbeodjipdpcaiaaGreatDoorYScan4sf
set_option maxRecDepth 100000
set_option maxHeartbeats 8000000
namespace Go.Proofs.YtbeodjipdpcaiaaGreatDoor
section
open Go.RowKit
theorem figP : ∀ d : Fin 36, (⟨#[97, 98, 99, 100, 101, 102, 103, 104, 105, 106, 107, 108, 109, 110, 111, 112, 113, 114, 115, 116, 117, 118, 119, 120, 121, 122, 48, 49, 50, 51, 52, 53, 54, 55, 56, 57]⟩ : ByteArray).extract d.val (d.val + 1) = bytesL [digN d.val] := by decide
def WrRel (N b : Nat) (F : List Nat) (w : World) (nv ov kv : Value) (wr : World) : Prop := ∃ (n k : Nat) (acc : List Nat), nv = .int .i64 n ∧ ov = .string (bytesL acc) ∧ kv = .int .i64 k ∧ n ≤ N ∧ k + 36 * n ≤ 36 + 36 * N ∧ acc ++ pnumL n b k = F ∧ wr = w
theorem rwritten9_any (n b : Nat) (w : World) (hn : n < 10000000000) (hb : b ≤ 1000000000000) :
    Calls Tryz.prog 236 #[.int .i64 n, .int .i64 b] w fun e w' => e = .returned (.string (bytesL (pnumL n b 36))) ∧ w' = w := by
 obtain ⟨F, hF⟩ : ∃ F, pnumL n b 36 = F := ⟨_, rfl⟩
 have hFl : F.length ≤ 11 := by rw [← hF]; exact pnumL_len 10 n b 36 hn
 rw [hF]
 have HR0 : Hid (WrRel n b F w (.int .i64 n) (.string ⟨#[]⟩) (.int .i64 36) w) := hid ⟨n, 36, [], rfl, rfl, rfl, Nat.le_refl _, by omega, hF, rfl⟩
 have FS := hid figP
 clear hF
 go_enter Tryz.func236, Tryz.ntmps236
 go_wp2_with fail
 obtain ⟨S, hS⟩ : ∃ S : ByteArray, (⟨#[97, 98, 99, 100, 101, 102, 103, 104, 105, 106, 107, 108, 109, 110, 111, 112, 113, 114, 115, 116, 117, 118, 119, 120, 121, 122, 48, 49, 50, 51, 52, 53, 54, 55, 56, 57]⟩ : ByteArray) = S := ⟨_, rfl⟩
 rw [hS] at FS ⊢
 have hzS : S.size = 36 := by rw [← hS]; rfl
 clear hS
 go_loopw [0, 5, 6] (WrRel n b F w) (fun a _ _ _ => (intOf a).toNat)
 case atStart => exact HR0.out
 case round =>
  obtain ⟨m, k, acc, rfl, rfl, rfl, hm, hk, hr, rfl⟩ := hrel
  have THR := hid (rthr_any k b wr (by omega) hb)
  have hth1 := thrN_ge k b
  have hth2 := thrN_le k b
  have hst := @pnumL_stop m b k
  have hgo := @pnumL_go m b k
  have hless := @num_less m b k
  obtain ⟨th, hth⟩ : ∃ th, thrN k b = th := ⟨_, rfl⟩
  rw [hth] at THR hth1 hth2 hst hgo hless
  have hacl : acc.length ≤ 11 := by rw [← hr, List.length_append] at hFl; omega
  obtain ⟨Y, hY⟩ : ∃ Y, bytesL acc = Y := ⟨_, rfl⟩
  have hYz : Y.size ≤ 11 := by rw [← hY, bytesL_size]; exact hacl
  by_cases h1 : m < th
  · obtain ⟨t1, t1'⟩ := ltT m th h1
    have q1 := inc m (by omega)
    have F1 : S.extract m (m + 1) = bytesL [digN m] := FS.out ⟨m, by omega⟩
    have sl := slice_one .i64 S m (by omega) _ F1
    rw [hst h1] at hr
    obtain ⟨X, hX⟩ : ∃ X : ByteArray, bytesL [digN m] = X := ⟨_, rfl⟩
    have z1 : X.size = 1 := by rw [← hX]; rfl
    have HF : Hid (Y ++ X = bytesL F) := hid (by rw [← hr, bytesL_append, hY, hX])
    rw [hX] at sl
    rw [hY]
    clear hst hgo hless hth hm hk hr hacl hY h1 F1 hX
    go_wp2_with fail
    refine THR.out.mono ?_
    rintro e w1 ⟨rfl, rfl⟩
    go_wp2
    go_ret
    exact ⟨by rw [← HF.out]; rfl, rfl⟩
  · obtain ⟨t1, t1'⟩ := ltF m th h1
    rw [hgo h1] at hr
    have hless := hless h1
    obtain ⟨r, hrr⟩ : ∃ r, (m - th) % (36 - th) = r := ⟨_, rfl⟩
    obtain ⟨q, hq⟩ : ∃ q, (m - th) / (36 - th) = q := ⟨_, rfl⟩
    have hr36 : r < 36 - th := by rw [← hrr]; exact Nat.mod_lt _ (by omega)
    have p0 : (m : Int) - (th : Int) = ((m - th : Nat) : Int) := by omega
    have p0' : (36 : Int) - (th : Int) = ((36 - th : Nat) : Int) := by omega
    have p1 : IntKind.i64.wrap ((m : Int) - (th : Int)) = (m : Int) - (th : Int) := i64n _ (by omega)
    have p2 : IntKind.i64.wrap (36 - (th : Int)) = 36 - (th : Int) := i64n _ (by omega)
    have tm : ((m : Int) - (th : Int)).tmod (36 - (th : Int)) = (r : Int) := by rw [p0, p0', ← hrr]; exact (Int.ofNat_tmod _ _).symm
    have td : ((m : Int) - (th : Int)).tdiv (36 - (th : Int)) = (q : Int) := by rw [p0, p0', ← hq]; exact (Int.ofNat_tdiv _ _).symm
    have p3 : ((36 : Int) - (th : Int) == 0) = false := by simp; omega
    have p3' : ((36 : Int) - (th : Int) = 0) = False := by simp; omega
    rw [hrr, hq] at hr
    rw [hq] at hless
    obtain ⟨d, hd⟩ : ∃ d, th + r = d := ⟨_, rfl⟩
    rw [hd] at hr
    have p4 : IntKind.i64.wrap (r : Int) = (r : Int) := i64n _ (by omega)
    have p5 : IntKind.i64.wrap (q : Int) = (q : Int) := i64n _ (by omega)
    have p6 : IntKind.i64.wrap ((th : Int) + (r : Int)) = (d : Int) := by rw [show (th : Int) + (r : Int) = (d : Int) by omega]; exact i64n _ (by omega)
    have q1 := inc d (by omega)
    have q2 : IntKind.i64.wrap ((k : Int) + 36) = (k : Int) + 36 := i64n _ (by omega)
    have F1 : S.extract d (d + 1) = bytesL [digN d] := FS.out ⟨d, by omega⟩
    have sl := slice_one .i64 S d (by omega) _ F1
    have HR1 : Hid (WrRel n b F wr (.int .i64 q) (.string (Y ++ bytesL [digN d])) (.int .i64 ((k : Int) + 36)) wr) := hid ⟨q, k + 36, acc ++ [digN d], rfl, by rw [bytesL_append, hY], by go_num, by omega, by omega, by rw [List.append_assoc]; exact hr, rfl⟩
    obtain ⟨X, hX⟩ : ∃ X : ByteArray, bytesL [digN d] = X := ⟨_, rfl⟩
    have z1 : X.size = 1 := by rw [← hX]; rfl
    rw [hX] at sl HR1
    rw [hY]
    have HLS := hid hless
    clear hst hgo hless hth hm hk hr hacl hY h1 F1 hX hrr hq hd p0 p0' hr36
    go_wp2_with fail
    refine THR.out.mono ?_
    rintro e w1 ⟨rfl, rfl⟩
    go_wp2
    refine ⟨?_, by have := HLS.out; simp [intOf]; omega⟩
    first | exact HR1.out | ((repeat apply Exists.intro); exact ⟨HR1.out, rfl⟩)
end
section
open Go.RowKit
def ReRel1 (cs : List Nat) (w : World) (ov jv : Value) (wr : World) : Prop := ∃ j : Nat, jv = .int .i64 j ∧ j ≤ cs.length ∧ ov = .string (bytesL (basicL (cs.take j))) ∧ Below w.heap.size w wr
structure ReAt (cs : List Nat) (n : Nat) (s SF : ESt) : Prop where
 n128 : 128 ≤ n
 nle : n ≤ 1114112
 enc : encG (basicL cs).length cs n s = SF
 delta : s.delta ≤ 600 * n
 bias : s.bias ≤ 1800000036
 h : s.h = (cs.filter fun c => decide (c < n)).length
 out : s.out.length ≤ 300 + 10 * s.h
def ReRel2 (cs : List Nat) (SF : ESt) (W : World) (ov hv bv dv nv mv : Value) (wr : World) : Prop := ∃ (n : Nat) (s : ESt), ov = .string (bytesL s.out) ∧ hv = .int .i64 s.h ∧ bv = .int .i64 s.bias ∧ dv = .int .i64 s.delta ∧ nv = .int .i64 n ∧ mv = .int .i64 (nxI cs n) ∧ ReAt cs n s SF ∧ wr = W
def ReRel3 (cs : List Nat) (m : Nat) (s0 : ESt) (W : World) (ov hv bv dv jv : Value) (wr : World) : Prop := ∃ j : Nat, jv = .int .i64 j ∧ j ≤ cs.length ∧ ov = .string (bytesL (encIn (basicL cs).length m (cs.take j) s0).out) ∧ hv = .int .i64 (encIn (basicL cs).length m (cs.take j) s0).h ∧ bv = .int .i64 (encIn (basicL cs).length m (cs.take j) s0).bias ∧ dv = .int .i64 (encIn (basicL cs).length m (cs.take j) s0).delta ∧ wr = W
def RnV (cs : List Nat) : Value := if 256 < cs.length then .tuple #[.string ⟨#[]⟩, .int .i64 14, .int .i64 256] else .tuple #[.string (bytesL (encL cs)), .int .i64 0, .int .i64 0]
theorem rencode9_any (v : Value) (cs : List Nat) (w : World) (h : Rd (Own w) w v (intsD cs)) (hr : AllRight cs) (hl : cs.length ≤ 1000000) :
    Calls Tryz.prog 190 #[v] w fun e w' => e = .returned (RnV cs) ∧ Below w.heap.size w w' := by
 by_cases h256 : 256 < cs.length
 · obtain ⟨a, c, rfl, _, _, _⟩ := h.nats_inv
   have t1 : decide ((256 : Int) < (cs.length : Int)) = true := dcT (by omega)
   have hV : RnV cs = .tuple #[.string ⟨#[]⟩, .int .i64 14, .int .i64 256] := by unfold RnV; rw [if_pos h256]
   rw [hV]
   clear h h256 hl hV hr
   go_enter Tryz.func190, Tryz.ntmps190
   go_wp2
   go_ret3
   exact ⟨rfl, Below.refl _ _⟩
 · have hV : RnV cs = .tuple #[.string (bytesL (encL cs)), .int .i64 0, .int .i64 0] := by unfold RnV; rw [if_neg h256]
   rw [hV]
   have H := hid h
   obtain ⟨a, c, rfl, _, hcap, hx⟩ := h.nats_inv
   have HX := hid hx; have HAR := hid hr
   obtain ⟨S, hS⟩ : ∃ S, bytesL (encL cs) = S := ⟨_, rfl⟩
   rw [hS]
   have HS := hid hS
   obtain ⟨n0, hn0⟩ : ∃ n, cs.length = n := ⟨_, rfl⟩
   have HN := hid hn0
   have HNX0 := hid (fun n W (h' : Rd (Own W) W (.slice a cs.length c) (intsD cs)) => rnext9_any _ cs n W h' hl)
   rw [hn0] at hcap h256 HNX0 ⊢
   have t1 : decide ((256 : Int) < (n0 : Int)) = false := dcF (by omega)
   clear h hr hx hS hn0 hV hl
   go_enter Tryz.func190, Tryz.ntmps190
   go_wp2_with fail
   clear t1
   go_loopw [5, 6] (ReRel1 cs w) (fun _ j _ => n0 - (intOf j).toNat)
   case atStart => exact ⟨0, rfl, Nat.zero_le _, rfl, Below.refl _ _⟩
   case round =>
    obtain ⟨j, rfl, hj, rfl, hB⟩ := hrel
    rw [HN.out] at hj
    have HB := hid hB
    clear hB
    by_cases hlt : j < n0
    · obtain ⟨t1, t1'⟩ := ltT j n0 hlt
      have q1 := inc j (by omega)
      obtain ⟨b1, o1, rfl, hb1, hc1⟩ := HX.out (by rw [HN.out]; omega)
      obtain ⟨x, hx⟩ := get_ex cs j (by rw [HN.out]; exact hlt)
      have hxv : cs[j]'(by rw [HN.out]; exact hlt) = x := (List.getElem?_eq_some_iff.1 hx).2
      have c0 : wr.cell? ⟨b1, o1 + j, none⟩ = some (.int .i64 (x : Int)) := by
       have := hc1 j (by rw [HN.out]; exact hlt)
       rw [hxv] at this
       exact (bcell1 HB.out hb1 _).trans this
      have hrx := HAR.out x (List.mem_of_getElem? hx)
      have PR := rright_any (x : Int) wr
      rw [hrx] at PR
      have PR := hid PR
      have hsn := basicL_snoc cs j x hx
      have hx3 := (right_iff _).1 hrx
      have hbl : (basicL (cs.take j)).length ≤ 256 := by
       have : (basicL (cs.take j)).length ≤ (cs.take j).length := List.length_filter_le _ _
       rw [List.length_take, HN.out] at this; omega
      obtain ⟨Y, hY⟩ : ∃ Y, bytesL (basicL (cs.take j)) = Y := ⟨_, rfl⟩
      have hYz : Y.size ≤ 256 := by rw [← hY, bytesL_size]; exact hbl
      have HLT := hid hlt
      rw [hY]
      by_cases h128 : x < 128
      · have t2 : decide ((x : Int) < 128) = true := dcT (by omega)
        have t2' : decide (x < 128) = true := dcT h128
        rw [if_pos h128] at hsn
        have qw : IntKind.u8.wrap (x : Int) = (x : Int) := IntWalk.u8_in _ (by omega)
        obtain ⟨W2, hW2⟩ : ∃ W, wr.alloc (.cells #[.int .u8 (x : Int)] 5) = W := ⟨_, rfl⟩
        obtain ⟨X, hX⟩ : ∃ X : ByteArray, bytesL [x] = X := ⟨_, rfl⟩
        have z1 : X.size = 1 := by rw [← hX]; rfl
        have cv : (convert 29 9 (.slice (some ⟨wr.heap.size, 0, none⟩) 1 1)).run Tryz.prog W2 = .ok (.string X) W2 := bytes_back W2 wr.heap.size 0 1 1 X z1 (fun i hi => by
         obtain rfl : i = 0 := by omega
         rw [← hW2, Lib.cell_of_heap (heap_alloc_new wr _), ← hX, bytesL_at (l := [x]) (i := 0) (by simp) (by simp; omega)]; rfl)
        have R1 : ReRel1 cs w (.string (Y ++ X)) (.int .i64 ((j : Int) + 1)) W2 := ⟨j + 1, by go_num, by rw [HN.out]; exact hlt, by rw [hsn, bytesL_append, hY, hX], by rw [← hW2]; exact ext_alloc HB.out _⟩
        have HRR := hid R1
        clear h128 hx3 hbl hsn hY hX R1 hxv hx hc1 hrx hlt
        go_wp2_with fail
        refine PR.out.mono ?_
        rintro e w1 ⟨rfl, rfl⟩
        go_wp2
        refine ⟨?_, by have := HLT.out; simp [intOf]; omega⟩
        first | exact HRR.out | ((repeat apply Exists.intro); exact ⟨HRR.out, rfl⟩)
      · have t2 : decide ((x : Int) < 128) = false := dcF (by omega)
        have t2' : decide (x < 128) = false := dcF h128
        rw [if_neg h128, List.append_nil] at hsn
        have R1 : ReRel1 cs w (.string Y) (.int .i64 ((j : Int) + 1)) wr := ⟨j + 1, by go_num, by rw [HN.out]; exact hlt, by rw [hsn, hY], HB.out⟩
        have HRR := hid R1
        clear h128 hx3 hbl hsn hY R1 hxv hx hc1 hrx hlt
        go_wp2_with fail
        refine PR.out.mono ?_
        rintro e w1 ⟨rfl, rfl⟩
        go_wp2
        refine ⟨?_, by have := HLT.out; simp [intOf]; omega⟩
        first | exact HRR.out | ((repeat apply Exists.intro); exact ⟨HRR.out, rfl⟩)
    · obtain ⟨t1, t1'⟩ := ltF j n0 hlt
      have hjn : cs.take j = cs := List.take_of_length_le (by rw [HN.out]; omega)
      rw [hjn]
      have hbl : (basicL cs).length ≤ cs.length := List.length_filter_le _ _
      rw [HN.out] at hbl
      obtain ⟨bl, hbl2⟩ : ∃ bl, (basicL cs).length = bl := ⟨_, rfl⟩
      rw [hbl2] at hbl
      have HBL := hid hbl2
      obtain ⟨Y, hY⟩ : ∃ Y, bytesL (basicL cs) = Y := ⟨_, rfl⟩
      have hYz : Y.size = bl := by rw [← hY, bytesL_size]; exact hbl2
      have HY := hid hY
      have HRDX := hid (H.out.ext HB.out)
      rw [hY]
      clear hjn hbl2 hlt hj hY
      obtain ⟨tb, htb⟩ : ∃ tb, decide (0 < bl) = tb := ⟨_, rfl⟩
      have htb2 : decide ((0 : Int) < (bl : Int)) = tb := by rw [← htb]; exact decide_eq_decide.2 (by omega)
      have HTB := hid htb
      go_upto_if 48 with (fail)
      clear htb htb2
      go_cut [5] (fun ov wx => ov = .string (bytesL (basicL cs ++ dashL (basicL cs))) ∧ wx = wr)
      case first =>
       cases tb with
       | true =>
         have hb0 : 0 < bl := of_decide_eq_true HTB.out
         have HD : Hid (Y ++ ⟨#[45]⟩ = bytesL (basicL cs ++ dashL (basicL cs))) := hid (by unfold dashL; rw [HBL.out, if_pos hb0, bytesL_append, HY.out]; rfl)
         clear hb0
         go_wp2
         go_meet
         exact ⟨by rw [← HD.out], rfl⟩
       | false =>
         have hb0 : ¬ 0 < bl := of_decide_eq_false HTB.out
         have HD : Hid (Y = bytesL (basicL cs ++ dashL (basicL cs))) := hid (by unfold dashL; rw [HBL.out, if_neg hb0, List.append_nil, HY.out])
         clear hb0
         go_wp2
         go_meet
         exact ⟨by rw [← HD.out], rfl⟩
      case rest =>
       obtain ⟨rfl, rfl⟩ := hcut
       have NX := hid (HNX0.out 128 wc (by have := HRDX.out; rw [HN.out] at this; exact this))
       obtain ⟨SF, hSF⟩ : ∃ SF, encG (basicL cs).length cs 128 ⟨0, 72, (basicL cs).length, basicL cs ++ dashL (basicL cs)⟩ = SF := ⟨_, rfl⟩
       have HSO : Hid (bytesL SF.out = S) := hid (by rw [← hSF]; exact HS.out)
       have E0 : ReRel2 cs SF wc (.string (bytesL (basicL cs ++ dashL (basicL cs)))) (.int .i64 bl) (.int .i64 72) (.int .i64 0) (.int .i64 128) (.int .i64 (nxI cs 128)) wc := ⟨128, ⟨0, 72, (basicL cs).length, basicL cs ++ dashL (basicL cs)⟩, rfl, by rw [HBL.out], rfl, rfl, rfl, rfl, ⟨Nat.le_refl _, by omega, hSF, Nat.zero_le _, (by decide : 72 ≤ 1800000036), rfl, by
        show (basicL cs ++ dashL (basicL cs)).length ≤ 300 + 10 * (basicL cs).length
        have : (dashL (basicL cs)).length ≤ 1 := by unfold dashL; split <;> simp
        rw [List.length_append]; omega⟩, rfl⟩
       have HE0 := hid E0
       clear E0 hSF
       go_wp2_with fail
       refine NX.out.mono ?_
       rintro e w1 ⟨rfl, hw1⟩
       have hw1' := hw1.symm
       subst hw1'
       clear hw1 hYz
       go_wp2_with fail
       go_loopw [5, 7, 9, 10, 11, 12] (ReRel2 cs SF wc) (fun _ _ _ _ n _ _ => above cs (intOf n).toNat)
       case atStart => exact HE0.out
       case round =>
        obtain ⟨n, st, rfl, rfl, rfl, rfl, rfl, rfl, hA, rfl⟩ := hrel
        have HA := hid hA
        have hn1 := hA.n128
        have hn2 := hA.nle
        clear hA
        obtain ⟨mo, hmo⟩ : ∃ mo, nextN cs n = mo := ⟨_, rfl⟩
        cases mo with
        | none =>
          have hnx : nxI cs n = -1 := by unfold nxI; rw [hmo]
          have HFI : Hid (bytesL st.out = S) := hid (by
           have henc := HA.out.enc
           rw [encG_none hmo] at henc
           rw [henc]; exact HSO.out)
          rw [hnx, HFI.out]
          clear hnx hmo
          go_wp2
          go_ret3
          exact ⟨rfl, HB.out⟩
        | some m =>
          have hnx : nxI cs n = (m : Nat) := by unfold nxI; rw [hmo]
          rw [hnx]
          have HNX := hid hmo
          obtain ⟨hmem, hnm, _⟩ := nextN_some hmo
          have hm3 := (right_iff _).1 (HAR.out m hmem)
          have t1 : decide ((0 : Int) ≤ (m : Int)) = true := dcT (by omega)
          have hd1 := HA.out.delta
          have hbi := HA.out.bias
          have hh := HA.out.h
          have hhl : (cs.filter fun c => decide (c < n)).length ≤ cs.length := List.length_filter_le _ _
          rw [← hh, HN.out] at hhl
          have hol := HA.out.out
          obtain ⟨a1, ha1⟩ : ∃ a1, m - n = a1 := ⟨_, rfl⟩
          obtain ⟨p, hp⟩ : ∃ p, a1 * (st.h + 1) = p := ⟨_, rfl⟩
          have hpl : p ≤ a1 * 257 := by rw [← hp]; exact Nat.mul_le_mul_left _ (by omega)
          obtain ⟨d0, hd0⟩ : ∃ d0, st.delta + p = d0 := ⟨_, rfl⟩
          have hd0l : d0 ≤ 600 * m := by omega
          obtain ⟨s0, hs0⟩ : ∃ s0, addD st p = s0 := ⟨_, rfl⟩
          have e1 : s0.delta = d0 := by rw [← hs0]; exact hd0
          have e2 : s0.bias = st.bias := by rw [← hs0]; rfl
          have e3 : s0.h = st.h := by rw [← hs0]; rfl
          have e4 : s0.out = st.out := by rw [← hs0]; rfl
          have HENC : Hid (encG (basicL cs).length cs (m + 1) (addD (encIn (basicL cs).length m cs s0) 1) = SF) := hid (by
           have := HA.out.enc
           rw [encG_some hmo, ha1, hp, hs0] at this
           exact this)
          have r1 : IntKind.i64.wrap ((m : Int) - (n : Int)) = (a1 : Int) := by rw [i64n _ (by omega)]; omega
          have r2 : IntKind.i64.wrap ((st.h : Int) + 1) = (st.h : Int) + 1 := i64n _ (by omega)
          have hpi : (a1 : Int) * ((st.h : Int) + 1) = (p : Int) := by rw [← hp]; push_cast; rfl
          have r3 : IntKind.i64.wrap ((a1 : Int) * ((st.h : Int) + 1)) = (p : Int) := by rw [hpi]; exact i64n _ (by omega)
          have r4 : IntKind.i64.wrap ((st.delta : Int) + (p : Int)) = (d0 : Int) := by rw [i64n _ (by omega)]; omega
          have HH0 : Hid (s0.h = (cs.filter fun c => decide (c < n)).length) := hid (e3.trans hh)
          have E3 : ReRel3 cs m s0 wr (.string (bytesL st.out)) (.int .i64 st.h) (.int .i64 st.bias) (.int .i64 d0) (.int .i64 0) wr := ⟨0, rfl, Nat.zero_le _, by rw [List.take_zero]; show _ = Value.string (bytesL s0.out); rw [e4], by rw [List.take_zero]; show _ = Value.int .i64 (s0.h : Nat); rw [e3], by rw [List.take_zero]; show _ = Value.int .i64 (s0.bias : Nat); rw [e2], by rw [List.take_zero]; show _ = Value.int .i64 (s0.delta : Nat); rw [e1], rfl⟩
          have HE3 := hid E3
          have HD0 : Hid (s0.delta ≤ 600 * m) := hid (by rw [e1]; exact hd0l)
          have HBI : Hid (s0.bias ≤ 1800000036) := hid (by rw [e2]; exact hbi)
          have HOL : Hid (s0.out.length ≤ 300 + 10 * s0.h) := hid (by rw [e4, e3]; exact hol)
          have hm4 : m < 1114112 := by omega
          have HNM := hid hnm
          have HLS : Hid (above cs (m + 1) < above cs n) := hid (above_less hmo)
          clear hmo hh ha1 hp hpl hd0 hd0l hs0 e1 e2 e3 e4 hpi E3 hm3 hd1 hbi hol hhl hnm hnx hmem
          go_wp2_with fail
          clear r1 r2 r3 r4 t1
          go_loopw [5, 7, 9, 10, 13] (ReRel3 cs m s0 wr) (fun _ _ _ _ j _ => n0 - (intOf j).toNat)
          case atStart => exact HE3.out
          case round =>
           obtain ⟨j, rfl, hj, rfl, rfl, rfl, rfl, hwr⟩ := hrel
           subst hwr
           rw [HN.out] at hj
           have hle := encIn_hle (basicL cs).length m n cs s0 j HNX.out HH0.out
           have hge := encIn_hge (basicL cs).length m (cs.take j) s0
           have hdl := encIn_delta (basicL cs).length m (cs.take j) s0
           have hbl9 := encIn_bias (basicL cs).length m (cs.take j) s0 900000000 (by have := HBI.out; omega) (by have := HD0.out; rw [List.length_take]; omega)
           have hou := encIn_out (basicL cs).length m (cs.take j) s0 (by have := HD0.out; rw [List.length_take]; omega)
           have hd0 := HD0.out; have hol := HOL.out
           rw [HN.out] at hle
           rw [List.length_take] at hdl
           by_cases hjl : j < n0
           · obtain ⟨t3, t3'⟩ := ltT j n0 hjl
             have q2 := inc j (by omega)
             obtain ⟨b1, o1, rfl, hb1, hc1⟩ := HX.out (by rw [HN.out]; omega)
             obtain ⟨x, hx⟩ := get_ex cs j (by rw [HN.out]; exact hjl)
             have hxv : cs[j]'(by rw [HN.out]; exact hjl) = x := (List.getElem?_eq_some_iff.1 hx).2
             have c0 : wr.cell? ⟨b1, o1 + j, none⟩ = some (.int .i64 (x : Int)) := by
              have := hc1 j (by rw [HN.out]; exact hjl)
              rw [hxv] at this
              exact (bcell1 HB.out hb1 _).trans this
             have hnx := encIn_next (basicL cs).length m cs s0 j x hx
             have HJL := hid hjl
             obtain ⟨sj, hsj⟩ : ∃ sj, encIn (basicL cs).length m (cs.take j) s0 = sj := ⟨_, rfl⟩
             rw [hsj] at hnx hle hge hdl hbl9 hou ⊢
             have HNX2 := hid hnx
             obtain ⟨Y2, hY2⟩ : ∃ Y, bytesL sj.out = Y := ⟨_, rfl⟩
             have hY2z : Y2.size ≤ 10000 := by rw [← hY2, bytesL_size]; omega
             have HY2 := hid hY2
             rw [hY2]
             clear hc1 hx hxv hnx hsj hb1 hjl hY2
             by_cases hxm : x < m
             · obtain ⟨t4, t4'⟩ := ltT x m hxm
               have t5 : ((x : Int) == (m : Int)) = false := by simp; omega
               have q3 : IntKind.i64.wrap ((sj.delta : Int) + 1) = (sj.delta : Int) + 1 := i64n _ (by omega)
               have hst : encIn (basicL cs).length m (cs.take (j + 1)) s0 = ⟨sj.delta + 1, sj.bias, sj.h, sj.out⟩ := by rw [HNX2.out]; unfold encStep; rw [if_pos hxm]
               have R1 : ReRel3 cs m s0 wr (.string Y2) (.int .i64 sj.h) (.int .i64 sj.bias) (.int .i64 ((sj.delta : Int) + 1)) (.int .i64 ((j : Int) + 1)) wr := ⟨j + 1, by go_num, by rw [HN.out]; exact HJL.out, by rw [hst, HY2.out], by rw [hst], by rw [hst], by rw [hst]; go_num, rfl⟩
               have HR1 := hid R1
               clear R1 hst hxm
               go_wp2
               refine ⟨?_, by have := HJL.out; simp [intOf]; omega⟩
               first | exact HR1.out | ((repeat apply Exists.intro); exact ⟨HR1.out, rfl⟩)
             · obtain ⟨t4, t4'⟩ := ltF x m hxm
               by_cases hxe : x = m
               · subst hxe
                 have t5 : ((x : Int) == (x : Int)) = true := by simp
                 have WN := rwritten9_any sj.delta sj.bias wr (by omega) (by omega)
                 obtain ⟨P, hP⟩ : ∃ P, bytesL (pnumL sj.delta sj.bias 36) = P := ⟨_, rfl⟩
                 have hPz : P.size ≤ 11 := by rw [← hP, bytesL_size]; exact pnumL_len 10 _ _ _ (by omega)
                 rw [hP] at WN
                 have WN := hid WN
                 have q3 : IntKind.i64.wrap ((sj.h : Int) + 1) = (sj.h : Int) + 1 := i64n _ (by omega)
                 have te : ((sj.h : Int) == (bl : Int)) = decide (sj.h = (basicL cs).length) := by
                  rw [HBL.out]
                  by_cases e : sj.h = bl
                  · rw [dcT e, e]; simp
                  · rw [dcF e]; simp; omega
                 obtain ⟨tf, htf⟩ : ∃ tf, decide (sj.h = (basicL cs).length) = tf := ⟨_, rfl⟩
                 rw [htf] at te
                 have AD := hid (radapt_any sj.delta (sj.h + 1) tf wr (by omega) (by omega) (by omega))
                 have hst : encIn (basicL cs).length x (cs.take (j + 1)) s0 = ⟨0, adaptN sj.delta (sj.h + 1) tf, sj.h + 1, sj.out ++ pnumL sj.delta sj.bias 36⟩ := by rw [HNX2.out]; unfold encStep; rw [if_neg hxm, if_pos rfl, htf]
                 have R1 : ReRel3 cs x s0 wr (.string (Y2 ++ P)) (.int .i64 ((sj.h : Int) + 1)) (.int .i64 (adaptN sj.delta (sj.h + 1) tf : Nat)) (.int .i64 0) (.int .i64 ((j : Int) + 1)) wr := ⟨j + 1, by go_num, by rw [HN.out]; exact HJL.out, by rw [hst, bytesL_append, HY2.out, hP], by rw [hst]; go_num, by rw [hst], by rw [hst]; rfl, rfl⟩
                 have HR1 := hid R1
                 clear hst htf hxm R1 hP
                 generalize adaptN sj.delta (sj.h + 1) tf = ad at *
                 go_wp2_with fail
                 refine WN.out.mono ?_
                 rintro e w8 ⟨rfl, hw8⟩
                 have hw8' := hw8.symm
                 subst hw8'
                 clear hw8
                 go_wp2_with fail
                 refine AD.out.mono ?_
                 rintro e w9 ⟨rfl, hw9⟩
                 have hw9' := hw9.symm
                 subst hw9'
                 clear hw9
                 go_wp2
                 refine ⟨?_, by have := HJL.out; simp [intOf]; omega⟩
                 first | exact HR1.out | ((repeat apply Exists.intro); exact ⟨HR1.out, rfl⟩)
               · have t5 : ((x : Int) == (m : Int)) = false := by simp; omega
                 have hst : encIn (basicL cs).length m (cs.take (j + 1)) s0 = sj := by rw [HNX2.out]; unfold encStep; rw [if_neg hxm, if_neg hxe]
                 have R1 : ReRel3 cs m s0 wr (.string Y2) (.int .i64 sj.h) (.int .i64 sj.bias) (.int .i64 sj.delta) (.int .i64 ((j : Int) + 1)) wr := ⟨j + 1, by go_num, by rw [HN.out]; exact HJL.out, by rw [hst, HY2.out], by rw [hst], by rw [hst], by rw [hst], rfl⟩
                 have HR1 := hid R1
                 clear R1 hst hxm hxe
                 go_wp2
                 refine ⟨?_, by have := HJL.out; simp [intOf]; omega⟩
                 first | exact HR1.out | ((repeat apply Exists.intro); exact ⟨HR1.out, rfl⟩)
           · obtain ⟨t3, t3'⟩ := ltF j n0 hjl
             have htk : cs.take j = cs := List.take_of_length_le (by rw [HN.out]; omega)
             rw [htk] at hle hge hdl hbl9 hou ⊢
             obtain ⟨s1, hs1⟩ : ∃ s1, encIn (basicL cs).length m cs s0 = s1 := ⟨_, rfl⟩
             have hhe := encIn_h (basicL cs).length m cs s0
             rw [hs1] at hle hge hdl hbl9 hou hhe HENC ⊢
             have q3 : IntKind.i64.wrap ((s1.delta : Int) + 1) = (s1.delta : Int) + 1 := i64n _ (by omega)
             have q4 := inc m (by omega)
             have hfl := filter_lt_succ HNX.out
             have hnm2 := HNM.out
             have R1 : ReRel2 cs SF wr (.string (bytesL s1.out)) (.int .i64 s1.h) (.int .i64 s1.bias) (.int .i64 ((s1.delta : Int) + 1)) (.int .i64 ((m : Int) + 1)) (.int .i64 (nxI cs (m + 1))) wr := ⟨m + 1, addD s1 1, rfl, rfl, rfl, by show _ = Value.int .i64 ((s1.delta + 1 : Nat) : Int); go_num, by go_num, rfl, ⟨by omega, by omega, HENC.out, by show s1.delta + 1 ≤ _; omega, by show s1.bias ≤ _; omega, by
              show s1.h = _
              rw [hhe, HH0.out, hfl], by show s1.out.length ≤ 300 + 10 * s1.h; omega⟩, rfl⟩
             have HR1 := hid R1
             have NX2 := HNX0.out (m + 1) wr (by have := HRDX.out; rw [HN.out] at this; exact this)
             rw [Int.natCast_add, Int.natCast_one] at NX2
             have NX2 := hid NX2
             clear R1 hs1 hhe hfl htk hjl hnm2
             go_wp2_with fail
             refine NX2.out.mono ?_
             rintro e w8 ⟨rfl, hw8⟩
             have hw8' := hw8.symm
             subst hw8'
             clear hw8
             go_wp2
             refine ⟨?_, by have := HLS.out; simp [intOf]; omega⟩
             first | exact HR1.out | ((repeat apply Exists.intro); exact ⟨HR1.out, rfl⟩)
end
end Go.Proofs.YtbeodjipdpcaiaaGreatDoor
