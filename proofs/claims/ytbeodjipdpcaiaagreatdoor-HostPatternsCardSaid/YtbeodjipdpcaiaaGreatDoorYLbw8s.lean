/- Texts put together. -/
import Derived.Test.YtbeodjipdpcaiaaGreatDoorYLbw5s
import Derived.Test.YtbeodjipdpcaiaaGreatDoorYQuo3sf
import Derived.Test.YtbeodjipdpcaiaaGreatDoorYScan4sf
import Derived.Test.YtbeodjipdpcaiaaGreatDoorYLab0s
import Derived.Test.YtbeodjipdpcaiaaGreatDoorYMx0sf
set_option maxRecDepth 100000
set_option maxHeartbeats 8000000
namespace Go.Proofs.YtbeodjipdpcaiaaGreatDoor
section
open Go.RowKit
def AsPost (w : World) (r : Sc (List Nat)) (e : Ending) (w' : World) : Prop := Below w.heap.size w w' ∧ match r with
 | .ok t => e = .returned (.tuple #[.string (bytesL t), .nilIface])
 | .no k i => ∃ u, e = .returned (.tuple #[.string ⟨#[]⟩, u]) ∧ Er w' u [((k : Int), i)]
theorem ascii_bad (s : ByteArray) (w : World) (hs : s.size ≤ 1000000) (hT : Utf8T w) {k : Nat} {p : Int} (hc : charsS s 0 [] = .no k p) : Calls Tryz.prog 103 #[.string s] w (AsPost w (.no k p)) := by
 obtain ⟨W0, cap, hcv, hcap, hb0, hz0, hcell⟩ := bytes_of_string s w
 have L := rd_of_cells (S := Own W0) (B := s) (b := w.heap.size) hz0 hcap hcell
 have CH := uchars_any _ s W0 L (hT.ext hb0) hs
 rw [hc] at CH
 have CH := hid CH; have HB0 := hid hb0
 obtain ⟨Q, hQ⟩ : ∃ Q, AsPost w (.no k p) = Q := ⟨_, rfl⟩
 rw [hQ]
 have HQ := hid hQ
 clear L hT hcell hcap hb0 hz0 hc hQ
 go_enter Tryz.func103, Tryz.ntmps103
 go_wp2_with fail
 go_at_call 141
 refine CH.out.mono ?_
 rintro e w1 ⟨u, rfl, hf⟩
 have HF := hid (failed_er (hf.after HB0.out))
 clear hf
 go_wp2
 rw [← HQ.out]
 exact ⟨HF.out.2, _, rfl, HF.out.1⟩
theorem ascii_small (s : ByteArray) (w : World) (hs : s.size ≤ 1000000) (hT : Utf8T w) (hA : AllowT w) {cs : List Nat} (hc : charsS s 0 [] = .ok cs) (hp : (cs.all fun c => decide (c < 128)) = true) : Calls Tryz.prog 103 #[.string s] w (AsPost w (match rightL ((bytesN s).map lowN) with
      | (0, _) => .ok ((bytesN s).map lowN)
      | (k + 1, p) => .no (k + 1) p)) := by
 have hcl := chars_len hc
 obtain ⟨W0, cap, hcv, hcap, hb0, hz0, hcell⟩ := bytes_of_string s w
 have L := rd_of_cells (S := Own W0) (B := s) (b := w.heap.size) hz0 hcap hcell
 have CH := uchars_any _ s W0 L (hT.ext hb0) hs
 rw [hc] at CH
 have CH := hid CH; have HB0 := hid hb0
 have LW := hid (fun W => lower_any s W hs)
 have PL := hid (fun v W (h : Rd (Own W) W v (intsD cs)) => plain_any v cs W h (by omega))
 rw [hp] at PL
 have RT := hid (fun W (h : AllowT W) => lright_any (bytesL ((bytesN s).map lowN)) W h)
 rw [bytesN_bytesL (byteL_lowB s)] at RT
 obtain ⟨lo, hlo⟩ : ∃ lo, (bytesN s).map lowN = lo := ⟨_, rfl⟩
 rw [hlo] at LW RT ⊢
 obtain ⟨lw, hlw⟩ : ∃ lw, bytesL lo = lw := ⟨_, rfl⟩
 rw [hlw] at LW RT
 have HLW := hid hlw; have HA := hid hA
 obtain ⟨k, p, hr⟩ : ∃ k p, rightL lo = (k, p) := ⟨_, _, rfl⟩
 rw [hr] at RT ⊢
 cases k with
 | zero =>
   obtain ⟨Q, hQ⟩ : ∃ Q, AsPost w (.ok lo) = Q := ⟨_, rfl⟩
   show Calls _ _ _ _ (AsPost w (.ok lo))
   rw [hQ]
   have HQ := hid hQ
   clear L hT hcell hcap hb0 hz0 hc hp hQ hlo hlw hr hcl hA
   go_enter Tryz.func103, Tryz.ntmps103
   go_wp2_with fail
   go_at_call 141
   refine CH.out.mono ?_
   rintro e w1 ⟨v, rfl, hv, hb1⟩
   have HV := hid (hv.wide (fun b hb => hb.2)); have HB1 := hid (HB0.out.trans (hb1.mono HB0.out.size))
   clear hv hb1
   go_wp2_with fail
   refine (LW.out _).mono ?_
   rintro e w2 ⟨rfl, hb2⟩
   have PL2 := hid (PL.out v w2 (HV.out.ext hb2)); have HB2 := hid (xT HB1.out hb2)
   clear hb2
   go_wp2_with fail
   refine PL2.out.mono ?_
   rintro e w3 ⟨rfl, hw3⟩
   have hw3' := hw3.symm
   subst hw3'
   clear hw3
   have RT2 := hid (RT.out _ (HA.out.ext HB2.out))
   go_wp2_with fail
   refine RT2.out.mono ?_
   rintro e w4 ⟨hb4, rfl⟩
   have HB4 := hid (xT HB2.out hb4)
   clear hb4
   go_wp2
   rw [← HQ.out]
   refine ⟨HB4.out, ?_⟩
   show Ending.returned (.tuple #[.string lw, .nilIface]) = .returned (.tuple #[.string (bytesL lo), .nilIface])
   rw [HLW.out]
 | succ k =>
   obtain ⟨Q, hQ⟩ : ∃ Q, AsPost w (.no (k + 1) p) = Q := ⟨_, rfl⟩
   show Calls _ _ _ _ (AsPost w (.no (k + 1) p))
   rw [hQ]
   have HQ := hid hQ
   clear L hT hcell hcap hb0 hz0 hc hp hQ hlo hlw hr hcl hA
   go_enter Tryz.func103, Tryz.ntmps103
   go_wp2_with fail
   go_at_call 141
   refine CH.out.mono ?_
   rintro e w1 ⟨v, rfl, hv, hb1⟩
   have HV := hid (hv.wide (fun b hb => hb.2)); have HB1 := hid (HB0.out.trans (hb1.mono HB0.out.size))
   clear hv hb1
   go_wp2_with fail
   refine (LW.out _).mono ?_
   rintro e w2 ⟨rfl, hb2⟩
   have PL2 := hid (PL.out v w2 (HV.out.ext hb2)); have HB2 := hid (xT HB1.out hb2)
   clear hb2
   go_wp2_with fail
   refine PL2.out.mono ?_
   rintro e w3 ⟨rfl, hw3⟩
   have hw3' := hw3.symm
   subst hw3'
   clear hw3
   have RT2 := hid (RT.out _ (HA.out.ext HB2.out))
   go_wp2_with fail
   refine RT2.out.mono ?_
   rintro e w4 ⟨hb4, hp4⟩
   rw [if_neg (Nat.succ_ne_zero k)] at hp4
   obtain ⟨u, rfl, hE⟩ := hp4
   obtain ⟨b, off, u2, rfl, _⟩ := fault_inv hE
   have HB4 := hid (xT HB2.out hb4); have HE := hid hE
   clear hb4 hE
   go_wp2
   rw [← HQ.out]
   exact ⟨HB4.out, _, rfl, HE.out⟩
end
section
open Go.RowKit
def AwRel (cs : List Nat) (W2 : World) (av kv : Value) (wr : World) : Prop := ∃ j : Nat, kv = .int .i64 j ∧ j ≤ cs.length ∧ av = .int .i64 (placeC cs j) ∧ (∀ i, i < j → ∀ x, cs[i]? = some x → okN x = true) ∧ Below W2.heap.size W2 wr
theorem asciiW_bad {cs : List Nat} {j x : Nat} (hx : cs[j]? = some x) (hb : okN x = false) (hl : ∀ i, i < j → ∀ x, cs[i]? = some x → okN x = true) : asciiW cs = .no 11 (placeC cs j) := by
 have hj := (List.getElem?_eq_some_iff.1 hx).1
 unfold asciiW
 rw [findR_at hj (by unfold badC; rw [hx]; show (!(okN x)) = true; rw [hb]; rfl) (fun i hi => by
  have hi' : i < cs.length := by omega
  unfold badC
  rw [List.getElem?_eq_getElem hi']
  show (!(okN (cs[i]))) = false
  rw [hl i hi _ (List.getElem?_eq_getElem hi')]; rfl)]
theorem asciiW_fin {cs : List Nat} (hl : ∀ i, i < cs.length → ∀ x, cs[i]? = some x → okN x = true) : asciiW cs = if marksN cs = false then .no 24 0 else if 256 < cs.length ∨ 59 < (encL cs).length then .no 14 63 else .ok (xnL ++ encL cs) := by
 unfold asciiW
 rw [findR_no (fun i hi => by
  unfold badC
  rw [List.getElem?_eq_getElem hi]
  show (!(okN (cs[i]))) = false
  rw [hl i hi _ (List.getElem?_eq_getElem hi)]; rfl)]
theorem ascii_wide (s : ByteArray) (w : World) (hs : s.size ≤ 1000000) (hT : Utf8T w) (hA : AllowT w) {cs0 : List Nat} (hc : charsS s 0 [] = .ok cs0) (hp : (cs0.all fun c => decide (c < 128)) = false) : Calls Tryz.prog 103 #[.string s] w (AsPost w (asciiW (cs0.map lowN))) := by
 have hcl0 := chars_len hc
 have hc2 : charsS (bytesL ((bytesN s).map lowN)) 0 [] = .ok (cs0.map lowN) := charsL_low (bytesN_lt s) (by rw [bytesL_bytesN]; exact hc)
 have hz2 : (bytesL ((bytesN s).map lowN)).size ≤ 1000000 := by rw [bytesL_size, List.length_map, bytesN_len]; exact hs
 have har := (charsL_ok (byteL_lowB s) hc2).1
 have hcl : (cs0.map lowN).length ≤ 1000000 := by rw [List.length_map]; omega
 obtain ⟨W0, cap, hcv, hcap, hb0, hz0, hcell⟩ := bytes_of_string s w
 have L := rd_of_cells (S := Own W0) (B := s) (b := w.heap.size) hz0 hcap hcell
 have CH := uchars_any _ s W0 L (hT.ext hb0) hs
 rw [hc] at CH
 have CH := hid CH; have HB0 := hid hb0
 have LW := hid (fun W => lower_any s W hs)
 have PL := hid (fun v W (h : Rd (Own W) W v (intsD cs0)) => plain_any v cs0 W h (by omega))
 rw [hp] at PL
 have CH2 := hid (fun v W (h : Rd (Own W) W v (bytesDB (bytesL ((bytesN s).map lowN)))) (ht : Utf8T W) => uchars_any v _ W h ht hz2)
 rw [hc2] at CH2
 obtain ⟨lw, hlw⟩ : ∃ lw, bytesL ((bytesN s).map lowN) = lw := ⟨_, rfl⟩
 rw [hlw] at LW CH2
 obtain ⟨cs, hcs⟩ : ∃ cs, cs0.map lowN = cs := ⟨_, rfl⟩
 rw [hcs] at CH2 har hcl ⊢
 obtain ⟨R, hR⟩ : ∃ R, asciiW cs = R := ⟨_, rfl⟩
 obtain ⟨Q, hQ⟩ : ∃ Q, AsPost w R = Q := ⟨_, rfl⟩
 rw [hR, hQ]
 have HR := hid hR; have HQ := hid hQ; have HT := hid hT; have HA := hid hA; have HAR := hid har
 clear L hT hA hcell hcap hb0 hz0 hc hc2 hp hQ hR hlw hcs hcl0 har hz2
 go_enter Tryz.func103, Tryz.ntmps103
 go_wp2_with fail
 go_at_call 141
 refine CH.out.mono ?_
 rintro e w1 ⟨v, rfl, hv, hb1⟩
 have HV := hid (hv.wide (fun b hb => hb.2)); have HB1 := hid (HB0.out.trans (hb1.mono HB0.out.size))
 clear hv hb1 hcv
 go_wp2_with fail
 refine (LW.out _).mono ?_
 rintro e w2 ⟨rfl, hb2⟩
 have PL2 := hid (PL.out v w2 (HV.out.ext hb2)); have HB2 := hid (xT HB1.out hb2)
 clear hb2
 go_wp2_with fail
 refine PL2.out.mono ?_
 rintro e w3 ⟨rfl, hw3⟩
 have hw3' := hw3.symm
 subst hw3'
 clear hw3
 obtain ⟨W3, cap3, hcv, hcap, hb3, hz3, hcell⟩ := bytes_of_string lw w2
 have L3 := rd_of_cells (S := Own W3) (B := lw) (b := w2.heap.size) hz3 hcap hcell
 have HB3 := hid (xT HB2.out hb3)
 have CH3 := hid (CH2.out _ W3 L3 (HT.out.ext HB3.out))
 clear L3 hcell hcap hb3 hz3
 go_wp2_with fail
 go_at_call 141
 refine CH3.out.mono ?_
 rintro e w4 ⟨v4, rfl, hv4, hb4⟩
 have hrd : Rd (Own w4) w4 v4 (intsD cs) := hv4.wide (fun b hb => hb.2)
 have HRD := hid hrd
 obtain ⟨a, c, rfl, _, hcap, hx⟩ := hrd.nats_inv
 have HX := hid hx
 have HB4 := hid (xT HB3.out hb4)
 have HA4 := hid (HA.out.ext HB4.out)
 obtain ⟨n0, hn0⟩ : ∃ n, cs.length = n := ⟨_, rfl⟩
 have HN := hid hn0
 rw [hn0] at hcap hcl ⊢
 clear hrd hx hb4 hv4 hn0 hcv
 have HNO : Hid (∀ (k i : Nat) W, R = .no k i → Below w4.heap.size w4 W → Q (.returned (.tuple #[.string ⟨#[]⟩, .iface 119 (.pointer (some ⟨W.heap.size, 0, none⟩))])) (W.alloc (.cells #[.int .i64 k, .int .i64 i, .nilIface] 123))) := hid (fun k i W hr hW => by
  have HF := failed_er (failed_of (w := w) (w0 := W) (k := k) (i := i) (xT HB4.out hW) rfl)
  rw [← HQ.out, hr]
  exact ⟨HF.2, _, rfl, HF.1⟩)
 go_wp2_with fail
 go_loopw [8, 41] (AwRel cs w4) (fun _ k _ => n0 - (intOf k).toNat)
 case atStart => exact ⟨0, rfl, Nat.zero_le _, by rw [placeC_zero]; rfl, fun i hi => by omega, Below.refl _ _⟩
 case round =>
  obtain ⟨j, rfl, hj, rfl, hok, hb⟩ := hrel
  rw [HN.out] at hj
  have hpl := placeC_le cs j
  rw [HN.out] at hpl
  have HOK := hid hok; have HBR := hid hb
  clear hok hb
  by_cases hlt : j < n0
  · obtain ⟨t1, t1'⟩ := ltT j n0 hlt
    have q1 := inc j (by omega)
    obtain ⟨b1, o1, rfl, hb1, hc1⟩ := HX.out (by rw [HN.out]; omega)
    obtain ⟨x, hx⟩ := get_ex cs j (by rw [HN.out]; exact hlt)
    have hxv : cs[j]'(by rw [HN.out]; exact hlt) = x := (List.getElem?_eq_some_iff.1 hx).2
    have c0 : wr.cell? ⟨b1, o1 + j, none⟩ = some (.int .i64 (x : Int)) := by
     have := hc1 j (by rw [HN.out]; exact hlt)
     rw [hxv] at this
     exact (bcell1 HBR.out hb1 _).trans this
    have hxr := HAR.out x (List.mem_of_getElem? hx)
    have hxl := (right_iff _).1 hxr
    have HXG := hid hx
    have hps := placeC_succ hx
    obtain ⟨pl, hpl0⟩ : ∃ p, placeC cs j = p := ⟨_, rfl⟩
    have HPL := hid hpl0
    rw [hpl0] at hps hpl ⊢
    have hpn := putN_le x
    obtain ⟨pn, hpn0⟩ : ∃ p, (putN x).length = p := ⟨_, rfl⟩
    rw [hpn0] at hps hpn
    have HPN := hid hpn0
    have HPS := hid hps
    have SM := hid (small_any x wr)
    have CH := hid (char_any x wr (HA4.out.ext HBR.out) (by omega))
    have PU := hid (fun W => uput_ok x W hxr)
    have q2 : IntKind.i64.wrap ((pl : Int) + (pn : Int)) = (pl : Int) + (pn : Int) := i64n _ (by omega)
    have HNXT : Hid (∀ W, okN x = true → Below w4.heap.size w4 W → AwRel cs w4 (.int .i64 ((pl : Int) + (pn : Int))) (.int .i64 ((j : Int) + 1)) W) := hid (fun W hok hW => ⟨j + 1, by go_num, by rw [HN.out]; exact hlt, by rw [HPS.out]; go_num, fun i hi y hy => by
     by_cases e : i = j
     · subst e; rw [HXG.out] at hy; cases hy; exact hok
     · exact HOK.out i (by omega) y hy, hW⟩)
    clear hc1 hx hxv hb1 hxl hxr hpl0 hpn0 hps
    cases hl : lcN x with
    | true =>
      rw [hl] at SM
      have HN2 := hid (fun W => HNXT.out W (by unfold okN; rw [hl]; rfl))
      clear hl
      go_wp2_with fail
      refine SM.out.mono ?_
      rintro e w5 ⟨rfl, hw5⟩
      have hw5' := hw5.symm
      subst hw5'
      clear hw5
      go_wp2_with fail
      refine (PU.out _).mono ?_
      rintro e w6 ⟨v6, rfl, hv6, hb6⟩
      have HRL := hid (HN2.out w6 (xT HBR.out hb6))
      obtain ⟨a6, c6, rfl, _, _, _⟩ := hv6.by_inv
      have hz6 : (bytesL (putN x)).size = pn := by rw [bytesL_size]; exact HPN.out
      rw [hz6]
      clear hv6 hb6 hz6
      go_wp2
      refine ⟨?_, by simp [intOf] <;> omega⟩
      first | exact HRL.out | ((repeat apply Exists.intro); exact ⟨HRL.out, rfl⟩)
    | false =>
      rw [hl] at SM
      cases hcn : charN x with
      | true =>
        rw [hcn] at CH
        have HN2 := hid (fun W => HNXT.out W (by unfold okN; rw [hcn, Bool.or_true]))
        clear hl hcn
        go_wp2_with fail
        refine SM.out.mono ?_
        rintro e w5 ⟨rfl, hw5⟩
        have hw5' := hw5.symm
        subst hw5'
        clear hw5
        go_wp2_with fail
        refine CH.out.mono ?_
        rintro e w5 ⟨rfl, hb5⟩
        have HB5 := hid (xT HBR.out hb5)
        clear hb5
        go_wp2_with fail
        refine (PU.out _).mono ?_
        rintro e w6 ⟨v6, rfl, hv6, hb6⟩
        have HRL := hid (HN2.out w6 (xT HB5.out hb6))
        obtain ⟨a6, c6, rfl, _, _, _⟩ := hv6.by_inv
        have hz6 : (bytesL (putN x)).size = pn := by rw [bytesL_size]; exact HPN.out
        rw [hz6]
        clear hv6 hb6 hz6
        go_wp2
        refine ⟨?_, by simp [intOf] <;> omega⟩
        first | exact HRL.out | ((repeat apply Exists.intro); exact ⟨HRL.out, rfl⟩)
      | false =>
        rw [hcn] at CH
        have hF := asciiW_bad HXG.out (by unfold okN; rw [hl, hcn]; rfl) HOK.out
        rw [HR.out, HPL.out] at hF
        have HFF := hid (fun W hW => HNO.out 11 pl W hF hW)
        clear hl hcn hF
        go_wp2_with fail
        refine SM.out.mono ?_
        rintro e w5 ⟨rfl, hw5⟩
        have hw5' := hw5.symm
        subst hw5'
        clear hw5
        go_wp2_with fail
        refine CH.out.mono ?_
        rintro e w5 ⟨rfl, hb5⟩
        have HB5 := hid (xT HBR.out hb5)
        clear hb5
        go_wp2_with fail
        go_at_call 44
        refine (fail_any _ _ _).mono ?_
        rintro e w6 ⟨rfl, rfl⟩
        go_wp2
        exact HFF.out _ HB5.out
  · obtain ⟨t1, t1'⟩ := ltF j n0 hlt
    have hfin := asciiW_fin (cs := cs) (fun i hi => HOK.out i (by rw [HN.out] at hi; omega))
    rw [HR.out, HN.out] at hfin
    have MK := hid (marks_any _ cs wr (HRD.out.ext HBR.out) (by rw [HN.out]; omega))
    rw [HN.out] at MK
    obtain ⟨pl, hpl0⟩ : ∃ p, placeC cs j = p := ⟨_, rfl⟩
    rw [hpl0] at hpl ⊢
    clear hpl0
    cases hmk : marksN cs with
    | false =>
      rw [hmk] at MK hfin
      rw [if_pos rfl] at hfin
      have HFF := hid (fun W hW => HNO.out 24 0 W hfin hW)
      clear hmk hfin hlt
      go_wp2_with fail
      refine MK.out.mono ?_
      rintro e w5 ⟨rfl, hw5⟩
      have hw5' := hw5.symm
      subst hw5'
      clear hw5
      go_wp2_with fail
      go_at_call 44
      refine (fail_any _ _ _).mono ?_
      rintro e w6 ⟨rfl, rfl⟩
      go_wp2
      exact HFF.out _ HBR.out
    | true =>
      rw [hmk] at MK hfin
      rw [if_neg (by decide)] at hfin
      by_cases h256 : 256 < n0
      · rw [if_pos (Or.inl h256)] at hfin
        have HFF := hid (fun W hW => HNO.out 14 63 W hfin hW)
        have EN := hid (encode_long _ cs wr (HRD.out.ext HBR.out) (by rw [HN.out]; omega) (by rw [HN.out]; exact h256))
        rw [HN.out] at EN
        clear hmk hfin hlt h256
        go_wp2_with fail
        refine MK.out.mono ?_
        rintro e w5 ⟨rfl, hw5⟩
        have hw5' := hw5.symm
        subst hw5'
        clear hw5
        go_wp2_with fail
        refine EN.out.mono ?_
        rintro e w6 ⟨⟨u, rfl, hE⟩, hb6⟩
        obtain ⟨b, off, u2, rfl, _⟩ := fault_inv hE
        have HB6 := hid (xT HBR.out hb6)
        clear hE hb6
        go_wp2_with fail
        go_at_call 44
        refine (fail_any _ _ _).mono ?_
        rintro e w7 ⟨rfl, rfl⟩
        go_wp2
        exact HFF.out _ HB6.out
      · have EN := hid (encode_ok _ cs wr (HRD.out.ext HBR.out) HAR.out (by rw [HN.out]; omega))
        rw [HN.out] at EN
        obtain ⟨E, hE⟩ : ∃ E, bytesL (encL cs) = E := ⟨_, rfl⟩
        have hEz : E.size = (encL cs).length := by rw [← hE, bytesL_size]
        have hEm : E.size ≤ 4000 := by rw [hEz]; exact encL_max (by rw [HN.out]; omega) HAR.out
        obtain ⟨P, hP⟩ : ∃ P, (⟨#[120, 110, 45, 45]⟩ : ByteArray) ++ E = P := ⟨_, rfl⟩
        have hPL : P = bytesL (xnL ++ encL cs) := by
         rw [← hP, ← hE]; apply toList_inj; rw [ByteArray.toList_eq, ByteArray.toList_eq]
         simp [bytesL, xnL, ByteArray.data_append]
        have hPz : P.size = 4 + (encL cs).length := by rw [hPL, bytesL_size, List.length_append]; rfl
        rw [hE] at EN
        by_cases h59 : 59 < (encL cs).length
        · rw [if_pos (Or.inr h59)] at hfin
          have HFF := hid (fun W hW => HNO.out 14 63 W hfin hW)
          have t2 : decide ((63 : Int) < (P.size : Int)) = true := dcT (by omega)
          have t2' : decide (63 < P.size) = true := dcT (by omega)
          clear hmk hfin hlt h256 h59 hE hEz hPz hPL
          go_wp2_with fail
          refine MK.out.mono ?_
          rintro e w5 ⟨rfl, hw5⟩
          have hw5' := hw5.symm
          subst hw5'
          clear hw5
          go_wp2_with fail
          refine EN.out.mono ?_
          rintro e w6 ⟨rfl, hb6⟩
          have HB6 := hid (xT HBR.out hb6)
          clear hb6
          go_wp2_with fail
          go_at_call 44
          refine (fail_any _ _ _).mono ?_
          rintro e w7 ⟨rfl, rfl⟩
          go_wp2
          exact HFF.out _ HB6.out
        · rw [if_neg (by omega)] at hfin
          have t2 : decide ((63 : Int) < (P.size : Int)) = false := dcF (by omega)
          have t2' : decide (63 < P.size) = false := dcF (by omega)
          have HYES : Hid (∀ W, Below w4.heap.size w4 W → Q (.returned (.tuple #[.string P, .nilIface])) W) := hid (fun W hW => by
           rw [← HQ.out, hfin]
           exact ⟨xT HB4.out hW, by rw [hPL]⟩)
          clear hmk hfin hlt h256 h59 hE hEz hPz hPL
          go_wp2_with fail
          refine MK.out.mono ?_
          rintro e w5 ⟨rfl, hw5⟩
          have hw5' := hw5.symm
          subst hw5'
          clear hw5
          go_wp2_with fail
          refine EN.out.mono ?_
          rintro e w6 ⟨rfl, hb6⟩
          have HB6 := hid (xT HBR.out hb6)
          clear hb6
          go_wp2
          exact HYES.out _ HB6.out
theorem lascii_any (s : ByteArray) (w : World) (hs : s.size ≤ 1000000) (hT : Utf8T w) (hA : AllowT w) : Calls Tryz.prog 103 #[.string s] w (AsPost w (asciiL (bytesN s))) := by
 unfold asciiL
 rw [bytesL_bytesN]
 cases hc : charsS s 0 [] with
 | no k p => exact ascii_bad s w hs hT hc
 | ok cs =>
   cases hp : (cs.all fun c => decide (c < 128)) with
   | true =>
     have := ascii_small s w hs hT hA hc hp
     simp only [hp, if_true]; exact this
   | false =>
     have := ascii_wide s w hs hT hA hc hp
     simp only [hp, Bool.false_eq_true, if_false]; exact this
end
section
open Go.RowKit
theorem moved_any (u : Value) (k p n : Int) (w : World) (hg : Glob w) (h : Er w u [(k, p)]) (hp : -1000000000000 ≤ p ∧ p ≤ 1000000000000) (hn : 0 ≤ n ∧ n ≤ 1000000000000) :
    Calls Tryz.prog 104 #[u, .int .i64 n] w fun e w' => Below w.heap.size w w' ∧ ∃ u', e = .returned u' ∧ Er w' u' [(k, p + n)] := by
 obtain ⟨b, off, u2, rfl, hS, c0, c1, c2, h2⟩ := fault_inv h
 obtain rfl := Er.of_nil h2
 have A := hid (as_box ⟨b, off, none⟩ w hg)
 have q1 : IntKind.i64.wrap (p + n) = p + n := i64n _ (by omega)
 have hS' : b < w.heap.size := hS
 clear h hg hS h2 hp hn
 go_enter Tryz.func104, Tryz.ntmps104
 go_wp2_with fail
 refine A.out.mono ?_
 rintro e w1 ⟨rfl, hc, hz, hb⟩
 rw [← bcell1 hb hS'] at c0 c1 c2
 have HB := hid hb
 have WR : Hid (∀ m : Nat, Calls Tryz.prog 87 #[.int .i64 k, .int .i64 (p + n), .nilIface] (w1.drewN m) fun e w' => ∃ u', e = .returned u' ∧ Er w' u' [(k, p + n)] ∧ Below w1.heap.size w1 w') := hid (fun m => (wrap_any (S := Own (w1.drewN m)) k (p + n) .nilIface [] (w1.drewN m) Er.nil).mono (by
  rintro e w' ⟨rfl, rfl⟩
  exact ⟨_, rfl, Rd.fault (c := []) Er.nil, ext_alloc (ext_drewN m (Below.refl _ _)) _⟩))
 have zb : b < w1.heap.size := Nat.lt_of_lt_of_le hS' hb.size
 clear hb
 go_wp2_with fail
 go_region_held3 (fun W => W.cell? ⟨w.heap.size, 0, none⟩ = some (.pointer (some ⟨b, off, none⟩)) ∧ W.cell? ⟨b, off, none⟩ = some (.int .i64 k) ∧ W.cell? ⟨b, off + 1, none⟩ = some (.int .i64 p) ∧ W.cell? ⟨b, off + 2, none⟩ = some .nilIface) (first | assumption | exact ⟨hc, c0, c1, c2⟩) (first | (go_at_call 87; refine (WR.out _).mono ?_; rintro e w7 ⟨u7, rfl, hE7, hb7⟩; have hkk : w7.cell? ⟨w.heap.size, 0, none⟩ = some (.pointer (some ⟨b, off, none⟩)) ∧ w7.cell? ⟨b, off, none⟩ = some (.int .i64 k) ∧ w7.cell? ⟨b, off + 1, none⟩ = some (.int .i64 p) ∧ w7.cell? ⟨b, off + 2, none⟩ = some .nilIface := ⟨(bcell1 hb7 hz 0).trans hc, (bcell1 hb7 zb _).trans c0, (bcell1 hb7 zb _).trans c1, (bcell1 hb7 zb _).trans c2⟩))
 all_goals
  have HE7 := hid hE7; have HB7 := hid (xT HB.out hb7)
  clear hE7 hb7
  go_wp2
  go_ret
  exact ⟨HB7.out, _, rfl, HE7.out⟩
theorem list_bytesL (l : List UInt8) : (⟨l.toArray⟩ : ByteArray) = bytesL (l.map (·.toNat)) := by
 unfold bytesL
 rw [List.map_map]
 congr 2
 have : (UInt8.ofNat ∘ fun x : UInt8 => x.toNat) = id := by funext x; simp
 rw [this, List.map_id]
theorem lastN_snoc (l : List Nat) (x : Nat) : lastN (l ++ [x]) = x := by unfold lastN; simp
theorem suffix_dot (i : List UInt8) (x : UInt8) : Go.Lib.hasSuffix (i ++ [x]) [46] = decide (x = 46) := by
 unfold Go.Lib.hasSuffix List.isSuffixOf
 simp only [List.reverse_append, List.reverse_cons, List.reverse_nil, List.nil_append, List.singleton_append, List.isPrefixOf, Bool.and_true]
 by_cases h : x = 46
 · subst h; rfl
 · rw [dcF h]; exact bneI.2 (fun e => h e.symm)
theorem trimS_eq (s : ByteArray) (h : 1 < s.size) : (⟨(Go.Lib.trimSuffix s.data.toList [46]).toArray⟩ : ByteArray) = bytesL (trimL (bytesN s)) := by
 have hl : 1 < s.data.toList.length := by rw [Array.length_toList]; exact h
 rw [list_bytesL]
 have e : bytesN s = s.data.toList.map (·.toNat) := rfl
 rw [e]
 generalize s.data.toList = l at hl ⊢
 congr 1
 rcases List.eq_nil_or_concat l with rfl | ⟨i, x, rfl⟩
 · simp at hl
 · rw [List.concat_eq_append] at hl ⊢
   unfold trimL Go.Lib.trimSuffix
   rw [suffix_dot, List.map_append, List.map_cons, List.map_nil, lastN_snoc]
   by_cases hx : x = 46
   · subst hx
     rw [if_pos (by decide), if_pos ⟨by simpa using hl, rfl⟩]
     simp
   · rw [if_neg (by simpa using hx), if_neg (fun hc => hx (by have := hc.2; exact UInt8.toNat.inj this))]
     simp
theorem trimL_short {s : ByteArray} (h : ¬ 1 < s.size) : bytesL (trimL (bytesN s)) = s := by
 unfold trimL
 rw [if_neg (fun hc => h (by have := hc.1; rw [bytesN_len] at this; exact this)), bytesL_bytesN]
def LnRel (ps : List (List Nat)) (R : Sc (List (List Nat))) (w : World) (g cap : Nat) (av kv : Value) (wr : World) : Prop := ∃ (j at_ : Nat) (acc : List (List Nat)), kv = .int .i64 j ∧ j ≤ ps.length ∧ av = .int .i64 at_ ∧ at_ ≤ 1000001 * j ∧ acc.length = j ∧ wr.ownsRow w.heap.size 9 1 (.slice (some ⟨g, 0, none⟩) ps.length cap) ps.length (strV ((acc ++ ps.drop j).map bytesL)) ∧ namesF (ps.drop j) at_ acc = R ∧ Below w.heap.size w wr
theorem LnRel.step {ps : List (List Nat)} {w wr : World} {g cap j : Nat} {acc : List (List Nat)} {t : List Nat} (hj : j < ps.length) (ha : acc.length = j) (h : wr.ownsRow w.heap.size 9 1 (.slice (some ⟨g, 0, none⟩) ps.length cap) ps.length (strV ((acc ++ ps.drop j).map bytesL))) (hb : Below w.heap.size w wr) :
    (wr.setCell ⟨g, j, none⟩ (.string (bytesL t))).ownsRow w.heap.size 9 1 (.slice (some ⟨g, 0, none⟩) ps.length cap) ps.length (strV ((acc ++ [t] ++ ps.drop (j + 1)).map bytesL)) ∧ Below w.heap.size w (wr.setCell ⟨g, j, none⟩ (.string (bytesL t))) := by
 refine ⟨?_, hb.setCell (p := ⟨g, j, none⟩) (h.lt g rfl).1 _⟩
 have := (h.stored j (.string (bytesL t))).1
 have e : (strV ((acc ++ ps.drop j).map bytesL)).set j (.string (bytesL t)) = strV ((acc ++ [t] ++ ps.drop (j + 1)).map bytesL) := by
  rw [List.drop_eq_getElem_cons hj]
  unfold strV
  rw [List.map_append, List.map_append, List.set_append_right _ _ (by simp [ha])]
  simp only [List.length_map, ha, Nat.sub_self, List.map_cons, List.set_cons_zero, List.map_append, List.append_assoc, List.singleton_append]
 rw [e] at this
 exact this
theorem er_str {w : World} {b j : Nat} {x y : ByteArray} (hc : w.cell? ⟨b, j, none⟩ = some (.string x)) : ∀ (c : List (Int × Int)) (u : Value), Er w u c → Er (w.setCell ⟨b, j, none⟩ (.string y)) u c
 | [], u, h => by rw [Er.of_nil h]; exact Er.nil
 | (k, a) :: r, u, h => by
   obtain ⟨b', off, v, rfl, hS, c0, c1, c2, hv⟩ := fault_inv h
   have ih := er_str (y := y) hc r v hv
   have hv0 : ∀ s, v ≠ .string s := fun s e => by
    cases r with
    | nil => rw [Er.of_nil hv] at e; cases e
    | cons z r => obtain ⟨_, _, _, e2, _⟩ := fault_inv (k := z.1) (a := z.2) hv; rw [e2] at e; cases e
   have key : ∀ p v, w.cell? p = some v → (∀ s, v ≠ .string s) → (w.setCell ⟨b, j, none⟩ (.string y)).cell? p = some v := fun p v hp hn => by
    rw [World.cell?_setCell_other (h := fun e => by rw [← e, hc] at hp; exact hn x (Option.some.inj hp).symm)]; exact hp
   have d0 := key _ _ c0 (fun s e => by cases e)
   have d1 := key _ _ c1 (fun s e => by cases e)
   have d2 := key _ _ c2 hv0
   show Rd _ _ _ (errD _ _)
   simp only [errD]
   refine .iface _ _ _ (.ptr _ _ _ (fun i => (#[Value.int .i64 k, .int .i64 a, v][i]?).getD undef) (by have : b' < w.heap.size := hS; show b' < _; simpa using this) (fun i hi => ?_) (fun i hi => ?_))
   · have hj' : i = 0 ∨ i = 1 ∨ i = 2 := by simp at hi; omega
     rcases hj' with rfl | rfl | rfl
     · simpa using d0
     · simpa using d1
     · simpa using d2
   · have hj' : i = 0 ∨ i = 1 ∨ i = 2 := by simp at hi; omega
     rcases hj' with rfl | rfl | rfl
     · exact .int _ _
     · exact .int _ _
     · exact ih
theorem trim_k (s : ByteArray) (h : 1 < s.size) (hs : s.size ≤ 1000000) (W : World) : Calls Tryz.prog 101 #[.string s, .string ⟨#[46]⟩] W fun e w' => e = .returned (.string (bytesL (trimL (bytesN s)))) ∧ w' = W := by
 have := Tryz.strings_TrimSuffix s ⟨#[46]⟩ W (by omega)
 rw [show ((⟨#[46]⟩ : ByteArray).data.toList) = [46] from rfl, trimS_eq s h] at this
 exact this
def TrimAlt (s T : ByteArray) : Prop := (1 < s.size ∧ ∀ W, Calls Tryz.prog 101 #[.string s, .string ⟨#[46]⟩] W fun e w' => e = .returned (.string T) ∧ w' = W) ∨ (¬ 1 < s.size ∧ T = s)
theorem name_empty (s : ByteArray) (w : World) (hTA : TrimAlt s ⟨#[]⟩) : Calls Tryz.prog 49 #[.string s] w (AsPost w (.no 10 0)) := by
 have HF := hid (failed_er (failed_of (w := w) (w0 := w) (k := 10) (i := 0) (Below.refl _ _) rfl))
 obtain ⟨Q, hQ⟩ : ∃ Q, AsPost w (.no 10 0) = Q := ⟨_, rfl⟩
 rw [hQ]
 have HQ := hid hQ
 clear hQ
 rcases hTA with ⟨h1, TK⟩ | ⟨h1, hTs⟩
 · have u1 : decide ((1 : Int) < (s.size : Int)) = true := dcT (by omega)
   have u1' : decide (1 < s.size) = true := dcT h1
   have TK := hid TK
   clear h1
   go_enter Tryz.func49, Tryz.ntmps49
   go_wp2_with fail
   refine (TK.out _).mono ?_
   rintro e w0 ⟨rfl, hw0⟩
   have hw0' := hw0.symm
   subst hw0'
   clear hw0
   go_wp2_with fail
   go_at_call 44
   refine (fail_any _ _ _).mono ?_
   rintro e w3 ⟨rfl, rfl⟩
   go_wp2
   rw [← HQ.out]
   exact ⟨HF.out.2, _, rfl, HF.out.1⟩
 · have u1 : decide ((1 : Int) < (s.size : Int)) = false := dcF (by omega)
   have u1' : decide (1 < s.size) = false := dcF h1
   subst hTs
   clear h1
   go_enter Tryz.func49, Tryz.ntmps49
   go_wp2_with fail
   go_at_call 44
   refine (fail_any _ _ _).mono ?_
   rintro e w3 ⟨rfl, rfl⟩
   go_wp2
   rw [← HQ.out]
   exact ⟨HF.out.2, _, rfl, HF.out.1⟩
theorem name_many (s T : ByteArray) (w : World) (hTA : TrimAlt s T) (h0 : T ≠ ⟨#[]⟩) (hz : T.size ≤ 1000000) {k : Nat} {q : Int} (hf : fieldsL 46 127 (bytesN T) = .no k q) : Calls Tryz.prog 49 #[.string s] w (AsPost w (.no k q)) := by
 have FD := hid (fun W => fields_any T 46 127 W hz (by decide) (by decide) (by decide))
 rw [hf] at FD
 have t0 : (T.toList == []) = false := by
  have h := beqS_f h0
  rw [show (⟨#[]⟩ : ByteArray).toList = [] by rw [ByteArray.toList_eq]] at h
  exact h
 obtain ⟨Q, hQ⟩ : ∃ Q, AsPost w (.no k q) = Q := ⟨_, rfl⟩
 rw [hQ]
 have HQ := hid hQ
 clear hQ h0 hf
 rcases hTA with ⟨h1, TK⟩ | ⟨h1, hTs⟩
 · have u1 : decide ((1 : Int) < (s.size : Int)) = true := dcT (by omega)
   have u1' : decide (1 < s.size) = true := dcT h1
   have TK := hid TK
   clear h1
   go_enter Tryz.func49, Tryz.ntmps49
   go_wp2_with fail
   refine (TK.out _).mono ?_
   rintro e w0 ⟨rfl, hw0⟩
   have hw0' := hw0.symm
   subst hw0'
   clear hw0
   go_wp2_with fail
   refine (FD.out _).mono ?_
   rintro e w1 ⟨hb1, u, rfl, hE⟩
   obtain ⟨b, off, u2, rfl, _⟩ := fault_inv hE
   have HE := hid hE; have HB1 := hid hb1
   clear hE hb1
   go_wp2
   rw [← HQ.out]
   exact ⟨HB1.out, _, rfl, HE.out⟩
 · have u1 : decide ((1 : Int) < (s.size : Int)) = false := dcF (by omega)
   have u1' : decide (1 < s.size) = false := dcF h1
   subst hTs
   clear h1
   go_enter Tryz.func49, Tryz.ntmps49
   go_wp2_with fail
   refine (FD.out _).mono ?_
   rintro e w1 ⟨hb1, u, rfl, hE⟩
   obtain ⟨b, off, u2, rfl, _⟩ := fault_inv hE
   have HE := hid hE; have HB1 := hid hb1
   clear hE hb1
   go_wp2
   rw [← HQ.out]
   exact ⟨HB1.out, _, rfl, HE.out⟩
theorem name_rest (s T : ByteArray) (w : World) (hTA : TrimAlt s T) (h0 : T ≠ ⟨#[]⟩) (hz : T.size ≤ 1000000) (hT : Utf8T w) (hA : AllowT w) (hG : Glob w) {ps : List (List Nat)} (hf : fieldsL 46 127 (bytesN T) = .ok ps) : Calls Tryz.prog 49 #[.string s] w (AsPost w (nameJ (namesF ps 0 []))) := by
 have FD := hid (fun W => fields_any T 46 127 W hz (by decide) (by decide) (by decide))
 rw [hf] at FD
 have t0 : (T.toList == []) = false := by
  have h := beqS_f h0
  rw [show (⟨#[]⟩ : ByteArray).toList = [] by rw [ByteArray.toList_eq]] at h
  exact h
 obtain ⟨h127, hpos, hpl⟩ := field_len (by decide) hf
 have HPL : Hid (∀ p ∈ ps, p.length ≤ 1000000 ∧ ByteL p) := hid (fun p hp => ⟨by have := (hpl p hp).1; rw [bytesN_len] at this; omega, (bytesN_lt T).sub (hpl p hp).2⟩)
 obtain ⟨R0, hR0⟩ : ∃ R0, namesF ps 0 [] = R0 := ⟨_, rfl⟩
 rw [hR0]
 obtain ⟨R, hR⟩ : ∃ R, nameJ R0 = R := ⟨_, rfl⟩
 rw [hR]
 obtain ⟨Q, hQ⟩ : ∃ Q, AsPost w R = Q := ⟨_, rfl⟩
 rw [hQ]
 obtain ⟨n0, hn0⟩ : ∃ n, ps.length = n := ⟨_, rfl⟩
 rw [hn0] at h127 hpos
 have HQ := hid hQ; have HR := hid hR; have HR0 := hid hR0; have HN := hid hn0; have HT := hid hT; have HA := hid hA; have HG := hid hG
 clear hQ h0 hf hpl hR hR0 hn0 hT hA hG
 rcases hTA with ⟨h1, TK⟩ | ⟨h1, hTs⟩
 · have u1 : decide ((1 : Int) < (s.size : Int)) = true := dcT (by omega)
   have u1' : decide (1 < s.size) = true := dcT h1
   have TK := hid TK
   clear h1
   go_enter Tryz.func49, Tryz.ntmps49
   go_wp2_with fail
   refine (TK.out _).mono ?_
   rintro e w0 ⟨rfl, hw0⟩
   have hw0' := hw0.symm
   subst hw0'
   clear hw0
   go_wp2_with fail
   refine (FD.out _).mono ?_
   rintro e w1 ⟨hb1, v, rfl, ho⟩
   obtain ⟨ao, cap, rfl, hao⟩ := aown_form ho
   obtain ⟨g, rfl, hwg, hgl⟩ : ∃ g, ao = some ⟨g, 0, none⟩ ∧ w.heap.size ≤ g ∧ g < w1.heap.size := by
    rcases hao with ⟨h0, _⟩ | h
    · rw [HN.out] at h0; omega
    · exact h
   have HR1 : Hid (LnRel ps R0 w g cap (.int .i64 0) (.int .i64 0) w1) := hid ⟨0, 0, [], rfl, Nat.zero_le _, rfl, Nat.le_refl _, rfl, ho, HR0.out, hb1⟩
   rw [HN.out]
   clear ho hb1 hao
   go_wp2_with fail
   go_loopw [6, 28] (LnRel ps R0 w g cap) (fun _ k _ => n0 - (intOf k).toNat)
   case atStart => exact HR1.out
   case round =>
    obtain ⟨j, at_, acc, rfl, hj, rfl, hat, hal, ho, hr, hb⟩ := hrel
    rw [HN.out] at hj
    have HO := hid ho; have HB := hid hb; have HRR := hid hr; have HAL := hid hal
    have hglr : g < wr.heap.size := (ho.lt g rfl).2
    clear ho hb hr hal
    by_cases hlt : j < n0
    · obtain ⟨t1, t1'⟩ := ltT j n0 hlt
      have q1 := inc j (by omega)
      have hjp : j < ps.length := by rw [HN.out]; exact hlt
      obtain ⟨p, hp⟩ : ∃ p, ps[j] = p := ⟨_, rfl⟩
      have hpm : p ∈ ps := by rw [← hp]; exact List.getElem_mem hjp
      have hpl := HPL.out p hpm
      have hdr : ps.drop j = p :: ps.drop (j + 1) := by rw [List.drop_eq_getElem_cons hjp, hp]
      have c0 : wr.cell? ⟨g, j, none⟩ = some (.string (bytesL p)) := by
       rw [HO.out.cellAt j (by simpa using hjp)]
       unfold strV
       rw [List.getElem?_map, List.getElem?_map, List.getElem?_append_right (by rw [HAL.out]; exact Nat.le_refl _), HAL.out, Nat.sub_self, hdr]
       rfl
      have hrs := HRR.out
      rw [hdr, namesF] at hrs
      have hbp : bytesN (bytesL p) = p := bytesN_bytesL hpl.2
      have AS := lascii_any (bytesL p) wr (by rw [bytesL_size]; omega) (HT.out.ext HB.out) (HA.out.ext HB.out)
      rw [hbp] at AS
      have hpz := bytesL_size p
      have hap := @ascii_place p
      have HST := hid (fun t (W : World) (h : W.ownsRow w.heap.size 9 1 (.slice (some ⟨g, 0, none⟩) ps.length cap) ps.length (strV ((acc ++ ps.drop j).map bytesL))) hb => LnRel.step (t := t) hjp HAL.out h hb)
      obtain ⟨B, hB⟩ : ∃ B, bytesL p = B := ⟨_, rfl⟩
      rw [hB] at AS c0 hpz
      rw [← hpz] at hrs hap hpl
      have AS := hid AS
      have HFZ : Hid (wr.frozen? ⟨g, j, none⟩ = false) := hid (HO.out.frozenAt j)
      have q2 : IntKind.i64.wrap ((B.size : Int) + 1) = (B.size : Int) + 1 := i64n _ (by omega)
      have q3 : IntKind.i64.wrap ((at_ : Int) + ((B.size : Int) + 1)) = (at_ : Int) + ((B.size : Int) + 1) := i64n _ (by omega)
      have HSZ : Hid (B.size ≤ 1000000) := hid (by omega)
      clear hp hpm hdr hbp hpz hB hjp
      cases ha : asciiL p with
      | ok t =>
        rw [ha] at AS hrs
        have HRS := hid hrs
        clear ha hrs hap hpl
        go_wp2_with fail
        refine AS.out.mono ?_
        rintro e w2 ⟨hb2, rfl⟩
        have c2 : w2.cell? ⟨g, j, none⟩ = some (.string B) := (bcell1 hb2 hglr _).trans c0
        have f2 : w2.frozen? ⟨g, j, none⟩ = false := (bfrozen1 hb2 hglr _).trans HFZ.out
        have hso := HST.out t w2 (aown_ext HO.out (fun k hk => by
         simp [Value.ownBlock] at hk
         subst hk
         exact hb2.block g hglr) (Nat.le_refl _)) (xT HB.out hb2)
        have HRL : Hid (LnRel ps R0 w g cap (.int .i64 ((at_ : Int) + ((B.size : Int) + 1))) (.int .i64 ((j : Int) + 1)) (w2.setCell ⟨g, j, none⟩ (.string (bytesL t)))) := hid ⟨j + 1, at_ + B.size + 1, acc ++ [t], by go_num, by rw [HN.out]; exact hlt, by go_num, by have := HSZ.out; omega, by rw [List.length_append, HAL.out]; rfl, hso.1, HRS.out, hso.2⟩
        clear hb2 hso c0
        go_wp2
        refine ⟨?_, by simp [intOf] <;> omega⟩
        first | exact HRL.out | ((repeat apply Exists.intro); exact ⟨HRL.out, rfl⟩)
      | no k q =>
        rw [ha] at AS hrs
        have hq := hap ha
        have MV := hid (fun u W hg h => moved_any u (k : Int) q (at_ : Int) W hg h (by omega) (by omega))
        have HRN : Hid (R = .no k ((at_ : Int) + q)) := hid (by rw [← HR.out, ← hrs]; rfl)
        clear ha hrs hap hpl hq
        go_wp2_with fail
        refine AS.out.mono ?_
        rintro e w2 ⟨hb2, u, rfl, hE⟩
        have c2 : w2.cell? ⟨g, j, none⟩ = some (.string B) := (bcell1 hb2 hglr _).trans c0
        have f2 : w2.frozen? ⟨g, j, none⟩ = false := (bfrozen1 hb2 hglr _).trans HFZ.out
        have hb3 : Below w.heap.size w (w2.setCell ⟨g, j, none⟩ (.string ⟨#[]⟩)) := (xT HB.out hb2).setCell (p := ⟨g, j, none⟩) hwg _
        have hE3 : Er (w2.setCell ⟨g, j, none⟩ (.string ⟨#[]⟩)) u [((k : Int), q)] := er_str c2 _ _ hE
        have HB3 := hid hb3
        have MV3 := hid (MV.out u (w2.setCell ⟨g, j, none⟩ (.string ⟨#[]⟩)) (HG.out.ext hb3) hE3)
        obtain ⟨b, off, u2, rfl, _⟩ := fault_inv hE
        clear hb2 hE hb3 hE3 c0
        go_wp2_with fail
        refine MV3.out.mono ?_
        rintro e w4 ⟨hb4, u4, rfl, hE4⟩
        obtain ⟨b4, off4, u24, rfl, _⟩ := fault_inv hE4
        have HB4 := hid (xT HB3.out hb4)
        have hE5 : Er w4 (.iface 119 (.pointer (some ⟨b4, off4, none⟩))) [((k : Int), (at_ : Int) + q)] := by rw [Int.add_comm]; exact hE4
        have HE4 := hid hE5
        clear hb4 hE4 hE5
        go_wp2
        rw [← HQ.out, HRN.out]
        exact ⟨HB4.out, _, rfl, HE4.out⟩
    · obtain ⟨t1, t1'⟩ := ltF j n0 hlt
      obtain rfl : j = n0 := by omega
      have hd0 : ps.drop j = [] := List.drop_eq_nil_of_le (by rw [HN.out]; exact Nat.le_refl _)
      have hrs := HRR.out
      rw [hd0, namesF] at hrs
      have ho := HO.out
      rw [hd0, List.append_nil] at ho
      have haln : acc.length = ps.length := by rw [HAL.out, HN.out]
      rw [← haln] at ho
      obtain ⟨us, hus, _, _, hur⟩ := namesF_is ps 0 [] acc (by rw [HR0.out, hrs])
      rw [List.nil_append] at hus
      subst hus
      have hjl : (joinN 46 acc).length ≤ 64 * acc.length := join_small 46 63 (fun t ht => (rightL_zero (hur t ht)).2.1)
      have hacl := HAL.out
      have JN := joinP_any 46 ⟨#[46]⟩ rfl wr w.heap.size _ acc ho (by omega) (by omega)
      have hRe : R = nameJ (.ok acc) := by rw [← HR.out, hrs]
      unfold nameJ at hRe
      rw [hacl] at JN
      obtain ⟨T2, hT2⟩ : ∃ T2, bytesL (joinN 46 acc) = T2 := ⟨_, rfl⟩
      have hTz : T2.size = (joinN 46 acc).length := by rw [← hT2, bytesL_size]
      rw [hT2] at JN
      have JN := hid JN
      by_cases h253 : 253 < (joinN 46 acc).length
      · have hRe2 : R = .no 14 253 := by rw [hRe]; exact if_pos h253
        have HRE := hid hRe2
        have t2 : decide ((253 : Int) < (T2.size : Int)) = true := dcT (by omega)
        have t2' : decide (253 < T2.size) = true := dcT (by omega)
        clear hd0 hrs ho haln hur hjl hacl hRe hT2 hTz h253 hRe2 hlt
        go_wp2_with fail
        refine JN.out.mono ?_
        rintro e w5 ⟨rfl, hb5⟩
        have HF := hid (failed_er (failed_of (w := w) (w0 := w5) (k := 14) (i := 253) (xT HB.out hb5) rfl))
        clear hb5
        go_wp2_with fail
        go_at_call 44
        refine (fail_any _ _ _).mono ?_
        rintro e w3 ⟨rfl, rfl⟩
        go_wp2
        rw [← HQ.out, HRE.out]
        exact ⟨HF.out.2, _, rfl, HF.out.1⟩
      · have hRe2 : R = .ok (joinN 46 acc) := by rw [hRe]; exact if_neg h253
        have HRE := hid hRe2
        have HT2 := hid hT2
        have t2 : decide ((253 : Int) < (T2.size : Int)) = false := dcF (by omega)
        have t2' : decide (253 < T2.size) = false := dcF (by omega)
        clear hd0 hrs ho haln hur hjl hacl hRe hT2 hTz h253 hRe2 hlt
        go_wp2_with fail
        refine JN.out.mono ?_
        rintro e w5 ⟨rfl, hb5⟩
        have HB5 := hid (xT HB.out hb5)
        clear hb5
        go_wp2
        rw [← HQ.out, HRE.out]
        exact ⟨HB5.out, by show Ending.returned (.tuple #[.string _, .nilIface]) = .returned (.tuple #[.string _, .nilIface]); rw [HT2.out]⟩
 · have u1 : decide ((1 : Int) < (s.size : Int)) = false := dcF (by omega)
   have u1' : decide (1 < s.size) = false := dcF h1
   subst hTs
   clear h1
   go_enter Tryz.func49, Tryz.ntmps49
   go_wp2_with fail
   refine (FD.out _).mono ?_
   rintro e w1 ⟨hb1, v, rfl, ho⟩
   obtain ⟨ao, cap, rfl, hao⟩ := aown_form ho
   obtain ⟨g, rfl, hwg, hgl⟩ : ∃ g, ao = some ⟨g, 0, none⟩ ∧ w.heap.size ≤ g ∧ g < w1.heap.size := by
    rcases hao with ⟨h0, _⟩ | h
    · rw [HN.out] at h0; omega
    · exact h
   have HR1 : Hid (LnRel ps R0 w g cap (.int .i64 0) (.int .i64 0) w1) := hid ⟨0, 0, [], rfl, Nat.zero_le _, rfl, Nat.le_refl _, rfl, ho, HR0.out, hb1⟩
   rw [HN.out]
   clear ho hb1 hao
   go_wp2_with fail
   go_loopw [6, 28] (LnRel ps R0 w g cap) (fun _ k _ => n0 - (intOf k).toNat)
   case atStart => exact HR1.out
   case round =>
    obtain ⟨j, at_, acc, rfl, hj, rfl, hat, hal, ho, hr, hb⟩ := hrel
    rw [HN.out] at hj
    have HO := hid ho; have HB := hid hb; have HRR := hid hr; have HAL := hid hal
    have hglr : g < wr.heap.size := (ho.lt g rfl).2
    clear ho hb hr hal
    by_cases hlt : j < n0
    · obtain ⟨t1, t1'⟩ := ltT j n0 hlt
      have q1 := inc j (by omega)
      have hjp : j < ps.length := by rw [HN.out]; exact hlt
      obtain ⟨p, hp⟩ : ∃ p, ps[j] = p := ⟨_, rfl⟩
      have hpm : p ∈ ps := by rw [← hp]; exact List.getElem_mem hjp
      have hpl := HPL.out p hpm
      have hdr : ps.drop j = p :: ps.drop (j + 1) := by rw [List.drop_eq_getElem_cons hjp, hp]
      have c0 : wr.cell? ⟨g, j, none⟩ = some (.string (bytesL p)) := by
       rw [HO.out.cellAt j (by simpa using hjp)]
       unfold strV
       rw [List.getElem?_map, List.getElem?_map, List.getElem?_append_right (by rw [HAL.out]; exact Nat.le_refl _), HAL.out, Nat.sub_self, hdr]
       rfl
      have hrs := HRR.out
      rw [hdr, namesF] at hrs
      have hbp : bytesN (bytesL p) = p := bytesN_bytesL hpl.2
      have AS := lascii_any (bytesL p) wr (by rw [bytesL_size]; omega) (HT.out.ext HB.out) (HA.out.ext HB.out)
      rw [hbp] at AS
      have hpz := bytesL_size p
      have hap := @ascii_place p
      have HST := hid (fun t (W : World) (h : W.ownsRow w.heap.size 9 1 (.slice (some ⟨g, 0, none⟩) ps.length cap) ps.length (strV ((acc ++ ps.drop j).map bytesL))) hb => LnRel.step (t := t) hjp HAL.out h hb)
      obtain ⟨B, hB⟩ : ∃ B, bytesL p = B := ⟨_, rfl⟩
      rw [hB] at AS c0 hpz
      rw [← hpz] at hrs hap hpl
      have AS := hid AS
      have HFZ : Hid (wr.frozen? ⟨g, j, none⟩ = false) := hid (HO.out.frozenAt j)
      have q2 : IntKind.i64.wrap ((B.size : Int) + 1) = (B.size : Int) + 1 := i64n _ (by omega)
      have q3 : IntKind.i64.wrap ((at_ : Int) + ((B.size : Int) + 1)) = (at_ : Int) + ((B.size : Int) + 1) := i64n _ (by omega)
      have HSZ : Hid (B.size ≤ 1000000) := hid (by omega)
      clear hp hpm hdr hbp hpz hB hjp
      cases ha : asciiL p with
      | ok t =>
        rw [ha] at AS hrs
        have HRS := hid hrs
        clear ha hrs hap hpl
        go_wp2_with fail
        refine AS.out.mono ?_
        rintro e w2 ⟨hb2, rfl⟩
        have c2 : w2.cell? ⟨g, j, none⟩ = some (.string B) := (bcell1 hb2 hglr _).trans c0
        have f2 : w2.frozen? ⟨g, j, none⟩ = false := (bfrozen1 hb2 hglr _).trans HFZ.out
        have hso := HST.out t w2 (aown_ext HO.out (fun k hk => by
         simp [Value.ownBlock] at hk
         subst hk
         exact hb2.block g hglr) (Nat.le_refl _)) (xT HB.out hb2)
        have HRL : Hid (LnRel ps R0 w g cap (.int .i64 ((at_ : Int) + ((B.size : Int) + 1))) (.int .i64 ((j : Int) + 1)) (w2.setCell ⟨g, j, none⟩ (.string (bytesL t)))) := hid ⟨j + 1, at_ + B.size + 1, acc ++ [t], by go_num, by rw [HN.out]; exact hlt, by go_num, by have := HSZ.out; omega, by rw [List.length_append, HAL.out]; rfl, hso.1, HRS.out, hso.2⟩
        clear hb2 hso c0
        go_wp2
        refine ⟨?_, by simp [intOf] <;> omega⟩
        first | exact HRL.out | ((repeat apply Exists.intro); exact ⟨HRL.out, rfl⟩)
      | no k q =>
        rw [ha] at AS hrs
        have hq := hap ha
        have MV := hid (fun u W hg h => moved_any u (k : Int) q (at_ : Int) W hg h (by omega) (by omega))
        have HRN : Hid (R = .no k ((at_ : Int) + q)) := hid (by rw [← HR.out, ← hrs]; rfl)
        clear ha hrs hap hpl hq
        go_wp2_with fail
        refine AS.out.mono ?_
        rintro e w2 ⟨hb2, u, rfl, hE⟩
        have c2 : w2.cell? ⟨g, j, none⟩ = some (.string B) := (bcell1 hb2 hglr _).trans c0
        have f2 : w2.frozen? ⟨g, j, none⟩ = false := (bfrozen1 hb2 hglr _).trans HFZ.out
        have hb3 : Below w.heap.size w (w2.setCell ⟨g, j, none⟩ (.string ⟨#[]⟩)) := (xT HB.out hb2).setCell (p := ⟨g, j, none⟩) hwg _
        have hE3 : Er (w2.setCell ⟨g, j, none⟩ (.string ⟨#[]⟩)) u [((k : Int), q)] := er_str c2 _ _ hE
        have HB3 := hid hb3
        have MV3 := hid (MV.out u (w2.setCell ⟨g, j, none⟩ (.string ⟨#[]⟩)) (HG.out.ext hb3) hE3)
        obtain ⟨b, off, u2, rfl, _⟩ := fault_inv hE
        clear hb2 hE hb3 hE3 c0
        go_wp2_with fail
        refine MV3.out.mono ?_
        rintro e w4 ⟨hb4, u4, rfl, hE4⟩
        obtain ⟨b4, off4, u24, rfl, _⟩ := fault_inv hE4
        have HB4 := hid (xT HB3.out hb4)
        have hE5 : Er w4 (.iface 119 (.pointer (some ⟨b4, off4, none⟩))) [((k : Int), (at_ : Int) + q)] := by rw [Int.add_comm]; exact hE4
        have HE4 := hid hE5
        clear hb4 hE4 hE5
        go_wp2
        rw [← HQ.out, HRN.out]
        exact ⟨HB4.out, _, rfl, HE4.out⟩
    · obtain ⟨t1, t1'⟩ := ltF j n0 hlt
      obtain rfl : j = n0 := by omega
      have hd0 : ps.drop j = [] := List.drop_eq_nil_of_le (by rw [HN.out]; exact Nat.le_refl _)
      have hrs := HRR.out
      rw [hd0, namesF] at hrs
      have ho := HO.out
      rw [hd0, List.append_nil] at ho
      have haln : acc.length = ps.length := by rw [HAL.out, HN.out]
      rw [← haln] at ho
      obtain ⟨us, hus, _, _, hur⟩ := namesF_is ps 0 [] acc (by rw [HR0.out, hrs])
      rw [List.nil_append] at hus
      subst hus
      have hjl : (joinN 46 acc).length ≤ 64 * acc.length := join_small 46 63 (fun t ht => (rightL_zero (hur t ht)).2.1)
      have hacl := HAL.out
      have JN := joinP_any 46 ⟨#[46]⟩ rfl wr w.heap.size _ acc ho (by omega) (by omega)
      have hRe : R = nameJ (.ok acc) := by rw [← HR.out, hrs]
      unfold nameJ at hRe
      rw [hacl] at JN
      obtain ⟨T2, hT2⟩ : ∃ T2, bytesL (joinN 46 acc) = T2 := ⟨_, rfl⟩
      have hTz : T2.size = (joinN 46 acc).length := by rw [← hT2, bytesL_size]
      rw [hT2] at JN
      have JN := hid JN
      by_cases h253 : 253 < (joinN 46 acc).length
      · have hRe2 : R = .no 14 253 := by rw [hRe]; exact if_pos h253
        have HRE := hid hRe2
        have t2 : decide ((253 : Int) < (T2.size : Int)) = true := dcT (by omega)
        have t2' : decide (253 < T2.size) = true := dcT (by omega)
        clear hd0 hrs ho haln hur hjl hacl hRe hT2 hTz h253 hRe2 hlt
        go_wp2_with fail
        refine JN.out.mono ?_
        rintro e w5 ⟨rfl, hb5⟩
        have HF := hid (failed_er (failed_of (w := w) (w0 := w5) (k := 14) (i := 253) (xT HB.out hb5) rfl))
        clear hb5
        go_wp2_with fail
        go_at_call 44
        refine (fail_any _ _ _).mono ?_
        rintro e w3 ⟨rfl, rfl⟩
        go_wp2
        rw [← HQ.out, HRE.out]
        exact ⟨HF.out.2, _, rfl, HF.out.1⟩
      · have hRe2 : R = .ok (joinN 46 acc) := by rw [hRe]; exact if_neg h253
        have HRE := hid hRe2
        have HT2 := hid hT2
        have t2 : decide ((253 : Int) < (T2.size : Int)) = false := dcF (by omega)
        have t2' : decide (253 < T2.size) = false := dcF (by omega)
        clear hd0 hrs ho haln hur hjl hacl hRe hT2 hTz h253 hRe2 hlt
        go_wp2_with fail
        refine JN.out.mono ?_
        rintro e w5 ⟨rfl, hb5⟩
        have HB5 := hid (xT HB.out hb5)
        clear hb5
        go_wp2
        rw [← HQ.out, HRE.out]
        exact ⟨HB5.out, by show Ending.returned (.tuple #[.string _, .nilIface]) = .returned (.tuple #[.string _, .nilIface]); rw [HT2.out]⟩
theorem lname_any (s : ByteArray) (w : World) (hs : s.size ≤ 1000000) (hT : Utf8T w) (hA : AllowT w) (hG : Glob w) : Calls Tryz.prog 49 #[.string s] w (AsPost w (nameL (bytesN s))) := by
 have hTA : TrimAlt s (bytesL (trimL (bytesN s))) := by
  by_cases h1 : 1 < s.size
  · exact .inl ⟨h1, fun W => trim_k s h1 hs W⟩
  · exact .inr ⟨h1, trimL_short h1⟩
 have hbT := trimL_byte (bytesN_lt s)
 have hbN := bytesN_bytesL hbT
 have hz : (bytesL (trimL (bytesN s))).size ≤ 1000000 := by
  have := trimL_len (bytesN s)
  rw [bytesL_size]; rw [bytesN_len] at this; omega
 unfold nameL
 by_cases h0 : trimL (bytesN s) = []
 · rw [if_pos h0]
   rw [h0] at hTA
   exact name_empty s w hTA
 · rw [if_neg h0]
   have h0' : bytesL (trimL (bytesN s)) ≠ ⟨#[]⟩ := fun e => h0 (by rw [← hbN, e]; rfl)
   cases hf : fieldsL 46 127 (trimL (bytesN s)) with
   | no k q => exact name_many s _ w hTA h0' hz (by rw [hbN]; exact hf)
   | ok ps => exact name_rest s _ w hTA h0' hz hT hA hG (by rw [hbN]; exact hf)
end
end Go.Proofs.YtbeodjipdpcaiaaGreatDoor
