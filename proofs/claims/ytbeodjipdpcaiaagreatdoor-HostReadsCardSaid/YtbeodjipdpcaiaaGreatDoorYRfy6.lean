/- Texts put together. -/
import Derived.Test.YtbeodjipdpcaiaaGreatDoorYMoreR
import Derived.Test.YtbeodjipdpcaiaaGreatDoorYRfy4f
import Derived.StillTailTactics
set_option maxRecDepth 100000
set_option maxHeartbeats 16000000
namespace Go.Proofs.YtbeodjipdpcaiaaGreatDoor
open Go.RowKit
theorem rparse11_core (s B : ByteArray) (w : World) (hs : s.size ≤ 1000000) (hB : bytesL (trimL (bytesN s)) = B) : Calls Tryz.prog 68 #[.string s] w fun e w' => e = .returned (rqV (parseQ (bytesN s))) ∧ Below w.heap.size w w' := by
 obtain ⟨R, hR⟩ : ∃ R, parseQ (bytesN s) = R := ⟨_, rfl⟩
 rw [hR]
 obtain ⟨Q, hQ⟩ : ∃ Q : Ending → World → Prop, (fun e w' => e = .returned (rqV R) ∧ Below w.heap.size w w') = Q := ⟨_, rfl⟩
 rw [hQ]
 obtain ⟨W1, hW1⟩ : ∃ W, w.alloc (.cells #[.int .u8 0, .int .u8 0, .int .u8 0, .int .u8 0] 79) = W := ⟨_, rfl⟩
 have RC := hid (resV4 hW1 hQ).1
 have htl := trimL_len (bytesN s)
 rw [bytesN_len] at htl
 have hBz : B.size ≤ 1000000 := by rw [← hB, bytesL_size]; omega
 have hBN : bytesN B = trimL (bytesN s) := by rw [← hB]; exact bytesN_bytesL (trimL_byte (bytesN_lt s))
 have hRR := hR
 unfold parseQ at hRR
 rw [← hBN] at hRR
 have CU := rcut11_any s W1 hs
 rw [hB] at CU
 have CU := hid CU
 have FD := hid (fun W => rfields_any B 46 4 W hBz (by decide) (by decide) (by decide))
 have HRR := hid hRR
 clear hQ htl hRR hR hB hBN
 go_enter Tryz.func68, Tryz.ntmps68
 go_wp2_with fail
 clear hW1
 refine CU.out.mono ?_
 rintro e w0 ⟨rfl, hw⟩
 have hw' := hw.symm
 subst hw'
 clear hw
 go_wp2_with fail
 refine (FD.out _).mono ?_
 rintro e w1 ⟨hb1, hp⟩
 have HB1 := hid hb1
 have hr2 := HRR.out
 clear hb1 FD
 cases hf : fieldsL 46 4 (bytesN B) with
 | no k p =>
   rw [hf] at hp hr2
   dsimp only at hp hr2
   subst hp
   have hk : k = 15 := fldF_kind _ _ _ _ _ _ k p hf
   subst hk
   obtain ⟨hst, hld, hF⟩ := RC.out.no _ _ w1 hr2.symm HB1.out
   have HF := hid hF
   clear hF
   clear hf hr2
   go_wp2_with ((with_reducible show wpList _ _ _ (_ :: _) _ _); refine st_arr 79 w.heap.size _ hst _ _ rfl rfl rfl rfl ?_)
   (try simp only [Exit.inBlock, Exit.then])
   exact bodyPost_ret (by simp [results, Tryz.results68, asAddr, Result.andThen, hld]) rfl HF.out
 | ok ps =>
   rw [hf] at hp hr2
   dsimp only at hr2
   obtain ⟨v, rfl, ho⟩ := hp
   have hfl := field_len (by decide) hf
   rw [bytesN_len] at hfl
   have HPL : Hid (∀ p ∈ ps, p.length ≤ 1000000 ∧ ByteL p) := hid (fun p hp => ⟨by have := (hfl.2.2 p hp).1; omega, fun c hc => bytesN_lt B c ((hfl.2.2 p hp).2 c hc)⟩)
   have hcount := hfl.1
   obtain ⟨ao, cap, rfl, hao⟩ := aown_form ho
   have HO := hid ho
   have HC : Hid (∀ (j : Nat) p, ps[j]? = some p → ∃ g, ao = some ⟨g, 0, none⟩ ∧ g < w1.heap.size ∧ w1.cell? ⟨g, j, none⟩ = some (.string (bytesL p))) := hid (fun j p hj => by
    have hjl := (List.getElem?_eq_some_iff.1 hj).1
    rcases hao with ⟨h0, _⟩ | ⟨g, rfl, _, hgl⟩
    · omega
    · refine ⟨g, rfl, hgl, ?_⟩
      rw [HO.out.cellAt j (by simpa using hjl)]
      unfold strV
      rw [List.getElem?_map, List.getElem?_map, hj]; rfl)
   have hne : 1 ≤ ps.length := hfl.2.1
   obtain ⟨C, hC⟩ : ∃ C, chkF ps 0 = C := ⟨_, rfl⟩
   have hok := fun (h : C = none) => chkF_none ps 0 (hC.trans h)
   have HOK := hid hok
   rw [hC] at hr2
   have HR3 := hid hr2
   have HNE := hid (fun (h : C = none) => chkF_ne ps 0 (hC.trans h))
   obtain ⟨n0, hn0⟩ : ∃ n, ps.length = n := ⟨_, rfl⟩
   rw [hn0] at hcount hne ⊢
   have HN := hid hn0
   have HL0 : Hid (QcRel ps C w1 (.int .i64 0) (.int .i64 0) w1) := hid ⟨0, 0, rfl, Nat.zero_le _, rfl, Nat.zero_le _, hC, Below.refl _ _⟩
   clear ho hao hf hfl hr2 hC hn0 hok
   go_wp2_with fail
   go_loopw [8, 9] (QcRel ps C w1) (fun _ k _ => n0 - (intOf k).toNat)
   case atStart => exact HL0.out
   case round =>
    obtain ⟨j, at_, rfl, hj, rfl, hat, hck, hb⟩ := hrel
    rw [HN.out] at hj
    have HB := hid hb
    have hat2 : at_ ≤ 1000001 * 4 := by omega
    have HAT := hid hat
    clear hb hat
    by_cases hlt : j < n0
    · obtain ⟨r1, r1'⟩ := ltT j n0 hlt
      have q1 := inc j (by omega)
      obtain ⟨p, hp⟩ := get_ex ps j (by rw [HN.out]; exact hlt)
      have hpl := HPL.out p (List.mem_of_getElem? hp)
      obtain ⟨g, rfl, hgl, hc⟩ := HC.out j p hp
      have c0 : wr.cell? ⟨g, j, none⟩ = some (.string (bytesL p)) := (bcell1 HB.out hgl _).trans hc
      have hdr : ps.drop j = p :: ps.drop (j + 1) := by
       obtain ⟨hj2, hp2⟩ := List.getElem?_eq_some_iff.1 hp
       rw [List.drop_eq_getElem_cons hj2, hp2]
      rw [hdr, chkF_cons] at hck
      have hpn := bytesN_bytesL hpl.2
      obtain ⟨Z, hZ⟩ : ∃ Z, bytesL p = Z := ⟨_, rfl⟩
      have HZZ : Hid (Z.size = p.length) := hid (by rw [← hZ, bytesL_size])
      have hZz : Z.size ≤ 1000000 := by rw [HZZ.out]; exact hpl.1
      rw [hZ] at c0 hpn
      have HLT := hid hlt
      by_cases hz : Z.size = 0
      · have t3 : ((Z.size : Int) == 0) = true := beq_iff_eq.2 (by omega)
        have t3' : (Z.size = 0) = True := eq_true hz
        have hp0 : p = [] := List.eq_nil_of_length_eq_zero (by rw [← HZZ.out]; exact hz)
        have h1 : chk1 p at_ = some (10, at_) := by unfold chk1; rw [if_pos hp0]
        rw [h1] at hck
        obtain ⟨hst, hld, hF⟩ := RC.out.no 10 (at_ : Nat) wr (by rw [← HR3.out, ← hck]) (xT HB1.out HB.out)
        have HF := hid hF
        clear hF
        clear hck h1 hp0 hz hp hc hdr hZ hpn hpl hlt
        go_wp2_with ((with_reducible show wpList _ _ _ (_ :: _) _ _); refine st_arr 79 w.heap.size _ hst _ _ rfl rfl rfl rfl ?_)
        (try simp only [Exit.inBlock, Exit.then])
        exact bodyPost_ret (by simp [results, Tryz.results68, asAddr, Result.andThen, hld]) rfl HF.out
      · have t3 : ((Z.size : Int) == 0) = false := bneI.2 (by omega)
        have t3' : (Z.size = 0) = False := eq_false hz
        have hp0 : p ≠ [] := fun e => hz (by rw [HZZ.out, e]; rfl)
        have hbl := base_le p hp0
        have BS := rbase_any Z wr
        rw [hpn] at BS
        have hbv := base_of p
        obtain ⟨sk, hsk⟩ : ∃ k, (baseL p).2 = k := ⟨_, rfl⟩
        obtain ⟨b, hbb⟩ : ∃ k, (baseL p).1 = k := ⟨_, rfl⟩
        rw [hsk] at hbl
        rw [hsk, hbb] at BS
        rw [hbb] at hbv
        have hgp : ∀ k (hk : k < Z.size), (Z[k]'hk).toNat = p[k]?.getD 0 ∧ p[k]?.getD 0 < 256 := fun k hk => by
         have h1 := byteAt_get Z k hk
         have h2 : p[k]? = some (byteAt Z k) := by rw [← hpn]; exact bytesN_get hk
         rw [h2]
         exact ⟨h1.symm, byteAt_lt Z k⟩
        have HGP := hid hgp
        have HBAD := hid (fun k => chk1_badk (p := p) (k := k) (sk := sk) (b := b) (at_ := at_) hp0 hsk hbb)
        have HGOOD := hid (chk1_goodk (p := p) (sk := sk) (b := b) (at_ := at_) hp0 hsk hbb)
        have hsk2 : sk ≤ Z.size := by rw [HZZ.out]; exact hbl.1
        have HSK : Hid (RpkRel p b sk wr (.int .i64 (sk : Int)) wr) := hid ⟨sk, rfl, Nat.le_refl _, hbl.1, fun i h1 h2 => by omega, rfl⟩
        have BS := hid BS
        have HCK := hid hck
        clear hck hz hp hc hdr hZ hpn hpl hlt hsk hbb hbl hgp hp0
        rcases rdigits_case b hbv with ⟨t4, t4', t5, t5', DG⟩ | ⟨t4, t4', t5, t5', DG⟩ | ⟨t4, t4', t5, t5', DG⟩
        all_goals
         have DG := hid DG
         clear hbv
         go_wp2_with fail
         refine BS.out.mono ?_
         rintro e w3 ⟨rfl, hw⟩
         have hw' := hw.symm
         subst hw'
         clear hw
         go_wp2_with fail
         go_loopw [13] (RpkRel p b sk wr) (fun k _ => Z.size - (intOf k).toNat)
         case atStart => exact HSK.out
         case round =>
          obtain ⟨k, rfl, hk1, hk2, hall, hwr⟩ := hrel
          subst hwr
          rw [← HZZ.out] at hk2
          have HALL := hid hall
          clear hall
          by_cases hkl : k < Z.size
          · obtain ⟨u1, u1'⟩ := ltT k Z.size hkl
            have q2 := inc k (by omega)
            have q3 : IntKind.i64.wrap ((at_ : Int) + (k : Int)) = (at_ : Int) + (k : Int) := i64n _ (by omega)
            obtain ⟨gx, hx2⟩ := HGP.out k hkl
            obtain ⟨x, hx⟩ : ∃ x, p[k]?.getD 0 = x := ⟨_, rfl⟩
            rw [hx] at gx hx2
            have HX := DG.out x hx2 wr
            have HKL := hid hkl
            cases ha : amongD b x with
            | true =>
              rw [ha] at HX
              have HRL : Hid (RpkRel p b sk wr (.int .i64 ((k : Int) + 1)) wr) := hid ⟨k + 1, by go_num, by omega, by rw [← HZZ.out]; exact hkl, fun i h1 h2 => by
               by_cases e : i = k
               · subst e; rw [hx]; exact ha
               · exact HALL.out i h1 (by omega), rfl⟩
              have HX := hid HX
              clear ha hx
              go_wp2_with fail
              refine HX.out.mono ?_
              rintro e w4 ⟨rfl, hw⟩
              have hw' := hw.symm
              subst hw'
              clear hw
              go_wp2
              refine ⟨?_, by have := HKL.out; simp [intOf]; omega⟩
              first | exact HRL.out | ((repeat apply Exists.intro); exact ⟨HRL.out, rfl⟩)
            | false =>
              rw [ha] at HX
              have hch := HBAD.out k hk1 (by rw [← HZZ.out]; exact hkl) (by rw [hx]; exact ha) HALL.out
              have hck := HCK.out
              rw [hch] at hck
              obtain ⟨hst, hld, hF⟩ := RC.out.no 11 ((at_ + k : Nat) : Int) wr (by rw [← HR3.out, ← hck]) (xT HB1.out HB.out)
              rw [Int.natCast_add] at hF
              have HF := hid hF
              clear hF
              have HX := hid HX
              clear ha hx hch hck
              go_wp2_with fail
              refine HX.out.mono ?_
              rintro e w4 ⟨rfl, hw⟩
              have hw' := hw.symm
              subst hw'
              clear hw
              go_wp2_with ((with_reducible show wpList _ _ _ (_ :: _) _ _); refine st_arr 79 w.heap.size _ hst _ _ rfl rfl rfl rfl ?_)
              (try simp only [Exit.inBlock, Exit.then])
              exact bodyPost_ret (by simp [results, Tryz.results68, asAddr, Result.andThen, hld]) rfl HF.out
          · obtain ⟨u1, u1'⟩ := ltF k Z.size hkl
            have hch := HGOOD.out (fun i h1 h2 => HALL.out i h1 (by rw [← HZZ.out] at h2; omega))
            have hck := HCK.out
            rw [hch] at hck
            dsimp only at hck
            have q2 : IntKind.i64.wrap ((Z.size : Int) + 1) = (Z.size : Int) + 1 := i64n _ (by omega)
            have q3 : IntKind.i64.wrap ((at_ : Int) + ((Z.size : Int) + 1)) = (at_ : Int) + ((Z.size : Int) + 1) := i64n _ (by omega)
            have HRL : Hid (QcRel ps C w1 (.int .i64 ((at_ : Int) + ((Z.size : Int) + 1))) (.int .i64 ((j : Int) + 1)) wr) := hid ⟨j + 1, at_ + p.length + 1, by go_num, by rw [HN.out]; exact HLT.out, by rw [HZZ.out]; go_num, by have := HAT.out; have := HZZ.out; omega, hck, HB.out⟩
            clear hch hck hkl hk2
            go_wp2
            refine ⟨?_, by have := HLT.out; simp [intOf]; omega⟩
            first | exact HRL.out | ((repeat apply Exists.intro); exact ⟨HRL.out, rfl⟩)
    · obtain ⟨r1, r1'⟩ := ltF j n0 hlt
      rw [List.drop_of_length_le (by rw [HN.out]; omega), chkF] at hck
      have hR := HR3.out
      rw [← hck] at hR
      dsimp only at hR
      have hgood := HOK.out hck.symm
      have HG : Hid (∀ p ∈ ps, p ≠ [] ∧ ∀ c ∈ p.drop (baseL p).2, digV c < 16) := hid (fun p hp => ⟨HNE.out hck.symm p hp, fun c hc => among_hex (hgood p hp c hc)⟩)
      have HR4 := hid hR
      have HW := hid (xT HB1.out HB.out)
      have HL1 : Hid (QrRel ps R wr (.int .i64 0) (.int .u64 0) (.int .i64 0) wr) := hid ⟨0, 0, 0, rfl, Nat.zero_le _, rfl, Nat.zero_le _, rfl, Nat.zero_le _, by rw [List.drop_zero]; exact hR, Below.refl _ _⟩
      have HCW : Hid (∀ (j : Nat) p, ps[j]? = some p → ∃ g, ao = some ⟨g, 0, none⟩ ∧ g < wr.heap.size ∧ wr.cell? ⟨g, j, none⟩ = some (.string (bytesL p))) := hid (fun j p hj => by
       obtain ⟨g, h1, h2, h3⟩ := HC.out j p hj
       exact ⟨g, h1, Nat.lt_of_lt_of_le h2 HB.out.size, (bcell1 HB.out h2 _).trans h3⟩)
      clear hck hR hgood hlt hj HAT hat2
      generalize wr = w5 at *
      go_wp2_with fail
      go_loopw [15, 14, 16] (QrRel ps R w5) (fun _ _ k _ => n0 - (intOf k).toNat)
      case atStart => exact HL1.out
      case round =>
       obtain ⟨j, at_, t, rfl, hj, rfl, hat, rfl, htt, hrg, hb⟩ := hrel
       rw [HN.out] at hj
       have HB5 := hid hb
       have hat2 : at_ ≤ 1000001 * 4 := by omega
       have htt2 : t ≤ 4294967296 * 4 := by omega
       have HAT := hid hat; have HTT := hid htt
       rw [HN.out] at hrg
       clear hb hat htt
       by_cases hlt : j < n0
       · obtain ⟨r1, r1'⟩ := ltT j n0 hlt
         have q1 := inc j (by omega)
         have q0 : IntKind.i64.wrap ((n0 : Int) - 1) = (n0 : Int) - 1 := i64n _ (by omega)
         obtain ⟨p, hp⟩ := get_ex ps j (by rw [HN.out]; exact hlt)
         have hpl := HPL.out p (List.mem_of_getElem? hp)
         obtain ⟨hp0, hdg⟩ := HG.out p (List.mem_of_getElem? hp)
         obtain ⟨g, rfl, hgl, hc⟩ := HCW.out j p hp
         have c0 : wr.cell? ⟨g, j, none⟩ = some (.string (bytesL p)) := (bcell1 HB5.out hgl _).trans hc
         have hdr : ps.drop j = p :: ps.drop (j + 1) := by
          obtain ⟨hj2, hp2⟩ := List.getElem?_eq_some_iff.1 hp
          rw [List.drop_eq_getElem_cons hj2, hp2]
         rw [hdr, rngF] at hrg
         have hpn := bytesN_bytesL hpl.2
         obtain ⟨Z, hZ⟩ : ∃ Z, bytesL p = Z := ⟨_, rfl⟩
         have HZZ : Hid (Z.size = p.length) := hid (by rw [← hZ, bytesL_size])
         have hZz : Z.size ≤ 1000000 := by rw [HZZ.out]; exact hpl.1
         rw [hZ] at c0 hpn
         have NU := rnumber11_any Z wr hZz (by rw [hpn]; exact hp0) (by rw [hpn]; exact hdg)
         rw [hpn] at NU
         have hgw : g < wr.heap.size := Nat.lt_of_lt_of_le hgl HB5.out.size
         have q2 : IntKind.i64.wrap ((Z.size : Int) + 1) = (Z.size : Int) + 1 := i64n _ (by omega)
         have q3 : IntKind.i64.wrap ((at_ : Int) + ((Z.size : Int) + 1)) = (at_ : Int) + ((Z.size : Int) + 1) := i64n _ (by omega)
         have HLT := hid hlt
         have hcl := capN_le (valQ p)
         have hRE : limitQ n0 j < valQ p → R = .no 16 (at_ : Nat) := fun h => by rw [if_pos h] at hrg; exact hrg.symm
         have hGO : ¬ limitQ n0 j < valQ p → ∀ W, Below w5.heap.size w5 W → QrRel ps R w5 (.int .i64 ((at_ : Int) + ((Z.size : Int) + 1))) (.int .u64 ((t + valQ p * weightQ n0 j : Nat) : Int)) (.int .i64 ((j : Int) + 1)) W := fun h W hW => by
          rw [if_neg h] at hrg
          have hal := add_le hne hcount hlt (Nat.le_of_not_lt h)
          exact ⟨j + 1, at_ + p.length + 1, _, by go_num, by rw [HN.out]; exact HLT.out, by rw [HZZ.out]; go_num, by have := HAT.out; have := HZZ.out; omega, rfl, by have := HTT.out; omega, by rw [HN.out]; exact hrg, hW⟩
         by_cases hl : j + 1 = n0
         · have hlast := rng_last (v := valQ p) hne hcount hl
           have v1 : ((j : Int) == (n0 : Int) - 1) = true := beq_iff_eq.2 (by omega)
           have q5 : IntKind.i64.wrap ((5 : Int) - (n0 : Int)) = (5 : Int) - (n0 : Int) := i64n _ (by omega)
           have PW := fun W => rpower_lit (5 - n0) ((5 : Int) - (n0 : Int)) ((256 ^ (5 - n0) : Nat) : Int) W (by omega) (by omega) rfl
           obtain ⟨L, hL⟩ : ∃ L, 256 ^ (5 - n0) = L := ⟨_, rfl⟩
           rw [hL] at PW hlast
           obtain ⟨v, hv⟩ : ∃ v, capN (valQ p) = v := ⟨_, rfl⟩
           rw [hv] at NU hcl hlast
           have NU := hid NU; have PW := hid PW
           by_cases hbig : L ≤ v
           · have v2 : decide ((L : Int) ≤ (v : Int)) = true := dcT (by omega)
             have v2' : decide (L ≤ v) = true := dcT hbig
             have RF := hid (fun W h => RC.out.no 16 (at_ : Nat) W (hRE (hlast.1.2 hbig)) h)
             clear hRE hGO hlast hL hv hbig hl hp hc hdr hZ hpn hpl hp0 hdg hrg hlt
             go_wp2_with fail
             refine NU.out.mono ?_
             rintro e w6 ⟨rfl, hb6⟩
             have c1 : w6.cell? ⟨g, j, none⟩ = some (.string Z) := (bcell1 hb6 hgw _).trans c0
             obtain ⟨hst, hld, hF⟩ := RF.out _ (xT HW.out (xT HB5.out hb6))
             have HF := hid hF
             clear hb6 c0 hF
             go_wp2_with fail
             refine (PW.out _).mono ?_
             rintro e w7 ⟨rfl, hw⟩
             have hw' := hw.symm
             subst hw'
             clear hw
             go_wp2_with ((with_reducible show wpList _ _ _ (_ :: _) _ _); refine st_arr 79 w.heap.size _ hst _ _ rfl rfl rfl rfl ?_)
             (try simp only [Exit.inBlock, Exit.then])
             exact bodyPost_ret (by simp [results, Tryz.results68, asAddr, Result.andThen, hld]) rfl HF.out
           · have v2 : decide ((L : Int) ≤ (v : Int)) = false := dcF (by omega)
             have v2' : decide (L ≤ v) = false := dcF hbig
             have hnl := fun h => hbig (hlast.1.1 h)
             have hGO := hGO hnl
             have hlim := limit_le n0 j hne
             have hvv : v = valQ p := by rw [← hv]; exact capN_small (by omega)
             rw [hlast.2, Nat.mul_one, ← hvv] at hGO
             have q4 : IntKind.u64.wrap ((t : Int) + (v : Int)) = ((t + v : Nat) : Int) := by rw [IntWalk.u64_in _ (by omega)]; omega
             have HGO := hid hGO
             clear hRE hGO hlast hL hv hvv hnl hlim hbig hl hp hc hdr hZ hpn hpl hp0 hdg hrg hlt
             go_wp2_with fail
             refine NU.out.mono ?_
             rintro e w6 ⟨rfl, hb6⟩
             have c1 : w6.cell? ⟨g, j, none⟩ = some (.string Z) := (bcell1 hb6 hgw _).trans c0
             have HRL := hid (HGO.out _ (xT HB5.out hb6))
             clear hb6 c0
             go_wp2_with fail
             refine (PW.out _).mono ?_
             rintro e w7 ⟨rfl, hw⟩
             have hw' := hw.symm
             subst hw'
             clear hw
             go_wp2
             refine ⟨?_, by have := HLT.out; simp [intOf]; omega⟩
             first | exact HRL.out | ((repeat apply Exists.intro); exact ⟨HRL.out, rfl⟩)
         · have hmore := rng_more (v := valQ p) (N := n0) hl
           have v1 : ((j : Int) == (n0 : Int) - 1) = false := bneI.2 (by omega)
           have q5 : IntKind.i64.wrap ((3 : Int) - (j : Int)) = (3 : Int) - (j : Int) := i64n _ (by omega)
           have PW := fun W => rpower_lit (3 - j) ((3 : Int) - (j : Int)) ((256 ^ (3 - j) : Nat) : Int) W (by omega) (by omega) rfl
           obtain ⟨v, hv⟩ : ∃ v, capN (valQ p) = v := ⟨_, rfl⟩
           rw [hv] at NU hcl hmore
           have NU := hid NU
           by_cases hbig : 255 < v
           · have v2 : decide ((255 : Int) < (v : Int)) = true := dcT (by omega)
             have v2' : decide (255 < v) = true := dcT hbig
             have RF := hid (fun W h => RC.out.no 16 (at_ : Nat) W (hRE (hmore.1.2 hbig)) h)
             clear hRE hGO hmore PW hv hbig hl hp hc hdr hZ hpn hpl hp0 hdg hrg hlt
             go_wp2_with fail
             refine NU.out.mono ?_
             rintro e w6 ⟨rfl, hb6⟩
             obtain ⟨hst, hld, hF⟩ := RF.out _ (xT HW.out (xT HB5.out hb6))
             have HF := hid hF
             clear hb6 c0 hF
             go_wp2_with ((with_reducible show wpList _ _ _ (_ :: _) _ _); refine st_arr 79 w.heap.size _ hst _ _ rfl rfl rfl rfl ?_)
             (try simp only [Exit.inBlock, Exit.then])
             exact bodyPost_ret (by simp [results, Tryz.results68, asAddr, Result.andThen, hld]) rfl HF.out
           · have v2 : decide ((255 : Int) < (v : Int)) = false := dcF (by omega)
             have v2' : decide (255 < v) = false := dcF hbig
             have hnl := fun h => hbig (hmore.1.1 h)
             have hal := add_le hne hcount hlt (Nat.le_of_not_lt hnl)
             have hGO := hGO hnl
             have hlim := limit_le n0 j hne
             have hvv : v = valQ p := by rw [← hv]; exact capN_small (by omega)
             rw [hmore.2, ← hvv] at hGO hal
             obtain ⟨L, hL⟩ : ∃ L, 256 ^ (3 - j) = L := ⟨_, rfl⟩
             rw [hL] at hGO hal PW
             obtain ⟨vL, hvL⟩ : ∃ x, v * L = x := ⟨_, rfl⟩
             rw [hvL] at hGO hal
             have q6 : IntKind.u64.wrap ((v : Int) * (L : Int)) = (vL : Int) := by rw [IntWalk.u64_in _ (by rw [← Int.natCast_mul, hvL]; omega), ← Int.natCast_mul, hvL]
             have q4 : IntKind.u64.wrap ((t : Int) + (vL : Int)) = ((t + vL : Nat) : Int) := by rw [IntWalk.u64_in _ (by omega)]; omega
             have HGO := hid hGO; have PW := hid PW
             clear hRE hGO hmore hL hv hvv hvL hnl hlim hbig hl hp hc hdr hZ hpn hpl hp0 hdg hrg hlt
             go_wp2_with fail
             refine NU.out.mono ?_
             rintro e w6 ⟨rfl, hb6⟩
             have c1 : w6.cell? ⟨g, j, none⟩ = some (.string Z) := (bcell1 hb6 hgw _).trans c0
             have HRL := hid (HGO.out _ (xT HB5.out hb6))
             clear hb6 c0
             go_wp2_with fail
             refine (PW.out _).mono ?_
             rintro e w7 ⟨rfl, hw⟩
             have hw' := hw.symm
             subst hw'
             clear hw
             go_wp2
             refine ⟨?_, by have := HLT.out; simp [intOf]; omega⟩
             first | exact HRL.out | ((repeat apply Exists.intro); exact ⟨HRL.out, rfl⟩)
       · obtain ⟨r1, r1'⟩ := ltF j n0 hlt
         rw [List.drop_of_length_le (by rw [HN.out]; omega), rngF] at hrg
         have RO := hid (fun W h => RC.out.ok t W hrg.symm h)
         have P3 := hid (rpower_lit 3 3 16777216 wr.drew (by decide) rfl rfl)
         have P2 := hid (rpower_lit 2 2 65536 wr.drew (by decide) rfl rfl)
         have q3 : IntKind.u64.wrap ((t : Int) / 16777216) = (t : Int) / 16777216 := IntWalk.u64_in _ (by omega)
         have q2 : IntKind.u64.wrap ((t : Int) / 65536) = (t : Int) / 65536 := IntWalk.u64_in _ (by omega)
         have q1 : IntKind.u64.wrap ((t : Int) / 256) = (t : Int) / 256 := IntWalk.u64_in _ (by omega)
         have HBX := hid (xT HW.out HB5.out)
         clear hrg hlt hj
         go_wp2_with fail
         refine wp_region_still_tail 14 (by kernel_rfl) (by kernel_rfl) ?_
         simp only [List.take_succ_cons, List.take_zero, List.drop_succ_cons, List.drop_zero]
         still_step
         still_call (P3.out)
         iterate 3 still_step
         still_call (P2.out)
         iterate 8 still_step
         refine wpStill_nil ?_
         change wpList _ _ _ _ _ wr.drew
         obtain ⟨hst, hld, hF⟩ := RO.out wr.drew (ext_drewN 1 HBX.out)
         generalize wr.drew.setRow w.heap.size (v4C t) = W9 at *
         rw [← v4_sum] at hst hld hF
         have HF := hid hF
         clear hF
         generalize wr.drew = w8 at *
         go_wp2_with ((with_reducible show wpList _ _ _ (_ :: _) _ _); refine st_arr 79 w.heap.size _ hst _ _ rfl rfl rfl rfl ?_)
         (try simp only [Exit.inBlock, Exit.then])
         exact bodyPost_ret (by simp [results, Tryz.results68, asAddr, Result.andThen, hld]) rfl HF.out
theorem rparse11_any (s : ByteArray) (w : World) (hs : s.size ≤ 1000000) : Calls Tryz.prog 68 #[.string s] w fun e w' => e = .returned (rqV (parseQ (bytesN s))) ∧ Below w.heap.size w w' := rparse11_core s _ w hs rfl
end Go.Proofs.YtbeodjipdpcaiaaGreatDoor
