/- Texts put together. -/
import Derived.Test.YtcaiibkgajhohaaGreatDoorYAsJ0f
namespace Go.Proofs.YtcaiibkgajhohaaGreatDoor
open Go.RowKit
section
variable {W0 Wv : World} {vv : Value} {base D T : Nat} {s : PS} {nodes : Int} {tv : Value} {ns : List ANode}
def DsRel (W0 Wv : World) (vv : Value) (js : List JN) (ups : List Nat) (w5 : World) (D X : Nat) (a b ky : Bool) (ms : List Nat) (R : List DeA × RdSt) (v k : Value) (wr : World) : Prop :=
 ∃ (j : Nat) (s1 : RdSt) (acc : List DeA), k = .int .i64 j ∧ j ≤ ms.length ∧ acc.length ≤ j ∧ DlSt W0 Wv vv D w5 X a b s1 v acc wr ∧ detF asK js ups (ms.drop j) s1 ky a b acc = R
set_option maxRecDepth 100000 in
set_option maxHeartbeats 16000000 in
/-- aasa.reader.details -/
theorem rdetails_any (hV : PView W0 base D T s nodes tv ns) (hS : SEnv W0) (hT : ∀ id, (txtA0 s.js id).size ≤ 1100000) (hK : ∀ k, (keyA s.js k).size ≤ 1100000) (st : RdSt) (id : Nat) (a b : Bool) (w : World) (h : ReA W0 Wv vv w D st) :
    Calls Tryz.prog 31 #[ptrV W0.heap.size, .int .i64 id, .agg #[.bool a, .bool b]] w (GaPost W0 Wv vv w D 2 ((detailsA asK s.js s.ups st id a b).1.flatMap deD) (detailsA asK s.js s.ups st id a b).2) := by
 have ME := Lib.hid (fun W (hR : ReA W0 Wv vv W D st) => rmember_any hV st id kDet W hR)
 obtain ⟨RR, hRR⟩ : ∃ RR, detailsA asK s.js s.ups st id a b = RR := ⟨_, rfl⟩
 rw [hRR]
 unfold detailsA at hRR
 have H := Lib.hid h
 have XA := heap_alloc_new w (.cells #[.bool a, .bool b] 75)
 have BA := ext_alloc (Below.refl _ w) (.cells #[.bool a, .bool b] 75)
 obtain ⟨Wa, hWa⟩ : ∃ Wa, w.alloc (.cells #[.bool a, .bool b] 75) = Wa := ⟨_, rfl⟩
 rw [hWa] at XA BA
 have HA := Lib.hid (h.ext BA); have OA := Lib.hid (Only.of (T := fun k => k = W0.heap.size) BA); have XA := Lib.hid XA
 have hx0 : w.heap.size ≠ W0.heap.size := by have := h.lt; omega
 have HWa := Lib.hid hWa
 have hwl := h.lt
 obtain ⟨me, hme⟩ : ∃ me, memA s.js s.ups st id kDet = me := ⟨_, rfl⟩
 rw [hme] at ME hRR
 cases me with
 | none =>
   unfold memV at ME
   have HRR := Lib.hid (show RR = ([], st) from hRR.symm)
   clear hme hRR h hWa BA
   go_enter Tryz.func31, Tryz.ntmps31
   go_wp2_with fail
   rw [HWa.out]
   refine (ME.out Wa HA.out).mono ?_
   rintro e w2 ⟨rfl, hb2⟩
   have HP := Lib.hid (show GaPost W0 Wv vv w D 2 (RR.1.flatMap deD) RR.2 (.returned (.slice none 0 0)) w2 by rw [HRR.out]; exact ga_nil (HA.out.ext hb2) (OA.out.trans (Only.of hb2)))
   clear hb2
   go_wp2
   go_ret
   exact HP.out
 | some k =>
   unfold memV at ME
   dsimp only at hRR
   have KD := Lib.hid (fun W (hR : ReA W0 Wv vv W D st) => rkind_any hV st k W hR)
   have IT := Lib.hid (fun W (hR : ReA W0 Wv vv W D st) => items_p (hR.view hV) k)
   have MS := Lib.hid (fun W (hR : ReA W0 Wv vv W D st) => members_p (hR.view hV) k)
   rw [Int.toNat_natCast] at IT MS
   have WR := Lib.hid (fun W (hR : ReA W0 Wv vv W D st) => rwrong_any hV st k 32 W hR)
   have FW := Lib.hid (fun s5 ao n c W (hR : ReA W0 Wv vv W D s5) => rfew_any hV s5 k ao n c 256 W hR)
   have c5 := chk_kind s.js k 5 (by decide)
   have c6 := chk_kind s.js k 6 (by decide)
   have hkl := hV.kids_len k
   have hml := hV.mem_len k
   obtain ⟨kk, hkk⟩ : ∃ kk, kindA s.js k = kk := ⟨_, rfl⟩
   rw [hkk] at KD c5 c6 hRR
   clear hme h hWa BA
   by_cases h6 : kk = 6
   case' pos =>
    subst h6
    rw [if_pos rfl] at hRR
    have hc := c6.2 (.inl rfl)
    obtain ⟨ms, hms⟩ : ∃ ms, membersS s.js (kids s.ups k) = ms := ⟨_, rfl⟩
    rw [hms] at hRR hml MS
    have HC := Lib.hid hc
    have hnl : ms.length ≤ 100000 := hml
    obtain ⟨ky, hky⟩ : ∃ ky, ky = true := ⟨_, rfl⟩
    have HKY := Lib.hid hky
    obtain ⟨s5, hs5⟩ : ∃ s5, s5 = st := ⟨_, rfl⟩
    have HS5 := Lib.hid hs5
    have HRR : Hid ((if (fewA s5 ms.length 256).1 = true then detF asK s.js s.ups ms (fewA s5 ms.length 256).2 ky a b [] else ([], (fewA s5 ms.length 256).2)) = RR) := Lib.hid (by rw [hky, hs5]; exact hRR)
    clear hkk c5 c6 hc hkl hml hms hky hs5 hRR
    go_enter Tryz.func31, Tryz.ntmps31
    go_wp2_with fail
    rw [HWa.out]
    refine (ME.out Wa HA.out).mono ?_
    rintro e w2 ⟨rfl, hb2⟩
    have H2 := Lib.hid (HA.out.ext hb2); have B2 := Lib.hid hb2
    obtain ⟨ev, c0, _, _, _, _⟩ := H2.out.cells
    clear hb2
    go_wp2_with fail
    refine (IT.out w2 H2.out).mono ?_
    intro e w3 hp
    obtain ⟨vi, ui, rfl, _, _, _, hb3⟩ := hp
    have H3 := Lib.hid (H2.out.ext hb3); have B3 := Lib.hid hb3
    clear hb3
    go_wp2_with fail
    refine (KD.out w3 H3.out).mono ?_
    rintro e w4 ⟨rfl, hb4⟩
    have H4 := Lib.hid (H3.out.ext hb4); have B4 := Lib.hid hb4
    obtain ⟨ev4, c4, _, _, _, _⟩ := H4.out.cells
    clear hb4 c0
    go_wp2_with fail
    refine (MS.out w4 H4.out).mono ?_
    intro e w5 hp
    obtain ⟨v, u, rfl, he, hg, _, hb5⟩ := hp
    obtain rfl := he.none HC.out
    obtain ⟨ao, c, rfl, _, _, hcl⟩ := (hg HC.out).nats_inv
    have HR5 := Lib.hid (show ReA W0 Wv vv w5 D s5 by rw [HS5.out]; exact H4.out.ext hb5)
    have B5 := Lib.hid (ext_trans (ext_trans (ext_trans B2.out B3.out) B4.out) hb5)
    have O5 := Lib.hid (OA.out.trans (Only.of B5.out))
    have X5 := Lib.hid ((B5.out.block _ (heap_lt XA.out)).trans XA.out)
    have CL : Hid (∀ (j m : Nat), ms[j]? = some m → ∃ b o, ao = some ⟨b, o, none⟩ ∧ W0.heap.size < b ∧ b < w5.heap.size ∧ w5.cell? ⟨b, o + j, none⟩ = some (.int .i64 m)) := Lib.hid (fun j m hm => by
     obtain ⟨hj, rfl⟩ := List.getElem?_eq_some_iff.1 hm
     obtain ⟨b, o, h1, h2, h3⟩ := hcl (by omega)
     have := H4.out.lt
     exact ⟨b, o, h1, by have := h2.1; omega, h2.2, h3 j hj⟩)
    clear he hg hcl hb5
    obtain ⟨n, hn⟩ : ∃ n, ms.length = n := ⟨_, rfl⟩
    have HN := Lib.hid hn
    rw [hn] at hnl ⊢
    clear hn
    go_wp2_with fail
   case' neg =>
    rw [if_neg h6] at hRR
    have k6 : ((kk : Int) == 6) = false := by simpa using h6
    have k6' : (kk = 6) = False := eq_false h6
    have k6'' : (kk != 6) = true := by simpa using h6
    by_cases h5 : kk = 5
    case' pos =>
     subst h5
     rw [if_pos rfl] at hRR
     have hc := c5.2 (.inl rfl)
     obtain ⟨ms, hms⟩ : ∃ ms, kids s.ups k = ms := ⟨_, rfl⟩
     rw [hms] at hRR hkl IT
     have HC := Lib.hid hc
     have hnl : ms.length ≤ 100000 := hkl
     obtain ⟨ky, hky⟩ : ∃ ky, ky = false := ⟨_, rfl⟩
     have HKY := Lib.hid hky
     obtain ⟨s5, hs5⟩ : ∃ s5, s5 = st := ⟨_, rfl⟩
     have HS5 := Lib.hid hs5
     have HRR : Hid ((if (fewA s5 ms.length 256).1 = true then detF asK s.js s.ups ms (fewA s5 ms.length 256).2 ky a b [] else ([], (fewA s5 ms.length 256).2)) = RR) := Lib.hid (by rw [hky, hs5]; exact hRR)
     clear hkk c5 c6 hc hkl hml hms hky hs5 hRR k6 k6' k6'' h6
     go_enter Tryz.func31, Tryz.ntmps31
     go_wp2_with fail
     rw [HWa.out]
     refine (ME.out Wa HA.out).mono ?_
     rintro e w2 ⟨rfl, hb2⟩
     have H2 := Lib.hid (HA.out.ext hb2); have B2 := Lib.hid hb2
     obtain ⟨ev, c0, _, _, _, _⟩ := H2.out.cells
     clear hb2
     go_wp2_with fail
     refine (IT.out w2 H2.out).mono ?_
     intro e w3 hp
     obtain ⟨v, u, rfl, he, hg, hbad, hb3⟩ := hp
     obtain rfl := he.none HC.out
     obtain ⟨ao, c, rfl, _, _, hcl⟩ := (hg HC.out).nats_inv
     have H3 := Lib.hid (H2.out.ext hb3); have B3 := Lib.hid hb3
     have CL3 : Hid (∀ (j m : Nat), ms[j]? = some m → ∃ b o, ao = some ⟨b, o, none⟩ ∧ W0.heap.size < b ∧ b < w3.heap.size ∧ w3.cell? ⟨b, o + j, none⟩ = some (.int .i64 m)) := Lib.hid (fun j m hm => by
      obtain ⟨hj, rfl⟩ := List.getElem?_eq_some_iff.1 hm
      obtain ⟨b, o, h1, h2, h3⟩ := hcl (by omega)
      have := H2.out.lt
      exact ⟨b, o, h1, by have := h2.1; omega, h2.2, h3 j hj⟩)
     clear he hg hcl hb3 hbad
     obtain ⟨n, hn⟩ : ∃ n, ms.length = n := ⟨_, rfl⟩
     have HN := Lib.hid hn
     rw [hn] at hnl ⊢
     clear hn
     go_wp2_with fail
     refine (KD.out w3 H3.out).mono ?_
     rintro e w5 ⟨rfl, hb5⟩
     have HR5 := Lib.hid (show ReA W0 Wv vv w5 D s5 by rw [HS5.out]; exact H3.out.ext hb5)
     have B5 := Lib.hid (ext_trans (ext_trans B2.out B3.out) hb5)
     have O5 := Lib.hid (OA.out.trans (Only.of B5.out))
     have X5 := Lib.hid ((B5.out.block _ (heap_lt XA.out)).trans XA.out)
     have CL : Hid (∀ (j m : Nat), ms[j]? = some m → ∃ b o, ao = some ⟨b, o, none⟩ ∧ W0.heap.size < b ∧ b < w5.heap.size ∧ w5.cell? ⟨b, o + j, none⟩ = some (.int .i64 m)) := Lib.hid (fun j m hm => by
      obtain ⟨b, o, h1, h2, h3, h4⟩ := CL3.out j m hm
      exact ⟨b, o, h1, h2, Nat.lt_of_lt_of_le h3 hb5.size, (hb5.cell (p := ⟨b, o + j, none⟩) h3).trans h4⟩)
     clear hb5
     go_wp2_with fail
    case neg =>
     rw [if_neg h5] at hRR
     have hc : (checkS s.js (k : Int) 5).1 ≠ 0 := fun e => by rcases c5.1 e with e | ⟨e, _⟩; exact h5 e; exact absurd e (by decide)
     obtain ⟨ms, hms⟩ : ∃ ms, ([] : List Nat) = ms := ⟨_, rfl⟩
     have HC := Lib.hid hc
     have hnl : ms.length ≤ 100000 := by rw [← hms]; exact Nat.zero_le _
     obtain ⟨ky, hky⟩ : ∃ ky, ky = false := ⟨_, rfl⟩
     have HKY := Lib.hid hky
     obtain ⟨s5, hs5⟩ : ∃ s5, s5 = st.fail := ⟨_, rfl⟩
     have HS5 := Lib.hid hs5
     have HRR : Hid (([], s5) = RR) := Lib.hid (by rw [hs5, ← hRR])
     clear hkk c5 c6 hc hkl hml hms hky hs5 hRR h6 h5
     go_enter Tryz.func31, Tryz.ntmps31
     go_wp2_with fail
     rw [HWa.out]
     refine (ME.out Wa HA.out).mono ?_
     rintro e w2 ⟨rfl, hb2⟩
     have H2 := Lib.hid (HA.out.ext hb2); have B2 := Lib.hid hb2
     obtain ⟨ev, c0, _, _, _, _⟩ := H2.out.cells
     clear hb2
     go_wp2_with fail
     refine (IT.out w2 H2.out).mono ?_
     intro e w3 hp
     obtain ⟨v, u, rfl, he, hg, hbad, hb3⟩ := hp
     have hv := hbad HC.out
     obtain rfl : v = .slice none 0 0 := hv
     obtain ⟨pu, hpu⟩ : ∃ pu, u = .iface 85 (.pointer (some pu)) := by
      rcases he with ⟨e, _⟩ | ⟨_, e⟩
      · exact absurd e HC.out
      · rcases erA_inv (w := w3) (u := u) (c := [checkS s.js (k : Int) 5]) e with ⟨e, _⟩ | ⟨_, p, e⟩
        · cases e
        · exact ⟨p, e⟩
     subst hpu
     have H3 := Lib.hid (H2.out.ext hb3); have B3 := Lib.hid hb3
     clear he hg hb3 hbad
     go_wp2_with fail
     refine (KD.out w3 H3.out).mono ?_
     rintro e w4 ⟨rfl, hb4⟩
     have H4 := Lib.hid (H3.out.ext hb4)
     have B4 := Lib.hid (ext_trans (ext_trans B2.out B3.out) hb4)
     clear hb4
     go_wp2_with fail
     refine (WR.out w4 H4.out).mono ?_
     rintro e w5 ⟨rfl, hp⟩
     have HR5 := Lib.hid (show ReA W0 Wv vv w5 D s5 by rw [HS5.out]; exact hp.re)
     have O5 := Lib.hid ((OA.out.trans (Only.of B4.out)).trans hp.only)
     have X5 := Lib.hid (oblock hp.only ((B4.out.block _ (heap_lt XA.out)).trans XA.out) hx0)
     have HRF := Lib.hid (show RR = ([], s5) by exact HRR.out.symm)
     have FWc := Lib.hid (FW.out s5 none 0 0 w5 HR5.out)
     have hfe : fewA s5 0 256 = (false, s5) := by rw [HS5.out]; rfl
     rw [hfe] at FWc
     clear hp k6 k6' k6'' hfe
     go_wp2_with fail
     refine FWc.out.mono ?_
     rintro e w6 ⟨rfl, hp⟩
     have HP := Lib.hid (show GaPost W0 Wv vv w D 2 (RR.1.flatMap deD) RR.2 (.returned (.slice none 0 0)) w6 by rw [HRF.out]; exact ga_nil hp.re (O5.out.trans hp.only))
     clear hp
     go_wp2
     go_ret
     exact HP.out
   all_goals (
    obtain ⟨q, hq⟩ : ∃ q, fewA s5 n 256 = q := ⟨_, rfl⟩
    have FW5 := Lib.hid (FW.out s5 ao n c w5 HR5.out)
    have hRR := HRR.out
    rw [HN.out] at hRR
    rw [hq] at FW5 hRR
    clear hq
    refine FW5.out.mono ?_
    rintro e w6 ⟨rfl, hp⟩
    have DS := Lib.hid (DlSt.start hp.re (oblock hp.only X5.out hx0) hx0)
    have O6 := Lib.hid (O5.out.trans hp.only)
    have CL6 : Hid (∀ (j m : Nat), ms[j]? = some m → ∃ b o, ao = some ⟨b, o, none⟩ ∧ b ≠ W0.heap.size ∧ b < w6.heap.size ∧ w6.cell? ⟨b, o + j, none⟩ = some (.int .i64 m)) := Lib.hid (fun j m hm => by
     obtain ⟨b, o, h1, h2, h3, h4⟩ := CL.out j m hm
     exact ⟨b, o, h1, by omega, Nat.lt_of_lt_of_le h3 hp.only.size, (hp.only.cellX h3 (by omega) (o + j)).trans h4⟩)
    clear hp
    cases hq1 : q.1 with
    | false =>
      rw [hq1, if_neg (by decide)] at hRR
      have HP := Lib.hid (show GaPost W0 Wv vv w D 2 (RR.1.flatMap deD) RR.2 (.returned (.slice none 0 0)) w6 by rw [← hRR]; exact ga_nil DS.out.re O6.out)
      clear hRR hq1
      go_wp2
      go_ret
      exact HP.out
    | true =>
      rw [hq1, if_pos rfl] at hRR
      have HRR6 := Lib.hid hRR
      have KY := Lib.hid (fun s1 m W (hR : ReA W0 Wv vv W D s1) => rkeyA_any hV s1 m W hR)
      have DT := Lib.hid (fun s1 m W (hR : ReA W0 Wv vv W D s1) => rdetail_any hV hS hT s1 m (keyA s.js m) ky a b W hR (hK m))
      clear hRR hq1
      go_wp2_with fail
      go_loopw [6, 57] (DsRel W0 Wv vv s.js s.ups w6 D w.heap.size a b ky ms RR) (fun _ k _ => n - (intOf k).toNat)
      case atStart => exact ⟨0, q.2, [], rfl, Nat.zero_le _, Nat.le_refl _, DS.out, by rw [List.drop_zero]; exact HRR6.out⟩
      case round =>
       obtain ⟨j, s1, acc, rfl, hj, hal, hs, hr⟩ := hrel
       rw [HN.out] at hj
       by_cases hlt : j < n
       · have t1 : decide ((j : Int) < (n : Int)) = true := decide_eq_true (by omega)
         have t1' : decide (j < n) = true := decide_eq_true hlt
         have q1 : IntKind.i64.wrap ((j : Int) + 1) = (j : Int) + 1 := IntWalk.i64_in _ (by omega)
         obtain ⟨m, hm⟩ := get_ex ms j (by rw [HN.out]; exact hlt)
         rw [drop_get hm, detF] at hr
         obtain ⟨bb, o, rfl, h1, h2, h3⟩ := CL6.out j m hm
         have e0 := (hs.only.cellX h2 h1 (o + j)).trans h3
         have KYm := Lib.hid (KY.out s1 m); have DTm := Lib.hid (DT.out s1 m)
         obtain ⟨key, hkey⟩ : ∃ key, keyA s.js m = key := ⟨_, rfl⟩
         rw [hkey] at KYm DTm hr
         obtain ⟨dt, hdt⟩ : ∃ dt, detailA asK s.js s.ups s1 m key ky a b = dt := ⟨_, rfl⟩
         rw [hdt] at DTm hr
         rw [HKY.out] at DTm
         obtain ⟨i0, hi0, hz0, hz1, hz2⟩ := info_parts elDe.hi
         obtain ⟨aov, capv, rfl, _⟩ := aown_form (own_of hs.row)
         have HS1 := Lib.hid (hs.ext (Below.drew (Below.refl _ wr))); have HRR1 := Lib.hid hr
         have c50 := hs.cells.1; have c51 := hs.cells.2
         have hvl : acc.length + 1 ≤ 100001 := by omega
         have hal1 := Lib.hid hal
         clear hkey hdt hr hs hm h1 h2 h3 hal
         go_wp2_with fail
         refine wp_region_noPanic ?_
         go_region_law (first
          | (go_simp; go_at_call 56; refine (KYm.out _ HS1.out.re).mono ?_; rintro e w7 ⟨rfl, hb7⟩; have HS1 := Lib.hid (HS1.out.ext hb7); have c50 := HS1.out.cells.1; have c51 := HS1.out.cells.2; clear hb7)
          | (go_simp; go_at_call 61; refine (DTm.out _ HS1.out.re).mono ?_; intro e w8 hp; obtain ⟨a1, n1, c1, a2, n2, c2, rfl, hs8, hn8⟩ := HS1.out.detail hp; have HS1 := Lib.hid hs8; have HN8 := Lib.hid hn8; clear hp hs8 hn8)
          | (refine step_append_lies _ (by rfl) _ _ _ (by rfl) w6.heap.size 35 i0 _ 2 48 Tryz.underlying24 hi0 hz0 hz1 hz2 rfl (by omega) (.slice aov acc.length capv) acc.length _ (by rfl) ((own_of HS1.out.row).alloc _) ⟨_, 0, none⟩ 1 1 [.slice a1 n1 c1, .slice a2 n2 c2] (by rfl) (by rfl) (World.news_of_block (cs := #[.slice a1 n1 c1, .slice a2 n2 c2]) (t := 35) (fr := (0, 0)) (heap_alloc_new _ _)) (by simp [Value.oneCell']) (by omega) (by unfold maxLen; omega) (by omega) (by have := HS1.out.only.size; simp; omega) _ rfl ?_
             intro g' cap' w9 hown9 hgrow9 hat9 hlt9
             have HS9 := Lib.hid (HS1.out.push HN8.out hown9 hgrow9 (hat9.imp (fun h => h) (fun h => by show some g' = _; rw [h]; simp)))
             clear hown9 hgrow9 hat9 hlt9))
         all_goals (
          refine NoPanic.normal ?_
          have hr1 := HRR1.out
          obtain ⟨ev9, r0, r1, r2, _, hev⟩ := HS9.out.re.cells
          rcases hev with ⟨hb, rfl⟩ | ⟨hb, bE, rfl⟩
          · rw [hb, if_neg (by decide)] at hr1
            have RL := Lib.hid (show DsRel W0 Wv vv s.js s.ups w6 D w.heap.size a b ky ms RR _ (.int .i64 ((j : Int) + 1)) _ from ⟨j + 1, dt.2, acc ++ [dt.1], by go_num, by rw [HN.out]; omega, by have := hal1.out; simp; omega, HS9.out, hr1⟩)
            clear hr1 hb
            go_wp2
            refine ⟨?_, by simp [intOf]; omega⟩
            have R := RL.out
            first | exact R | ((repeat apply Exists.intro); exact ⟨R, rfl⟩)
          · rw [hb, if_pos rfl] at hr1
            have HP := Lib.hid (show GaPost W0 Wv vv w D 2 (RR.1.flatMap deD) RR.2 (.returned (.slice none 0 0)) _ by rw [← hr1]; exact ga_nil HS9.out.re (O6.out.trans HS9.out.only))
            clear hr1 hb
            go_wp2
            go_ret
            exact HP.out)
       · have t1 : decide ((j : Int) < (n : Int)) = false := decide_eq_false (by omega)
         have t1' : decide (j < n) = false := decide_eq_false hlt
         rw [List.drop_eq_nil_of_le (by rw [HN.out]; omega), detF] at hr
         have HP := Lib.hid (show GaPost W0 Wv vv w D 2 (RR.1.flatMap deD) RR.2 (.returned _) wr by rw [← hr]; exact hs.fin O6.out)
         clear hr hs hlt
         go_wp2
         go_ret
         exact HP.out)
end
end Go.Proofs.YtcaiibkgajhohaaGreatDoor
