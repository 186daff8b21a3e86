/- Texts put together. -/
import Derived.Test.YtcaiibkgajhohaaGreatDoorYAsI3
import Derived.Test.YtcaiibkgajhohaaGreatDoorYAsJ5f
import Derived.Test.YtcaiibkgajhohaaGreatDoorYAsJ6
namespace Go.Proofs.YtcaiibkgajhohaaGreatDoor
open Go.RowKit
section
variable (K : AsK) {js : List JN} {ups : List Nat} {n : Nat} (hk : ∀ k, (kids ups k).length ≤ n)
include hk
theorem appsA_len (s : RdSt) (id : Nat) (key : ByteArray) (keyed : Bool) : (appsA js ups s id key keyed).1.length ≤ n + 2 := by
 unfold appsA
 dsimp only
 have h1 : (if keyed = true then appA s key [] else ([], s)).1.length ≤ 1 := by
  split
  · exact Nat.le_refl _
  · exact Nat.zero_le _
 generalize (if keyed = true then appA s key [] else ([], s)) = r at h1 ⊢
 cases hl : appsL js ups r.2 id r.1 with
 | mk o s1 =>
   cases o with
   | none => exact Nat.zero_le _
   | some l =>
     have h2 := appsL_len hk hl
     have h3 : (appsO js ups s1 id l).1.length ≤ l.length + 1 := by
      unfold appsO
      split
      · exact Nat.le_succ _
      · split
        · exact Nat.le_succ _
        · simp [appA]
     show (appsO js ups s1 id l).1.length ≤ _
     omega
theorem detailA_len (s : RdSt) (id : Nat) (key : ByteArray) (keyed a b : Bool) : (detailA K js ups s id key keyed a b).1.apps.length ≤ n + 2 := by
 unfold detailA
 split
 · exact appsA_len hk _ _ _ _
 · exact Nat.zero_le _
theorem detF_len (keyed a b : Bool) : ∀ (l : List Nat) (s : RdSt) (acc : List DeA), (∀ d ∈ acc, d.apps.length ≤ n + 2) → ∀ d ∈ (detF K js ups l s keyed a b acc).1, d.apps.length ≤ n + 2
 | [], _, _, h => h
 | m :: l, s, acc, h => by
   rw [detF]
   split
   · intro d hd; cases hd
   · refine detF_len keyed a b l _ _ (fun d hd => ?_)
     rcases List.mem_append.1 hd with hd | hd
     · exact h d hd
     · rw [List.mem_singleton.1 hd]; exact detailA_len K hk _ _ _ _ _ _
theorem docA_apps {x : AsA} (h : docA K js ups = some x) : ∀ d ∈ x.details, d.apps.length ≤ n + 2 := by
 have hD : ∀ s id a b, ∀ d ∈ (detailsA K js ups s id a b).1, d.apps.length ≤ n + 2 := fun s id a b => by
  unfold detailsA
  split
  · intro d hd; cases hd
  · split
    · split
      · exact detF_len K hk _ _ _ _ _ _ (fun d hd => by cases hd)
      · intro d hd; cases hd
    · split
      · split
        · exact detF_len K hk _ _ _ _ _ _ (fun d hd => by cases hd)
        · intro d hd; cases hd
      · intro d hd; cases hd
 unfold docA at h
 dsimp only at h
 split at h
 · split at h
   · cases h
   · split at h
     · split at h
       · cases h
       · cases h; exact hD _ _ _ _
     · cases h
 · cases h
end
end Go.Proofs.YtcaiibkgajhohaaGreatDoor
namespace Go.Proofs.YtcaiibkgajhohaaGreatDoor
open Go.RowKit
theorem dec_apps {B : ByteArray} {x : AsA} (hB : B.size ≤ 100000) (h : decA B = some x) : ∀ d ∈ x.details, d.apps.length ≤ 100002 := by
 unfold decA at h
 split at h
 · rename_i s hs
   have R := runs_ok B _ _ _ _ _ bi0 (by unfold parseS at hs; split at hs; cases hs; exact hs)
   refine docA_apps asK (n := 100000) (fun k => Nat.le_trans (kids_le s.ups k) ?_) h
   have := R.bi.len
   have := parse_len hs
   omega
 · cases h
theorem noB_nil : noB.toList = [] := by decide +kernel
theorem noB_empty : noB.toList.isEmpty = true := by decide +kernel
def OrRel (w : World) (n : Nat) (k : Value) (wr : World) : Prop := ∃ j : Nat, k = .int .i64 j ∧ j ≤ n ∧ Below w.heap.size w wr
set_option maxRecDepth 100000 in
set_option maxHeartbeats 16000000 in
/-- waybilllaw20.AasaOrder -/
theorem aasaOrder_at (w : World) (a : Option Addr) (c : Nat) (B : ByteArray) (h : Rd (Own w) w (.slice a B.size c) (bytesDB B)) (he : E20 w) : Calls Tryz.prog 3 #[.slice a B.size c] w fun e w' => e = .returned (.bool true) ∧ Below w.heap.size w w' := by
 have SP := Lib.hid (speaks20 w he)
 have DA := Lib.hid (fun (hz : B.size ≤ 4000) x (hx : decA B = some x) => dec_apps (B := B) (by omega) hx)
 have DC := Lib.hid (fun W (hW : Below w.heap.size w W) (hz : B.size ≤ 4000) => decode_any W _ B (h.ext hW) (he.ext hW).sc (he.ext hW).s (by omega) (dec_sizes (by omega)))
 obtain ⟨n, hn⟩ : ∃ n, B.size = n := ⟨_, rfl⟩
 rw [hn] at DC DA ⊢
 clear h he hn
 by_cases hz : 4000 < n
 · have t1 : decide ((4000 : Int) < (n : Int)) = true := decide_eq_true (by omega)
   have t1' : decide (4000 < n) = true := decide_eq_true hz
   clear DC DA hz
   go_enter Tryz.func3, Tryz.ntmps3
   go_wp2_with fail
   refine SP.out.mono ?_
   rintro e w1 ⟨rfl, hb1⟩
   have HB := Lib.hid hb1
   clear hb1
   go_wp2
   go_ret
   exact ⟨rfl, HB.out⟩
 · have t1 : decide ((4000 : Int) < (n : Int)) = false := decide_eq_false (by omega)
   have t1' : decide (4000 < n) = false := decide_eq_false hz
   have DC := Lib.hid (fun W hW => DC.out W hW (Nat.le_of_not_lt hz))
   have DA := Lib.hid (DA.out (Nat.le_of_not_lt hz))
   obtain ⟨R, hR⟩ : ∃ R, decA B = R := ⟨_, rfl⟩
   rw [hR] at DC DA
   clear hz
   go_enter Tryz.func3, Tryz.ntmps3
   go_wp2_with fail
   refine SP.out.mono ?_
   rintro e w1 ⟨rfl, hb1⟩
   have HB := Lib.hid hb1
   have DC1 := Lib.hid (DC.out w1 hb1)
   clear hb1 DC
   go_wp2_with fail
   refine DC1.out.mono ?_
   intro e w2 hp
   cases R with
   | none =>
     obtain ⟨hb2, u, rfl⟩ := hp
     have HB2 := Lib.hid (ext_alloc (ext_trans HB.out hb2) (.cells #[.slice none 0 0, .slice none 0 0] 27))
     clear hb2
     go_wp2
     go_ret
     exact ⟨rfl, HB2.out⟩
   | some x =>
     obtain ⟨hb2, va, vr, rfl, _, _, hr⟩ := hp
     have AL := Lib.hid (DA.out x rfl)
     have OK := Lib.hid (show x.vars.length ≤ 64 ∧ x.details.length ≤ 256 ∧ ∀ d ∈ x.details, DetOk d by
      unfold decA at hR
      split at hR
      · exact docA_ok _ _ _ hR
      · cases hR)
     obtain ⟨aD, cD, rfl, hD⟩ := flat_read (f := deD) (k := 2) (fun _ => rfl) (by decide) (hr.2 0 _ _ rfl rfl)
     obtain ⟨aV, cV, rfl, _⟩ := flat_read (f := vaD) (k := 2) (fun _ => rfl) (by decide) (hr.2 1 _ _ rfl rfl)
     have HDD := Lib.hid hD
     obtain ⟨nd, hnd⟩ : ∃ nd, x.details.length = nd := ⟨_, rfl⟩
     obtain ⟨nv, hnv⟩ : ∃ nv, x.vars.length = nv := ⟨_, rfl⟩
     have o1 := OK.out.1; have o2 := OK.out.2.1
     rw [hnv] at o1; rw [hnd] at o2; rw [hnd, hnv]
     have t3 : decide ((64 : Int) < (nv : Int)) = false := decide_eq_false (by omega)
     have t3' : decide (64 < nv) = false := decide_eq_false (by omega)
     have t4 : decide ((256 : Int) < (nd : Int)) = false := decide_eq_false (by omega)
     have t4' : decide (256 < nd) = false := decide_eq_false (by omega)
     have HN := Lib.hid hnd
     have B2 := Lib.hid (ext_trans HB.out hb2)
     clear hr hD hb2 hnd hnv hR DC1 o1 DA
     have HBA := Lib.hid (ext_alloc (Below.refl _ w2) (.cells #[.slice aD nd cD, .slice aV nv cV] 27))
     go_wp2_with fail
     obtain ⟨w3, hw3⟩ : ∃ w3, w2.alloc (.cells #[.slice aD nd cD, .slice aV nv cV] 27) = w3 := ⟨_, rfl⟩
     rw [hw3] at HBA ⊢
     go_loopw [46] (OrRel w2 nd) (fun k _ => nd - (intOf k).toNat)
     case atStart => exact ⟨0, rfl, Nat.zero_le _, HBA.out⟩
     case round =>
      obtain ⟨j, rfl, hj, hbr⟩ := hrel
      by_cases hlt : j < nd
      · have t1 : decide ((j : Int) < (nd : Int)) = true := decide_eq_true (by omega)
        have t1' : decide (j < nd) = true := decide_eq_true hlt
        have q1 : IntKind.i64.wrap ((j : Int) + 1) = (j : Int) + 1 := IntWalk.i64_in _ (by omega)
        obtain ⟨d, hd⟩ := get_ex x.details j (by rw [HN.out]; exact hlt)
        have DO := Lib.hid (OK.out.2.2 d (List.mem_of_getElem? hd))
        obtain ⟨bb, o, rfl, hS, hcell⟩ := HDD.out j d hd
        obtain ⟨u0, k0, r0⟩ := hcell 0 _ rfl
        obtain ⟨u1, k1, r1⟩ := hcell 1 _ rfl
        obtain ⟨aA, cA, rfl, hA⟩ := flat_read (f := appD) (k := 2) (fun _ => rfl) (by decide) r0
        obtain ⟨aR, cR, rfl, hRu⟩ := flat_read (f := ruD) (k := 10) (fun _ => rfl) (by decide) r1
        have e0 : wr.cell? ⟨bb, o + j * 2, none⟩ = _ := (hbr.cell (p := ⟨bb, o + j * 2, none⟩) hS.2).trans k0
        have e1 : wr.cell? ⟨bb, o + j * 2 + 1, none⟩ = _ := (hbr.cell (p := ⟨bb, o + j * 2 + 1, none⟩) hS.2).trans k1
        obtain ⟨na, hna⟩ : ∃ n, d.apps.length = n := ⟨_, rfl⟩
        obtain ⟨nr, hnr⟩ : ∃ n, d.rules.length = n := ⟨_, rfl⟩
        have hna5 := AL.out d (List.mem_of_getElem? hd)
        have hna0 : na ≠ 0 := fun e => DO.out.some_ (List.length_eq_zero_iff.1 (hna.trans e))
        have hnr5 := DO.out.few
        rw [hna] at e0 hna5; rw [hnr] at e1 hnr5
        have s1 : ((na : Int) == 0) = false := by simpa using hna0
        have s1' : (na = 0) = False := eq_false hna0
        have s2 : decide ((512 : Int) < (nr : Int)) = false := decide_eq_false (by omega)
        have s2' : decide (512 < nr) = false := decide_eq_false (by omega)
        have HA := Lib.hid hA; have HRu := Lib.hid hRu; have HNA := Lib.hid hna; have HNR := Lib.hid hnr; have HBR := Lib.hid hbr
        clear k0 k1 r0 r1 hcell hA hRu hna hnr hd hS hbr
        have HXD := Lib.hid (heap_alloc_new wr (.cells #[.slice aA na cA, .slice aR nr cR] 35))
        have HBD := Lib.hid (ext_alloc (Below.refl _ wr) (.cells #[.slice aA na cA, .slice aR nr cR] 35))
        go_wp2_with fail
        obtain ⟨w4, hw4⟩ : ∃ w4, wr.alloc (.cells #[.slice aA na cA, .slice aR nr cR] 35) = w4 := ⟨_, rfl⟩
        obtain ⟨F, hF⟩ : ∃ F, wr.heap.size = F := ⟨_, rfl⟩
        rw [hw4] at HXD HBD ⊢
        have HBR4 := Lib.hid (HBR.out.trans (HBD.out.mono HBR.out.size))
        rw [hF] at HXD
        generalize hwo : wr = wo at *
        go_loopw [63] (OrRel w4 na) (fun k _ => na - (intOf k).toNat)
        case atStart => exact ⟨0, rfl, Nat.zero_le _, Below.refl _ _⟩
        case round =>
         obtain ⟨i, rfl, hi, hbi⟩ := hrel
         by_cases hlt2 : i < na
         · have t5 : decide ((i : Int) < (na : Int)) = true := decide_eq_true (by omega)
           have t5' : decide (i < na) = true := decide_eq_true hlt2
           have q2 : IntKind.i64.wrap ((i : Int) + 1) = (i : Int) + 1 := IntWalk.i64_in _ (by omega)
           obtain ⟨ap, hap⟩ := get_ex d.apps i (by rw [HNA.out]; exact hlt2)
           have AO := DO.out.apps ap (List.mem_of_getElem? hap)
           obtain ⟨ba, oa, rfl, hSa, hca⟩ := HA.out i ap hap
           obtain ⟨v0, k0, r0⟩ := hca 0 _ rfl
           obtain ⟨v1, k1, r1⟩ := hca 1 _ rfl
           obtain rfl := r0.str_inv
           obtain rfl := r1.str_inv
           have HBI := Lib.hid (HBR4.out.trans (hbi.mono HBR4.out.size))
           have f0 : wr.cell? ⟨ba, oa + i * 2, none⟩ = _ := (HBI.out.cell (p := ⟨ba, oa + i * 2, none⟩) hSa.2).trans k0
           have f1 : wr.cell? ⟨ba, oa + i * 2 + 1, none⟩ = _ := (HBI.out.cell (p := ⟨ba, oa + i * 2 + 1, none⟩) hSa.2).trans k1
           have y0 : ((ap.team.size : Int) != 10) = false := by rw [AO.1]; rfl
           have y1 : (ap.bundle.toList == []) = false := by
            have h := beqS_f AO.2
            rwa [noB_nil] at h
           have y2 : (ap.bundle.toList = []) = False := eq_false (by simpa using y1)
           have HBN := Lib.hid (hbi.trans ((ext_alloc (Below.refl _ wr) (.cells #[.string ap.team, .string ap.bundle] 37)).mono hbi.size))
           clear k0 k1 r0 r1 hca hap AO hSa hbi
           go_wp2
           refine ⟨?_, by simp [intOf]; omega⟩
           have R : OrRel w4 na (.int .i64 ((i : Int) + 1)) (wr.alloc (.cells #[.string ap.team, .string ap.bundle] 37)) := ⟨i + 1, by go_num, hlt2, HBN.out⟩
           first | exact R | ((repeat apply Exists.intro); exact ⟨R, rfl⟩)
         · have t5 : decide ((i : Int) < (na : Int)) = false := decide_eq_false (by omega)
           have t5' : decide (i < na) = false := decide_eq_false hlt2
           have XD := (hbi.block _ (heap_lt HXD.out)).trans HXD.out
           have f1 := Lib.cell_of_heap XD 1
           have HB5 := Lib.hid (HBR4.out.trans (hbi.mono HBR4.out.size))
           clear XD hbi
           go_wp2_with fail
           generalize hwi : wr = wi at *
           go_loopw [80] (OrRel wi nr) (fun k _ => nr - (intOf k).toNat)
           case atStart => exact ⟨0, rfl, Nat.zero_le _, Below.refl _ _⟩
           case round =>
            obtain ⟨m, rfl, hm, hbm⟩ := hrel
            by_cases hlt3 : m < nr
            · have t6 : decide ((m : Int) < (nr : Int)) = true := decide_eq_true (by omega)
              have t6' : decide (m < nr) = true := decide_eq_true hlt3
              have q3 : IntKind.i64.wrap ((m : Int) + 1) = (m : Int) + 1 := IntWalk.i64_in _ (by omega)
              obtain ⟨x, hx⟩ := get_ex d.rules m (by rw [HNR.out]; exact hlt3)
              have RO := DO.out.rules x (List.mem_of_getElem? hx)
              obtain ⟨bx, ox, rfl, hSx, hcx⟩ := HRu.out m x hx
              have HBM := Lib.hid (HB5.out.trans (hbm.mono HB5.out.size))
              have gx := fun i => (show wr.cell? ⟨bx, ox + m * 10 + i, none⟩ = w2.cell? ⟨bx, ox + (m * 10 + i), none⟩ from by rw [Nat.add_assoc]; exact HBM.out.cell (p := ⟨bx, ox + (m * 10 + i), none⟩) hSx.2)
              obtain ⟨v0, k0, r0⟩ := hcx 0 _ rfl
              obtain ⟨v1, k1, r1⟩ := hcx 1 _ rfl
              obtain ⟨v2, k2, r2⟩ := hcx 2 _ rfl
              obtain ⟨v3, k3, r3⟩ := hcx 3 _ rfl
              obtain ⟨v4, k4, r4⟩ := hcx 4 _ rfl
              obtain ⟨v5, k5, r5⟩ := hcx 5 _ rfl
              obtain ⟨v6, k6, r6⟩ := hcx 6 _ rfl
              obtain ⟨v7, k7, r7⟩ := hcx 7 _ rfl
              obtain ⟨v8, k8, r8⟩ := hcx 8 _ rfl
              obtain ⟨v9, k9, r9⟩ := hcx 9 _ rfl
              obtain rfl := r0.str_inv; obtain rfl := r1.str_inv; obtain rfl := r2.str_inv
              obtain rfl := r3.bool_inv; obtain rfl := r4.bool_inv; obtain rfl := r5.bool_inv
              obtain rfl := r7.bool_inv; obtain rfl := r8.bool_inv; obtain rfl := r9.bool_inv
              obtain ⟨aI, cI, rfl, _⟩ := flat_read (f := itD) (k := 3) (fun _ => rfl) (by decide) r6
              have f0 := (gx 0).trans k0
              have f1 := (gx 1).trans k1
              have f2 := (gx 2).trans k2
              have f3 := (gx 3).trans k3
              have f4 := (gx 4).trans k4
              have f5 := (gx 5).trans k5
              have f6 := (gx 6).trans k6
              have f7 := (gx 7).trans k7
              have f8 := (gx 8).trans k8
              have f9 := (gx 9).trans k9
              rw [Nat.add_zero] at f0
              have hP : (x.hasPath = true) ∨ (x.hasPath = false ∧ x.path.toList.isEmpty = true) := by
               cases h : x.hasPath
               · exact .inr ⟨rfl, by rw [RO.path h]; exact noB_empty⟩
               · exact .inl rfl
              have hF : (x.hasFrag = true) ∨ (x.hasFrag = false ∧ x.frag.toList.isEmpty = true) := by
               cases h : x.hasFrag
               · exact .inr ⟨rfl, by rw [RO.frag h]; exact noB_empty⟩
               · exact .inl rfl
              have hQ : (x.hasQuery = true ∧ x.items.length = 0) ∨ (x.hasQuery = false ∧ x.query.toList.isEmpty = true) := by
               cases h : x.hasQuery
               · exact .inr ⟨rfl, by rw [RO.quer h]; exact noB_empty⟩
               · exact .inl ⟨rfl, by rw [RO.query h]; rfl⟩
              generalize x.items.length = ni at *
              generalize x.hasPath = hp at *
              generalize x.hasQuery = hq at *
              generalize x.hasFrag = hf at *
              have HBN := Lib.hid (fun ob : Obj => hbm.trans ((ext_alloc (Below.refl _ wr) ob).mono hbm.size))
              have HR2 := Lib.hid (fun ob : Obj => (show OrRel wi nr (.int .i64 ((m : Int) + 1)) (wr.alloc ob) from ⟨m + 1, by go_num, hlt3, HBN.out ob⟩))
              clear k0 k1 k2 k3 k4 k5 k6 k7 k8 k9 r0 r1 r2 r3 r4 r5 r6 r7 r8 r9 hcx hx RO hSx hbm gx
              rcases hP with rfl | ⟨rfl, tp⟩ <;> rcases hF with rfl | ⟨rfl, tf⟩ <;> rcases hQ with ⟨rfl, rfl⟩ | ⟨rfl, tq⟩
              all_goals go_wp2
              all_goals refine ⟨?_, by simp [intOf]; omega⟩
              all_goals first | exact HR2.out _ | ((repeat apply Exists.intro); exact ⟨HR2.out _, rfl⟩)
            · have t6 : decide ((m : Int) < (nr : Int)) = false := decide_eq_false (by omega)
              have t6' : decide (m < nr) = false := decide_eq_false hlt3
              have HBE := Lib.hid (HB5.out.trans (hbm.mono HB5.out.size))
              clear hbm
              go_wp2
              refine ⟨?_, by simp [intOf]; omega⟩
              have R : OrRel w2 nd (.int .i64 ((j : Int) + 1)) wr := ⟨j + 1, by go_num, hlt, HBE.out⟩
              first | exact R | ((repeat apply Exists.intro); exact ⟨R, rfl⟩)
      · have t1 : decide ((j : Int) < (nd : Int)) = false := decide_eq_false (by omega)
        have t1' : decide (j < nd) = false := decide_eq_false hlt
        have HP := Lib.hid (ext_trans B2.out hbr)
        clear hbr hlt
        go_wp2
        go_ret
        exact ⟨rfl, HP.out⟩
theorem aasaOrder_any (w : World) (v : Value) (B : ByteArray) (h : Rd (Own w) w v (bytesDB B)) (he : E20 w) : Calls Tryz.prog 3 #[v] w fun e w' => e = .returned (.bool true) ∧ Below w.heap.size w w' := by
 obtain ⟨a, c, rfl, _⟩ := h.by_inv
 exact aasaOrder_at w a c B h he
end Go.Proofs.YtcaiibkgajhohaaGreatDoor
