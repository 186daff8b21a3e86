/- Two trees that are one: the law's 'same', at a number that is there. -/
import Derived.Test.YtmdalkjhlhkloaaDoorArena20
namespace Go.Proofs.YtmdalkjhlhkloaaDoor
open Go.RowKit
set_option maxRecDepth 100000 in
set_option maxHeartbeats 64000000 in
theorem same_in (B R : Nat) (v vV vU : Value) (ns : List ANode) (vs us : List Int) (most : Int) (ups : List Nat) (i : Nat) (w : World) (h : Twin w B v ns R vV vU vs us most ups) (hi : i < ns.length) :
    Calls Tryd.prog 23 #[.pointer (some ⟨B, 0, none⟩), .pointer (some ⟨R, 0, none⟩), .int .i64 i] w fun e w' => e = .returned (.bool true) ∧ Below w.heap.size w w' := by
  have hln : ns.length = vs.length := by rw [h.nlen, h.len]
  have hil : i < ups.length := by rw [← h.nlen]; exact hi
  obtain ⟨a, ha⟩ := get_ex ns i hi
  obtain ⟨n, hvn, hav⟩ := h.val ha
  have hnm : ns.length ≤ 1000000 := by rw [h.nlen]; exact h.small
  have hsm := h.small
  obtain ⟨gV, capV, rfl⟩ := h.m.formV (by omega)
  obtain ⟨gU, capU, rfl⟩ := h.m.formU (by have := h.rups.len; omega)
  have hUl := h.rups.len
  have K1 := Lib.hid (value_in B v ns most w i a n h.t ha hav hnm)
  have K2 := Lib.hid (fun W (hW : Below w.heap.size w W) => by have := rhas_any R _ _ vs us most i W (h.m.below hW); rw [decide_eq_true (by omega : 0 ≤ (i : Int) ∧ (i : Int) < (vs.length : Int))] at this; exact this)
  have K3 := Lib.hid (rkids_in R _ _ vs us most ups i w h.m h.len h.rups hil hsm)
  have K4 := Lib.hid (fun W (hW : Below w.heap.size w W) => kids_any B v ns ups most i W (h.t.below hW) h.good hil hnm)
  have K5 := Lib.hid (fun W (hW : Below w.heap.size w W) => deep_any B v ns most i a W (h.t.below hW) ha hnm)
  have K6 := Lib.hid (fun W (hW : Below w.heap.size w W) => rdeep_in R _ _ vs us most ns ups i a W (h.m.below hW) h.len h.rups h.good h.wf ha hsm)
  have K7 := Lib.hid (fun W (hW : Below w.heap.size w W) => walk_any B v ns ups most i W (h.t.below hW) h.good h.wf hil hnm)
  have K8 := Lib.hid (fun W (hW : Below w.heap.size w W) => rwalk_in R _ _ vs us most ups h.len h.rups h.wf hsm ups.length i W (by omega) hil (h.m.below hW))
  have K9 := Lib.hid (fun (q x : Nat) (hx : (kids ups i)[q]? = some x) W (hW : Below w.heap.size w W) => kid_in B v ns ups most i q x W (h.t.below hW) h.good hil hx hnm)
  have hcnt := h.good.count i a ha
  have K9o := Lib.hid (fun (q : Int) (hq : q < 0 ∨ a.count ≤ q) W (hW : Below w.heap.size w W) => kid_out B v ns most W i q a (h.t.below hW) ha hq hnm)
  have K10 := Lib.hid (fun (h0 : 0 < i) W (hW : Below w.heap.size w W) => up_in B v ns most W i a (h.t.below hW) ha h0 hnm)
  have K10o := Lib.hid (fun (h0 : ¬ 0 < i) W (hW : Below w.heap.size w W) => up_out B v ns most W i (h.t.below hW) (by omega))
  have KS := Lib.hid (fun (T1 T2 : Nat → Prop) (v1 v2 : Value) (l : List Nat) (W : World) (h1 : Rd T1 W v1 (intsD l)) (h2 : Rd T2 W v2 (intsD l)) (hl : l.length ≤ 1000000) => sameI_any v1 v2 l W h1 h2 hl)
  have HUP : Hid (0 < i → ∃ u : Nat, us[i]? = some (u : Int) ∧ a.up = u) := Lib.hid (fun h0 => by
    obtain ⟨u, hu⟩ := get_ex ups i hil
    exact ⟨u, h.rups.up i u h0 hu, h.good.up i u a h0 hu ha⟩)
  have hpl := pre_length h.wf ups.length i hil
  have hkl := kids_le ups i
  have HPL := Lib.hid hpl; have HKL := Lib.hid hkl; have HCN := Lib.hid hcnt
  have c0 := h.m.cell0
  have x0 := h.m.valCell rfl hvn
  have HT := Lib.hid h
  have hiv : i < vs.length := by omega
  have hiu : i < us.length := by omega
  have q9 : (i : Int) < (vs.length : Int) := by omega
  have q10 : (i : Int) < (us.length : Int) := by omega
  clear h hln ha hvn hav hi hcnt hpl hkl hUl hnm
  go_enter Tryd.func23, Tryd.ntmps23
  go_wp2_with fail
  refine K1.out.mono ?_
  rintro e w1 ⟨rfl, rfl⟩
  go_wp2_with fail
  refine (K2.out _ (Below.refl _ _)).mono ?_
  rintro e w1 ⟨rfl, rfl⟩
  go_wp2_with fail
  refine K3.out.mono ?_
  rintro e w1 ⟨v1, rfl, r1, hb1⟩
  have e0 : (kids ups i).map (fun x => Dat.int .i64 (x : Nat)) = ((kids ups i).map fun x => ((x : Nat) : Int)).map (Dat.int .i64) := by simp
  have r1' := r1
  simp only [intsD, e0] at r1'
  obtain ⟨aK, cK, rfl, _, _, hcK⟩ := r1'.ints_inv
  rw [List.length_map] at hcK r1 ⊢
  have HB1 := Lib.hid hb1; have R1 := Lib.hid r1; have HCK := Lib.hid hcK
  clear hb1 r1 r1' e0 hcK x0 c0
  go_wp2_with fail
  refine (K4.out _ HB1.out).mono ?_
  rintro e w2 ⟨v2, rfl, r2, hb2⟩
  have HS2 := Lib.hid (KS.out _ _ _ _ _ w2 r2 (R1.out.mono (fun k hk => hb2.block k hk.2) (fun k hk => hk)) (Nat.le_trans HKL.out hsm))
  have HB2 := Lib.hid (ext_trans HB1.out hb2)
  have HB12 := Lib.hid hb2
  clear hb2 r2
  go_wp2_with fail
  refine HS2.out.mono ?_
  rintro e w3 ⟨rfl, hb3⟩
  have HB3 := Lib.hid (ext_trans HB2.out hb3); have HB13 := Lib.hid (ext_trans HB12.out hb3); clear hb3 HS2 HB12
  go_wp2_with fail
  refine (K5.out _ HB3.out).mono ?_
  rintro e w4 ⟨rfl, rfl⟩
  go_wp2_with fail
  refine (K6.out _ HB3.out).mono ?_
  rintro e w4 ⟨rfl, rfl⟩
  go_wp2_with fail
  refine (K7.out _ HB3.out).mono ?_
  rintro e w4 ⟨v4, rfl, r4, hb4⟩
  have HB4 := Lib.hid (ext_trans HB3.out hb4); have HB14 := Lib.hid (ext_trans HB13.out hb4); have R4 := Lib.hid r4
  clear hb4 r4
  go_wp2_with fail
  refine (K8.out _ HB4.out).mono ?_
  rintro e w5 ⟨v5, rfl, r5, hb5⟩
  have HS5 := Lib.hid (KS.out _ _ _ _ _ w5 (R4.out.mono (fun k hk => hb5.block k hk.2) (fun k hk => hk)) r5 (Nat.le_trans HPL.out hsm))
  have HB5 := Lib.hid (ext_trans HB4.out hb5); have HB15 := Lib.hid (ext_trans HB14.out hb5)
  clear hb5 r5 R4
  go_wp2_with fail
  refine HS5.out.mono ?_
  rintro e w6 ⟨rfl, hb6⟩
  have HB6 := Lib.hid (ext_trans HB5.out hb6); have HB16 := Lib.hid (ext_trans HB15.out hb6); clear hb6 HS5
  go_wp2_with fail
  go_loopw [82] (SaRel (kids ups i).length w6) (fun k _ => (kids ups i).length - (intOf k).toNat)
  case atStart => exact ⟨0, rfl, Nat.zero_le _, Below.refl _ _⟩
  case round =>
    obtain ⟨j, rfl, hj, hb⟩ := hrel
    have HBW := Lib.hid (ext_trans HB6.out hb)
    have hkb : (kids ups i).length ≤ 1000000 := Nat.le_trans HKL.out hsm
    by_cases hlt : j < (kids ups i).length
    · have t1 : decide ((j : Int) < ((kids ups i).length : Int)) = true := decide_eq_true (by omega)
      have t1' : decide (j < (kids ups i).length) = true := decide_eq_true hlt
      have q2 : (j : Int) < ((kids ups i).length : Int) := by omega
      obtain ⟨x, hx⟩ := get_ex (kids ups i) j hlt
      obtain ⟨bK, oK, rfl, hSK, hcK⟩ := HCK.out (by omega)
      have y0 := hcK j (x : Nat) (by simp [hx])
      rw [← cell_keep ((ext_trans HB16.out hb).block bK hSK.2)] at y0
      have KK := Lib.hid (K9.out j x hx wr HBW.out)
      have HRL : Hid (SaRel (kids ups i).length w6 (.int .i64 (j + 1)) wr) := Lib.hid ⟨j + 1, by go_num, hlt, hb⟩
      clear hb hcK hSK hx
      go_wp2_with fail
      refine KK.out.mono ?_
      rintro e w7 ⟨rfl, rfl⟩
      go_wp2
      refine ⟨?_, by simp [intOf] <;> omega⟩
      have R := HRL.out
      first | exact R | ((repeat apply Exists.intro); exact ⟨R, rfl⟩)
    · have t1 : decide ((j : Int) < ((kids ups i).length : Int)) = false := decide_eq_false (by omega)
      have t1' : decide (j < (kids ups i).length) = false := decide_eq_false hlt
      clear hb hlt
      go_wp2_with fail
      refine (K9o.out _ (.inr (by rw [HCN.out]; exact Int.le_refl _)) _ HBW.out).mono ?_
      rintro e w7 ⟨rfl, rfl⟩
      go_wp2_with fail
      refine (K9o.out _ (.inl (by decide)) _ HBW.out).mono ?_
      rintro e w7 ⟨rfl, rfl⟩
      by_cases h0 : 0 < i
      · have t2 : decide ((0 : Int) < (i : Int)) = true := decide_eq_true (by omega)
        have t2' : decide (0 < i) = true := decide_eq_true h0
        obtain ⟨u, hu, hau⟩ := HUP.out h0
        have KU := K10.out h0 wr HBW.out
        rw [hau] at KU
        have KU := Lib.hid KU
        have c1 := (HT.out.m.below HBW.out).cell1
        have z0 := (HT.out.m.below HBW.out).upCell rfl hu
        clear hu hau
        go_wp2_with fail
        refine KU.out.mono ?_
        rintro e w7 ⟨rfl, rfl⟩
        go_wp2_with fail
        refine (K2.out _ HBW.out).mono ?_
        rintro e w8 ⟨rfl, rfl⟩
        go_wp2
        go_ret
        exact ⟨rfl, HBW.out⟩
      · have t2 : decide ((0 : Int) < (i : Int)) = false := decide_eq_false (by omega)
        have t2' : decide (0 < i) = false := decide_eq_false h0
        go_wp2_with fail
        refine (K10o.out h0 _ HBW.out).mono ?_
        rintro e w7 ⟨rfl, rfl⟩
        go_wp2
        go_ret
        exact ⟨rfl, HBW.out⟩
theorem same_any (B R : Nat) (v vV vU : Value) (ns : List ANode) (vs us : List Int) (most : Int) (ups : List Nat) (id : Int) (w : World) (h : Twin w B v ns R vV vU vs us most ups) :
    Calls Tryd.prog 23 #[.pointer (some ⟨B, 0, none⟩), .pointer (some ⟨R, 0, none⟩), .int .i64 id] w fun e w' => e = .returned (.bool true) ∧ Below w.heap.size w w' := by
  by_cases hid : 0 ≤ id ∧ id < ns.length
  · obtain ⟨i, rfl⟩ := Int.eq_ofNat_of_zero_le hid.1
    exact same_in B R v vV vU ns vs us most ups i w h (by omega)
  · exact same_out B R v vV vU ns vs us most ups id w h hid
end Go.Proofs.YtmdalkjhlhkloaaDoor
