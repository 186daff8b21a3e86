/- CanonWrites: the walk. -/
import Derived.Test.YtheoaijheijojaaGreatDoorZCnx0s
import Derived.Test.YtheoaijheijojaaGreatDoorZOwn0s
namespace Go.Proofs.YtheoaijheijojaaGreatDoor
open Go.RowKit
theorem again_of {B : ByteArray} {s : PS} {id : Int} (h : parseS B ⟨1048576, 64, 5000⟩ = .ok s) (hB : B.size ≤ 2000) (hi : inS s id = true) :
    (formA s id).size ≤ 50000 ∧ ∃ s', parseS (formA s id) ⟨1048576, 64, 5000⟩ = .ok s' ∧ formA s' 0 = formA s id := by
  have hd := of_decide_eq_true hi
  obtain ⟨hw, hul⟩ := parse_wf h
  have e : formA s id = formF s.js s.ups s.ups.length id.toNat := by unfold formA; rw [if_pos hi]
  rw [e]
  refine ⟨form_small h hB (by omega) (by omega), ?_⟩
  obtain ⟨s', p1, p2, p3, p4⟩ := canon_again h hB (f := s.ups.length) (i := id.toNat) (Nat.le_refl _) (by omega)
  obtain ⟨hw', hul'⟩ := parse_wf p1
  refine ⟨s', p1, ?_⟩
  have hi' : inS s' 0 = true := inS_zero p1
  unfold formA
  rw [if_pos hi', ← p2]
  exact formF_fuel hw' _ _ _ (by simp) (by simp; omega) (by simp; omega)
set_option maxRecDepth 100000 in
set_option maxHeartbeats 64000000 in
theorem canonWrites_any (va : Value) (B : ByteArray) (id : Int) (w : World) (he : CE w) (hg : Glob w) (ha : Rd (Own w) w va (bytesDB B)) :
    Calls Tryz.prog 6 #[va, .int .i64 id] w fun e w' => e = .returned (.bool true) ∧ Below w.heap.size w w' := by
  obtain ⟨a1, c1, rfl, _, _, _⟩ := ha.by_inv
  have SP := Lib.hid (speaks08 w he)
  have HE := Lib.hid he; have HA := Lib.hid ha; have HG := Lib.hid hg
  clear he ha hg
  by_cases b1 : 2000 < B.size
  · have t1 : decide ((2000 : Int) < (B.size : Int)) = true := decide_eq_true (by omega)
    clear b1
    go_enter Tryz.func6, Tryz.ntmps6
    go_wp2_with fail
    refine SP.out.mono ?_
    rintro e w1 ⟨rfl, hb⟩
    have HB := Lib.hid hb; clear hb
    go_wp2
    go_ret
    exact ⟨rfl, HB.out⟩
  have t1 : decide ((2000 : Int) < (B.size : Int)) = false := decide_eq_false (by omega)
  have zB : B.size ≤ 2000 := by omega
  have PA := Lib.hid (fun W (hW : Below w.heap.size w W) => parse_any W _ B ⟨1048576, 64, 5000⟩ (HA.out.ext hW) (HE.out.ext hW).sc (by omega))
  have RA := Lib.hid (fun W (hW : Below w.heap.size w W) => rparse_any W _ B ⟨1048576, 64, 5000⟩ (HA.out.ext hW) (HE.out.ext hW).sc (by omega))
  clear b1
  go_enter Tryz.func6, Tryz.ntmps6
  go_wp2_with fail
  refine SP.out.mono ?_
  rintro e w1 ⟨rfl, hb⟩
  have HB1 := Lib.hid hb; clear hb
  go_wp2_with fail
  refine (wide_any _).mono ?_
  rintro e w2 ⟨rfl, hb⟩
  have HB2 := Lib.hid (ext_trans HB1.out hb); clear hb
  have PX := PA.out _ HB2.out
  cases hx : parseS B ⟨1048576, 64, 5000⟩ with
  | no q p =>
    rw [hx] at PX
    have PX := Lib.hid PX
    have HX := Lib.hid hx
    clear hx
    go_wp2_with fail
    refine PX.out.mono ?_
    rintro e w3 ⟨u, rfl, hf⟩
    have HB3 := Lib.hid (ext_trans HB2.out hf.2)
    clear hf PX
    go_wp2_with fail
    refine (wide_any _).mono ?_
    rintro e w4 ⟨rfl, hb⟩
    have HB4 := Lib.hid (ext_trans HB3.out hb); clear hb
    have RX := RA.out _ HB4.out
    rw [HX.out] at RX
    have RX := Lib.hid RX
    go_wp2_with fail
    refine RX.out.mono ?_
    rintro e w5 ⟨hq, rfl, hb⟩
    have HB5 := Lib.hid (ext_trans HB4.out hb)
    have tq : ((q : Int) != 0) = true := bne_iff_ne.2 (by omega)
    clear hb hq
    go_wp2
    go_ret
    exact ⟨rfl, HB5.out⟩
  | ok s =>
    rw [hx] at PX
    have PX := Lib.hid PX
    have HX := Lib.hid hx
    clear hx
    go_wp2_with fail
    refine PX.out.mono ?_
    rintro e w3 ⟨D, T, tv, ns, rfl, hd, hb⟩
    have HB3 := Lib.hid (ext_trans HB2.out hb)
    have HV3 := Lib.hid (pview_of hd HX.out (by omega))
    clear hb hd PX
    go_wp2_with fail
    refine (wide_any _).mono ?_
    rintro e w4 ⟨rfl, hb⟩
    have HV4 := Lib.hid (HV3.out.below hb)
    have HB4 := Lib.hid (ext_trans HB3.out hb); clear hb
    have RX := RA.out _ HB4.out
    rw [HX.out] at RX
    have RX := Lib.hid RX
    go_wp2_with fail
    refine RX.out.mono ?_
    rintro e w5 ⟨R, gn, cn, gu, cu, rfl, hr, hb⟩
    have HV5 := Lib.hid (HV4.out.below hb)
    have HB5 := Lib.hid (ext_trans HB4.out hb)
    have HR5 := Lib.hid hr
    clear hb hr RX
    have FX := Lib.hid (fenv_of HX.out (by omega))
    have WX := Lib.hid (write_any _ D T s 5000 tv ns B.size FX.out id w5 (HE.out.ext HB5.out).sc HV5.out)
    go_wp2_with fail
    refine WX.out.mono ?_
    intro e w6 hp
    rcases hp with ⟨hi, rfl, hb⟩ | ⟨hi, p, rfl, hu, hb⟩
    · have HV6 := Lib.hid (HV5.out.below hb)
      have HR6 := Lib.hid (HR5.out.below hb)
      have HB6 := Lib.hid (ext_trans HB5.out hb)
      have HAS := rhas7_any w6 R gn cn gu cu s id HR6.out
      rw [show decide (0 ≤ id ∧ id < (s.js.length : Int)) = true from hi] at HAS
      have FO := rform_at R gn cn gu cu s B.size FX.out id hi w6 HR6.out
      obtain ⟨hz, s2, hp2, hf2⟩ := again_of HX.out zB hi
      have hs2 : inS s2 0 = true := inS_zero hp2
      have hsm : sameB s id s2 0 = true := by unfold sameB; rw [hi, hs2, hf2]; simp
      obtain ⟨X, hX⟩ : ∃ X, formA s id = X := ⟨_, rfl⟩
      rw [hX] at FO hz hp2 hf2 ⊢
      have HAS := Lib.hid HAS; have FO := Lib.hid FO; have HP2 := Lib.hid hp2; have HF2 := Lib.hid hf2; have HS2 := Lib.hid hs2; have HSM := Lib.hid hsm
      clear hb hi hX hp2 hf2 hs2 hsm WX
      go_wp2_with fail
      go_at_call 13
      refine HAS.out.mono ?_
      rintro e y0 ⟨rfl, rfl⟩
      go_wp2_with fail
      go_at_call 14
      refine FO.out.mono ?_
      rintro e w7 ⟨rfl, hb⟩
      have HV7 := Lib.hid (HV6.out.below hb)
      have HB7 := Lib.hid (ext_trans HB6.out hb)
      have tx := beqS_t (rfl : X = X)
      clear hb FO HAS
      obtain ⟨W8, cap, hcv, hcap, hb8, hz8, hcell⟩ := bytes_of_string X w7
      have L := rd_of_cells (S := Own W8) (B := X) (b := w7.heap.size) hz8 hcap hcell
      have HB8 := Lib.hid (ext_trans HB7.out hb8)
      have HV8 := Lib.hid (HV7.out.below hb8)
      have PX := Lib.hid (fun W (hW : Below W8.heap.size W8 W) => by
        have := parse_any W _ X ⟨1048576, 64, 5000⟩ (L.ext hW) (HE.out.ext (ext_trans HB8.out hW)).sc (by omega)
        rw [HP2.out] at this
        exact this)
      have F2 := Lib.hid (fenv_of HP2.out (by omega))
      clear hb8 hz8 hcell L hcap
      go_wp2_with fail
      refine (wide_any _).mono ?_
      rintro e w9 ⟨rfl, hb⟩
      have HV9 := Lib.hid (HV8.out.below hb)
      have HB9 := Lib.hid (ext_trans HB8.out hb)
      have PX9 := Lib.hid (PX.out _ hb)
      clear hb PX hcv
      go_wp2_with fail
      refine PX9.out.mono ?_
      rintro e w10 ⟨D2, T2, tv2, ns2, rfl, hd2, hb⟩
      have HV10 := Lib.hid (HV9.out.below hb)
      have HB10 := Lib.hid (ext_trans HB9.out hb)
      have HV2 := Lib.hid (pview_of hd2 HP2.out (by omega))
      have WX := Lib.hid (write_any _ D2 T2 s2 5000 tv2 ns2 X.size F2.out 0 w10 (HE.out.ext HB10.out).sc HV2.out)
      clear hb hd2 PX9
      go_wp2_with fail
      go_at_call 22
      refine WX.out.mono ?_
      intro e w11 hp
      have hp' : e = .returned (.tuple #[.string X, .nilIface]) ∧ Below w10.heap.size w10 w11 := by
        rcases hp with ⟨_, h, hb⟩ | ⟨h, _⟩
        · rw [HF2.out] at h; exact ⟨h, hb⟩
        · rw [HS2.out] at h; cases h
      obtain ⟨rfl, hb⟩ := hp'
      have HB11 := Lib.hid (ext_trans HB10.out hb)
      have SM := csame_any w11 _ D T s 5000 tv ns B.size FX.out _ D2 T2 s2 5000 tv2 ns2 X.size F2.out id 0 (HE.out.ext HB11.out).sc (HV10.out.below hb) (HV2.out.below hb)
      rw [HSM.out] at SM
      have SM := Lib.hid SM
      clear hb hp WX
      go_wp2_with fail
      go_at_call 15
      refine SM.out.mono ?_
      rintro e w12 ⟨rfl, hb⟩
      have HB12 := Lib.hid (ext_trans HB11.out hb); clear hb
      go_wp2
      go_ret
      exact ⟨rfl, HB12.out⟩
    · have HR6 := Lib.hid (HR5.out.below hb)
      have HB6 := Lib.hid (ext_trans HB5.out hb)
      have HAS := rhas7_any w6 R gn cn gu cu s id HR6.out
      rw [show decide (0 ≤ id ∧ id < (s.js.length : Int)) = false from hi] at HAS
      have TD := Lib.hid (told8_any w6 _ 30 id (HG.out.ext HB6.out) hu)
      have HAS := Lib.hid HAS
      clear hb hi hu WX
      go_wp2_with fail
      go_at_call 13
      refine HAS.out.mono ?_
      rintro e y0 ⟨rfl, rfl⟩
      go_wp2_with fail
      go_at_call 21
      refine TD.out.mono ?_
      rintro e w7 ⟨rfl, hb⟩
      have HB7 := Lib.hid (ext_trans HB6.out hb); clear hb
      go_wp2
      go_ret
      exact ⟨rfl, HB7.out⟩
end Go.Proofs.YtheoaijheijojaaGreatDoor
