/- One value held against the document's, by all calls: the walk of the law's node. -/
import Derived.Test.YtmhfbdeeebbloaaGreatDoorZJsO1s
import Derived.Deep.DeepCutAuto
import Derived.Deep.CutBlock
import Derived.BigQuiet
namespace Go.Proofs.YtmhfbdeeebbloaaGreatDoor
open Go.RowKit
theorem nodeA_get {js : List JN} {i : Nat} (h : i < js.length) : js[i]? = some (nodeA js i) := by
  obtain ⟨x, hx⟩ := get_ex js i h
  rw [nodeA_in hx]; exact hx
set_option maxRecDepth 100000 in
set_option maxHeartbeats 64000000 in
theorem node7_any (w : World) (base D T : Nat) (s : PS) (nodes : Int) (tv : Value) (ns : List ANode) (DR gn cn gu cu : Nat) (id : Int) (key : ByteArray) (h : Both w base D T s nodes tv ns DR gn cn gu cu) :
    Calls Tryz.prog 12 #[ptrV D, ptrV DR, .int .i64 id, .string key] w fun e w' => e = .returned (.bool true) ∧ Below w.heap.size w w' := by
  have HB := Lib.hid (fun W (hW : Below w.heap.size w W) => h.below hW)
  have ND := Lib.hid (node_u h id)
  obtain ⟨y, hy⟩ : ∃ y, nodeA s.js id = y := ⟨_, rfl⟩
  obtain ⟨ok, hok⟩ : ∃ ok, decide (0 ≤ id ∧ id < (s.js.length : Int)) = ok := ⟨_, rfl⟩
  rw [hy, hok] at ND
  have HY := Lib.hid hy; have HOK := Lib.hid hok
  have hjl := h.jl
  have HJL := Lib.hid hjl
  clear h hy hjl hok
  have TD := Lib.hid (fun W (hW : Below w.heap.size w W) u k a (he : ErrIs W u (k, a)) => told7_any W u k a (HB.out W hW).gl he)
  have CK := Lib.hid (fun W (hW : Below w.heap.size w W) kind => rcheck_any W DR gn cn gu cu s id kind (HB.out W hW).v (by have := HJL.out; omega))
  go_enter Tryz.func12, Tryz.ntmps12
  go_wp2_with fail
  refine ND.out.mono ?_
  rintro e w1 ⟨rfl, hb1⟩
  have hbb := HB.out _ (ext_alloc hb1 (.cells #[.int .i64 y.kind, .string y.key, .string y.text, .int .i64 y.at_] 40))
  obtain ⟨W2, hW2⟩ : ∃ W, w1.alloc (.cells #[.int .i64 y.kind, .string y.key, .string y.text, .int .i64 y.at_] 40) = W := ⟨_, rfl⟩
  have hx2 : W2.heap[w1.heap.size]? = some (.cells #[.int .i64 y.kind, .string y.key, .string y.text, .int .i64 y.at_] 40 (0, 0)) := by rw [← hW2]; exact heap_alloc_new w1 _
  have HB2 : Hid (Below w.heap.size w W2) := Lib.hid (by rw [← hW2]; exact ext_alloc hb1 _)
  rw [hW2] at hbb
  have HBB := Lib.hid hbb
  have kx2 := fun j => show W2.cell? ⟨w1.heap.size, j, none⟩ = (#[.int .i64 y.kind, .string y.key, .string y.text, .int .i64 y.at_] : Array Value)[j]? by simp [World.cell?, hx2]
  have zx2 := heap_lt hx2
  clear hb1 hbb hx2
  go_upto_if 61 with (fail)
  clear hW2
  go_cut [61] from 34 to 61 (fun s61 wx => s61 = .bool false ∧ Below w.heap.size w wx)
  case first =>
    have HHS := Lib.hid (fun n => rhas7_any (W2.drewN n) DR gn cn gu cu s id (HBB.out.v.below (drewN_below _ n)))
    by_cases hid : 0 ≤ id ∧ id < s.js.length
    · obtain ⟨i, rfl⟩ : ∃ i : Nat, id = i := ⟨id.toNat, by omega⟩
      have hx := nodeA_get (js := s.js) (i := i) (by omega)
      rw [HY.out] at hx
      obtain ⟨n0, n1, n2, n3⟩ := HBB.out.v.nd i y hx
      have c0 := HBB.out.v.c0
      have zD := HBB.out.v.zD
      have zN := HBB.out.v.zN
      have hil : i < s.js.length := by omega
      have td : ok = true := HOK.out.symm.trans (decide_eq_true hid)
      rw [HOK.out] at HHS
      clear hx hid
      subst td
      go_wp2_with fail
      go_quiet ((go_at_call 29; exact quiet_eq (HHS.out _)))
      go_wp2
      go_meet
      exact ⟨rfl, drewN_heapB HB2.out _⟩
    · have td : ok = false := HOK.out.symm.trans (decide_eq_false hid)
      rw [HOK.out] at HHS
      have hy2 : y = jz := by rw [← HY.out]; exact nodeA_out hid
      clear hid
      subst td
      subst hy2
      simp only [jz] at kx2 ⊢
      go_wp2_with fail
      go_quiet ((go_at_call 29; exact quiet_eq (HHS.out _)))
      go_wp2
      go_meet
      exact ⟨rfl, drewN_heapB HB2.out _⟩
  case rest =>
    obtain ⟨rfl, hcb⟩ := hcut
    clear kx2 zx2 HB2 HBB ND
    have IT := Lib.hid (items_u (HB.out wc hcb) id)
    have HW := Lib.hid hcb
    clear hcb
    go_wp2_with fail
    refine IT.out.mono ?_
    rintro e w3 ⟨v3, u3, rfl, he3, hg3, hz3, hb3⟩
    have HW3 := Lib.hid (ext_trans HW.out hb3)
    have CK3 := Lib.hid (CK.out w3 HW3.out 5)
    obtain ⟨c5, a5, hc5⟩ : ∃ c5 a5, checkS s.js id 5 = (c5, a5) := ⟨_, _, rfl⟩
    rw [hc5] at CK3 he3 hg3 hz3
    simp only at hg3 hz3
    have HE3 := Lib.hid he3; have HG3 := Lib.hid hg3; have HZ3 := Lib.hid hz3; have HC5 := Lib.hid hc5
    clear hb3 he3 hg3 hz3 hc5 IT
    go_wp2_with fail
    refine CK3.out.mono ?_
    rintro e w4 ⟨rfl, hb4⟩
    have HW4 := Lib.hid (ext_trans HW3.out hb4)
    have HE4 := Lib.hid (HE3.out.ext hb4)
    have HB34 := Lib.hid hb4
    clear hb4
    (try simp only)
    go_upto_region 6 with (fail)
    go_cut [99] from 74 to 99 (fun s99 wx => s99 = .bool false ∧ Below w.heap.size w wx)
    case first =>
      have TD4 := Lib.hid (TD.out w4 HW4.out u3 c5 a5 HE4.out)
      by_cases h0 : c5 = 0
      · obtain ⟨i, x, rfl, _, _, hil⟩ := checkS_zero (js := s.js) (id := id) (kind := 5) (by rw [HC5.out]; exact h0)
        have hrd := HG3.out h0
        rw [Int.toNat_natCast] at hrd
        have hkl := kids_le s.ups i
        have hul := (HB.out w4 HW4.out).v.ul
        obtain ⟨a3, c3, rfl, _, _, _⟩ := hrd.nats_inv
        have HRD := Lib.hid (hrd.ext HB34.out)
        generalize hkk : kids s.ups i = kk at *
        have HKK := Lib.hid hkk
        have RK := Lib.hid (fun W (hW : Below w.heap.size w W) => by
          have := rkids7_any W DR gn cn gu cu s i (HB.out W hW).v (by have := HJL.out; omega)
          rw [HKK.out] at this
          exact this)
        have hkm : kk.length ≤ 1000000 := by have := HJL.out; omega
        subst h0
        clear hrd hkk hul hkl hil
        go_wp2_with fail
        refine TD4.out.mono ?_
        rintro e w5 ⟨rfl, hb5⟩
        have HW5 := Lib.hid (ext_trans HW4.out hb5)
        have HRD5 := Lib.hid (HRD.out.ext hb5)
        clear hb5
        go_wp2_with fail
        refine (RK.out _ HW5.out).mono ?_
        rintro e w6 ⟨v6, rfl, hr6, hb6⟩
        have SM := Lib.hid (same7_any _ _ kk w6 (HRD5.out.ext hb6) hr6 hkm)
        have HW6 := Lib.hid (ext_trans HW5.out hb6)
        clear hr6 hb6
        go_wp2_with fail
        refine SM.out.mono ?_
        rintro e w7 ⟨rfl, hb7⟩
        have HW7 := Lib.hid (ext_trans HW6.out hb7)
        clear hb7
        go_wp2
        go_meet
        exact ⟨rfl, HW7.out⟩
      · have t0 : (c5 == 0) = false := beq_eq_false_iff_ne.2 h0
        have t1 : (c5 != 0) = true := bne_iff_ne.2 h0
        obtain rfl := HZ3.out h0
        clear h0
        go_wp2_with fail
        refine TD4.out.mono ?_
        rintro e w5 ⟨rfl, hb5⟩
        have HW5 := Lib.hid (ext_trans HW4.out hb5)
        clear hb5
        go_wp2
        go_meet
        exact ⟨rfl, HW5.out⟩
    case rest =>
      obtain ⟨rfl, hcb⟩ := hcut
      have MB := Lib.hid (members_u (HB.out wc hcb) id)
      have HW5 := Lib.hid hcb
      clear hcb
      clear HE3 HG3 HZ3 HC5 CK3 HW3 HW4 HE4 HB34
      go_wp2_with fail
      refine MB.out.mono ?_
      rintro e w6 ⟨v6, u6, rfl, he6, hg6, hz6, hb6⟩
      have HW6 := Lib.hid (ext_trans HW5.out hb6)
      have ME := Lib.hid (member_u (HB.out w6 HW6.out) id key)
      have HE6 := Lib.hid he6; have HG6 := Lib.hid hg6; have HZ6 := Lib.hid hz6
      clear he6 hg6 hz6 hb6 MB
      go_wp2_with fail
      refine ME.out.mono ?_
      rintro e w7 ⟨one, u7, rfl, hb7, hz7, hg7⟩
      have HW7 := Lib.hid (ext_trans HW6.out hb7)
      have HB67 := Lib.hid hb7
      have CK7 := Lib.hid (CK.out w7 HW7.out 6)
      obtain ⟨c6, a6, hc6⟩ : ∃ c6 a6, checkS s.js id 6 = (c6, a6) := ⟨_, _, rfl⟩
      have hg6 := HG6.out
      have hz6 := HZ6.out
      have he6 := HE6.out
      rw [hc6] at CK7 hg6 hz6 he6 hz7 hg7
      simp only at hg6 hz6 hz7 hg7
      have HE6 := Lib.hid (he6.ext hb7); have HG6 := Lib.hid hg6; have HZ6 := Lib.hid hz6; have HC6 := Lib.hid hc6; have HZ7 := Lib.hid hz7; have HG7 := Lib.hid hg7
      clear he6 hg6 hz6 hb7 hz7 hg7 hc6 ME
      go_wp2_with fail
      refine CK7.out.mono ?_
      rintro e w8 ⟨rfl, hb8⟩
      have HW8 := Lib.hid (ext_trans HW7.out hb8)
      have HE8 := Lib.hid (HE6.out.ext hb8)
      have HB78 := Lib.hid hb8
      clear hb8
      (try simp only)
      go_upto_if 120 with (fail)
      go_cut [] from 119 to 186 (fun wx => Below w.heap.size w wx)
      case first =>
        have TD8 := Lib.hid (fun W (hW : Below w8.heap.size w8 W) => TD.out W (ext_trans HW8.out hW) u6 c6 a6 (HE8.out.ext hW))
        by_cases h0 : c6 = 0
        · obtain ⟨i, x, rfl, hx, _, hil⟩ := checkS_zero (js := s.js) (id := id) (kind := 6) (by rw [HC6.out]; exact h0)
          have hrd := HG6.out h0
          obtain ⟨hone, he7⟩ := HG7.out h0
          have hu6 : u6 = .nilIface := by
            rcases HE8.out with ⟨_, h⟩ | ⟨h, _⟩
            · exact h
            · exact absurd h0 h
          rw [Int.toNat_natCast] at hrd hone he7
          have hkl := kids_le s.ups i
          have hul := (HB.out w8 HW8.out).v.ul
          obtain ⟨a3, c3, rfl, _, _, _⟩ := hrd.nats_inv
          have HRD := Lib.hid ((hrd.ext HB67.out).ext HB78.out)
          have HE7 := Lib.hid (he7.ext HB78.out)
          have hxy : x = y := by rw [← HY.out]; exact (nodeA_in hx).symm
          subst hxy
          rw [HY.out] at HE7
          generalize hkk : kids s.ups i = kk at *
          have HKK := Lib.hid hkk
          have hml : (membersS s.js kk).length ≤ kk.length := by unfold membersS; exact List.length_filter_le _ _
          have hvw := (HB.out w8 HW8.out).v
          have RM := Lib.hid (by
            have := rmember7_any w8 DR gn cn gu cu s i key hvw (by have := HJL.out; omega)
            rw [HKK.out, ← hone] at this
            exact this)
          have RMS := Lib.hid (fun W (hW : Below w.heap.size w W) => by
            have := rmembers7_any W DR gn cn gu cu s i (HB.out W hW).v (by have := HJL.out; omega)
            rw [HKK.out] at this
            exact this)
          have HVD := Lib.hid (fun W (hW : Below w.heap.size w W) => (HB.out W hW).v)
          have HX := Lib.hid hx
          have hkm : (membersS s.js kk).length ≤ 1000000 := by have := HJL.out; omega
          subst h0
          subst hu6
          have HHL := Lib.hid hil
          clear hrd hkk hul hkl he7 hone hvw hx hml hil
          generalize anyK s.js kk key = there at *
          go_wp2_with fail
          refine RM.out.mono ?_
          rintro e w9 ⟨rfl, hb9⟩
          have HW9 := Lib.hid (ext_trans HW8.out hb9)
          have HRD9 := Lib.hid (HRD.out.ext hb9)
          have HE9 := Lib.hid (HE7.out.ext hb9)
          clear hb9
          go_wp2_with fail
          refine (RMS.out _ HW9.out).mono ?_
          rintro e w10 ⟨v10, rfl, hr10, hb10⟩
          have SM := Lib.hid (same7_any _ _ _ w10 (HRD9.out.ext hb10) hr10 hkm)
          have HW10 := Lib.hid (ext_trans HW9.out hb10)
          have HE10 := Lib.hid (HE9.out.ext hb10)
          clear hr10 hb10
          go_wp2_with fail
          refine SM.out.mono ?_
          rintro e w11 ⟨rfl, hb11⟩
          have HW11 := Lib.hid (ext_trans HW10.out hb11)
          have hE11 := HE10.out.ext hb11
          clear hb11
          have tq : (one != one) = false := bne_self_eq_false one
          cases there with
          | true =>
            have hu7 : u7 = .nilIface := by
              rcases hE11 with ⟨_, h⟩ | ⟨h, _⟩
              · exact h
              · exact absurd rfl h
            subst hu7
            clear hE11
            go_wp2
            go_meet
            exact HW11.out
          | false =>
            have hE12 : ErrIs w11 u7 (30, x.at_) := hE11
            obtain ⟨p, hp⟩ : ∃ p, u7 = .iface 102 (.pointer (some p)) := by
              rcases hE12 with ⟨h, _⟩ | ⟨_, h⟩
              · exact absurd h (by show ¬ (30 : Int) = 0; decide)
              · obtain ⟨b, off, uu, h, _⟩ := fault_inv h
                exact ⟨_, h⟩
            have TD11 := Lib.hid (TD.out w11 HW11.out u7 30 x.at_ hE12)
            have hv := HVD.out w11 HW11.out
            obtain ⟨n0, n1, n2, n3⟩ := hv.nd i x HX.out
            have c0 := hv.c0
            have zD := hv.zD
            have zN := hv.zN
            have hil := HHL.out
            subst hp
            clear hE11 hE12 hv
            go_wp2_with fail
            refine TD11.out.mono ?_
            rintro e w12 ⟨rfl, hb12⟩
            have HW12 := Lib.hid (ext_trans HW11.out hb12)
            clear hb12
            go_wp2
            go_meet
            exact HW12.out
        · have t0 : (c6 == 0) = false := beq_eq_false_iff_ne.2 h0
          have t1 : (c6 != 0) = true := bne_iff_ne.2 h0
          obtain rfl := HZ6.out h0
          obtain ⟨rfl, he7⟩ := HZ7.out h0
          have TD9 := Lib.hid (fun W (hW : Below w8.heap.size w8 W) => TD.out W (ext_trans HW8.out hW) u7 c6 a6 ((he7.ext HB78.out).ext hW))
          clear h0 he7
          go_wp2_with fail
          refine (TD8.out _ (Below.refl _ _)).mono ?_
          rintro e w9 ⟨rfl, hb9⟩
          have HW9 := Lib.hid (ext_trans HW8.out hb9)
          have HB9 := Lib.hid hb9
          clear hb9
          go_wp2_with fail
          refine (TD9.out _ HB9.out).mono ?_
          rintro e w10 ⟨rfl, hb10⟩
          have HW10 := Lib.hid (ext_trans HW9.out hb10)
          clear hb10
          go_wp2
          go_meet
          exact HW10.out
      case rest =>
        have TX := Lib.hid (text_u (HB.out wc hcut) id)
        have HW9 := Lib.hid hcut
        clear hcut HE6 HG6 HZ6 HZ7 HG7 HC6 HW6 HW7 HB67 HB78 CK7 HE8 HW8 HW5
        go_wp2_with fail
        refine TX.out.mono ?_
        rintro e wa ⟨va, ua, rfl, hea, hga, hza, hba⟩
        have HWA := Lib.hid (ext_trans HW9.out hba)
        have CKA := Lib.hid (CK.out wa HWA.out 4)
        obtain ⟨c4, a4, hc4⟩ : ∃ c4 a4, checkS s.js id 4 = (c4, a4) := ⟨_, _, rfl⟩
        rw [hc4] at CKA hea hga hza
        simp only at hga hza
        have HEA := Lib.hid hea; have HGA := Lib.hid hga; have HZA := Lib.hid hza; have HC4 := Lib.hid hc4
        clear hba hea hga hza hc4 TX
        go_wp2_with fail
        refine CKA.out.mono ?_
        rintro e wb ⟨rfl, hbb⟩
        have HWB := Lib.hid (ext_trans HWA.out hbb)
        have HEB := Lib.hid (HEA.out.ext hbb)
        clear hbb
        (try simp only)
        go_upto_region 19 with (fail)
        go_cut [227] from 199 to 227 (fun s227 wx => s227 = .bool false ∧ Below w.heap.size w wx)
        case first =>
          have TDB := Lib.hid (TD.out wb HWB.out ua c4 a4 HEB.out)
          by_cases h0 : c4 = 0
          · obtain ⟨i, x, rfl, hx, _, hil⟩ := checkS_zero (js := s.js) (id := id) (kind := 4) (by rw [HC4.out]; exact h0)
            have hva := HGA.out h0
            have hxy : x = y := by rw [← HY.out]; exact (nodeA_in hx).symm
            subst hxy
            rw [HY.out] at hva
            have HX := Lib.hid hx
            have t2 := beqS_t (show x.text = x.text from rfl)
            subst h0
            subst hva
            have HHL := Lib.hid hil
            clear hx hil
            go_wp2_with fail
            refine TDB.out.mono ?_
            rintro e wd ⟨rfl, hbd⟩
            have HWD := Lib.hid (ext_trans HWB.out hbd)
            clear hbd
            have hv := (HB.out wd HWD.out).v
            obtain ⟨n0, n1, n2, n3⟩ := hv.nd i x HX.out
            have c0 := hv.c0
            have zD := hv.zD
            have zN := hv.zN
            have hil := HHL.out
            clear hv
            go_wp2
            go_meet
            exact ⟨rfl, HWD.out⟩
          · have t0 : (c4 == 0) = false := beq_eq_false_iff_ne.2 h0
            have t1 : (c4 != 0) = true := bne_iff_ne.2 h0
            obtain rfl := HZA.out h0
            clear h0
            go_wp2_with fail
            refine TDB.out.mono ?_
            rintro e wd ⟨rfl, hbd⟩
            have HWD := Lib.hid (ext_trans HWB.out hbd)
            clear hbd
            go_wp2
            go_meet
            exact ⟨rfl, HWD.out⟩
        case rest =>
          obtain ⟨rfl, hcb⟩ := hcut
          have FL := Lib.hid (flag_u (HB.out wc hcb) id)
          have HWC := Lib.hid hcb
          clear hcb HC4 HEA HGA HZA CKA HWA HWB HEB HW9
          go_wp2_with fail
          refine FL.out.mono ?_
          rintro e wa ⟨va, ua, rfl, hea, hga, hza, hba⟩
          have HWA := Lib.hid (ext_trans HWC.out hba)
          have CKA := Lib.hid (CK.out wa HWA.out 2)
          obtain ⟨c2, a2, hc2⟩ : ∃ c2 a2, checkS s.js id 2 = (c2, a2) := ⟨_, _, rfl⟩
          rw [hc2] at CKA hea hga hza
          simp only at hga hza
          have HEA := Lib.hid hea; have HGA := Lib.hid hga; have HZA := Lib.hid hza; have HC2 := Lib.hid hc2
          clear hba hea hga hza hc2 FL
          go_wp2_with fail
          refine CKA.out.mono ?_
          rintro e wb ⟨rfl, hbb⟩
          have HWB := Lib.hid (ext_trans HWA.out hbb)
          have TDB := Lib.hid (TD.out wb HWB.out ua c2 a2 (HEA.out.ext hbb))
          clear hbb
          (try simp only)
          by_cases h0 : c2 = 0
          · obtain ⟨i, x, rfl, hx, _, hil⟩ := checkS_zero (js := s.js) (id := id) (kind := 2) (by rw [HC2.out]; exact h0)
            have hva := HGA.out h0
            have hxy : x = y := by rw [← HY.out]; exact (nodeA_in hx).symm
            subst hxy
            rw [HY.out] at hva
            have HX := Lib.hid hx
            subst h0
            subst hva
            have HHL := Lib.hid hil
            clear hx hil
            go_wp2_with fail
            refine TDB.out.mono ?_
            rintro e wd ⟨rfl, hbd⟩
            have HWD := Lib.hid (ext_trans HWB.out hbd)
            clear hbd
            have hv := (HB.out wd HWD.out).v
            obtain ⟨n0, n1, n2, n3⟩ := hv.nd i x HX.out
            have c0 := hv.c0
            have zD := hv.zD
            have zN := hv.zN
            have hil := HHL.out
            cases hk : (x.kind == 2)
            all_goals
              clear hv
              go_wp2
              go_ret
              exact ⟨rfl, HWD.out⟩
          · have t0 : (c2 == 0) = false := beq_eq_false_iff_ne.2 h0
            obtain rfl := HZA.out h0
            clear h0
            go_wp2_with fail
            refine TDB.out.mono ?_
            rintro e wd ⟨rfl, hbd⟩
            have HWD := Lib.hid (ext_trans HWB.out hbd)
            clear hbd
            go_wp2
            go_ret
            exact ⟨rfl, HWD.out⟩
end Go.Proofs.YtmhfbdeeebbloaaGreatDoor
