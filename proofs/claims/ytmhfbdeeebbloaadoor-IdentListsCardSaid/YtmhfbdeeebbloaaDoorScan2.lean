/- scan.number: the walk. -/
import Derived.Test.YtmhfbdeeebbloaaDoorScan1
import Derived.Deep.DeepCutAuto
namespace Go.Proofs.YtmhfbdeeebbloaaDoor
open Go.RowKit
section
variable {v : Value} {B : ByteArray} {w : World}
theorem digits_ok {i e : Nat} (hr : digitsS B i = .ok e) (h : Rd (Own w) w v (bytesDB B)) (hm : B.size ≤ 1000000) (hi : i ≤ B.size) :
    Calls Tryd.prog 145 #[v, .int .i64 i] w fun ev w' => ev = .returned (.tuple #[.int .i64 e, .nilIface]) ∧ w = w' := by
  have := digits_any v B i w h hm hi
  rwa [hr] at this
theorem digits_no {i k : Nat} {p : Int} (hr : digitsS B i = .no k p) (h : Rd (Own w) w v (bytesDB B)) (hm : B.size ≤ 1000000) (hi : i ≤ B.size) :
    Calls Tryd.prog 145 #[v, .int .i64 i] w fun ev w' => ∃ u, ev = .returned (.tuple #[.int .i64 0, .iface 119 (.pointer (some u))]) ∧ Failed w k p (.iface 119 (.pointer (some u))) w' := by
  have := digits_any v B i w h hm hi
  rw [hr] at this
  refine this.mono ?_
  rintro ev w' ⟨u, rfl, hf⟩
  obtain ⟨p, rfl⟩ := hf.form
  exact ⟨_, rfl, hf⟩
end
def numT3 (B : ByteArray) (i3 : Nat) : Sc Nat := if onAt [101, 69] B i3 then digitsS B (if onAt [43, 45] B (i3 + 1) then i3 + 2 else i3 + 1) else .ok i3
def numT2 (B : ByteArray) (i2 : Nat) : Sc Nat := (if onAt [46] B i2 then digitsS B (i2 + 1) else .ok i2).bind (numT3 B)
def numT1 (B : ByteArray) (i1 : Nat) : Sc Nat := if onAt [48] B i1 then .ok (i1 + 1) else digitsS B i1
theorem numberS_eq (B : ByteArray) (i : Nat) : numberS B i = (numT1 B (if onAt [45] B i then i + 1 else i)).bind (numT2 B) := rfl
set_option maxRecDepth 100000 in
set_option maxHeartbeats 8000000 in
theorem number_any (v : Value) (B : ByteArray) (i : Nat) (w : World) (h : Rd (Own w) w v (bytesDB B)) (hm : B.size ≤ 1000000) (hi : i < B.size) :
    Calls Tryd.prog 126 #[v, .int .i64 i] w (ScQ w (numberS B i)) := by
  have HH := Lib.hid h
  clear h
  rw [numberS_eq]
  obtain ⟨i1, hi1⟩ : ∃ i1, (if onAt [45] B i then i + 1 else i) = i1 := ⟨_, rfl⟩
  rw [hi1]
  have b1 : i1 ≤ B.size := by rw [← hi1]; split <;> omega
  obtain ⟨r2, hr2⟩ : ∃ r2, numT1 B i1 = r2 := ⟨_, rfl⟩
  rw [hr2]
  have HI1 := Lib.hid hi1; have HR2 := Lib.hid hr2
  clear hi1 hr2
  go_enter Tryd.func126, Tryd.ntmps126
  go_wp2_with fail
  refine (isAt_any v B i _ [45] (by rfl) w HH.out hm (by omega)).mono ?_
  rintro e w1 ⟨rfl, rfl⟩
  go_upto_if 8 with (fail)
  go_cut [1] (fun s1 wx => s1 = .int .i64 i1 ∧ w = wx)
  case first =>
    cases ho : onAt [45] B i with
    | true =>
      have h1 := HI1.out
      rw [ho, if_pos rfl] at h1
      subst h1
      clear ho
      go_wp2
      go_meet
      exact ⟨by go_num, rfl⟩
    | false =>
      have h1 := HI1.out
      rw [ho, if_neg (by simp)] at h1
      subst h1
      clear ho
      go_wp2
      go_meet
      exact ⟨rfl, rfl⟩
  case rest =>
    obtain ⟨rfl, rfl⟩ := hcut
    clear HI1
    go_wp2_with fail
    refine (isAt_any v B i1 _ [48] (by rfl) w HH.out hm (by omega)).mono ?_
    rintro e w1 ⟨rfl, rfl⟩
    have b2 : ∀ i2, r2 = .ok i2 → i2 ≤ B.size := by
      intro i2 h2
      have hr2 := HR2.out
      rw [h2] at hr2
      unfold numT1 at hr2
      split at hr2
      · rename_i ho; have := onAt_lt ho; cases hr2; omega
      · exact (digitsS_ok b1 hr2).2
    have HB2 := Lib.hid b2
    clear b2
    go_upto_if 13 with (fail)
    go_cut [1] (fun s1 wx => ∃ i2 : Nat, r2 = .ok i2 ∧ s1 = .int .i64 i2 ∧ w = wx)
    case first =>
      cases ho : onAt [48] B i1 with
      | true =>
        have h1 := HR2.out
        unfold numT1 at h1
        rw [ho, if_pos rfl] at h1
        subst h1
        clear ho
        go_wp2
        go_meet
        exact ⟨i1 + 1, rfl, by go_num, rfl⟩
      | false =>
        have h1 := HR2.out
        unfold numT1 at h1
        rw [ho, if_neg (by simp)] at h1
        clear ho
        cases r2 with
        | ok i2 =>
          have HD := Lib.hid (digits_ok h1 HH.out hm b1)
          clear h1
          go_wp2_with fail
          refine HD.out.mono ?_
          rintro e w1 ⟨rfl, rfl⟩
          go_wp2
          go_meet
          exact ⟨i2, rfl, rfl, rfl⟩
        | no k p =>
          have HD := Lib.hid (digits_no h1 HH.out hm b1)
          clear h1
          go_wp2_with fail
          refine HD.out.mono ?_
          rintro e w1 ⟨u, rfl, hf⟩
          have HF := Lib.hid hf; clear hf
          go_wp2
          go_ret2
          exact ⟨_, rfl, HF.out⟩
    case rest =>
      obtain ⟨i2, rfl, rfl, rfl⟩ := hcut
      have b2 := HB2.out i2 rfl
      clear HR2 HB2
      go_wp2_with fail
      refine (isAt_any v B i2 _ [46] (by rfl) w HH.out hm (by omega)).mono ?_
      rintro e w1 ⟨rfl, rfl⟩
      go_upto_if 27 with (fail)
      go_cut [1] (fun s1 wx => ∃ i3 : Nat, (if onAt [46] B i2 then digitsS B (i2 + 1) else .ok i2) = .ok i3 ∧ s1 = .int .i64 i3 ∧ i3 ≤ B.size ∧ w = wx)
      case first =>
        cases ho : onAt [46] B i2 with
        | true =>
          have hlt := onAt_lt ho
          cases hr : digitsS B (i2 + 1) with
          | ok i3 =>
            have b3 := (digitsS_ok (by omega) hr).2
            have HD := Lib.hid (digits_ok hr HH.out hm (by omega))
            have HZ : (if onAt [46] B i2 then digitsS B (i2 + 1) else .ok i2) = .ok i3 := by rw [ho, if_pos rfl, hr]
            have HZ := Lib.hid HZ
            clear hr ho
            go_wp2_with fail
            refine HD.out.mono ?_
            rintro e w1 ⟨rfl, rfl⟩
            go_wp2
            go_meet
            exact ⟨i3, HZ.out, rfl, b3, rfl⟩
          | no k p =>
            have HD := Lib.hid (digits_no hr HH.out hm (by omega))
            have HX : numT2 B i2 = .no k p := by unfold numT2; rw [ho, if_pos rfl, hr]; rfl
            have HX := Lib.hid HX
            clear hr ho
            go_wp2_with fail
            refine HD.out.mono ?_
            rintro e w1 ⟨u, rfl, hf⟩
            have HF := Lib.hid hf; clear hf
            go_wp2
            go_ret2
            rw [Sc.bind_ok, HX.out]
            exact ⟨_, rfl, HF.out⟩
        | false =>
          have HZ : (if onAt [46] B i2 then digitsS B (i2 + 1) else .ok i2) = .ok i2 := by rw [ho, if_neg (by simp)]
          have HZ := Lib.hid HZ
          clear ho
          go_wp2
          go_meet
          exact ⟨i2, HZ.out, rfl, b2, rfl⟩
      case rest =>
        obtain ⟨i3, hr3, rfl, b3, rfl⟩ := hcut
        have HX : numT2 B i2 = numT3 B i3 := by unfold numT2; rw [hr3]; rfl
        have HX := Lib.hid HX
        clear hr3
        go_wp2_with fail
        refine (isAt_any v B i3 _ [101, 69] (by rfl) w HH.out hm (by omega)).mono ?_
        rintro e w1 ⟨rfl, rfl⟩
        cases ho : onAt [101, 69] B i3 with
        | true =>
          have hlt := onAt_lt ho
          go_wp2_with fail
          refine (isAt_any v B (i3 + 1) _ [43, 45] (by rfl) w HH.out hm (by omega)).mono ?_
          rintro e w1 ⟨rfl, rfl⟩
          cases ho2 : onAt [43, 45] B (i3 + 1) with
          | true =>
            have hlt2 := onAt_lt ho2
            have HY : numT3 B i3 = digitsS B (i3 + 2) := by unfold numT3; rw [ho, if_pos rfl, ho2, if_pos rfl]
            have HY := Lib.hid HY
            have HD := Lib.hid (digits_any v B (i3 + 2) w HH.out hm (by omega))
            clear ho ho2
            go_wp2_with fail
            rw [show (i3 : Int) + 1 + 1 = ((i3 + 2 : Nat) : Int) by omega]
            refine HD.out.mono ?_
            intro e w1 hsc
            cases hr : digitsS B (i3 + 2) with
            | ok n =>
              rw [hr] at hsc
              obtain ⟨rfl, rfl⟩ := hsc
              have HR := Lib.hid hr; clear hr
              go_wp2
              go_ret2
              rw [Sc.bind_ok, HX.out, HY.out, HR.out]
              exact ⟨rfl, rfl⟩
            | no k p =>
              rw [hr] at hsc
              obtain ⟨u, rfl, hf⟩ := hsc
              have HR := Lib.hid hr; have HF := Lib.hid hf; clear hr hf
              go_wp2
              go_ret2
              rw [Sc.bind_ok, HX.out, HY.out, HR.out]
              exact ⟨_, rfl, HF.out⟩
          | false =>
            have HY : numT3 B i3 = digitsS B (i3 + 1) := by unfold numT3; rw [ho, if_pos rfl, ho2, if_neg (by simp)]
            have HY := Lib.hid HY
            have HD := Lib.hid (digits_any v B (i3 + 1) w HH.out hm (by omega))
            clear ho ho2
            go_wp2_with fail
            refine HD.out.mono ?_
            intro e w1 hsc
            cases hr : digitsS B (i3 + 1) with
            | ok n =>
              rw [hr] at hsc
              obtain ⟨rfl, rfl⟩ := hsc
              have HR := Lib.hid hr; clear hr
              go_wp2
              go_ret2
              rw [Sc.bind_ok, HX.out, HY.out, HR.out]
              exact ⟨rfl, rfl⟩
            | no k p =>
              rw [hr] at hsc
              obtain ⟨u, rfl, hf⟩ := hsc
              have HR := Lib.hid hr; have HF := Lib.hid hf; clear hr hf
              go_wp2
              go_ret2
              rw [Sc.bind_ok, HX.out, HY.out, HR.out]
              exact ⟨_, rfl, HF.out⟩
        | false =>
          have HY : numT3 B i3 = .ok i3 := by unfold numT3; rw [ho, if_neg (by simp)]
          have HY := Lib.hid HY
          clear ho
          go_wp2
          go_ret2
          rw [Sc.bind_ok, HX.out, HY.out]
          exact ⟨rfl, rfl⟩
end Go.Proofs.YtmhfbdeeebbloaaDoor
