/- Texts put together. -/
import Derived.Test.YtcaiibkgajhohaaGreatDoorYErrs1s
import Derived.Test.YtcaiibkgajhohaaGreatDoorYScan0s
import Derived.Test.YtcaiibkgajhohaaGreatDoorZShelf
import Derived.BigQuiet
import Derived.Deep.DeepCutAuto
import Derived.IntWalk
namespace Go.Proofs.YtcaiibkgajhohaaGreatDoor
section
open Go.RowKit
/-- A fault made just now. -/
def Failed (w : World) (k : Nat) (i : Int) (u : Value) (w' : World) : Prop := Rd (Fresh w w') w' u (errD 85 [((k : Int), i)]) ∧ Below w.heap.size w w'
/-- A number, or a fault; the world is as it was where there is none. -/
def ScQ (w : World) (r : Sc Nat) (e : Ending) (w' : World) : Prop := match r with
 | .ok n => e = .returned (.tuple #[.int .i64 n, .nilIface]) ∧ w = w'
 | .no k i => ∃ u, e = .returned (.tuple #[.int .i64 0, u]) ∧ Failed w k i u w'
def FailPost (w : World) (k : Nat) (i : Int) (e : Ending) (w' : World) : Prop := ∃ u, e = .returned u ∧ Failed w k i u w'
theorem failed_of {w w0 w1 : World} {k : Nat} {i : Int} (h0 : Below w.heap.size w w0) (h1 : w1 = w0.alloc (.cells #[.int .i64 k, .int .i64 i, .nilIface] 89)) : Failed w k i (.iface 85 (.pointer (some ⟨w0.heap.size, 0, none⟩))) w1 := by
 subst h1
 exact ⟨(Rd.failedF (k : Int) i w0).wide (fun b e => ⟨by have := h0.size; omega, by rw [e]; simp⟩), ext_alloc h0 _⟩
theorem Failed.form {w w' : World} {k : Nat} {i : Int} {u : Value} (h : Failed w k i u w') : ∃ p, u = .iface 85 (.pointer (some p)) := by
 obtain ⟨b, off, u, rfl, _⟩ := fault_inv h.1
 exact ⟨_, rfl⟩
theorem Failed.after {a b c : World} {k : Nat} {i : Int} {u : Value} (h : Failed b k i u c) (hb : Below a.heap.size a b) : Failed a k i u c :=
 ⟨h.1.wide (fun x hx => ⟨by have := hx.1; have := hb.size; omega, hx.2⟩), ext_trans hb h.2⟩
theorem fails (k : Nat) (i : Int) (w : World) : Calls Tryz.prog 42 #[.int .i64 k, .int .i64 i] w (FailPost w k i) :=
 (fail_any k i w).mono fun _ _ ⟨he, hw⟩ => ⟨_, he, failed_of (Below.refl _ _) hw⟩
theorem short_any (v : Value) (B : ByteArray) (w : World) (h : Rd (Own w) w v (bytesDB B)) : Calls Tryz.prog 152 #[v] w (FailPost w 10 B.size) := by
 obtain ⟨a, c, rfl, _, _, _⟩ := h.by_inv
 clear h
 go_enter Tryz.func152, Tryz.ntmps152
 go_wp2_with fail
 refine (fails 10 B.size w).mono ?_
 rintro e w1 ⟨u, rfl, hf⟩
 have HF := Lib.hid hf; clear hf
 go_wp2
 go_ret
 exact ⟨_, rfl, HF.out⟩
def ibV (l : List Nat) (c : Nat) : Int := if l.contains c then (l.idxOf c : Int) else -1
theorem indexByte_nat (l : List UInt8) (c : Nat) (hc : c < 256) : Go.Lib.indexByte l (c : Int).toNat.toUInt8 = ibV (l.map (·.toNat)) c := by
 induction l with
 | nil => rfl
 | cons b l ih =>
   have hb : (b == (c : Int).toNat.toUInt8) = (b.toNat == c) := by
    rw [Int.toNat_natCast, Bool.eq_iff_iff, beq_iff_eq, beq_iff_eq]
    constructor
    · intro h; rw [h]; simp; omega
    · intro h; apply UInt8.toNat.inj; rw [h]; simp; omega
   unfold Go.Lib.indexByte
   rw [hb, ih, List.map_cons]
   unfold ibV
   rw [List.contains_cons, List.idxOf_cons]
   by_cases hx : b.toNat = c
   · simp [hx]
   · have hx' : (b.toNat == c) = false := by simpa using hx
     have hx2 : (c == b.toNat) = false := by rw [beq_eq_false_iff_ne]; exact fun h => hx h.symm
     rw [hx', hx2, Bool.false_or, if_neg (by simp)]
     by_cases h1 : (l.map (·.toNat)).contains c = true
     · rw [if_pos h1, if_pos h1, if_neg (by simp <;> omega)]; simp
     · rw [if_neg h1, if_neg h1, if_pos (by rfl)]
theorem ibV_in {l : List Nat} {c : Nat} : decide (0 ≤ ibV l c) = l.contains c := by
 unfold ibV
 by_cases h : l.contains c = true
 · rw [if_pos h, h]; exact decide_eq_true (Int.natCast_nonneg _)
 · rw [if_neg h]; simp only [Bool.not_eq_true] at h; rw [h]; rfl
/-- strings.IndexByte. -/
theorem ib_any (s : ByteArray) (l : List Nat) (hl : s.data.toList.map (·.toNat) = l) (c : Nat) (hc : c < 256) (w : World) : Calls Tryz.prog 81 #[.string s, .int .u8 c] w fun e w' => e = .returned (.int .i64 (ibV l c)) ∧ w = w' :=
 (Tryz.strings_IndexByte s _ w).mono fun e w' ⟨he, hw⟩ => ⟨by rw [he, indexByte_nat _ c hc, hl], hw.symm⟩
theorem isAt_any (v : Value) (B : ByteArray) (i : Nat) (s : ByteArray) (l : List Nat) (hl : s.data.toList.map (·.toNat) = l) (w : World) (h : Rd (Own w) w v (bytesDB B)) (hm : B.size ≤ 1100000) (hi : i ≤ 1100000) :
    Calls Tryz.prog 154 #[v, .int .i64 i, .string s] w fun e w' => e = .returned (.bool (onAt l B i)) ∧ w = w' := by
 obtain ⟨a, c, rfl, _, _, hc⟩ := h.by_inv
 by_cases hlt : i < B.size
 · obtain ⟨b, off, rfl, _, x0⟩ := hc (by omega)
   have x1 := x0 i hlt
   have CI := Lib.hid (ib_any s l hl (byteAt B i) (byteAt_lt B i) w)
   have hx := ibV_in (l := l) (c := byteAt B i)
   rw [← onAt_in hlt] at hx
   have t1 : decide ((i : Int) < (B.size : Int)) = true := decide_eq_true (by omega)
   generalize ibV l (byteAt B i) = x at *
   cases ho : onAt l B i with
   | true =>
     rw [ho] at hx
     clear h x0 hc hl ho
     go_enter Tryz.func154, Tryz.ntmps154
     go_wp2_with fail
     refine CI.out.mono ?_
     rintro e w1 ⟨rfl, rfl⟩
     go_wp2
     go_ret
     exact ⟨rfl, rfl⟩
   | false =>
     rw [ho] at hx
     clear h x0 hc hl ho
     go_enter Tryz.func154, Tryz.ntmps154
     go_wp2_with fail
     refine CI.out.mono ?_
     rintro e w1 ⟨rfl, rfl⟩
     go_wp2
     go_ret
     exact ⟨rfl, rfl⟩
 · rw [onAt_out (by omega)]
   have t1 : decide ((i : Int) < (B.size : Int)) = false := decide_eq_false (by omega)
   clear h hc hl
   go_enter Tryz.func154, Tryz.ntmps154
   go_wp2
   go_ret
   exact ⟨rfl, rfl⟩
def DgRel (B : ByteArray) (e : Nat) (k : Value) : Prop := ∃ j : Nat, k = .int .i64 j ∧ j ≤ e ∧ skip isDig B j = e
theorem isDig_t {c : Nat} (h : isDig c = true) : 48 ≤ c ∧ c ≤ 57 := by simp [isDig] at h; exact h
theorem isDig_f {c : Nat} (h : isDig c = false) : c < 48 ∨ 57 < c := by simp [isDig] at h; omega
set_option maxRecDepth 100000 in
set_option maxHeartbeats 4000000 in
theorem digits_any (v : Value) (B : ByteArray) (i : Nat) (w : World) (h : Rd (Own w) w v (bytesDB B)) (hm : B.size ≤ 1100000) (hi : i ≤ B.size) :
    Calls Tryz.prog 155 #[v, .int .i64 i] w (ScQ w (digitsS B i)) := by
 have HS := Lib.hid (short_any v B w h)
 obtain ⟨a, c, rfl, _, _, hc⟩ := h.by_inv
 have HC := Lib.hid hc
 have hD : digitsS B i = digitsS B i := rfl
 conv at hD => rhs; unfold digitsS
 have hge := skip_ge isDig B i
 have hle := skip_le isDig B i hi
 have hE := skip_end isDig B _ i rfl
 generalize he : skip isDig B i = e at *
 have HD := Lib.hid hD; have HE := Lib.hid hE; have HEE := Lib.hid he
 clear h hc hD hE he
 go_enter Tryz.func155, Tryz.ntmps155
 go_wp2_with fail
 go_loop [1] (DgRel B e) (fun k => B.size - (intOf k).toNat)
 case atStart => exact ⟨i, rfl, hge, HEE.out⟩
 case round =>
  obtain ⟨j, rfl, hj, hs⟩ := hrel
  by_cases hlt : j < e
  · have hd : isDig (byteAt B j) = true := by
      cases hx : isDig (byteAt B j) with
      | true => rfl
      | false => rw [skip_stop (fun _ => hx)] at hs; omega
    rw [skip_go (by omega) hd] at hs
    obtain ⟨q1, q2⟩ := isDig_t hd
    obtain ⟨b, off, rfl, _, x0⟩ := HC.out (by omega)
    have x1 := x0 j (by omega)
    have t1 : decide ((j : Int) < (B.size : Int)) = true := decide_eq_true (by omega)
    have t2 : decide ((48 : Int) ≤ (byteAt B j : Int)) = true := decide_eq_true (by omega)
    have t3 : decide ((byteAt B j : Int) ≤ 57) = true := decide_eq_true (by omega)
    have R : DgRel B e (.int .i64 (j + 1)) := ⟨j + 1, by go_num, by omega, hs⟩
    have HR := Lib.hid R
    clear R hs hd x0
    go_wp2
    refine ⟨?_, by simp [intOf]; omega⟩
    have R := HR.out
    first | exact R | ((repeat apply Exists.intro); exact ⟨R, rfl⟩)
  · obtain rfl : j = e := by omega
    clear hs
    by_cases hsz : j < B.size
    · have hd := HE.out hsz
      obtain ⟨b, off, rfl, _, x0⟩ := HC.out (by omega)
      have x1 := x0 j (by omega)
      have t1 : decide ((j : Int) < (B.size : Int)) = true := decide_eq_true (by omega)
      have hbl := byteAt_lt B j
      have q : (decide ((48 : Int) ≤ (byteAt B j : Int)) = false) ∨ (decide ((48 : Int) ≤ (byteAt B j : Int)) = true ∧ decide ((byteAt B j : Int) ≤ 57) = false) := by
       rcases isDig_f hd with q | q
       · exact .inl (decide_eq_false (by omega))
       · exact .inr ⟨decide_eq_true (by omega), decide_eq_false (by omega)⟩
      clear x0 hd
      by_cases hij : i < j
      · have t4 : decide ((i : Int) < (j : Int)) = true := decide_eq_true (by omega)
        rcases q with q | ⟨q, q2⟩
        all_goals
         go_wp2
         go_ret2
         rw [HD.out, if_pos hij]
         exact ⟨rfl, rfl⟩
      · have t4 : decide ((i : Int) < (j : Int)) = false := decide_eq_false (by omega)
        have t5 : ((j : Int) == (B.size : Int)) = false := beq_eq_false_iff_ne.2 (by omega)
        have hji : j = i := by omega
        rcases q with q | ⟨q, q2⟩
        all_goals
         have HJ := Lib.hid hji
         clear hji
         go_wp2_with fail
         refine (fails 11 j w).mono ?_
         rintro ev w1 ⟨u, rfl, hf⟩
         have HF := Lib.hid hf; clear hf
         go_wp2
         go_ret2
         rw [HD.out, if_neg hij, if_neg (by omega), ← HJ.out]
         exact ⟨_, rfl, HF.out⟩
    · obtain rfl : j = B.size := by omega
      have t1 : decide ((B.size : Int) < (B.size : Int)) = false := decide_eq_false (by omega)
      by_cases hij : i < B.size
      · have t4 : decide ((i : Int) < (B.size : Int)) = true := decide_eq_true (by omega)
        go_wp2
        go_ret2
        rw [HD.out, if_pos hij]
        exact ⟨rfl, rfl⟩
      · have t4 : decide ((i : Int) < (B.size : Int)) = false := decide_eq_false (by omega)
        have t5 : ((B.size : Int) == (B.size : Int)) = true := beq_self_eq_true _
        go_wp2_with fail
        refine HS.out.mono ?_
        rintro ev w1 ⟨u, rfl, hf⟩
        have HF := Lib.hid hf; clear hf
        go_wp2
        go_ret2
        rw [HD.out, if_neg hij, if_pos (by omega)]
        exact ⟨_, rfl, HF.out⟩
end
section
open Go.RowKit
section
variable {v : Value} {B : ByteArray} {w : World}
theorem digits_ok {i e : Nat} (hr : digitsS B i = .ok e) (h : Rd (Own w) w v (bytesDB B)) (hm : B.size ≤ 1100000) (hi : i ≤ B.size) :
    Calls Tryz.prog 155 #[v, .int .i64 i] w fun ev w' => ev = .returned (.tuple #[.int .i64 e, .nilIface]) ∧ w = w' := by
 have := digits_any v B i w h hm hi
 rwa [hr] at this
theorem digits_no {i k : Nat} {p : Int} (hr : digitsS B i = .no k p) (h : Rd (Own w) w v (bytesDB B)) (hm : B.size ≤ 1100000) (hi : i ≤ B.size) :
    Calls Tryz.prog 155 #[v, .int .i64 i] w fun ev w' => ∃ u, ev = .returned (.tuple #[.int .i64 0, .iface 85 (.pointer (some u))]) ∧ Failed w k p (.iface 85 (.pointer (some u))) w' := by
 have := digits_any v B i w h hm hi
 rw [hr] at this
 refine this.mono ?_
 rintro ev w' ⟨u, rfl, hf⟩
 obtain ⟨p, rfl⟩ := hf.form
 exact ⟨_, rfl, hf⟩
end
def numT3 (B : ByteArray) (i3 : Nat) : Sc Nat := if onAt [101, 69] B i3 then digitsS B (if onAt [43, 45] B (i3 + 1) then i3 + 2 else i3 + 1) else .ok i3
def numT2 (B : ByteArray) (i2 : Nat) : Sc Nat := (if onAt [46] B i2 then digitsS B (i2 + 1) else .ok i2).bind (numT3 B)
def numT1 (B : ByteArray) (i1 : Nat) : Sc Nat := if onAt [48] B i1 then .ok (i1 + 1) else digitsS B i1
theorem numberS_eq (B : ByteArray) (i : Nat) : numberS B i = (numT1 B (if onAt [45] B i then i + 1 else i)).bind (numT2 B) := rfl
set_option maxRecDepth 100000 in
set_option maxHeartbeats 8000000 in
theorem number_any (v : Value) (B : ByteArray) (i : Nat) (w : World) (h : Rd (Own w) w v (bytesDB B)) (hm : B.size ≤ 1100000) (hi : i < B.size) :
    Calls Tryz.prog 118 #[v, .int .i64 i] w (ScQ w (numberS B i)) := by
 have HH := Lib.hid h
 clear h
 rw [numberS_eq]
 obtain ⟨i1, hi1⟩ : ∃ i1, (if onAt [45] B i then i + 1 else i) = i1 := ⟨_, rfl⟩
 rw [hi1]
 have b1 : i1 ≤ B.size := by rw [← hi1]; split <;> omega
 obtain ⟨r2, hr2⟩ : ∃ r2, numT1 B i1 = r2 := ⟨_, rfl⟩
 rw [hr2]
 have HI1 := Lib.hid hi1; have HR2 := Lib.hid hr2
 clear hi1 hr2
 go_enter Tryz.func118, Tryz.ntmps118
 go_wp2_with fail
 refine (isAt_any v B i _ [45] (by rfl) w HH.out hm (by omega)).mono ?_
 rintro e w1 ⟨rfl, rfl⟩
 go_upto_if 8 with (fail)
 go_cut [1] (fun s1 wx => s1 = .int .i64 i1 ∧ w = wx)
 case first =>
  cases ho : onAt [45] B i with
  | true =>
    have h1 := HI1.out
    rw [ho, if_pos rfl] at h1
    subst h1
    clear ho
    go_wp2
    go_meet
    exact ⟨by go_num, rfl⟩
  | false =>
    have h1 := HI1.out
    rw [ho, if_neg (by simp)] at h1
    subst h1
    clear ho
    go_wp2
    go_meet
    exact ⟨rfl, rfl⟩
 case rest =>
  obtain ⟨rfl, rfl⟩ := hcut
  clear HI1
  go_wp2_with fail
  refine (isAt_any v B i1 _ [48] (by rfl) w HH.out hm (by omega)).mono ?_
  rintro e w1 ⟨rfl, rfl⟩
  have b2 : ∀ i2, r2 = .ok i2 → i2 ≤ B.size := by
   intro i2 h2
   have hr2 := HR2.out
   rw [h2] at hr2
   unfold numT1 at hr2
   split at hr2
   · rename_i ho; have := onAt_lt ho; cases hr2; omega
   · exact (digitsS_ok b1 hr2).2
  have HB2 := Lib.hid b2
  clear b2
  go_upto_if 13 with (fail)
  go_cut [1] (fun s1 wx => ∃ i2 : Nat, r2 = .ok i2 ∧ s1 = .int .i64 i2 ∧ w = wx)
  case first =>
   cases ho : onAt [48] B i1 with
   | true =>
     have h1 := HR2.out
     unfold numT1 at h1
     rw [ho, if_pos rfl] at h1
     subst h1
     clear ho
     go_wp2
     go_meet
     exact ⟨i1 + 1, rfl, by go_num, rfl⟩
   | false =>
     have h1 := HR2.out
     unfold numT1 at h1
     rw [ho, if_neg (by simp)] at h1
     clear ho
     cases r2 with
     | ok i2 =>
       have HD := Lib.hid (digits_ok h1 HH.out hm b1)
       clear h1
       go_wp2_with fail
       refine HD.out.mono ?_
       rintro e w1 ⟨rfl, rfl⟩
       go_wp2
       go_meet
       exact ⟨i2, rfl, rfl, rfl⟩
     | no k p =>
       have HD := Lib.hid (digits_no h1 HH.out hm b1)
       clear h1
       go_wp2_with fail
       refine HD.out.mono ?_
       rintro e w1 ⟨u, rfl, hf⟩
       have HF := Lib.hid hf; clear hf
       go_wp2
       go_ret2
       exact ⟨_, rfl, HF.out⟩
  case rest =>
   obtain ⟨i2, rfl, rfl, rfl⟩ := hcut
   have b2 := HB2.out i2 rfl
   clear HR2 HB2
   go_wp2_with fail
   refine (isAt_any v B i2 _ [46] (by rfl) w HH.out hm (by omega)).mono ?_
   rintro e w1 ⟨rfl, rfl⟩
   go_upto_if 27 with (fail)
   go_cut [1] (fun s1 wx => ∃ i3 : Nat, (if onAt [46] B i2 then digitsS B (i2 + 1) else .ok i2) = .ok i3 ∧ s1 = .int .i64 i3 ∧ i3 ≤ B.size ∧ w = wx)
   case first =>
    cases ho : onAt [46] B i2 with
    | true =>
      have hlt := onAt_lt ho
      cases hr : digitsS B (i2 + 1) with
      | ok i3 =>
        have b3 := (digitsS_ok (by omega) hr).2
        have HD := Lib.hid (digits_ok hr HH.out hm (by omega))
        have HZ : (if onAt [46] B i2 then digitsS B (i2 + 1) else .ok i2) = .ok i3 := by rw [ho, if_pos rfl, hr]
        have HZ := Lib.hid HZ
        clear hr ho
        go_wp2_with fail
        refine HD.out.mono ?_
        rintro e w1 ⟨rfl, rfl⟩
        go_wp2
        go_meet
        exact ⟨i3, HZ.out, rfl, b3, rfl⟩
      | no k p =>
        have HD := Lib.hid (digits_no hr HH.out hm (by omega))
        have HX : numT2 B i2 = .no k p := by unfold numT2; rw [ho, if_pos rfl, hr]; rfl
        have HX := Lib.hid HX
        clear hr ho
        go_wp2_with fail
        refine HD.out.mono ?_
        rintro e w1 ⟨u, rfl, hf⟩
        have HF := Lib.hid hf; clear hf
        go_wp2
        go_ret2
        rw [Sc.bind_ok, HX.out]
        exact ⟨_, rfl, HF.out⟩
    | false =>
      have HZ : (if onAt [46] B i2 then digitsS B (i2 + 1) else .ok i2) = .ok i2 := by rw [ho, if_neg (by simp)]
      have HZ := Lib.hid HZ
      clear ho
      go_wp2
      go_meet
      exact ⟨i2, HZ.out, rfl, b2, rfl⟩
   case rest =>
    obtain ⟨i3, hr3, rfl, b3, rfl⟩ := hcut
    have HX : numT2 B i2 = numT3 B i3 := by unfold numT2; rw [hr3]; rfl
    have HX := Lib.hid HX
    clear hr3
    go_wp2_with fail
    refine (isAt_any v B i3 _ [101, 69] (by rfl) w HH.out hm (by omega)).mono ?_
    rintro e w1 ⟨rfl, rfl⟩
    cases ho : onAt [101, 69] B i3 with
    | true =>
      have hlt := onAt_lt ho
      go_wp2_with fail
      refine (isAt_any v B (i3 + 1) _ [43, 45] (by rfl) w HH.out hm (by omega)).mono ?_
      rintro e w1 ⟨rfl, rfl⟩
      cases ho2 : onAt [43, 45] B (i3 + 1) with
      | true =>
        have hlt2 := onAt_lt ho2
        have HY : numT3 B i3 = digitsS B (i3 + 2) := by unfold numT3; rw [ho, if_pos rfl, ho2, if_pos rfl]
        have HY := Lib.hid HY
        have HD := Lib.hid (digits_any v B (i3 + 2) w HH.out hm (by omega))
        clear ho ho2
        go_wp2_with fail
        rw [show (i3 : Int) + 1 + 1 = ((i3 + 2 : Nat) : Int) by omega]
        refine HD.out.mono ?_
        intro e w1 hsc
        cases hr : digitsS B (i3 + 2) with
        | ok n =>
          rw [hr] at hsc
          obtain ⟨rfl, rfl⟩ := hsc
          have HR := Lib.hid hr; clear hr
          go_wp2
          go_ret2
          rw [Sc.bind_ok, HX.out, HY.out, HR.out]
          exact ⟨rfl, rfl⟩
        | no k p =>
          rw [hr] at hsc
          obtain ⟨u, rfl, hf⟩ := hsc
          have HR := Lib.hid hr; have HF := Lib.hid hf; clear hr hf
          go_wp2
          go_ret2
          rw [Sc.bind_ok, HX.out, HY.out, HR.out]
          exact ⟨_, rfl, HF.out⟩
      | false =>
        have HY : numT3 B i3 = digitsS B (i3 + 1) := by unfold numT3; rw [ho, if_pos rfl, ho2, if_neg (by simp)]
        have HY := Lib.hid HY
        have HD := Lib.hid (digits_any v B (i3 + 1) w HH.out hm (by omega))
        clear ho ho2
        go_wp2_with fail
        refine HD.out.mono ?_
        intro e w1 hsc
        cases hr : digitsS B (i3 + 1) with
        | ok n =>
          rw [hr] at hsc
          obtain ⟨rfl, rfl⟩ := hsc
          have HR := Lib.hid hr; clear hr
          go_wp2
          go_ret2
          rw [Sc.bind_ok, HX.out, HY.out, HR.out]
          exact ⟨rfl, rfl⟩
        | no k p =>
          rw [hr] at hsc
          obtain ⟨u, rfl, hf⟩ := hsc
          have HR := Lib.hid hr; have HF := Lib.hid hf; clear hr hf
          go_wp2
          go_ret2
          rw [Sc.bind_ok, HX.out, HY.out, HR.out]
          exact ⟨_, rfl, HF.out⟩
    | false =>
      have HY : numT3 B i3 = .ok i3 := by unfold numT3; rw [ho, if_neg (by simp)]
      have HY := Lib.hid HY
      clear ho
      go_wp2
      go_ret2
      rw [Sc.bind_ok, HX.out, HY.out]
      exact ⟨rfl, rfl⟩
end
section
open Go.RowKit
/-- A number, or a fault. -/
def ScB (w : World) (r : Sc Nat) (e : Ending) (w' : World) : Prop := match r with
 | .ok n => e = .returned (.tuple #[.int .i64 n, .nilIface]) ∧ Below w.heap.size w w'
 | .no k i => ∃ u, e = .returned (.tuple #[.int .i64 0, .iface 85 (.pointer (some u))]) ∧ Failed w k i (.iface 85 (.pointer (some u))) w'
def wordFit (B : ByteArray) (i : Nat) (l : List Nat) (k : Nat) : Bool := decide (i + k < B.size) && (byteAt B (i + k) == l[k]?.getD 0)
theorem wordS_eq (B : ByteArray) (i : Nat) (l : List Nat) : wordS B i l = (firstBad B i l.length (wordFit B i l)).bind fun _ => .ok (i + l.length) := rfl
def WdRel (B : ByteArray) (i : Nat) (l : List Nat) (w : World) (k : Value) (wr : World) : Prop := ∃ j nq : Nat, k = .int .i64 j ∧ j ≤ l.length ∧ wr = w.drewN nq ∧ ∀ m, m < j → wordFit B i l m = true
set_option maxRecDepth 100000 in
set_option maxHeartbeats 8000000 in
theorem word_any (v : Value) (B : ByteArray) (i : Nat) (s : ByteArray) (l : List Nat) (hl : s.data.toList.map (·.toNat) = l) (w : World) (h : Rd (Own w) w v (bytesDB B)) (hm : B.size ≤ 1100000) (hi : i ≤ B.size) (hs : s.size ≤ 1000) :
    Calls Tryz.prog 119 #[v, .int .i64 i, .string s] w (ScB w (wordS B i l)) := by
 rw [wordS_eq]
 have hsl : s.size = l.length := by rw [← hl]; simp
 have HR := Lib.hid h
 obtain ⟨a, c, rfl, _, _, hc⟩ := h.by_inv
 have HC := Lib.hid hc
 have HL := Lib.hid hl; have HSL := Lib.hid hsl
 have hll : l.length ≤ 1000 := by omega
 clear h hc hl hsl
 go_enter Tryz.func119, Tryz.ntmps119
 go_wp2_with fail
 go_loopw [11] (WdRel B i l w) (fun k _ => l.length - (intOf k).toNat)
 case atStart => exact ⟨0, 0, rfl, Nat.zero_le _, rfl, fun m h => by omega⟩
 case round =>
  obtain ⟨j, nq, rfl, hj, rfl, hf⟩ := hrel
  by_cases hlt : j < l.length
  · have hjs : j < s.size := by rw [HSL.out]; exact hlt
    by_cases hend : i + j = B.size
    · have hE : (firstBad B i l.length (wordFit B i l)) = .no 10 B.size := by
        rw [firstBad_no hlt (by simp [wordFit]; omega) hf, if_pos hend]
      have HE := Lib.hid hE
      have t1 : ((i : Int) + (j : Int) == (B.size : Int)) = true := beq_iff_eq.2 (by omega)
      have HS := Lib.hid (short_any (.slice a B.size c) B (w.drewN nq) (HR.out.drewN nq))
      have hend' := Lib.hid hend
      clear hE hf hend
      go_wp2_with fail
      refine HS.out.mono ?_
      rintro e w1 ⟨u, rfl, hx⟩
      obtain ⟨p, rfl⟩ := hx.form
      have HX := Lib.hid (hx.after (a := w) (ext_drewN nq (Below.refl _ _)))
      clear hx
      go_wp2
      go_ret2
      rw [HE.out]
      exact ⟨_, rfl, HX.out⟩
    · have hnot : wordFit B i l j = false ∨ wordFit B i l j = true := by cases wordFit B i l j <;> simp
      have hlt2 : i + j < B.size := by
       by_cases h0 : j = 0
       · omega
       · have := hf (j - 1) (by omega)
         simp only [wordFit, Bool.and_eq_true, decide_eq_true_eq] at this
         omega
      obtain ⟨b, off, rfl, _, x0⟩ := HC.out (by omega)
      have x1 := x0 (i + j) hlt2
      have t1 : ((i : Int) + (j : Int) == (B.size : Int)) = false := beq_eq_false_iff_ne.2 (by omega)
      have hlj : l[j]? = some (s[j]'hjs).toNat := by
       have hjd : j < s.data.size := hjs
       rw [← HL.out, List.getElem?_map, Array.getElem?_toList, Array.getElem?_eq_getElem hjd]; rfl
      have q1 : IntKind.i64.wrap ((i : Int) + (j : Int)) = (i : Int) + (j : Int) := IntWalk.i64_in _ (by omega)
      have q2 : (0 : Int) ≤ (i : Int) + (j : Int) := by omega
      have q3 : ((i : Int) + (j : Int)).toNat = i + j := by omega
      have q4 : (i : Int) + (j : Int) < (B.size : Int) := by omega
      by_cases hb : byteAt B (i + j) = (s[j]'hjs).toNat
      · have t2 : ((byteAt B (i + j) : Int) != ((s[j]'hjs).toNat : Int)) = false := by simp [hb]
        have t3 : (byteAt B (i + j) != (s[j]'hjs).toNat) = false := by simp [hb]
        have R : ∀ n, WdRel B i l w (.int .i64 (j + 1)) (w.drewN n) := fun n => ⟨j + 1, n, by go_num, by omega, rfl, fun m hm => by
         by_cases e : m = j
         · subst e; simp [wordFit, hlt2, hlj, hb]
         · exact hf m (by omega)⟩
        have HRR := Lib.hid R
        clear R hf x0 hnot hb hlj
        go_wp2
        go_quiet (fail)
        go_wp2
        refine ⟨?_, by simp [intOf]; omega⟩
        have R := HRR.out
        first | exact R _ | ((repeat apply Exists.intro); exact ⟨R _, rfl⟩)
      · have t2 : ((byteAt B (i + j) : Int) != ((s[j]'hjs).toNat : Int)) = true := bne_iff_ne.2 (by omega)
        have t3 : (byteAt B (i + j) != (s[j]'hjs).toNat) = true := bne_iff_ne.2 hb
        have hE : (firstBad B i l.length (wordFit B i l)) = .no 11 (i + j : Nat) := by
         rw [firstBad_no hlt (by simp [wordFit, hlj, hb]) hf, if_neg (by omega)]
        have HE := Lib.hid hE
        clear hf x0 hnot hb hlj hE
        go_wp2
        go_quiet (fail)
        go_wp2_with fail
        rw [show (i : Int) + (j : Int) = ((i + j : Nat) : Int) by omega]
        refine (fails 11 _ _).mono ?_
        rintro e w1 ⟨u, rfl, hx⟩
        obtain ⟨p, rfl⟩ := hx.form
        have HX := Lib.hid (hx.after (a := w) (ext_drewN _ (Below.refl _ _)))
        clear hx
        go_wp2
        go_ret2
        rw [HE.out]
        exact ⟨_, rfl, HX.out⟩
  · obtain rfl : j = l.length := by omega
    have hE : (firstBad B i l.length (wordFit B i l)) = .ok () := firstBad_ok hf
    have HE := Lib.hid hE
    have q0 : s.size = l.length := HSL.out
    have HQ := Lib.hid q0
    have q1 : (s.size : Int) ≤ (l.length : Int) := by omega
    have t0 : decide ((l.length : Int) < (s.size : Int)) = false := decide_eq_false (by omega)
    clear hf hE q0
    go_wp2
    go_ret2
    rw [HE.out]
    exact ⟨by rw [HQ.out]; rfl, ext_drewN _ (Below.refl _ _)⟩
def simpleT (c : Nat) : Value × Value := match simpleS c with
 | some x => (.int .u8 x, .bool true)
 | none => (.int .u8 0, .bool false)
set_option maxHeartbeats 4000000 in
theorem simple_any (c : Nat) (w : World) (hc : c < 256) : Calls Tryz.prog 174 #[.int .u8 c] w fun e w' => e = .returned (.tuple #[(simpleT c).1, (simpleT c).2]) ∧ w = w' := by
 have key : ∀ k : Nat, k < 256 → k ≠ c → ((c : Int) == (k : Int)) = false := fun k _ h => beq_eq_false_iff_ne.2 (by omega)
 by_cases e1 : c = 34
 · subst e1; go_enter Tryz.func174, Tryz.ntmps174; go_wp2; go_ret2; exact ⟨rfl, rfl⟩
 by_cases e2 : c = 92
 · subst e2; go_enter Tryz.func174, Tryz.ntmps174; go_wp2; go_ret2; exact ⟨rfl, rfl⟩
 by_cases e3 : c = 47
 · subst e3; go_enter Tryz.func174, Tryz.ntmps174; go_wp2; go_ret2; exact ⟨rfl, rfl⟩
 by_cases e4 : c = 98
 · subst e4; go_enter Tryz.func174, Tryz.ntmps174; go_wp2; go_ret2; exact ⟨rfl, rfl⟩
 by_cases e5 : c = 102
 · subst e5; go_enter Tryz.func174, Tryz.ntmps174; go_wp2; go_ret2; exact ⟨rfl, rfl⟩
 by_cases e6 : c = 110
 · subst e6; go_enter Tryz.func174, Tryz.ntmps174; go_wp2; go_ret2; exact ⟨rfl, rfl⟩
 by_cases e7 : c = 114
 · subst e7; go_enter Tryz.func174, Tryz.ntmps174; go_wp2; go_ret2; exact ⟨rfl, rfl⟩
 by_cases e8 : c = 116
 · subst e8; go_enter Tryz.func174, Tryz.ntmps174; go_wp2; go_ret2; exact ⟨rfl, rfl⟩
 have hs : simpleS c = none := by
  unfold simpleS
  rw [if_neg (by omega), if_neg e4, if_neg e5, if_neg e6, if_neg e7, if_neg e8]
 have HS := Lib.hid hs
 have t1 := key 34 (by decide) (fun h => e1 h.symm); have t2 := key 92 (by decide) (fun h => e2 h.symm); have t3 := key 47 (by decide) (fun h => e3 h.symm); have t4 := key 98 (by decide) (fun h => e4 h.symm)
 have t5 := key 102 (by decide) (fun h => e5 h.symm); have t6 := key 110 (by decide) (fun h => e6 h.symm); have t7 := key 114 (by decide) (fun h => e7 h.symm); have t8 := key 116 (by decide) (fun h => e8 h.symm)
 clear hs key e1 e2 e3 e4 e5 e6 e7 e8
 go_enter Tryz.func174, Tryz.ntmps174
 go_wp2
 go_ret2
 unfold simpleT
 rw [HS.out]
 exact ⟨rfl, rfl⟩
end
end Go.Proofs.YtcaiibkgajhohaaGreatDoor
