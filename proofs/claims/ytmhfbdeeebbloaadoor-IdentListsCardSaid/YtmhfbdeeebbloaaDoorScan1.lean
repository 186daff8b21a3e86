/- The small functions of scan: is, short, digits, number. -/
import Derived.Test.YtmhfbdeeebbloaaDoorErrs3
import Derived.Test.YtmhfbdeeebbloaaDoorScan0
import Derived.Test.YtmhfbdeeebbloaaDoorShelf
import Derived.BigQuiet
namespace Go.Proofs.YtmhfbdeeebbloaaDoor
open Go.RowKit
/-- A fault made just now. -/
def Failed (w : World) (k : Nat) (i : Int) (u : Value) (w' : World) : Prop := Rd (Fresh w w') w' u (errD 119 [((k : Int), i)]) ∧ Below w.heap.size w w'
/-- A number, or a fault; the world is as it was where there is none. -/
def ScQ (w : World) (r : Sc Nat) (e : Ending) (w' : World) : Prop := match r with
  | .ok n => e = .returned (.tuple #[.int .i64 n, .nilIface]) ∧ w = w'
  | .no k i => ∃ u, e = .returned (.tuple #[.int .i64 0, u]) ∧ Failed w k i u w'
def FailPost (w : World) (k : Nat) (i : Int) (e : Ending) (w' : World) : Prop := ∃ u, e = .returned u ∧ Failed w k i u w'
theorem failed_of {w w0 w1 : World} {k : Nat} {i : Int} (h0 : Below w.heap.size w w0) (h1 : w1 = w0.alloc (.cells #[.int .i64 k, .int .i64 i, .nilIface] 123)) : Failed w k i (.iface 119 (.pointer (some ⟨w0.heap.size, 0, none⟩))) w1 := by
  subst h1
  exact ⟨(Rd.failedF (k : Int) i w0).wide (fun b e => ⟨by have := h0.size; omega, by rw [e]; simp⟩), ext_alloc h0 _⟩
theorem Failed.form {w w' : World} {k : Nat} {i : Int} {u : Value} (h : Failed w k i u w') : ∃ p, u = .iface 119 (.pointer (some p)) := by
  obtain ⟨b, off, u, rfl, _⟩ := fault_inv h.1
  exact ⟨_, rfl⟩
theorem Failed.after {a b c : World} {k : Nat} {i : Int} {u : Value} (h : Failed b k i u c) (hb : Below a.heap.size a b) : Failed a k i u c :=
  ⟨h.1.wide (fun x hx => ⟨by have := hx.1; have := hb.size; omega, hx.2⟩), ext_trans hb h.2⟩
theorem fails (k : Nat) (i : Int) (w : World) : Calls Tryd.prog 54 #[.int .i64 k, .int .i64 i] w (FailPost w k i) :=
  (fail_any k i w).mono fun _ _ ⟨he, hw⟩ => ⟨_, he, failed_of (Below.refl _ _) hw⟩
theorem short_any (v : Value) (B : ByteArray) (w : World) (h : Rd (Own w) w v (bytesDB B)) : Calls Tryd.prog 86 #[v] w (FailPost w 10 B.size) := by
  obtain ⟨a, c, rfl, _, _, _⟩ := h.by_inv
  clear h
  go_enter Tryd.func86, Tryd.ntmps86
  go_wp2_with fail
  refine (fails 10 B.size w).mono ?_
  rintro e w1 ⟨u, rfl, hf⟩
  have HF := Lib.hid hf; clear hf
  go_wp2
  go_ret
  exact ⟨_, rfl, HF.out⟩
def ibV (l : List Nat) (c : Nat) : Int := if l.contains c then (l.idxOf c : Int) else -1
theorem indexByte_nat (l : List UInt8) (c : Nat) (hc : c < 256) : Go.Lib.indexByte l (c : Int).toNat.toUInt8 = ibV (l.map (·.toNat)) c := by
  induction l with
  | nil => rfl
  | cons b l ih =>
    have hb : (b == (c : Int).toNat.toUInt8) = (b.toNat == c) := by
      rw [Int.toNat_natCast, Bool.eq_iff_iff, beq_iff_eq, beq_iff_eq]
      constructor
      · intro h; rw [h]; simp; omega
      · intro h; apply UInt8.toNat.inj; rw [h]; simp; omega
    unfold Go.Lib.indexByte
    rw [hb, ih, List.map_cons]
    unfold ibV
    rw [List.contains_cons, List.idxOf_cons]
    by_cases hx : b.toNat = c
    · simp [hx]
    · have hx' : (b.toNat == c) = false := by simpa using hx
      have hx2 : (c == b.toNat) = false := by rw [beq_eq_false_iff_ne]; exact fun h => hx h.symm
      rw [hx', hx2, Bool.false_or, if_neg (by simp)]
      by_cases h1 : (l.map (·.toNat)).contains c = true
      · rw [if_pos h1, if_pos h1, if_neg (by simp <;> omega)]; simp
      · rw [if_neg h1, if_neg h1, if_pos (by rfl)]
theorem ibV_in {l : List Nat} {c : Nat} : decide (0 ≤ ibV l c) = l.contains c := by
  unfold ibV
  by_cases h : l.contains c = true
  · rw [if_pos h, h]; exact decide_eq_true (Int.natCast_nonneg _)
  · rw [if_neg h]; simp only [Bool.not_eq_true] at h; rw [h]; rfl
/-- strings.IndexByte. -/
theorem ib_any (s : ByteArray) (l : List Nat) (hl : s.data.toList.map (·.toNat) = l) (c : Nat) (hc : c < 256) (w : World) : Calls Tryd.prog 49 #[.string s, .int .u8 c] w fun e w' => e = .returned (.int .i64 (ibV l c)) ∧ w = w' :=
  (Tryd.strings_IndexByte s _ w).mono fun e w' ⟨he, hw⟩ => ⟨by rw [he, indexByte_nat _ c hc, hl], hw.symm⟩
theorem isAt_any (v : Value) (B : ByteArray) (i : Nat) (s : ByteArray) (l : List Nat) (hl : s.data.toList.map (·.toNat) = l) (w : World) (h : Rd (Own w) w v (bytesDB B)) (hm : B.size ≤ 1000000) (hi : i ≤ 1000000) :
    Calls Tryd.prog 144 #[v, .int .i64 i, .string s] w fun e w' => e = .returned (.bool (onAt l B i)) ∧ w = w' := by
  obtain ⟨a, c, rfl, _, _, hc⟩ := h.by_inv
  by_cases hlt : i < B.size
  · obtain ⟨b, off, rfl, _, x0⟩ := hc (by omega)
    have x1 := x0 i hlt
    have CI := Lib.hid (ib_any s l hl (byteAt B i) (byteAt_lt B i) w)
    have hx := ibV_in (l := l) (c := byteAt B i)
    rw [← onAt_in hlt] at hx
    have t1 : decide ((i : Int) < (B.size : Int)) = true := decide_eq_true (by omega)
    generalize ibV l (byteAt B i) = x at *
    cases ho : onAt l B i with
    | true =>
      rw [ho] at hx
      clear h x0 hc hl ho
      go_enter Tryd.func144, Tryd.ntmps144
      go_wp2_with fail
      refine CI.out.mono ?_
      rintro e w1 ⟨rfl, rfl⟩
      go_wp2
      go_ret
      exact ⟨rfl, rfl⟩
    | false =>
      rw [ho] at hx
      clear h x0 hc hl ho
      go_enter Tryd.func144, Tryd.ntmps144
      go_wp2_with fail
      refine CI.out.mono ?_
      rintro e w1 ⟨rfl, rfl⟩
      go_wp2
      go_ret
      exact ⟨rfl, rfl⟩
  · rw [onAt_out (by omega)]
    have t1 : decide ((i : Int) < (B.size : Int)) = false := decide_eq_false (by omega)
    clear h hc hl
    go_enter Tryd.func144, Tryd.ntmps144
    go_wp2
    go_ret
    exact ⟨rfl, rfl⟩
def DgRel (B : ByteArray) (e : Nat) (k : Value) : Prop := ∃ j : Nat, k = .int .i64 j ∧ j ≤ e ∧ skip isDig B j = e
theorem isDig_t {c : Nat} (h : isDig c = true) : 48 ≤ c ∧ c ≤ 57 := by simp [isDig] at h; exact h
theorem isDig_f {c : Nat} (h : isDig c = false) : c < 48 ∨ 57 < c := by simp [isDig] at h; omega
set_option maxRecDepth 100000 in
set_option maxHeartbeats 4000000 in
theorem digits_any (v : Value) (B : ByteArray) (i : Nat) (w : World) (h : Rd (Own w) w v (bytesDB B)) (hm : B.size ≤ 1000000) (hi : i ≤ B.size) :
    Calls Tryd.prog 145 #[v, .int .i64 i] w (ScQ w (digitsS B i)) := by
  have HS := Lib.hid (short_any v B w h)
  obtain ⟨a, c, rfl, _, _, hc⟩ := h.by_inv
  have HC := Lib.hid hc
  have hD : digitsS B i = digitsS B i := rfl
  conv at hD => rhs; unfold digitsS
  have hge := skip_ge isDig B i
  have hle := skip_le isDig B i hi
  have hE := skip_end isDig B _ i rfl
  generalize he : skip isDig B i = e at *
  have HD := Lib.hid hD; have HE := Lib.hid hE; have HEE := Lib.hid he
  clear h hc hD hE he
  go_enter Tryd.func145, Tryd.ntmps145
  go_wp2_with fail
  go_loop [1] (DgRel B e) (fun k => B.size - (intOf k).toNat)
  case atStart => exact ⟨i, rfl, hge, HEE.out⟩
  case round =>
    obtain ⟨j, rfl, hj, hs⟩ := hrel
    by_cases hlt : j < e
    · have hd : isDig (byteAt B j) = true := by
        cases hx : isDig (byteAt B j) with
        | true => rfl
        | false => rw [skip_stop (fun _ => hx)] at hs; omega
      rw [skip_go (by omega) hd] at hs
      obtain ⟨q1, q2⟩ := isDig_t hd
      obtain ⟨b, off, rfl, _, x0⟩ := HC.out (by omega)
      have x1 := x0 j (by omega)
      have t1 : decide ((j : Int) < (B.size : Int)) = true := decide_eq_true (by omega)
      have t2 : decide ((48 : Int) ≤ (byteAt B j : Int)) = true := decide_eq_true (by omega)
      have t3 : decide ((byteAt B j : Int) ≤ 57) = true := decide_eq_true (by omega)
      have R : DgRel B e (.int .i64 (j + 1)) := ⟨j + 1, by go_num, by omega, hs⟩
      have HR := Lib.hid R
      clear R hs hd x0
      go_wp2
      refine ⟨?_, by simp [intOf]; omega⟩
      have R := HR.out
      first | exact R | ((repeat apply Exists.intro); exact ⟨R, rfl⟩)
    · obtain rfl : j = e := by omega
      clear hs
      by_cases hsz : j < B.size
      · have hd := HE.out hsz
        obtain ⟨b, off, rfl, _, x0⟩ := HC.out (by omega)
        have x1 := x0 j (by omega)
        have t1 : decide ((j : Int) < (B.size : Int)) = true := decide_eq_true (by omega)
        have hbl := byteAt_lt B j
        have q : (decide ((48 : Int) ≤ (byteAt B j : Int)) = false) ∨ (decide ((48 : Int) ≤ (byteAt B j : Int)) = true ∧ decide ((byteAt B j : Int) ≤ 57) = false) := by
          rcases isDig_f hd with q | q
          · exact .inl (decide_eq_false (by omega))
          · exact .inr ⟨decide_eq_true (by omega), decide_eq_false (by omega)⟩
        clear x0 hd
        by_cases hij : i < j
        · have t4 : decide ((i : Int) < (j : Int)) = true := decide_eq_true (by omega)
          rcases q with q | ⟨q, q2⟩
          all_goals
            go_wp2
            go_ret2
            rw [HD.out, if_pos hij]
            exact ⟨rfl, rfl⟩
        · have t4 : decide ((i : Int) < (j : Int)) = false := decide_eq_false (by omega)
          have t5 : ((j : Int) == (B.size : Int)) = false := beq_eq_false_iff_ne.2 (by omega)
          have hji : j = i := by omega
          rcases q with q | ⟨q, q2⟩
          all_goals
            have HJ := Lib.hid hji
            clear hji
            go_wp2_with fail
            refine (fails 11 j w).mono ?_
            rintro ev w1 ⟨u, rfl, hf⟩
            have HF := Lib.hid hf; clear hf
            go_wp2
            go_ret2
            rw [HD.out, if_neg hij, if_neg (by omega), ← HJ.out]
            exact ⟨_, rfl, HF.out⟩
      · obtain rfl : j = B.size := by omega
        have t1 : decide ((B.size : Int) < (B.size : Int)) = false := decide_eq_false (by omega)
        by_cases hij : i < B.size
        · have t4 : decide ((i : Int) < (B.size : Int)) = true := decide_eq_true (by omega)
          go_wp2
          go_ret2
          rw [HD.out, if_pos hij]
          exact ⟨rfl, rfl⟩
        · have t4 : decide ((i : Int) < (B.size : Int)) = false := decide_eq_false (by omega)
          have t5 : ((B.size : Int) == (B.size : Int)) = true := beq_self_eq_true _
          go_wp2_with fail
          refine HS.out.mono ?_
          rintro ev w1 ⟨u, rfl, hf⟩
          have HF := Lib.hid hf; clear hf
          go_wp2
          go_ret2
          rw [HD.out, if_neg hij, if_pos (by omega)]
          exact ⟨_, rfl, HF.out⟩
end Go.Proofs.YtmhfbdeeebbloaaDoor
