/- utf.Half, utf.Whole, utf.Next: the walks. -/
import Derived.Test.YtmhfbdeeebbloaaDoorScan1
import Derived.Test.YtmhfbdeeebbloaaDoorUtf0
namespace Go.Proofs.YtmhfbdeeebbloaaDoor
open Go.RowKit
theorem i64_eq {a b : Int} (h : a = b) : Ending.returned (.int .i64 a) = .returned (.int .i64 b) := by rw [h]
theorem half_any (n : Int) (w : World) : Calls Tryd.prog 131 #[.int .i64 n] w fun e w' => e = .returned (.int .i64 (halfN n)) ∧ w = w' := by
  by_cases h1 : n < 55296
  · have hd : halfN n = 0 := by unfold halfN; rw [if_neg (by omega), if_neg (by omega)]
    have HD := Lib.hid hd; clear hd
    have t1 : decide (n < 55296) = true := decide_eq_true h1
    go_enter Tryd.func131, Tryd.ntmps131
    go_wp2
    go_ret
    exact ⟨i64_eq HD.out.symm, rfl⟩
  · have t1 : decide (n < 55296) = false := decide_eq_false h1
    by_cases h2 : 57343 < n
    · have hd : halfN n = 0 := by unfold halfN; rw [if_neg (by omega), if_neg (by omega)]
      have HD := Lib.hid hd; clear hd
      have t2 : decide (57343 < n) = true := decide_eq_true h2
      go_enter Tryd.func131, Tryd.ntmps131
      go_wp2
      go_ret
      exact ⟨i64_eq HD.out.symm, rfl⟩
    · have t2 : decide (57343 < n) = false := decide_eq_false h2
      by_cases h3 : n < 56320
      · have hd : halfN n = 1 := by unfold halfN; rw [if_pos (by omega)]
        have HD := Lib.hid hd; clear hd
        have t3 : decide (n < 56320) = true := decide_eq_true h3
        go_enter Tryd.func131, Tryd.ntmps131
        go_wp2
        go_ret
        exact ⟨i64_eq HD.out.symm, rfl⟩
      · have hd : halfN n = 2 := by unfold halfN; rw [if_neg (by omega), if_pos (by omega)]
        have HD := Lib.hid hd; clear hd
        have t3 : decide (n < 56320) = false := decide_eq_false h3
        go_enter Tryd.func131, Tryd.ntmps131
        go_wp2
        go_ret
        exact ⟨i64_eq HD.out.symm, rfl⟩
/-- The bytes from a place on. -/
def restB (B : ByteArray) (i : Nat) : ByteArray := ⟨B.data.extract i B.data.size⟩
theorem restB_size (B : ByteArray) (i : Nat) : (restB B i).size = B.size - i := by
  show (B.data.extract i B.data.size).size = _
  simp
theorem restB_at (B : ByteArray) (i j : Nat) : byteAt (restB B i) j = byteAt B (i + j) := by
  unfold byteAt restB
  simp only [Array.getElem?_extract]
  split
  · rfl
  · rw [Array.getElem?_eq_none (by simp at *; omega)]
theorem get!_byteAt (s : ByteArray) (j : Nat) : (s.get! j).toNat = byteAt s j := by
  cases s with
  | mk bs =>
    show (bs[j]!).toNat = (bs[j]?.getD 0).toNat
    rw [Array.getElem!_eq_getD, Array.getD_eq_getD_getElem?]
    rfl
theorem decodeGo_rest (B : ByteArray) (i : Nat) (h : i < B.size) : Go.Lib.decodeGo (restB B i) = decU B i := by
  unfold Go.Lib.decodeGo
  rw [if_neg (by rw [restB_size]; omega), Go.Lib.decode_at, restB_size]
  simp only [get!_byteAt, restB_at]
  unfold decU
  simp
def ScP (w : World) (r : Sc (Nat × Nat)) (e : Ending) (w' : World) : Prop := match r with
  | .ok x => e = .returned (.tuple #[.int .i64 x.1, .int .i64 x.2, .nilIface]) ∧ Below w.heap.size w w'
  | .no k i => ∃ u, e = .returned (.tuple #[.int .i64 0, .int .i64 0, .iface 119 (.pointer (some u))]) ∧ Failed w k i (.iface 119 (.pointer (some u))) w'
def Utf8T (w : World) : Prop := Go.Lib.Utf8Tabs 3 4 w
theorem Utf8T.ext {w w' : World} (h : Utf8T w) (hb : Below w.heap.size w w') : Utf8T w' := Utf8Tabs_below h hb
theorem decU_lt (B : ByteArray) (i : Nat) : (decU B i).1 < 1114112 ∧ (decU B i).2 < 5 := by
  have h0 := byteAt_lt B i; have h1 := byteAt_lt B (i + 1); have h2 := byteAt_lt B (i + 2); have h3 := byteAt_lt B (i + 3)
  unfold decU Go.Lib.decodeN
  repeat' split
  all_goals simp only <;> omega
set_option maxRecDepth 100000 in
set_option maxHeartbeats 8000000 in
theorem unext_any (v : Value) (B : ByteArray) (i : Nat) (w : World) (h : Rd (Own w) w v (bytesDB B)) (ht : Utf8T w) (hm : B.size ≤ 1000000) (hi : i < B.size) :
    Calls Tryd.prog 88 #[v, .int .i64 i] w (ScP w (charS B i)) := by
  obtain ⟨a, c, rfl, _, hcap, hc⟩ := h.by_inv
  obtain ⟨b, off, rfl, _, x0⟩ := hc (by omega)
  have D := Tryd.utf8_DecodeRune (restB B i) b (off + i) (c - i) w ht (fun j hj => by
    rw [restB_size] at hj
    rw [Nat.add_assoc, x0 (i + j) (by omega), get!_byteAt, restB_at])
  rw [decodeGo_rest B i hi, restB_size] at D
  have hcs : charS B i = charS B i := rfl
  conv at hcs => rhs; unfold charS
  rw [if_neg (by omega)] at hcs
  have hlt := decU_lt B i
  rcases hx : decU B i with ⟨r, k⟩
  rw [hx] at D hcs hlt
  simp only at D hlt
  obtain ⟨hr, hk⟩ := hlt
  have HD := Lib.hid D; have HCS := Lib.hid hcs
  have t1 : decide ((i : Int) < 0) = false := decide_eq_false (by omega)
  have t2 : decide ((B.size : Int) < (i : Int)) = false := decide_eq_false (by omega)
  have t3 : ((i : Int) == (B.size : Int)) = false := beq_eq_false_iff_ne.2 (by omega)
  have q1 : (i : Int) < (c : Int) := by omega
  clear h hc x0 D hcs hx ht
  go_enter Tryd.func88, Tryd.ntmps88
  go_wp2_with fail
  refine HD.out.mono ?_
  rintro e w1 ⟨rfl, hb⟩
  have HB := Lib.hid hb; clear hb
  by_cases hr1 : r = 65533
  · subst hr1
    by_cases hk1 : k = 1
    · subst hk1
      have HC := Lib.hid (HCS.out.trans (if_pos rfl))
      clear HCS
      go_wp2_with fail
      refine (fails 12 i w1).mono ?_
      rintro ev w2 ⟨u, rfl, hf⟩
      obtain ⟨p, rfl⟩ := hf.form
      have HF := Lib.hid (hf.after HB.out)
      clear hf
      go_wp2
      go_ret3
      rw [HC.out]
      exact ⟨_, rfl, HF.out⟩
    · have t4 : ((k : Int) == 1) = false := beq_eq_false_iff_ne.2 (by omega)
      have HC := Lib.hid (HCS.out.trans (if_neg (fun e => hk1 (Prod.mk.inj e).2)))
      clear HCS
      go_wp2
      go_ret3
      rw [HC.out]
      exact ⟨rfl, HB.out⟩
  · have t4 : ((r : Int) == 65533) = false := beq_eq_false_iff_ne.2 (by omega)
    have HC := Lib.hid (HCS.out.trans (if_neg (fun e => hr1 (Prod.mk.inj e).1)))
    clear HCS
    go_wp2
    go_ret3
    rw [HC.out]
    exact ⟨rfl, HB.out⟩
def wholeN (hi lo : Int) : Int := 65536 + (hi - 55296) * 1024 + lo - 56320
set_option maxHeartbeats 4000000 in
theorem whole_in (hi lo : Int) (w : World) (h1 : 55296 ≤ hi) (h2 : hi < 56320) (h3 : 56320 ≤ lo) (h4 : lo < 57344) :
    Calls Tryd.prog 147 #[.int .i64 hi, .int .i64 lo] w fun e w' => e = .returned (.tuple #[.int .i64 (wholeN hi lo), .bool true]) ∧ w = w' := by
  have e1 : halfN hi = 1 := by unfold halfN; rw [if_pos (by omega)]
  have e2 : halfN lo = 2 := by unfold halfN; rw [if_neg (by omega), if_pos (by omega)]
  have H1 := half_any hi w; have H2 := half_any lo w
  rw [e1] at H1; rw [e2] at H2
  have H1 := Lib.hid H1; have H2 := Lib.hid H2
  clear e1 e2
  go_enter Tryd.func147, Tryd.ntmps147
  go_wp2_with fail
  refine H1.out.mono ?_
  rintro e w1 ⟨rfl, rfl⟩
  go_wp2_with fail
  refine H2.out.mono ?_
  rintro e w1 ⟨rfl, rfl⟩
  go_wp2
  go_ret2
  exact ⟨rfl, rfl⟩
theorem whole_out (hi lo : Int) (w : World) (h : ¬ (55296 ≤ hi ∧ hi < 56320 ∧ 56320 ≤ lo ∧ lo < 57344)) :
    Calls Tryd.prog 147 #[.int .i64 hi, .int .i64 lo] w fun e w' => e = .returned (.tuple #[.int .i64 0, .bool false]) ∧ w = w' := by
  have H1 := Lib.hid (half_any hi w); have H2 := Lib.hid (half_any lo w)
  by_cases e1 : halfN hi = 1
  · have e2 : halfN lo ≠ 2 := by
      unfold halfN at e1 ⊢
      split at e1
      · split
        · decide
        · rw [if_neg (by omega)]; decide
      · split at e1 <;> cases e1
    have t1 : (halfN hi != 1) = false := by simp [e1]
    have t2 : (halfN lo != 2) = true := bne_iff_ne.2 e2
    clear h e1 e2
    go_enter Tryd.func147, Tryd.ntmps147
    go_wp2_with fail
    refine H1.out.mono ?_
    rintro e w1 ⟨rfl, rfl⟩
    go_wp2_with fail
    refine H2.out.mono ?_
    rintro e w1 ⟨rfl, rfl⟩
    go_wp2
    go_ret2
    exact ⟨rfl, rfl⟩
  · have t1 : (halfN hi != 1) = true := bne_iff_ne.2 e1
    clear h e1
    go_enter Tryd.func147, Tryd.ntmps147
    go_wp2_with fail
    refine H1.out.mono ?_
    rintro e w1 ⟨rfl, rfl⟩
    go_wp2
    go_ret2
    exact ⟨rfl, rfl⟩
end Go.Proofs.YtmhfbdeeebbloaaDoor
