/- Texts put together. -/
import Derived.Test.YtcaiibkgajhohaaGreatDoorYLib0s
import Derived.Test.YtcaiibkgajhohaaGreatDoorYScan1s
import Derived.Lib.DecodeNEq
namespace Go.Proofs.YtcaiibkgajhohaaGreatDoor
section
open Go.RowKit
def putN (n : Nat) : List Nat := if n < 128 then [n] else if n < 2048 then [192 + n / 64, 128 + n % 64] else if n < 65536 then [224 + n / 4096, 128 + n / 64 % 64, 128 + n % 64] else [240 + n / 262144, 128 + n / 4096 % 64, 128 + n / 64 % 64, 128 + n % 64]
def halfN (n : Int) : Int := if 55296 ≤ n ∧ n < 56320 then 1 else if 56320 ≤ n ∧ n < 57344 then 2 else 0
def rightN (n : Int) : Bool := decide (0 ≤ n) && decide (n < 1114112) && (halfN n == 0)
def guessN (b0 b1 b2 b3 : Nat) (k : Nat) : Int := if k = 1 then b0 else if k = 2 then 64 * ((b0 : Int) - 192) + b1 - 128 else if k = 3 then 64 * (64 * ((b0 : Int) - 224) + b1 - 128) + b2 - 128 else 64 * (64 * (64 * ((b0 : Int) - 240) + b1 - 128) + b2 - 128) + b3 - 128
def hitN (b0 b1 b2 b3 k : Nat) : Bool := rightN (guessN b0 b1 b2 b3 k) && (putN (guessN b0 b1 b2 b3 k).toNat == [b0, b1, b2, b3].take k)
theorem guess1 (b0 b1 b2 b3 : Nat) : guessN b0 b1 b2 b3 1 = b0 := rfl
theorem guess2 (b0 b1 b2 b3 : Nat) : guessN b0 b1 b2 b3 2 = 64 * ((b0 : Int) - 192) + b1 - 128 := rfl
theorem guess3 (b0 b1 b2 b3 : Nat) : guessN b0 b1 b2 b3 3 = 64 * (64 * ((b0 : Int) - 224) + b1 - 128) + b2 - 128 := rfl
theorem guess4 (b0 b1 b2 b3 : Nat) : guessN b0 b1 b2 b3 4 = 64 * (64 * (64 * ((b0 : Int) - 240) + b1 - 128) + b2 - 128) + b3 - 128 := rfl
theorem right_iff (n : Int) : rightN n = true ↔ 0 ≤ n ∧ n < 1114112 ∧ ¬ (55296 ≤ n ∧ n < 57344) := by
 unfold rightN halfN
 simp only [Bool.and_eq_true, decide_eq_true_eq, beq_iff_eq]
 constructor
 · rintro ⟨⟨h1, h2⟩, h3⟩
   refine ⟨h1, h2, fun h => ?_⟩
   split at h3
   · omega
   · split at h3 <;> omega
 · rintro ⟨h1, h2, h3⟩
   refine ⟨⟨h1, h2⟩, ?_⟩
   rw [if_neg (by omega), if_neg (by omega)]
section
variable {b0 b1 b2 b3 : Nat}
theorem hit1 (h0 : b0 < 256) : hitN b0 b1 b2 b3 1 = true ↔ b0 < 128 := by
 unfold hitN
 rw [guess1]
 simp only [Bool.and_eq_true, right_iff, beq_iff_eq, Int.toNat_natCast, putN]
 constructor
 · rintro ⟨_, h⟩
   by_cases hc : b0 < 128
   · exact hc
   · rw [if_neg hc, if_pos (by omega)] at h; simp at h
 · intro h
   rw [if_pos h]
   exact ⟨by omega, rfl⟩
theorem hit2 (h1 : b1 < 256) : hitN b0 b1 b2 b3 2 = true ↔ b0 / 32 = 6 ∧ b1 / 64 = 2 ∧ 128 ≤ b0 % 32 * 64 + b1 % 64 := by
 unfold hitN
 rw [guess2]
 simp only [Bool.and_eq_true, right_iff, beq_iff_eq, putN]
 constructor
 · rintro ⟨⟨r1, r2, r3⟩, h⟩
   generalize hg : (64 * ((b0 : Int) - 192) + b1 - 128).toNat = g at h
   have hg' : (g : Int) = 64 * ((b0 : Int) - 192) + b1 - 128 := by omega
   split at h
   · simp at h
   · split at h
     · simp at h; omega
     · split at h <;> simp at h
 · rintro ⟨q1, q2, q3⟩
   generalize hg : (64 * ((b0 : Int) - 192) + b1 - 128).toNat = g
   have hg' : (g : Int) = 64 * ((b0 : Int) - 192) + b1 - 128 := by omega
   refine ⟨⟨by omega, by omega, by omega⟩, ?_⟩
   rw [if_neg (by omega), if_pos (by omega)]
   simp only [List.take_succ_cons, List.take_zero, List.cons.injEq, and_true]
   omega
theorem hit3 (h1 : b1 < 256) : hitN b0 b1 b2 b3 3 = true ↔ b0 / 16 = 14 ∧ b1 / 64 = 2 ∧ b2 / 64 = 2 ∧ 2048 ≤ b0 % 16 * 4096 + b1 % 64 * 64 + b2 % 64 ∧ (b0 % 16 * 4096 + b1 % 64 * 64 + b2 % 64 < 55296 ∨ 57344 ≤ b0 % 16 * 4096 + b1 % 64 * 64 + b2 % 64) := by
 unfold hitN
 rw [guess3]
 simp only [Bool.and_eq_true, right_iff, beq_iff_eq, putN]
 constructor
 · rintro ⟨⟨r1, r2, r3⟩, h⟩
   generalize hg : (64 * (64 * ((b0 : Int) - 224) + b1 - 128) + b2 - 128).toNat = g at h
   have hg' : (g : Int) = 64 * (64 * ((b0 : Int) - 224) + b1 - 128) + b2 - 128 := by omega
   split at h
   · simp at h
   · split at h
     · simp at h
     · split at h
       · simp at h; omega
       · simp at h
 · rintro ⟨q1, q2, q3, q4, q5⟩
   generalize hg : (64 * (64 * ((b0 : Int) - 224) + b1 - 128) + b2 - 128).toNat = g
   have hg' : (g : Int) = 64 * (64 * ((b0 : Int) - 224) + b1 - 128) + b2 - 128 := by omega
   refine ⟨⟨by omega, by omega, by omega⟩, ?_⟩
   rw [if_neg (by omega), if_neg (by omega), if_pos (by omega)]
   simp only [List.take_succ_cons, List.take_zero, List.cons.injEq, and_true]
   omega
theorem hit4 (h2 : b2 < 256) : hitN b0 b1 b2 b3 4 = true ↔ b0 / 8 = 30 ∧ b1 / 64 = 2 ∧ b2 / 64 = 2 ∧ b3 / 64 = 2 ∧ 65536 ≤ b0 % 8 * 262144 + b1 % 64 * 4096 + b2 % 64 * 64 + b3 % 64 ∧ b0 % 8 * 262144 + b1 % 64 * 4096 + b2 % 64 * 64 + b3 % 64 ≤ 1114111 := by
 unfold hitN
 rw [guess4]
 simp only [Bool.and_eq_true, right_iff, beq_iff_eq, putN]
 constructor
 · rintro ⟨⟨r1, r2, r3⟩, h⟩
   generalize hg : (64 * (64 * (64 * ((b0 : Int) - 240) + b1 - 128) + b2 - 128) + b3 - 128).toNat = g at h
   have hg' : (g : Int) = 64 * (64 * (64 * ((b0 : Int) - 240) + b1 - 128) + b2 - 128) + b3 - 128 := by omega
   split at h
   · simp at h
   · split at h
     · simp at h
     · split at h
       · simp at h
       · simp at h; omega
 · rintro ⟨q1, q2, q3, q4, q5, q6⟩
   generalize hg : (64 * (64 * (64 * ((b0 : Int) - 240) + b1 - 128) + b2 - 128) + b3 - 128).toNat = g
   have hg' : (g : Int) = 64 * (64 * (64 * ((b0 : Int) - 240) + b1 - 128) + b2 - 128) + b3 - 128 := by omega
   refine ⟨⟨by omega, by omega, by omega⟩, ?_⟩
   rw [if_neg (by omega), if_neg (by omega), if_neg (by omega)]
   simp only [List.take_succ_cons, List.take_zero, List.cons.injEq, and_true]
   omega
/-- The decoder finds what is made as it stands there. -/
theorem decode_hit (h0 : b0 < 256) (h1 : b1 < 256) (h2 : b2 < 256) (n : Nat) (_hn : 0 < n) (k : Nat) (hk : 1 ≤ k) (hk4 : k ≤ 4) (hkn : k ≤ n) (hh : hitN b0 b1 b2 b3 k = true) : Go.Lib.decodeN n b0 b1 b2 b3 = ((guessN b0 b1 b2 b3 k).toNat, k) ∧ ((guessN b0 b1 b2 b3 k).toNat, k) ≠ (65533, 1) := by
 have hk' : k = 1 ∨ k = 2 ∨ k = 3 ∨ k = 4 := by omega
 rcases hk' with rfl | rfl | rfl | rfl
 · have h := (hit1 h0).1 hh
   refine ⟨?_, ?_⟩
   · rw [guess1]; unfold Go.Lib.decodeN; rw [if_pos h]; simp
   · rw [guess1]; simp; omega
 · obtain ⟨q1, q2, q3⟩ := (hit2 h1).1 hh
   refine ⟨?_, by simp⟩
   rw [guess2]; unfold Go.Lib.decodeN
   rw [if_neg (by omega), if_pos ⟨q1, by omega, q2⟩, if_pos q3]
   refine Prod.ext ?_ rfl
   simp only; omega
 · obtain ⟨q1, q2, q3, q4, q5⟩ := (hit3 h1).1 hh
   refine ⟨?_, by simp⟩
   rw [guess3]; unfold Go.Lib.decodeN
   rw [if_neg (by omega), if_neg (by omega), if_pos ⟨q1, ⟨by omega, q2⟩, by omega, q3⟩, if_pos ⟨q4, by omega⟩]
   refine Prod.ext ?_ rfl
   simp only; omega
 · obtain ⟨q1, q2, q3, q4, q5, q6⟩ := (hit4 h2).1 hh
   refine ⟨?_, by simp⟩
   rw [guess4]; unfold Go.Lib.decodeN
   rw [if_neg (by omega), if_neg (by omega), if_neg (by omega), if_pos ⟨q1, ⟨by omega, q2⟩, ⟨by omega, q3⟩, by omega, q4⟩, if_pos ⟨q5, by omega⟩]
   refine Prod.ext ?_ rfl
   simp only; omega
theorem decode_none (h0 : b0 < 256) (h1 : b1 < 256) (h2 : b2 < 256) (n : Nat) (hn : 0 < n) (h : ∀ k, 1 ≤ k → k ≤ 4 → k ≤ n → hitN b0 b1 b2 b3 k = false) : Go.Lib.decodeN n b0 b1 b2 b3 = (65533, 1) := by
 have f : ∀ k, 1 ≤ k → k ≤ 4 → k ≤ n → ¬ hitN b0 b1 b2 b3 k = true := fun k a b c => by rw [h k a b c]; simp
 have f1 := fun c => f 1 (by omega) (by omega) hn ((hit1 h0).2 c)
 have f2 := fun d c => f 2 (by omega) (by omega) d ((hit2 h1).2 c)
 have f3 := fun d c => f 3 (by omega) (by omega) d ((hit3 h1).2 c)
 have f4 := fun d c => f 4 (by omega) (by omega) d ((hit4 h2).2 c)
 unfold Go.Lib.decodeN
 rw [if_neg (fun c => f1 c)]
 by_cases c2 : b0 / 32 = 6 ∧ (1 < n ∧ b1 / 64 = 2)
 · rw [if_pos c2, if_neg (fun c => f2 (by omega) ⟨c2.1, c2.2.2, c⟩)]
 · rw [if_neg c2]
   by_cases c3 : b0 / 16 = 14 ∧ (1 < n ∧ b1 / 64 = 2) ∧ (2 < n ∧ b2 / 64 = 2)
   · rw [if_pos c3, if_neg (fun c => f3 (by omega) ⟨c3.1, c3.2.1.2, c3.2.2.2, c.1, by omega⟩)]
   · rw [if_neg c3]
     by_cases c4 : b0 / 8 = 30 ∧ (1 < n ∧ b1 / 64 = 2) ∧ (2 < n ∧ b2 / 64 = 2) ∧ (3 < n ∧ b3 / 64 = 2)
     · rw [if_pos c4, if_neg (fun c => f4 (by omega) ⟨c4.1, c4.2.1.2, c4.2.2.1.2, c4.2.2.2.2, c.1, by omega⟩)]
     · rw [if_neg c4]
end
theorem putN_lt {n : Nat} (h : n < 1114112) : ∀ x ∈ putN n, x < 256 := by
 intro x hx
 unfold putN at hx
 split at hx
 · simp at hx; omega
 · split at hx
   · simp at hx; omega
   · split at hx
     · simp at hx; omega
     · simp at hx; omega
end
section
open Go.RowKit
theorem i64_eq {a b : Int} (h : a = b) : Ending.returned (.int .i64 a) = .returned (.int .i64 b) := by rw [h]
theorem half_any (n : Int) (w : World) : Calls Tryz.prog 186 #[.int .i64 n] w fun e w' => e = .returned (.int .i64 (halfN n)) ∧ w = w' := by
 by_cases h1 : n < 55296
 · have hd : halfN n = 0 := by unfold halfN; rw [if_neg (by omega), if_neg (by omega)]
   have HD := Lib.hid hd; clear hd
   have t1 : decide (n < 55296) = true := decide_eq_true h1
   go_enter Tryz.func186, Tryz.ntmps186
   go_wp2
   go_ret
   exact ⟨i64_eq HD.out.symm, rfl⟩
 · have t1 : decide (n < 55296) = false := decide_eq_false h1
   by_cases h2 : 57343 < n
   · have hd : halfN n = 0 := by unfold halfN; rw [if_neg (by omega), if_neg (by omega)]
     have HD := Lib.hid hd; clear hd
     have t2 : decide (57343 < n) = true := decide_eq_true h2
     go_enter Tryz.func186, Tryz.ntmps186
     go_wp2
     go_ret
     exact ⟨i64_eq HD.out.symm, rfl⟩
   · have t2 : decide (57343 < n) = false := decide_eq_false h2
     by_cases h3 : n < 56320
     · have hd : halfN n = 1 := by unfold halfN; rw [if_pos (by omega)]
       have HD := Lib.hid hd; clear hd
       have t3 : decide (n < 56320) = true := decide_eq_true h3
       go_enter Tryz.func186, Tryz.ntmps186
       go_wp2
       go_ret
       exact ⟨i64_eq HD.out.symm, rfl⟩
     · have hd : halfN n = 2 := by unfold halfN; rw [if_neg (by omega), if_pos (by omega)]
       have HD := Lib.hid hd; clear hd
       have t3 : decide (n < 56320) = false := decide_eq_false h3
       go_enter Tryz.func186, Tryz.ntmps186
       go_wp2
       go_ret
       exact ⟨i64_eq HD.out.symm, rfl⟩
/-- The bytes from a place on. -/
def restB (B : ByteArray) (i : Nat) : ByteArray := ⟨B.data.extract i B.data.size⟩
theorem restB_size (B : ByteArray) (i : Nat) : (restB B i).size = B.size - i := by
 show (B.data.extract i B.data.size).size = _
 simp
theorem restB_at (B : ByteArray) (i j : Nat) : byteAt (restB B i) j = byteAt B (i + j) := by
 unfold byteAt restB
 simp only [Array.getElem?_extract]
 split
 · rfl
 · rw [Array.getElem?_eq_none (by simp at *; omega)]
theorem get!_byteAt (s : ByteArray) (j : Nat) : (s.get! j).toNat = byteAt s j := by
 cases s with
 | mk bs =>
   show (bs[j]!).toNat = (bs[j]?.getD 0).toNat
   rw [Array.getElem!_eq_getD, Array.getD_eq_getD_getElem?]
   rfl
theorem decodeGo_rest (B : ByteArray) (i : Nat) (h : i < B.size) : Go.Lib.decodeGo (restB B i) = decU B i := by
 unfold Go.Lib.decodeGo
 rw [if_neg (by rw [restB_size]; omega), Go.Lib.decode_at, restB_size]
 simp only [get!_byteAt, restB_at]
 unfold decU
 simp
def ScP (w : World) (r : Sc (Nat × Nat)) (e : Ending) (w' : World) : Prop := match r with
 | .ok x => e = .returned (.tuple #[.int .i64 x.1, .int .i64 x.2, .nilIface]) ∧ Below w.heap.size w w'
 | .no k i => ∃ u, e = .returned (.tuple #[.int .i64 0, .int .i64 0, .iface 85 (.pointer (some u))]) ∧ Failed w k i (.iface 85 (.pointer (some u))) w'
def Utf8T (w : World) : Prop := Go.Lib.Utf8Tabs 4 5 w
theorem Utf8T.ext {w w' : World} (h : Utf8T w) (hb : Below w.heap.size w w') : Utf8T w' := Utf8Tabs_below h hb
theorem decU_lt (B : ByteArray) (i : Nat) : (decU B i).1 < 1114112 ∧ (decU B i).2 < 5 := by
 have h0 := byteAt_lt B i; have h1 := byteAt_lt B (i + 1); have h2 := byteAt_lt B (i + 2); have h3 := byteAt_lt B (i + 3)
 unfold decU Go.Lib.decodeN
 repeat' split
 all_goals simp only <;> omega
set_option maxRecDepth 100000 in
set_option maxHeartbeats 8000000 in
theorem unext_any (v : Value) (B : ByteArray) (i : Nat) (w : World) (h : Rd (Own w) w v (bytesDB B)) (ht : Utf8T w) (hm : B.size ≤ 1100000) (hi : i < B.size) :
    Calls Tryz.prog 131 #[v, .int .i64 i] w (ScP w (charS B i)) := by
 obtain ⟨a, c, rfl, _, hcap, hc⟩ := h.by_inv
 obtain ⟨b, off, rfl, _, x0⟩ := hc (by omega)
 have D := Tryz.utf8_DecodeRune (restB B i) b (off + i) (c - i) w ht (fun j hj => by
  rw [restB_size] at hj
  rw [Nat.add_assoc, x0 (i + j) (by omega), get!_byteAt, restB_at])
 rw [decodeGo_rest B i hi, restB_size] at D
 have hcs : charS B i = charS B i := rfl
 conv at hcs => rhs; unfold charS
 rw [if_neg (by omega)] at hcs
 have hlt := decU_lt B i
 rcases hx : decU B i with ⟨r, k⟩
 rw [hx] at D hcs hlt
 simp only at D hlt
 obtain ⟨hr, hk⟩ := hlt
 have HD := Lib.hid D; have HCS := Lib.hid hcs
 have t1 : decide ((i : Int) < 0) = false := decide_eq_false (by omega)
 have t2 : decide ((B.size : Int) < (i : Int)) = false := decide_eq_false (by omega)
 have t3 : ((i : Int) == (B.size : Int)) = false := beq_eq_false_iff_ne.2 (by omega)
 have q1 : (i : Int) < (c : Int) := by omega
 clear h hc x0 D hcs hx ht
 go_enter Tryz.func131, Tryz.ntmps131
 go_wp2_with fail
 refine HD.out.mono ?_
 rintro e w1 ⟨rfl, hb⟩
 have HB := Lib.hid hb; clear hb
 by_cases hr1 : r = 65533
 · subst hr1
   by_cases hk1 : k = 1
   · subst hk1
     have HC := Lib.hid (HCS.out.trans (if_pos rfl))
     clear HCS
     go_wp2_with fail
     refine (fails 12 i w1).mono ?_
     rintro ev w2 ⟨u, rfl, hf⟩
     obtain ⟨p, rfl⟩ := hf.form
     have HF := Lib.hid (hf.after HB.out)
     clear hf
     go_wp2
     go_ret3
     rw [HC.out]
     exact ⟨_, rfl, HF.out⟩
   · have t4 : ((k : Int) == 1) = false := beq_eq_false_iff_ne.2 (by omega)
     have HC := Lib.hid (HCS.out.trans (if_neg (fun e => hk1 (Prod.mk.inj e).2)))
     clear HCS
     go_wp2
     go_ret3
     rw [HC.out]
     exact ⟨rfl, HB.out⟩
 · have t4 : ((r : Int) == 65533) = false := beq_eq_false_iff_ne.2 (by omega)
   have HC := Lib.hid (HCS.out.trans (if_neg (fun e => hr1 (Prod.mk.inj e).1)))
   clear HCS
   go_wp2
   go_ret3
   rw [HC.out]
   exact ⟨rfl, HB.out⟩
def wholeN (hi lo : Int) : Int := 65536 + (hi - 55296) * 1024 + lo - 56320
set_option maxHeartbeats 4000000 in
theorem whole_in (hi lo : Int) (w : World) (h1 : 55296 ≤ hi) (h2 : hi < 56320) (h3 : 56320 ≤ lo) (h4 : lo < 57344) :
    Calls Tryz.prog 187 #[.int .i64 hi, .int .i64 lo] w fun e w' => e = .returned (.tuple #[.int .i64 (wholeN hi lo), .bool true]) ∧ w = w' := by
 have e1 : halfN hi = 1 := by unfold halfN; rw [if_pos (by omega)]
 have e2 : halfN lo = 2 := by unfold halfN; rw [if_neg (by omega), if_pos (by omega)]
 have H1 := half_any hi w; have H2 := half_any lo w
 rw [e1] at H1; rw [e2] at H2
 have H1 := Lib.hid H1; have H2 := Lib.hid H2
 clear e1 e2
 go_enter Tryz.func187, Tryz.ntmps187
 go_wp2_with fail
 refine H1.out.mono ?_
 rintro e w1 ⟨rfl, rfl⟩
 go_wp2_with fail
 refine H2.out.mono ?_
 rintro e w1 ⟨rfl, rfl⟩
 go_wp2
 go_ret2
 exact ⟨rfl, rfl⟩
theorem whole_out (hi lo : Int) (w : World) (h : ¬ (55296 ≤ hi ∧ hi < 56320 ∧ 56320 ≤ lo ∧ lo < 57344)) :
    Calls Tryz.prog 187 #[.int .i64 hi, .int .i64 lo] w fun e w' => e = .returned (.tuple #[.int .i64 0, .bool false]) ∧ w = w' := by
 have H1 := Lib.hid (half_any hi w); have H2 := Lib.hid (half_any lo w)
 by_cases e1 : halfN hi = 1
 · have e2 : halfN lo ≠ 2 := by
     unfold halfN at e1 ⊢
     split at e1
     · split
       · decide
       · rw [if_neg (by omega)]; decide
     · split at e1 <;> cases e1
   have t1 : (halfN hi != 1) = false := by simp [e1]
   have t2 : (halfN lo != 2) = true := bne_iff_ne.2 e2
   clear h e1 e2
   go_enter Tryz.func187, Tryz.ntmps187
   go_wp2_with fail
   refine H1.out.mono ?_
   rintro e w1 ⟨rfl, rfl⟩
   go_wp2_with fail
   refine H2.out.mono ?_
   rintro e w1 ⟨rfl, rfl⟩
   go_wp2
   go_ret2
   exact ⟨rfl, rfl⟩
 · have t1 : (halfN hi != 1) = true := bne_iff_ne.2 e1
   clear h e1
   go_enter Tryz.func187, Tryz.ntmps187
   go_wp2_with fail
   refine H1.out.mono ?_
   rintro e w1 ⟨rfl, rfl⟩
   go_wp2
   go_ret2
   exact ⟨rfl, rfl⟩
end
end Go.Proofs.YtcaiibkgajhohaaGreatDoor
