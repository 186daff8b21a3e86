/- Fold0, Utf0 in one text (a claim holds at most 60 files). -/
import Derived.Test.YtbeodjipdpcaiaaGreatDoorYLib0s
import Derived.Test.YtbeodjipdpcaiaaGreatDoorYErrs1s
import Derived.Lib.DecodeNEq
import Derived.Test.YtbeodjipdpcaiaaGreatDoorZShelf
import Derived.BigQuiet
import Derived.Deep.DeepCutAuto
import Derived.IntWalk
namespace Go.Proofs.YtbeodjipdpcaiaaGreatDoor
section
open Go.RowKit
def digV (c : Nat) : Nat := if 48 ≤ c ∧ c ≤ 57 then c - 48 else if 97 ≤ c ∧ c ≤ 102 then c - 87 else if 65 ≤ c ∧ c ≤ 70 then c - 55 else 99
theorem digV_le (c : Nat) : digV c ≤ 99 := by
 unfold digV; split
 · omega
 · split
   · omega
   · split <;> omega
def numVal (base : Nat) (s : ByteArray) : Nat → Nat
 | 0 => 0
 | j + 1 => numVal base s j * base + digV (byteAt s j)
def notDigit (base : Nat) (s : ByteArray) (i : Nat) : Bool := decide (base ≤ digV (byteAt s i))
def numberF (base most : Nat) (s : ByteArray) : Sc Nat := if s.size = 0 then .no 10 0 else match (List.range s.size).find? (notDigit base s) with
 | some i => .no 11 i
 | none => if most < numVal base s s.size then .no 16 0 else .ok (numVal base s s.size)
theorem numberF_bad {base most : Nat} {s : ByteArray} {j : Nat} (hj : j < s.size) (hb : notDigit base s j = true) (h : ∀ m, m < j → notDigit base s m = false) : numberF base most s = .no 11 j := by
 have : (List.range s.size).find? (notDigit base s) = some j := by
  rw [List.find?_range_eq_some]
  exact ⟨hb, List.mem_range.2 hj, fun m hm => by simp [h m hm]⟩
 unfold numberF
 rw [if_neg (by omega), this]
theorem numberF_end {base most : Nat} {s : ByteArray} (h0 : s.size ≠ 0) (h : ∀ m, m < s.size → notDigit base s m = false) : numberF base most s = if most < numVal base s s.size then .no 16 0 else .ok (numVal base s s.size) := by
 have : (List.range s.size).find? (notDigit base s) = none := by
  rw [List.find?_range_eq_none]
  exact fun m hm => by simp [h m hm]
 unfold numberF
 rw [if_neg h0, this]
theorem num_step {n base d : Nat} (_hn : n < 18446744073709551616) (_hb : base < 18446744073709551616) (hd : d < 18446744073709551616) :
    (0 < n * base / 18446744073709551616 + (n * base % 18446744073709551616 + d) / 18446744073709551616 ↔ 18446744073709551616 ≤ n * base + d) ∧
    (n * base + d < 18446744073709551616 → (n * base % 18446744073709551616 + d) % 18446744073709551616 = n * base + d) := by
 generalize n * base = x
 constructor <;> omega
theorem numVal_mono (base : Nat) (s : ByteArray) (hb : 1 ≤ base) (j : Nat) : numVal base s j ≤ numVal base s (j + 1) := by
 have : numVal base s (j + 1) = numVal base s j * base + digV (byteAt s j) := rfl
 have h2 : numVal base s j * 1 ≤ numVal base s j * base := Nat.mul_le_mul_left _ hb
 omega
end
section
open Go.RowKit
def putN (n : Nat) : List Nat := if n < 128 then [n] else if n < 2048 then [192 + n / 64, 128 + n % 64] else if n < 65536 then [224 + n / 4096, 128 + n / 64 % 64, 128 + n % 64] else [240 + n / 262144, 128 + n / 4096 % 64, 128 + n / 64 % 64, 128 + n % 64]
def halfN (n : Int) : Int := if 55296 ≤ n ∧ n < 56320 then 1 else if 56320 ≤ n ∧ n < 57344 then 2 else 0
def rightN (n : Int) : Bool := decide (0 ≤ n) && decide (n < 1114112) && (halfN n == 0)
def guessN (b0 b1 b2 b3 : Nat) (k : Nat) : Int := if k = 1 then b0 else if k = 2 then 64 * ((b0 : Int) - 192) + b1 - 128 else if k = 3 then 64 * (64 * ((b0 : Int) - 224) + b1 - 128) + b2 - 128 else 64 * (64 * (64 * ((b0 : Int) - 240) + b1 - 128) + b2 - 128) + b3 - 128
def hitN (b0 b1 b2 b3 k : Nat) : Bool := rightN (guessN b0 b1 b2 b3 k) && (putN (guessN b0 b1 b2 b3 k).toNat == [b0, b1, b2, b3].take k)
theorem guess1 (b0 b1 b2 b3 : Nat) : guessN b0 b1 b2 b3 1 = b0 := rfl
theorem guess2 (b0 b1 b2 b3 : Nat) : guessN b0 b1 b2 b3 2 = 64 * ((b0 : Int) - 192) + b1 - 128 := rfl
theorem guess3 (b0 b1 b2 b3 : Nat) : guessN b0 b1 b2 b3 3 = 64 * (64 * ((b0 : Int) - 224) + b1 - 128) + b2 - 128 := rfl
theorem guess4 (b0 b1 b2 b3 : Nat) : guessN b0 b1 b2 b3 4 = 64 * (64 * (64 * ((b0 : Int) - 240) + b1 - 128) + b2 - 128) + b3 - 128 := rfl
theorem right_iff (n : Int) : rightN n = true ↔ 0 ≤ n ∧ n < 1114112 ∧ ¬ (55296 ≤ n ∧ n < 57344) := by
 unfold rightN halfN
 simp only [Bool.and_eq_true, decide_eq_true_eq, beq_iff_eq]
 constructor
 · rintro ⟨⟨h1, h2⟩, h3⟩
   refine ⟨h1, h2, fun h => ?_⟩
   split at h3
   · omega
   · split at h3 <;> omega
 · rintro ⟨h1, h2, h3⟩
   refine ⟨⟨h1, h2⟩, ?_⟩
   rw [if_neg (by omega), if_neg (by omega)]
section
variable {b0 b1 b2 b3 : Nat}
theorem hit1 (h0 : b0 < 256) : hitN b0 b1 b2 b3 1 = true ↔ b0 < 128 := by
 unfold hitN
 rw [guess1]
 simp only [Bool.and_eq_true, right_iff, beq_iff_eq, Int.toNat_natCast, putN]
 constructor
 · rintro ⟨_, h⟩
   by_cases hc : b0 < 128
   · exact hc
   · rw [if_neg hc, if_pos (by omega)] at h; simp at h
 · intro h
   rw [if_pos h]
   exact ⟨by omega, rfl⟩
theorem hit2 (h1 : b1 < 256) : hitN b0 b1 b2 b3 2 = true ↔ b0 / 32 = 6 ∧ b1 / 64 = 2 ∧ 128 ≤ b0 % 32 * 64 + b1 % 64 := by
 unfold hitN
 rw [guess2]
 simp only [Bool.and_eq_true, right_iff, beq_iff_eq, putN]
 constructor
 · rintro ⟨⟨r1, r2, r3⟩, h⟩
   generalize hg : (64 * ((b0 : Int) - 192) + b1 - 128).toNat = g at h
   have hg' : (g : Int) = 64 * ((b0 : Int) - 192) + b1 - 128 := by omega
   split at h
   · simp at h
   · split at h
     · simp at h; omega
     · split at h <;> simp at h
 · rintro ⟨q1, q2, q3⟩
   generalize hg : (64 * ((b0 : Int) - 192) + b1 - 128).toNat = g
   have hg' : (g : Int) = 64 * ((b0 : Int) - 192) + b1 - 128 := by omega
   refine ⟨⟨by omega, by omega, by omega⟩, ?_⟩
   rw [if_neg (by omega), if_pos (by omega)]
   simp only [List.take_succ_cons, List.take_zero, List.cons.injEq, and_true]
   omega
theorem hit3 (h1 : b1 < 256) : hitN b0 b1 b2 b3 3 = true ↔ b0 / 16 = 14 ∧ b1 / 64 = 2 ∧ b2 / 64 = 2 ∧ 2048 ≤ b0 % 16 * 4096 + b1 % 64 * 64 + b2 % 64 ∧ (b0 % 16 * 4096 + b1 % 64 * 64 + b2 % 64 < 55296 ∨ 57344 ≤ b0 % 16 * 4096 + b1 % 64 * 64 + b2 % 64) := by
 unfold hitN
 rw [guess3]
 simp only [Bool.and_eq_true, right_iff, beq_iff_eq, putN]
 constructor
 · rintro ⟨⟨r1, r2, r3⟩, h⟩
   generalize hg : (64 * (64 * ((b0 : Int) - 224) + b1 - 128) + b2 - 128).toNat = g at h
   have hg' : (g : Int) = 64 * (64 * ((b0 : Int) - 224) + b1 - 128) + b2 - 128 := by omega
   split at h
   · simp at h
   · split at h
     · simp at h
     · split at h
       · simp at h; omega
       · simp at h
 · rintro ⟨q1, q2, q3, q4, q5⟩
   generalize hg : (64 * (64 * ((b0 : Int) - 224) + b1 - 128) + b2 - 128).toNat = g
   have hg' : (g : Int) = 64 * (64 * ((b0 : Int) - 224) + b1 - 128) + b2 - 128 := by omega
   refine ⟨⟨by omega, by omega, by omega⟩, ?_⟩
   rw [if_neg (by omega), if_neg (by omega), if_pos (by omega)]
   simp only [List.take_succ_cons, List.take_zero, List.cons.injEq, and_true]
   omega
theorem hit4 (h2 : b2 < 256) : hitN b0 b1 b2 b3 4 = true ↔ b0 / 8 = 30 ∧ b1 / 64 = 2 ∧ b2 / 64 = 2 ∧ b3 / 64 = 2 ∧ 65536 ≤ b0 % 8 * 262144 + b1 % 64 * 4096 + b2 % 64 * 64 + b3 % 64 ∧ b0 % 8 * 262144 + b1 % 64 * 4096 + b2 % 64 * 64 + b3 % 64 ≤ 1114111 := by
 unfold hitN
 rw [guess4]
 simp only [Bool.and_eq_true, right_iff, beq_iff_eq, putN]
 constructor
 · rintro ⟨⟨r1, r2, r3⟩, h⟩
   generalize hg : (64 * (64 * (64 * ((b0 : Int) - 240) + b1 - 128) + b2 - 128) + b3 - 128).toNat = g at h
   have hg' : (g : Int) = 64 * (64 * (64 * ((b0 : Int) - 240) + b1 - 128) + b2 - 128) + b3 - 128 := by omega
   split at h
   · simp at h
   · split at h
     · simp at h
     · split at h
       · simp at h
       · simp at h; omega
 · rintro ⟨q1, q2, q3, q4, q5, q6⟩
   generalize hg : (64 * (64 * (64 * ((b0 : Int) - 240) + b1 - 128) + b2 - 128) + b3 - 128).toNat = g
   have hg' : (g : Int) = 64 * (64 * (64 * ((b0 : Int) - 240) + b1 - 128) + b2 - 128) + b3 - 128 := by omega
   refine ⟨⟨by omega, by omega, by omega⟩, ?_⟩
   rw [if_neg (by omega), if_neg (by omega), if_neg (by omega)]
   simp only [List.take_succ_cons, List.take_zero, List.cons.injEq, and_true]
   omega
theorem decode_hit (h0 : b0 < 256) (h1 : b1 < 256) (h2 : b2 < 256) (n : Nat) (_hn : 0 < n) (k : Nat) (hk : 1 ≤ k) (hk4 : k ≤ 4) (hkn : k ≤ n) (hh : hitN b0 b1 b2 b3 k = true) : Go.Lib.decodeN n b0 b1 b2 b3 = ((guessN b0 b1 b2 b3 k).toNat, k) ∧ ((guessN b0 b1 b2 b3 k).toNat, k) ≠ (65533, 1) := by
 have hk' : k = 1 ∨ k = 2 ∨ k = 3 ∨ k = 4 := by omega
 rcases hk' with rfl | rfl | rfl | rfl
 · have h := (hit1 h0).1 hh
   refine ⟨?_, ?_⟩
   · rw [guess1]; unfold Go.Lib.decodeN; rw [if_pos h]; simp
   · rw [guess1]; simp; omega
 · obtain ⟨q1, q2, q3⟩ := (hit2 h1).1 hh
   refine ⟨?_, by simp⟩
   rw [guess2]; unfold Go.Lib.decodeN
   rw [if_neg (by omega), if_pos ⟨q1, by omega, q2⟩, if_pos q3]
   refine Prod.ext ?_ rfl
   simp only; omega
 · obtain ⟨q1, q2, q3, q4, q5⟩ := (hit3 h1).1 hh
   refine ⟨?_, by simp⟩
   rw [guess3]; unfold Go.Lib.decodeN
   rw [if_neg (by omega), if_neg (by omega), if_pos ⟨q1, ⟨by omega, q2⟩, by omega, q3⟩, if_pos ⟨q4, by omega⟩]
   refine Prod.ext ?_ rfl
   simp only; omega
 · obtain ⟨q1, q2, q3, q4, q5, q6⟩ := (hit4 h2).1 hh
   refine ⟨?_, by simp⟩
   rw [guess4]; unfold Go.Lib.decodeN
   rw [if_neg (by omega), if_neg (by omega), if_neg (by omega), if_pos ⟨q1, ⟨by omega, q2⟩, ⟨by omega, q3⟩, by omega, q4⟩, if_pos ⟨q5, by omega⟩]
   refine Prod.ext ?_ rfl
   simp only; omega
theorem decode_none (h0 : b0 < 256) (h1 : b1 < 256) (h2 : b2 < 256) (n : Nat) (hn : 0 < n) (h : ∀ k, 1 ≤ k → k ≤ 4 → k ≤ n → hitN b0 b1 b2 b3 k = false) : Go.Lib.decodeN n b0 b1 b2 b3 = (65533, 1) := by
 have f : ∀ k, 1 ≤ k → k ≤ 4 → k ≤ n → ¬ hitN b0 b1 b2 b3 k = true := fun k a b c => by rw [h k a b c]; simp
 have f1 := fun c => f 1 (by omega) (by omega) hn ((hit1 h0).2 c)
 have f2 := fun d c => f 2 (by omega) (by omega) d ((hit2 h1).2 c)
 have f3 := fun d c => f 3 (by omega) (by omega) d ((hit3 h1).2 c)
 have f4 := fun d c => f 4 (by omega) (by omega) d ((hit4 h2).2 c)
 unfold Go.Lib.decodeN
 rw [if_neg (fun c => f1 c)]
 by_cases c2 : b0 / 32 = 6 ∧ (1 < n ∧ b1 / 64 = 2)
 · rw [if_pos c2, if_neg (fun c => f2 (by omega) ⟨c2.1, c2.2.2, c⟩)]
 · rw [if_neg c2]
   by_cases c3 : b0 / 16 = 14 ∧ (1 < n ∧ b1 / 64 = 2) ∧ (2 < n ∧ b2 / 64 = 2)
   · rw [if_pos c3, if_neg (fun c => f3 (by omega) ⟨c3.1, c3.2.1.2, c3.2.2.2, c.1, by omega⟩)]
   · rw [if_neg c3]
     by_cases c4 : b0 / 8 = 30 ∧ (1 < n ∧ b1 / 64 = 2) ∧ (2 < n ∧ b2 / 64 = 2) ∧ (3 < n ∧ b3 / 64 = 2)
     · rw [if_pos c4, if_neg (fun c => f4 (by omega) ⟨c4.1, c4.2.1.2, c4.2.2.1.2, c4.2.2.2.2, c.1, by omega⟩)]
     · rw [if_neg c4]
end
theorem putN_lt {n : Nat} (h : n < 1114112) : ∀ x ∈ putN n, x < 256 := by
 intro x hx
 unfold putN at hx
 split at hx
 · simp at hx; omega
 · split at hx
   · simp at hx; omega
   · split at hx
     · simp at hx; omega
     · simp at hx; omega
end
end Go.Proofs.YtbeodjipdpcaiaaGreatDoor
namespace Go.Proofs.YtbeodjipdpcaiaaGreatDoor
section
open Go.RowKit
def decU (B : ByteArray) (i : Nat) : Nat × Nat := Go.Lib.decodeN (B.size - i) (byteAt B i) (byteAt B (i + 1)) (byteAt B (i + 2)) (byteAt B (i + 3))
def charS (B : ByteArray) (i : Nat) : Sc (Nat × Nat) := if i = B.size then .no 10 i else if decU B i = (65533, 1) then .no 12 i else .ok (decU B i)
/-! ### Ends -/
theorem decodeN_size (n b0 b1 b2 b3 : Nat) (h : 0 < n) : 0 < (Go.Lib.decodeN n b0 b1 b2 b3).2 ∧ (Go.Lib.decodeN n b0 b1 b2 b3).2 ≤ n := by
 unfold Go.Lib.decodeN
 repeat' split
 all_goals simp only <;> omega
end
section
open Go.RowKit
end
section
open Go.RowKit
variable {B : ByteArray}
end
end Go.Proofs.YtbeodjipdpcaiaaGreatDoor
namespace Go.Proofs.YtbeodjipdpcaiaaGreatDoor
section
open Go.RowKit
def Failed (w : World) (k : Nat) (i : Int) (u : Value) (w' : World) : Prop := Rd (Fresh w w') w' u (errD 119 [((k : Int), i)]) ∧ Below w.heap.size w w'
def FailPost (w : World) (k : Nat) (i : Int) (e : Ending) (w' : World) : Prop := ∃ u, e = .returned u ∧ Failed w k i u w'
theorem failed_of {w w0 w1 : World} {k : Nat} {i : Int} (h0 : Below w.heap.size w w0) (h1 : w1 = w0.alloc (.cells #[.int .i64 k, .int .i64 i, .nilIface] 123)) : Failed w k i (.iface 119 (.pointer (some ⟨w0.heap.size, 0, none⟩))) w1 := by
 subst h1
 exact ⟨(Rd.failedF (k : Int) i w0).wide (fun b e => ⟨by have := h0.size; omega, by rw [e]; simp⟩), ext_alloc h0 _⟩
theorem Failed.form {w w' : World} {k : Nat} {i : Int} {u : Value} (h : Failed w k i u w') : ∃ p, u = .iface 119 (.pointer (some p)) := by
 obtain ⟨b, off, u, rfl, _⟩ := fault_inv h.1
 exact ⟨_, rfl⟩
theorem Failed.after {a b c : World} {k : Nat} {i : Int} {u : Value} (h : Failed b k i u c) (hb : Below a.heap.size a b) : Failed a k i u c :=
 ⟨h.1.wide (fun x hx => ⟨by have := hx.1; have := hb.size; omega, hx.2⟩), xT hb h.2⟩
theorem fails (k : Nat) (i : Int) (w : World) : Calls Tryz.prog 44 #[.int .i64 k, .int .i64 i] w (FailPost w k i) :=
 (fail_any k i w).mono fun _ _ ⟨he, hw⟩ => ⟨_, he, failed_of (Below.refl _ _) hw⟩
def ibV (l : List Nat) (c : Nat) : Int := if l.contains c then (l.idxOf c : Int) else -1
theorem indexByte_nat (l : List UInt8) (c : Nat) (hc : c < 256) : Go.Lib.indexByte l (c : Int).toNat.toUInt8 = ibV (l.map (·.toNat)) c := by
 induction l with
 | nil => rfl
 | cons b l ih =>
   have hb : (b == (c : Int).toNat.toUInt8) = (b.toNat == c) := by
    rw [Int.toNat_natCast, Bool.eq_iff_iff, beq_iff_eq, beq_iff_eq]
    constructor
    · intro h; rw [h]; simp; omega
    · intro h; apply UInt8.toNat.inj; rw [h]; simp; omega
   unfold Go.Lib.indexByte
   rw [hb, ih, List.map_cons]
   unfold ibV
   rw [List.contains_cons, List.idxOf_cons]
   by_cases hx : b.toNat = c
   · simp [hx]
   · have hx' : (b.toNat == c) = false := by simpa using hx
     have hx2 : (c == b.toNat) = false := by rw [bneI]; exact fun h => hx h.symm
     rw [hx', hx2, Bool.false_or, if_neg (by simp)]
     by_cases h1 : (l.map (·.toNat)).contains c = true
     · rw [if_pos h1, if_pos h1, if_neg (by simp <;> omega)]; simp
     · rw [if_neg h1, if_neg h1, if_pos (by rfl)]
theorem ibV_in {l : List Nat} {c : Nat} : decide (0 ≤ ibV l c) = l.contains c := by
 unfold ibV
 by_cases h : l.contains c = true
 · rw [if_pos h, h]; exact dcT (Int.natCast_nonneg _)
 · rw [if_neg h]; simp only [Bool.not_eq_true] at h; rw [h]; rfl
theorem ib_any (s : ByteArray) (l : List Nat) (hl : s.data.toList.map (·.toNat) = l) (c : Nat) (hc : c < 256) (w : World) : Calls Tryz.prog 75 #[.string s, .int .u8 c] w fun e w' => e = .returned (.int .i64 (ibV l c)) ∧ w = w' :=
 (Tryz.strings_IndexByte s _ w).mono fun e w' ⟨he, hw⟩ => ⟨by rw [he, indexByte_nat _ c hc, hl], hw.symm⟩
end
section
open Go.RowKit
section
variable {v : Value} {B : ByteArray} {w : World}
end
end
section
open Go.RowKit
end
end Go.Proofs.YtbeodjipdpcaiaaGreatDoor
namespace Go.Proofs.YtbeodjipdpcaiaaGreatDoor
section
open Go.RowKit
def charsF (B : ByteArray) : Nat → Nat → List Nat → Sc (List Nat)
 | 0, i, acc => if i < B.size then .no 12 i else .ok acc
 | f + 1, i, acc => if i < B.size then (if decU B i = (65533, 1) then .no 12 i else charsF B f (i + (decU B i).2) (acc ++ [(decU B i).1])) else .ok acc
def charsS (B : ByteArray) (i : Nat) (acc : List Nat) : Sc (List Nat) := charsF B (B.size - i) i acc
theorem decU_size {B : ByteArray} {i : Nat} (hi : i < B.size) : 0 < (decU B i).2 ∧ i + (decU B i).2 ≤ B.size := by
 have := decodeN_size (B.size - i) (byteAt B i) (byteAt B (i + 1)) (byteAt B (i + 2)) (byteAt B (i + 3)) (by omega)
 unfold decU; omega
theorem charsF_fuel (B : ByteArray) : ∀ n f g i acc, B.size - i = n → n ≤ f → n ≤ g → charsF B f i acc = charsF B g i acc := by
 intro n
 induction n using Nat.strongRecOn with
 | ind n ih =>
   intro f g i acc hn hf hg
   by_cases hi : i < B.size
   · cases f with
     | zero => omega
     | succ f =>
       cases g with
       | zero => omega
       | succ g =>
         have hd := decU_size hi
         rw [charsF, charsF, if_pos hi, if_pos hi]
         split
         · rfl
         · exact ih (B.size - (i + (decU B i).2)) (by omega) f g _ _ rfl (by omega) (by omega)
   · cases f <;> cases g <;> simp only [charsF, if_neg hi]
theorem charsS_step {B : ByteArray} {i : Nat} {acc : List Nat} (hi : i < B.size) : charsS B i acc = if decU B i = (65533, 1) then .no 12 i else charsS B (i + (decU B i).2) (acc ++ [(decU B i).1]) := by
 have hd := decU_size hi
 unfold charsS
 cases hf : B.size - i with
 | zero => omega
 | succ f =>
   rw [charsF, if_pos hi]
   split
   · rfl
   · exact charsF_fuel B _ _ _ _ _ rfl (by omega) (by omega)
theorem charsS_end {B : ByteArray} {i : Nat} {acc : List Nat} (hi : ¬ i < B.size) : charsS B i acc = .ok acc := by
 unfold charsS
 cases B.size - i <;> simp only [charsF, if_neg hi]
theorem dec_ok {B : ByteArray} {i : Nat} (hi : i < B.size) (h : decU B i ≠ (65533, 1)) : ∃ k, 1 ≤ k ∧ k ≤ 4 ∧ i + k ≤ B.size ∧ hitN (byteAt B i) (byteAt B (i + 1)) (byteAt B (i + 2)) (byteAt B (i + 3)) k = true := by
 by_cases hx : ∃ k, 1 ≤ k ∧ k ≤ 4 ∧ k ≤ B.size - i ∧ hitN (byteAt B i) (byteAt B (i + 1)) (byteAt B (i + 2)) (byteAt B (i + 3)) k = true
 · obtain ⟨k, h1, h2, h3, h4⟩ := hx
   exact ⟨k, h1, h2, by omega, h4⟩
 · exfalso
   apply h
   exact decode_none (byteAt_lt B i) (byteAt_lt B (i + 1)) (byteAt_lt B (i + 2)) (B.size - i) (by omega) (fun k h1 h2 h3 => by
    cases hh : hitN (byteAt B i) (byteAt B (i + 1)) (byteAt B (i + 2)) (byteAt B (i + 3)) k with
    | false => rfl
    | true => exact absurd ⟨k, h1, h2, h3, hh⟩ hx)
theorem dec_hit {B : ByteArray} {i k : Nat} (h1 : 1 ≤ k) (h4 : k ≤ 4) (hk : i + k ≤ B.size) (hh : hitN (byteAt B i) (byteAt B (i + 1)) (byteAt B (i + 2)) (byteAt B (i + 3)) k = true) :
    decU B i = ((guessN (byteAt B i) (byteAt B (i + 1)) (byteAt B (i + 2)) (byteAt B (i + 3)) k).toNat, k) ∧ decU B i ≠ (65533, 1) ∧ putN (decU B i).1 = [byteAt B i, byteAt B (i + 1), byteAt B (i + 2), byteAt B (i + 3)].take k := by
 obtain ⟨e1, e2⟩ := decode_hit (byteAt_lt B i) (byteAt_lt B (i + 1)) (byteAt_lt B (i + 2)) (B.size - i) (by omega) k h1 h4 (by omega) hh
 have e : decU B i = ((guessN (byteAt B i) (byteAt B (i + 1)) (byteAt B (i + 2)) (byteAt B (i + 3)) k).toNat, k) := e1
 refine ⟨e, by rw [e]; exact e2, ?_⟩
 rw [e]
 unfold hitN at hh
 simp only [Bool.and_eq_true, beq_iff_eq] at hh
 exact hh.2
/-! ### A byte in a token -/
def hexU (d : Nat) : Nat := if d < 10 then 48 + d else 55 + d
def bytesN (B : ByteArray) : List Nat := B.data.toList.map (·.toNat)
end
section
open Go.RowKit
def strOf (acc : List Nat) : ByteArray := ⟨((acc.flatMap putN).map UInt8.ofNat).toArray⟩
def AllRight (acc : List Nat) : Prop := ∀ c ∈ acc, rightN (c : Int) = true
theorem AllRight.snoc {acc : List Nat} {c : Nat} (h : AllRight acc) (hc : rightN (c : Int) = true) : AllRight (acc ++ [c]) := by
 intro x hx
 rw [List.mem_append] at hx
 rcases hx with hx | hx
 · exact h x hx
 · rw [List.mem_singleton.1 hx]; exact hc
theorem right_lt {c : Nat} (h : rightN (c : Int) = true) : c < 1114112 := by
 have := (right_iff _).1 h; omega
theorem AllRight.take {acc : List Nat} (h : AllRight acc) (j : Nat) : AllRight (acc.take j) := fun c hc => h c (List.mem_of_mem_take hc)
theorem bytesN_len (B : ByteArray) : (bytesN B).length = B.size := by
 show (B.data.toList.map (·.toNat)).length = B.data.size
 simp
theorem bytesN_get {B : ByteArray} {i : Nat} (hi : i < B.size) : (bytesN B)[i]? = some (byteAt B i) := by
 have hd : i < B.data.size := hi
 unfold bytesN byteAt
 rw [List.getElem?_map, Array.getElem?_toList, Array.getElem?_eq_getElem hd]; rfl
theorem put_dec {Q : ByteArray} {p c : Nat} (hc : rightN (c : Int) = true) (hp : ∀ m x, (putN c)[m]? = some x → byteAt Q (p + m) = x) (hz : p + (putN c).length ≤ Q.size) : decU Q p = (c, (putN c).length) ∧ decU Q p ≠ (65533, 1) := by
 have hr := (right_iff _).1 hc
 have key : ∀ k, (putN c).length = k → 1 ≤ k → k ≤ 4 → guessN (byteAt Q p) (byteAt Q (p + 1)) (byteAt Q (p + 2)) (byteAt Q (p + 3)) k = (c : Int) → putN c = [byteAt Q p, byteAt Q (p + 1), byteAt Q (p + 2), byteAt Q (p + 3)].take k → decU Q p = (c, k) ∧ decU Q p ≠ (65533, 1) := by
  intro k hk h1 h4 hg hl
  have hh : hitN (byteAt Q p) (byteAt Q (p + 1)) (byteAt Q (p + 2)) (byteAt Q (p + 3)) k = true := by
   unfold hitN
   rw [hg, hc, Int.toNat_natCast, hl]
   simp
  obtain ⟨e1, e2, _⟩ := dec_hit h1 h4 (by omega) hh
  rw [hg, Int.toNat_natCast] at e1
  exact ⟨e1, e2⟩
 by_cases h1 : c < 128
 · have e : putN c = [c] := by unfold putN; rw [if_pos h1]
   have b0 := hp 0 c (by rw [e]; rfl)
   rw [Nat.add_zero] at b0
   rw [e]
   exact key 1 (by rw [e]; rfl) (by omega) (by omega) (by rw [guess1]; omega) (by rw [e]; simp; omega)
 · by_cases h2 : c < 2048
   · have e : putN c = [192 + c / 64, 128 + c % 64] := by unfold putN; rw [if_neg h1, if_pos h2]
     have b0 := hp 0 _ (by rw [e]; rfl)
     have b1 := hp 1 _ (by rw [e]; rfl)
     rw [Nat.add_zero] at b0
     rw [e]
     exact key 2 (by rw [e]; rfl) (by omega) (by omega) (by rw [guess2]; omega) (by rw [e, b0, b1]; simp)
   · by_cases h3 : c < 65536
     · have e : putN c = [224 + c / 4096, 128 + c / 64 % 64, 128 + c % 64] := by unfold putN; rw [if_neg h1, if_neg h2, if_pos h3]
       have b0 := hp 0 _ (by rw [e]; rfl)
       have b1 := hp 1 _ (by rw [e]; rfl)
       have b2 := hp 2 _ (by rw [e]; rfl)
       rw [Nat.add_zero] at b0
       rw [e]
       exact key 3 (by rw [e]; rfl) (by omega) (by omega) (by rw [guess3]; omega) (by rw [e, b0, b1, b2]; simp)
     · have e : putN c = [240 + c / 262144, 128 + c / 4096 % 64, 128 + c / 64 % 64, 128 + c % 64] := by unfold putN; rw [if_neg h1, if_neg h2, if_neg h3]
       have b0 := hp 0 _ (by rw [e]; rfl)
       have b1 := hp 1 _ (by rw [e]; rfl)
       have b2 := hp 2 _ (by rw [e]; rfl)
       have b3 := hp 3 _ (by rw [e]; rfl)
       rw [Nat.add_zero] at b0
       rw [e]
       exact key 4 (by rw [e]; rfl) (by omega) (by omega) (by rw [guess4]; omega) (by rw [e, b0, b1, b2, b3]; simp)
theorem putN_pos (c : Nat) : 0 < (putN c).length := by
 unfold putN; split
 · simp
 · split
   · simp
   · split <;> simp
theorem charsS_puts {Q : ByteArray} : ∀ (cs : List Nat) (p : Nat) (acc : List Nat), AllRight cs → (∀ m x, (cs.flatMap putN)[m]? = some x → byteAt Q (p + m) = x) → Q.size = p + (cs.flatMap putN).length → charsS Q p acc = .ok (acc ++ cs)
 | [], p, acc, _, _, hz => by rw [charsS_end (by simp at hz; omega), List.append_nil]
 | c :: cs, p, acc, ha, hp, hz => by
   rw [List.flatMap_cons, List.length_append] at hz
   have hpos := putN_pos c
   obtain ⟨e1, e2⟩ := put_dec (Q := Q) (p := p) (c := c) (ha c (by simp)) (fun m x hx => hp m x (by
    rw [List.flatMap_cons, List.getElem?_append_left (List.getElem?_eq_some_iff.1 hx).1]; exact hx)) (by omega)
   rw [charsS_step (by omega), if_neg e2, e1]
   have := charsS_puts cs (p + (putN c).length) (acc ++ [c]) (fun x hx => ha x (by simp [hx])) (fun m x hx => by
    have := hp ((putN c).length + m) x (by rw [List.flatMap_cons, List.getElem?_append_right (by omega), Nat.add_sub_cancel_left]; exact hx)
    rw [Nat.add_assoc]; exact this) (by omega)
   rw [this]; simp
theorem chars_put {B : ByteArray} : ∀ n i acc cs, B.size - i = n → i ≤ B.size → charsS B i acc = .ok cs → cs.flatMap putN = acc.flatMap putN ++ (bytesN B).drop i := by
 intro n
 induction n using Nat.strongRecOn with
 | ind n ih =>
   intro i acc cs hn hi h
   by_cases hlt : i < B.size
   · rw [charsS_step hlt] at h
     by_cases hd : decU B i = (65533, 1)
     · rw [if_pos hd] at h; cases h
     · rw [if_neg hd] at h
       have hz := decU_size hlt
       have ih2 := ih (B.size - (i + (decU B i).2)) (by omega) (i + (decU B i).2) _ cs rfl hz.2 h
       obtain ⟨k, k1, k4, kz, hh⟩ := dec_ok hlt hd
       obtain ⟨e, _, hp⟩ := dec_hit k1 k4 kz hh
       have hk2 : (decU B i).2 = k := by rw [e]
       rw [ih2, List.flatMap_append, hk2]
       simp only [List.flatMap_cons, List.flatMap_nil, List.append_nil, List.append_assoc]
       rw [hp]
       congr 1
       have key : ∀ j, (h : i + j ≤ B.size) → j ≤ k → [byteAt B i, byteAt B (i + 1), byteAt B (i + 2), byteAt B (i + 3)].take j ++ (bytesN B).drop (i + j) = (bytesN B).drop i := by
        intro j
        induction j with
        | zero => intro _ _; rfl
        | succ j ihj =>
          intro h1 h2
          rw [← ihj (by omega) (by omega)]
          have hjl : i + j < (bytesN B).length := by rw [bytesN_len]; omega
          have hg : (bytesN B)[i + j] = byteAt B (i + j) := by
           have := bytesN_get (B := B) (i := i + j) (by omega)
           rw [List.getElem?_eq_getElem hjl] at this
           exact Option.some.inj this
          rw [List.drop_eq_getElem_cons hjl, hg]
          have hc : j = 0 ∨ j = 1 ∨ j = 2 ∨ j = 3 := by omega
          rcases hc with rfl | rfl | rfl | rfl <;> simp [Nat.add_assoc]
       exact key k kz (Nat.le_refl _)
   · rw [charsS_end hlt] at h
     cases h
     rw [List.drop_of_length_le (by rw [bytesN_len]; omega)]; simp
end
section
open Go.RowKit
end
section
open Go.RowKit
end
end Go.Proofs.YtbeodjipdpcaiaaGreatDoor
