/- Fold0, Utf0 in one text (a claim holds at most 60 files). -/
import Derived.Test.YtbeodjipdpcaiaaGreatDoorZLib0s
import Derived.Lib.DecodeNEq
namespace Go.Proofs.YtbeodjipdpcaiaaGreatDoor
section
open Go.RowKit
def digV (c : Nat) : Nat := if 48 ≤ c ∧ c ≤ 57 then c - 48 else if 97 ≤ c ∧ c ≤ 102 then c - 87 else if 65 ≤ c ∧ c ≤ 70 then c - 55 else 99
theorem digV_le (c : Nat) : digV c ≤ 99 := by
  unfold digV; split
  · omega
  · split
    · omega
    · split <;> omega
/-- The number of the first j bytes. -/
def numVal (base : Nat) (s : ByteArray) : Nat → Nat
  | 0 => 0
  | j + 1 => numVal base s j * base + digV (byteAt s j)
def notDigit (base : Nat) (s : ByteArray) (i : Nat) : Bool := decide (base ≤ digV (byteAt s i))
def numberF (base most : Nat) (s : ByteArray) : Sc Nat := if s.size = 0 then .no 10 0 else match (List.range s.size).find? (notDigit base s) with
  | some i => .no 11 i
  | none => if most < numVal base s s.size then .no 16 0 else .ok (numVal base s s.size)
theorem numberF_bad {base most : Nat} {s : ByteArray} {j : Nat} (hj : j < s.size) (hb : notDigit base s j = true) (h : ∀ m, m < j → notDigit base s m = false) : numberF base most s = .no 11 j := by
  have : (List.range s.size).find? (notDigit base s) = some j := by
    rw [List.find?_range_eq_some]
    exact ⟨hb, List.mem_range.2 hj, fun m hm => by simp [h m hm]⟩
  unfold numberF
  rw [if_neg (by omega), this]
theorem numberF_end {base most : Nat} {s : ByteArray} (h0 : s.size ≠ 0) (h : ∀ m, m < s.size → notDigit base s m = false) : numberF base most s = if most < numVal base s s.size then .no 16 0 else .ok (numVal base s s.size) := by
  have : (List.range s.size).find? (notDigit base s) = none := by
    rw [List.find?_range_eq_none]
    exact fun m hm => by simp [h m hm]
  unfold numberF
  rw [if_neg h0, this]
/-- A step, by halves: what stands above 64 bits is told. -/
theorem num_step {n base d : Nat} (_hn : n < 18446744073709551616) (_hb : base < 18446744073709551616) (hd : d < 18446744073709551616) :
    (0 < n * base / 18446744073709551616 + (n * base % 18446744073709551616 + d) / 18446744073709551616 ↔ 18446744073709551616 ≤ n * base + d) ∧
    (n * base + d < 18446744073709551616 → (n * base % 18446744073709551616 + d) % 18446744073709551616 = n * base + d) := by
  generalize n * base = x
  constructor <;> omega
theorem numVal_mono (base : Nat) (s : ByteArray) (hb : 1 ≤ base) (j : Nat) : numVal base s j ≤ numVal base s (j + 1) := by
  have : numVal base s (j + 1) = numVal base s j * base + digV (byteAt s j) := rfl
  have h2 : numVal base s j * 1 ≤ numVal base s j * base := Nat.mul_le_mul_left _ hb
  omega
end
section
open Go.RowKit
def putN (n : Nat) : List Nat := if n < 128 then [n] else if n < 2048 then [192 + n / 64, 128 + n % 64] else if n < 65536 then [224 + n / 4096, 128 + n / 64 % 64, 128 + n % 64] else [240 + n / 262144, 128 + n / 4096 % 64, 128 + n / 64 % 64, 128 + n % 64]
def halfN (n : Int) : Int := if 55296 ≤ n ∧ n < 56320 then 1 else if 56320 ≤ n ∧ n < 57344 then 2 else 0
def rightN (n : Int) : Bool := decide (0 ≤ n) && decide (n < 1114112) && (halfN n == 0)
def guessN (b0 b1 b2 b3 : Nat) (k : Nat) : Int := if k = 1 then b0 else if k = 2 then 64 * ((b0 : Int) - 192) + b1 - 128 else if k = 3 then 64 * (64 * ((b0 : Int) - 224) + b1 - 128) + b2 - 128 else 64 * (64 * (64 * ((b0 : Int) - 240) + b1 - 128) + b2 - 128) + b3 - 128
def hitN (b0 b1 b2 b3 k : Nat) : Bool := rightN (guessN b0 b1 b2 b3 k) && (putN (guessN b0 b1 b2 b3 k).toNat == [b0, b1, b2, b3].take k)
theorem guess1 (b0 b1 b2 b3 : Nat) : guessN b0 b1 b2 b3 1 = b0 := rfl
theorem guess2 (b0 b1 b2 b3 : Nat) : guessN b0 b1 b2 b3 2 = 64 * ((b0 : Int) - 192) + b1 - 128 := rfl
theorem guess3 (b0 b1 b2 b3 : Nat) : guessN b0 b1 b2 b3 3 = 64 * (64 * ((b0 : Int) - 224) + b1 - 128) + b2 - 128 := rfl
theorem guess4 (b0 b1 b2 b3 : Nat) : guessN b0 b1 b2 b3 4 = 64 * (64 * (64 * ((b0 : Int) - 240) + b1 - 128) + b2 - 128) + b3 - 128 := rfl
theorem right_iff (n : Int) : rightN n = true ↔ 0 ≤ n ∧ n < 1114112 ∧ ¬ (55296 ≤ n ∧ n < 57344) := by
  unfold rightN halfN
  simp only [Bool.and_eq_true, decide_eq_true_eq, beq_iff_eq]
  constructor
  · rintro ⟨⟨h1, h2⟩, h3⟩
    refine ⟨h1, h2, fun h => ?_⟩
    split at h3
    · omega
    · split at h3 <;> omega
  · rintro ⟨h1, h2, h3⟩
    refine ⟨⟨h1, h2⟩, ?_⟩
    rw [if_neg (by omega), if_neg (by omega)]
section
variable {b0 b1 b2 b3 : Nat}
theorem hit1 (h0 : b0 < 256) : hitN b0 b1 b2 b3 1 = true ↔ b0 < 128 := by
  unfold hitN
  rw [guess1]
  simp only [Bool.and_eq_true, right_iff, beq_iff_eq, Int.toNat_natCast, putN]
  constructor
  · rintro ⟨_, h⟩
    by_cases hc : b0 < 128
    · exact hc
    · rw [if_neg hc, if_pos (by omega)] at h; simp at h
  · intro h
    rw [if_pos h]
    exact ⟨by omega, rfl⟩
theorem hit2 (h1 : b1 < 256) : hitN b0 b1 b2 b3 2 = true ↔ b0 / 32 = 6 ∧ b1 / 64 = 2 ∧ 128 ≤ b0 % 32 * 64 + b1 % 64 := by
  unfold hitN
  rw [guess2]
  simp only [Bool.and_eq_true, right_iff, beq_iff_eq, putN]
  constructor
  · rintro ⟨⟨r1, r2, r3⟩, h⟩
    generalize hg : (64 * ((b0 : Int) - 192) + b1 - 128).toNat = g at h
    have hg' : (g : Int) = 64 * ((b0 : Int) - 192) + b1 - 128 := by omega
    split at h
    · simp at h
    · split at h
      · simp at h; omega
      · split at h <;> simp at h
  · rintro ⟨q1, q2, q3⟩
    generalize hg : (64 * ((b0 : Int) - 192) + b1 - 128).toNat = g
    have hg' : (g : Int) = 64 * ((b0 : Int) - 192) + b1 - 128 := by omega
    refine ⟨⟨by omega, by omega, by omega⟩, ?_⟩
    rw [if_neg (by omega), if_pos (by omega)]
    simp only [List.take_succ_cons, List.take_zero, List.cons.injEq, and_true]
    omega
theorem hit3 (h1 : b1 < 256) : hitN b0 b1 b2 b3 3 = true ↔ b0 / 16 = 14 ∧ b1 / 64 = 2 ∧ b2 / 64 = 2 ∧ 2048 ≤ b0 % 16 * 4096 + b1 % 64 * 64 + b2 % 64 ∧ (b0 % 16 * 4096 + b1 % 64 * 64 + b2 % 64 < 55296 ∨ 57344 ≤ b0 % 16 * 4096 + b1 % 64 * 64 + b2 % 64) := by
  unfold hitN
  rw [guess3]
  simp only [Bool.and_eq_true, right_iff, beq_iff_eq, putN]
  constructor
  · rintro ⟨⟨r1, r2, r3⟩, h⟩
    generalize hg : (64 * (64 * ((b0 : Int) - 224) + b1 - 128) + b2 - 128).toNat = g at h
    have hg' : (g : Int) = 64 * (64 * ((b0 : Int) - 224) + b1 - 128) + b2 - 128 := by omega
    split at h
    · simp at h
    · split at h
      · simp at h
      · split at h
        · simp at h; omega
        · simp at h
  · rintro ⟨q1, q2, q3, q4, q5⟩
    generalize hg : (64 * (64 * ((b0 : Int) - 224) + b1 - 128) + b2 - 128).toNat = g
    have hg' : (g : Int) = 64 * (64 * ((b0 : Int) - 224) + b1 - 128) + b2 - 128 := by omega
    refine ⟨⟨by omega, by omega, by omega⟩, ?_⟩
    rw [if_neg (by omega), if_neg (by omega), if_pos (by omega)]
    simp only [List.take_succ_cons, List.take_zero, List.cons.injEq, and_true]
    omega
theorem hit4 (h2 : b2 < 256) : hitN b0 b1 b2 b3 4 = true ↔ b0 / 8 = 30 ∧ b1 / 64 = 2 ∧ b2 / 64 = 2 ∧ b3 / 64 = 2 ∧ 65536 ≤ b0 % 8 * 262144 + b1 % 64 * 4096 + b2 % 64 * 64 + b3 % 64 ∧ b0 % 8 * 262144 + b1 % 64 * 4096 + b2 % 64 * 64 + b3 % 64 ≤ 1114111 := by
  unfold hitN
  rw [guess4]
  simp only [Bool.and_eq_true, right_iff, beq_iff_eq, putN]
  constructor
  · rintro ⟨⟨r1, r2, r3⟩, h⟩
    generalize hg : (64 * (64 * (64 * ((b0 : Int) - 240) + b1 - 128) + b2 - 128) + b3 - 128).toNat = g at h
    have hg' : (g : Int) = 64 * (64 * (64 * ((b0 : Int) - 240) + b1 - 128) + b2 - 128) + b3 - 128 := by omega
    split at h
    · simp at h
    · split at h
      · simp at h
      · split at h
        · simp at h
        · simp at h; omega
  · rintro ⟨q1, q2, q3, q4, q5, q6⟩
    generalize hg : (64 * (64 * (64 * ((b0 : Int) - 240) + b1 - 128) + b2 - 128) + b3 - 128).toNat = g
    have hg' : (g : Int) = 64 * (64 * (64 * ((b0 : Int) - 240) + b1 - 128) + b2 - 128) + b3 - 128 := by omega
    refine ⟨⟨by omega, by omega, by omega⟩, ?_⟩
    rw [if_neg (by omega), if_neg (by omega), if_neg (by omega)]
    simp only [List.take_succ_cons, List.take_zero, List.cons.injEq, and_true]
    omega
/-- The decoder finds what is made as it stands there. -/
theorem decode_hit (h0 : b0 < 256) (h1 : b1 < 256) (h2 : b2 < 256) (n : Nat) (_hn : 0 < n) (k : Nat) (hk : 1 ≤ k) (hk4 : k ≤ 4) (hkn : k ≤ n) (hh : hitN b0 b1 b2 b3 k = true) : Go.Lib.decodeN n b0 b1 b2 b3 = ((guessN b0 b1 b2 b3 k).toNat, k) ∧ ((guessN b0 b1 b2 b3 k).toNat, k) ≠ (65533, 1) := by
  have hk' : k = 1 ∨ k = 2 ∨ k = 3 ∨ k = 4 := by omega
  rcases hk' with rfl | rfl | rfl | rfl
  · have h := (hit1 h0).1 hh
    refine ⟨?_, ?_⟩
    · rw [guess1]; unfold Go.Lib.decodeN; rw [if_pos h]; simp
    · rw [guess1]; simp; omega
  · obtain ⟨q1, q2, q3⟩ := (hit2 h1).1 hh
    refine ⟨?_, by simp⟩
    rw [guess2]; unfold Go.Lib.decodeN
    rw [if_neg (by omega), if_pos ⟨q1, by omega, q2⟩, if_pos q3]
    refine Prod.ext ?_ rfl
    simp only; omega
  · obtain ⟨q1, q2, q3, q4, q5⟩ := (hit3 h1).1 hh
    refine ⟨?_, by simp⟩
    rw [guess3]; unfold Go.Lib.decodeN
    rw [if_neg (by omega), if_neg (by omega), if_pos ⟨q1, ⟨by omega, q2⟩, by omega, q3⟩, if_pos ⟨q4, by omega⟩]
    refine Prod.ext ?_ rfl
    simp only; omega
  · obtain ⟨q1, q2, q3, q4, q5, q6⟩ := (hit4 h2).1 hh
    refine ⟨?_, by simp⟩
    rw [guess4]; unfold Go.Lib.decodeN
    rw [if_neg (by omega), if_neg (by omega), if_neg (by omega), if_pos ⟨q1, ⟨by omega, q2⟩, ⟨by omega, q3⟩, by omega, q4⟩, if_pos ⟨q5, by omega⟩]
    refine Prod.ext ?_ rfl
    simp only; omega
theorem decode_none (h0 : b0 < 256) (h1 : b1 < 256) (h2 : b2 < 256) (n : Nat) (hn : 0 < n) (h : ∀ k, 1 ≤ k → k ≤ 4 → k ≤ n → hitN b0 b1 b2 b3 k = false) : Go.Lib.decodeN n b0 b1 b2 b3 = (65533, 1) := by
  have f : ∀ k, 1 ≤ k → k ≤ 4 → k ≤ n → ¬ hitN b0 b1 b2 b3 k = true := fun k a b c => by rw [h k a b c]; simp
  have f1 := fun c => f 1 (by omega) (by omega) hn ((hit1 h0).2 c)
  have f2 := fun d c => f 2 (by omega) (by omega) d ((hit2 h1).2 c)
  have f3 := fun d c => f 3 (by omega) (by omega) d ((hit3 h1).2 c)
  have f4 := fun d c => f 4 (by omega) (by omega) d ((hit4 h2).2 c)
  unfold Go.Lib.decodeN
  rw [if_neg (fun c => f1 c)]
  by_cases c2 : b0 / 32 = 6 ∧ (1 < n ∧ b1 / 64 = 2)
  · rw [if_pos c2, if_neg (fun c => f2 (by omega) ⟨c2.1, c2.2.2, c⟩)]
  · rw [if_neg c2]
    by_cases c3 : b0 / 16 = 14 ∧ (1 < n ∧ b1 / 64 = 2) ∧ (2 < n ∧ b2 / 64 = 2)
    · rw [if_pos c3, if_neg (fun c => f3 (by omega) ⟨c3.1, c3.2.1.2, c3.2.2.2, c.1, by omega⟩)]
    · rw [if_neg c3]
      by_cases c4 : b0 / 8 = 30 ∧ (1 < n ∧ b1 / 64 = 2) ∧ (2 < n ∧ b2 / 64 = 2) ∧ (3 < n ∧ b3 / 64 = 2)
      · rw [if_pos c4, if_neg (fun c => f4 (by omega) ⟨c4.1, c4.2.1.2, c4.2.2.1.2, c4.2.2.2.2, c.1, by omega⟩)]
      · rw [if_neg c4]
end
theorem putN_lt {n : Nat} (h : n < 1114112) : ∀ x ∈ putN n, x < 256 := by
  intro x hx
  unfold putN at hx
  split at hx
  · simp at hx; omega
  · split at hx
    · simp at hx; omega
    · split at hx
      · simp at hx; omega
      · simp at hx; omega
end
end Go.Proofs.YtbeodjipdpcaiaaGreatDoor
