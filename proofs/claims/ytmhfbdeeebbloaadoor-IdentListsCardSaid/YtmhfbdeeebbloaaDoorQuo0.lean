/- Texts as tokens: the plain functions and laws of quoting. Nothing of the program. -/
import Derived.Test.YtmhfbdeeebbloaaDoorUtf0
import Derived.Test.YtmhfbdeeebbloaaDoorScan0
import Derived.Test.YtmhfbdeeebbloaaDoorScanAll0
namespace Go.Proofs.YtmhfbdeeebbloaaDoor
open Go.RowKit
/-- The characters from a place on, or the place at which none stands. -/
def charsF (B : ByteArray) : Nat → Nat → List Nat → Sc (List Nat)
  | 0, i, acc => if i < B.size then .no 12 i else .ok acc
  | f + 1, i, acc => if i < B.size then (if decU B i = (65533, 1) then .no 12 i else charsF B f (i + (decU B i).2) (acc ++ [(decU B i).1])) else .ok acc
def charsS (B : ByteArray) (i : Nat) (acc : List Nat) : Sc (List Nat) := charsF B (B.size - i) i acc
theorem decU_size {B : ByteArray} {i : Nat} (hi : i < B.size) : 0 < (decU B i).2 ∧ i + (decU B i).2 ≤ B.size := by
  have := decodeN_size (B.size - i) (byteAt B i) (byteAt B (i + 1)) (byteAt B (i + 2)) (byteAt B (i + 3)) (by omega)
  unfold decU; omega
theorem charsF_fuel (B : ByteArray) : ∀ n f g i acc, B.size - i = n → n ≤ f → n ≤ g → charsF B f i acc = charsF B g i acc := by
  intro n
  induction n using Nat.strongRecOn with
  | ind n ih =>
    intro f g i acc hn hf hg
    by_cases hi : i < B.size
    · cases f with
      | zero => omega
      | succ f =>
        cases g with
        | zero => omega
        | succ g =>
          have hd := decU_size hi
          rw [charsF, charsF, if_pos hi, if_pos hi]
          split
          · rfl
          · exact ih (B.size - (i + (decU B i).2)) (by omega) f g _ _ rfl (by omega) (by omega)
    · cases f <;> cases g <;> simp only [charsF, if_neg hi]
theorem charsS_step {B : ByteArray} {i : Nat} {acc : List Nat} (hi : i < B.size) : charsS B i acc = if decU B i = (65533, 1) then .no 12 i else charsS B (i + (decU B i).2) (acc ++ [(decU B i).1]) := by
  have hd := decU_size hi
  unfold charsS
  cases hf : B.size - i with
  | zero => omega
  | succ f =>
    rw [charsF, if_pos hi]
    split
    · rfl
    · exact charsF_fuel B _ _ _ _ _ rfl (by omega) (by omega)
theorem charsS_end {B : ByteArray} {i : Nat} {acc : List Nat} (hi : ¬ i < B.size) : charsS B i acc = .ok acc := by
  unfold charsS
  cases B.size - i <;> simp only [charsF, if_neg hi]
/-- A right character: its bytes are those that stand there. -/
theorem dec_ok {B : ByteArray} {i : Nat} (hi : i < B.size) (h : decU B i ≠ (65533, 1)) : ∃ k, 1 ≤ k ∧ k ≤ 4 ∧ i + k ≤ B.size ∧ hitN (byteAt B i) (byteAt B (i + 1)) (byteAt B (i + 2)) (byteAt B (i + 3)) k = true := by
  by_cases hx : ∃ k, 1 ≤ k ∧ k ≤ 4 ∧ k ≤ B.size - i ∧ hitN (byteAt B i) (byteAt B (i + 1)) (byteAt B (i + 2)) (byteAt B (i + 3)) k = true
  · obtain ⟨k, h1, h2, h3, h4⟩ := hx
    exact ⟨k, h1, h2, by omega, h4⟩
  · exfalso
    apply h
    exact decode_none (byteAt_lt B i) (byteAt_lt B (i + 1)) (byteAt_lt B (i + 2)) (B.size - i) (by omega) (fun k h1 h2 h3 => by
      cases hh : hitN (byteAt B i) (byteAt B (i + 1)) (byteAt B (i + 2)) (byteAt B (i + 3)) k with
      | false => rfl
      | true => exact absurd ⟨k, h1, h2, h3, hh⟩ hx)
theorem dec_hit {B : ByteArray} {i k : Nat} (h1 : 1 ≤ k) (h4 : k ≤ 4) (hk : i + k ≤ B.size) (hh : hitN (byteAt B i) (byteAt B (i + 1)) (byteAt B (i + 2)) (byteAt B (i + 3)) k = true) :
    decU B i = ((guessN (byteAt B i) (byteAt B (i + 1)) (byteAt B (i + 2)) (byteAt B (i + 3)) k).toNat, k) ∧ decU B i ≠ (65533, 1) ∧ putN (decU B i).1 = [byteAt B i, byteAt B (i + 1), byteAt B (i + 2), byteAt B (i + 3)].take k := by
  obtain ⟨e1, e2⟩ := decode_hit (byteAt_lt B i) (byteAt_lt B (i + 1)) (byteAt_lt B (i + 2)) (B.size - i) (by omega) k h1 h4 (by omega) hh
  have e : decU B i = ((guessN (byteAt B i) (byteAt B (i + 1)) (byteAt B (i + 2)) (byteAt B (i + 3)) k).toNat, k) := e1
  refine ⟨e, by rw [e]; exact e2, ?_⟩
  rw [e]
  unfold hitN at hh
  simp only [Bool.and_eq_true, beq_iff_eq] at hh
  exact hh.2
/-- The same bytes stand for the same character, wherever they are. -/
theorem hit_local {b0 b1 b2 b3 c1 c2 c3 k : Nat} (h1 : 1 ≤ k) (h4 : k ≤ 4) (e1 : 1 < k → c1 = b1) (e2 : 2 < k → c2 = b2) (e3 : 3 < k → c3 = b3) : hitN b0 c1 c2 c3 k = hitN b0 b1 b2 b3 k ∧ guessN b0 c1 c2 c3 k = guessN b0 b1 b2 b3 k := by
  have hk : k = 1 ∨ k = 2 ∨ k = 3 ∨ k = 4 := by omega
  rcases hk with rfl | rfl | rfl | rfl
  · exact ⟨rfl, rfl⟩
  · rw [e1 (by omega)]; exact ⟨rfl, rfl⟩
  · rw [e1 (by omega), e2 (by omega)]; exact ⟨rfl, rfl⟩
  · rw [e1 (by omega), e2 (by omega), e3 (by omega)]; exact ⟨rfl, rfl⟩
theorem dec_local {B Q : ByteArray} {i p : Nat} (hi : i < B.size) (h : decU B i ≠ (65533, 1)) (hs : p + (decU B i).2 ≤ Q.size) (hb : ∀ m, m < (decU B i).2 → byteAt Q (p + m) = byteAt B (i + m)) : decU Q p = decU B i := by
  obtain ⟨k, h1, h4, hk, hh⟩ := dec_ok hi h
  obtain ⟨e, _, _⟩ := dec_hit h1 h4 hk hh
  have hk2 : (decU B i).2 = k := by rw [e]
  rw [hk2] at hs hb
  have b0 : byteAt Q p = byteAt B i := hb 0 (by omega)
  obtain ⟨l1, l2⟩ := hit_local (b0 := byteAt B i) (b1 := byteAt B (i + 1)) (b2 := byteAt B (i + 2)) (b3 := byteAt B (i + 3)) (c1 := byteAt Q (p + 1)) (c2 := byteAt Q (p + 2)) (c3 := byteAt Q (p + 3)) h1 h4 (fun h => hb 1 h) (fun h => hb 2 h) (fun h => hb 3 h)
  have hq : hitN (byteAt Q p) (byteAt Q (p + 1)) (byteAt Q (p + 2)) (byteAt Q (p + 3)) k = true := by rw [b0, l1]; exact hh
  obtain ⟨eq, _, _⟩ := dec_hit h1 h4 hs hq
  rw [eq, e, b0, l2]
/-! ### A byte in a token -/
def valL : List Nat := [34, 92, 8, 12, 10, 13, 9]
def namL : List Nat := [34, 92, 98, 102, 110, 114, 116]
def hexU (d : Nat) : Nat := if d < 10 then 48 + d else 55 + d
def escB (c : Nat) : List Nat := if valL.contains c then [92, namL[valL.idxOf c]?.getD 0] else if c < 32 then [92, 117, 48, 48, hexU (c / 16), hexU (c % 16)] else [c]
theorem escB_len (c : Nat) : 1 ≤ (escB c).length ∧ (escB c).length ≤ 6 := by unfold escB; split <;> (try split) <;> simp
theorem escB_plain : ∀ c : Fin 256, 32 ≤ c.val → c.val ≠ 34 → c.val ≠ 92 → escB c.val = [c.val] := by decide +kernel
theorem escB_short : ∀ c : Fin 256, valL.contains c.val = true → ∃ x : Fin 256, escB c.val = [92, x.val] ∧ x.val ≠ 117 ∧ simpleS x.val = some c.val := by decide +kernel
theorem escB_unit : ∀ c : Fin 256, valL.contains c.val = false → c.val < 32 → escB c.val = [92, 117, 48, 48, hexU (c.val / 16), hexU (c.val % 16)] ∧ isHex (hexU (c.val / 16)) = true ∧ isHex (hexU (c.val % 16)) = true ∧ 16 * hexV (hexU (c.val / 16)) + hexV (hexU (c.val % 16)) = c.val := by decide +kernel
theorem escB_great : ∀ c : Fin 256, 128 ≤ c.val → escB c.val = [c.val] := by decide +kernel
def bytesN (B : ByteArray) : List Nat := B.data.toList.map (·.toNat)
def quoteL (B : ByteArray) : List Nat := 34 :: ((bytesN B).flatMap escB ++ [34])
def quoteB (B : ByteArray) : ByteArray := ⟨((quoteL B).map UInt8.ofNat).toArray⟩
/-- The place at which the i-th byte's text begins. -/
def offQ (B : ByteArray) (i : Nat) : Nat := 1 + (((bytesN B).take i).flatMap escB).length
end Go.Proofs.YtmhfbdeeebbloaaDoor
