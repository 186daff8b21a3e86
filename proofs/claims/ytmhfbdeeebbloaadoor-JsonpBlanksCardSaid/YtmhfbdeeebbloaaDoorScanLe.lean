/- The place of an error is one of the text: the plain law. Nothing of the program. -/
import Derived.Test.YtmhfbdeeebbloaaDoorScan0
namespace Go.Proofs.YtmhfbdeeebbloaaDoor
open Go.RowKit
def LeB {α : Type} (B : ByteArray) (r : Sc α) : Prop := ∀ k i, r = .no k i → 0 ≤ i ∧ i ≤ (B.size : Int)
theorem LeB.ok {α : Type} {B : ByteArray} (a : α) : LeB B (.ok a) := fun k i h => by cases h
theorem LeB.no {α : Type} {B : ByteArray} {k : Nat} {i : Int} (h0 : 0 ≤ i) (h : i ≤ (B.size : Int)) : LeB (α := α) B (.no k i) := fun k' i' e => by cases e; exact ⟨h0, h⟩
theorem LeB.bind {α β : Type} {B : ByteArray} {r : Sc α} {f : α → Sc β} (h : LeB B r) (hf : ∀ a, r = .ok a → LeB B (f a)) : LeB B (r.bind f) := by
  cases r with
  | ok a => exact hf a rfl
  | no k i => intro k' i' e; cases e; exact h k i rfl
variable {B : ByteArray}
theorem leB_digits {i : Nat} (hi : i ≤ B.size) : LeB B (digitsS B i) := by
  unfold digitsS
  split
  · exact .ok _
  · split
    · exact .no (by omega) (by omega)
    · exact .no (by omega) (by omega)
theorem leB_number {i : Nat} (hi : i < B.size) : LeB B (numberS B i) := by
  unfold numberS
  have h1 : (if onAt [45] B i then i + 1 else i) ≤ B.size := by split <;> omega
  generalize (if onAt [45] B i then i + 1 else i) = i1 at h1
  refine LeB.bind ?_ (fun i2 h2 => ?_)
  · split
    · exact .ok _
    · exact leB_digits h1
  · have q2 : i2 ≤ B.size := by
      split at h2
      · rename_i ho; have := onAt_lt ho; cases h2; omega
      · exact (digitsS_ok h1 h2).2
    refine LeB.bind ?_ (fun i3 h3 => ?_)
    · split
      · rename_i ho; have := onAt_lt ho; exact leB_digits (by omega)
      · exact .ok _
    · have q3 : i3 ≤ B.size := by
        split at h3
        · rename_i ho; have := onAt_lt ho; exact (digitsS_ok (by omega) h3).2
        · cases h3; exact q2
      split
      · rename_i ho
        have := onAt_lt ho
        by_cases hs : onAt [43, 45] B (i3 + 1) = true
        · rw [if_pos hs]; have := onAt_lt hs; exact leB_digits (by omega)
        · rw [if_neg hs]; exact leB_digits (by omega)
      · exact .ok _
theorem leB_first {i n : Nat} {fit : Nat → Bool} (hi : i ≤ B.size) (hf : ∀ k, fit k = true → i + k < B.size) : LeB B (firstBad B i n fit) := by
  unfold firstBad
  split
  · rename_i k hk
    rw [List.find?_range_eq_some] at hk
    have : i + k ≤ B.size := by
      cases k with
      | zero => omega
      | succ k =>
        have := hk.2.2 k (by omega)
        have := hf k (by simpa using this)
        omega
    split
    · exact .no (by omega) (by omega)
    · exact .no (by omega) (by omega)
  · exact .ok _
theorem leB_unit {i : Nat} (hi : i ≤ B.size) : LeB B (unitS B i) := (leB_first hi (fun _k h => unitFit_lt h)).bind (fun _ _ => .ok _)
theorem leB_pair {i : Nat} (hi : i ≤ B.size) : LeB B (pairS B i) := by
  refine (leB_unit hi).bind (fun n hn => ?_)
  have h6 := (unitS_ok hn).2.2
  split
  · exact .ok _
  · split
    · cases hl : unitS B (i + 6) with
      | ok m => simp only [pairLow]; split
                · exact .ok _
                · exact .no (by omega) (by omega)
      | no k j =>
        have := leB_unit (B := B) (i := i + 6) h6 k j hl
        simp only [pairLow]; split
        · exact .no this.1 this.2
        · exact .no (by omega) (by omega)
    · exact .no (by omega) (by omega)
theorem leB_escape {i : Nat} (hi : i < B.size) : LeB B (escapeS B i) := by
  unfold escapeS
  split
  · exact .no (by omega) (by omega)
  · split
    · exact leB_pair (by omega)
    · split
      · exact .ok _
      · exact .no (by omega) (by omega)
theorem leB_char {i : Nat} (hi : i ≤ B.size) : LeB B (charS B i) := by
  unfold charS
  split
  · exact .no (by omega) (by omega)
  · split
    · exact .no (by omega) (by omega)
    · exact .ok _
theorem leB_step {i : Nat} (hi : i < B.size) : LeB B (textStep B i) := by
  unfold textStep
  split
  · exact leB_escape hi
  · exact leB_char (by omega)
theorem leB_textF : ∀ f i acc, i ≤ B.size → LeB B (textF B f i acc)
  | 0, i, acc, hi => .no (by omega) (by omega)
  | f + 1, i, acc, hi => by
    rw [textF]
    split
    · exact .no (by omega) (by omega)
    · split
      · exact .ok _
      · split
        · exact .no (by omega) (by omega)
        · refine (leB_step (by omega)).bind (fun x hx => ?_)
          have := textStep_ok (by omega) hx
          exact leB_textF f _ _ (by omega)
theorem leB_word {i : Nat} {w : List Nat} (hi : i ≤ B.size) : LeB B (wordS B i w) :=
  (leB_first hi (fun k h => by simp only [Bool.and_eq_true, decide_eq_true_eq] at h; exact h.1)).bind (fun _ _ => .ok _)
theorem leB_token {p : Nat} (hp : p ≤ B.size) : LeB B (tokenS B p) := by
  unfold tokenS
  split
  · exact .ok _
  · split
    · exact .ok _
    · split
      · exact (leB_textF _ _ _ (by omega)).bind (fun _ _ => .ok _)
      · split
        · exact (leB_number (by omega)).bind (fun _ _ => .ok _)
        · split
          · exact (leB_word hp).bind (fun _ _ => .ok _)
          · split
            · exact (leB_word hp).bind (fun _ _ => .ok _)
            · split
              · exact (leB_word hp).bind (fun _ _ => .ok _)
              · exact .no (by omega) (by omega)
theorem leB_next {i : Nat} (hi : i ≤ B.size) : LeB B (nextS B i) := (leB_token (skip_le _ _ _ hi)).bind (fun _ _ => .ok _)
theorem leB_nextI : LeB B (nextI B 0) := by
  unfold nextI
  rw [if_neg (by omega)]
  exact leB_next (Nat.zero_le _)
end Go.Proofs.YtmhfbdeeebbloaaDoor
