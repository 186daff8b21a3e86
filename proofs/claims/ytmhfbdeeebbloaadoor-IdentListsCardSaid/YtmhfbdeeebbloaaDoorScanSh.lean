/- Blanks ahead of a text move its tokens, and nothing else: the plain law. Nothing of the program. -/
import Derived.Test.YtmhfbdeeebbloaaDoorScan0
namespace Go.Proofs.YtmhfbdeeebbloaaDoor
open Go.RowKit
theorem byteAt_app (P B : ByteArray) (i : Nat) : byteAt (P ++ B) (P.size + i) = byteAt B i := by
  unfold byteAt
  rw [ByteArray.data_append, Array.getElem?_append_right (by show P.size ≤ _; omega)]
  congr 3
  show P.size + i - P.size = i
  omega
theorem byteAt_pre (P B : ByteArray) (i : Nat) (h : i < P.size) : byteAt (P ++ B) i = byteAt P i := by
  unfold byteAt
  rw [ByteArray.data_append, Array.getElem?_append_left h]
def Sc.sh {α : Type} (p : Nat) (f : α → α) : Sc α → Sc α
  | .ok a => .ok (f a)
  | .no k i => .no k (p + i)
theorem Sc.bind_sh {α β : Type} {p : Nat} {f : α → α} {f' : β → β} {r : Sc α} {g g' : α → Sc β} (h : ∀ a, g (f a) = (g' a).sh p f') : (r.sh p f).bind g = (r.bind g').sh p f' := by
  cases r with
  | ok a => exact h a
  | no k i => rfl
section
variable {P B : ByteArray}
theorem skipF_sh (q : Nat → Bool) : ∀ f i, skipF q (P ++ B) f (P.size + i) = P.size + skipF q B f i
  | 0, i => rfl
  | f + 1, i => by
    rw [skipF, skipF, byteAt_app, ByteArray.size_append]
    by_cases h : i < B.size ∧ q (byteAt B i) = true
    · rw [if_pos h, if_pos ⟨by omega, h.2⟩, Nat.add_assoc, skipF_sh q f (i + 1)]
    · rw [if_neg h, if_neg (by rintro ⟨h1, h2⟩; exact h ⟨by omega, h2⟩)]
theorem skip_sh (q : Nat → Bool) (i : Nat) : skip q (P ++ B) (P.size + i) = P.size + skip q B i := by
  unfold skip
  rw [ByteArray.size_append, show P.size + B.size - (P.size + i) = B.size - i by omega, skipF_sh]
theorem onAt_sh (l : List Nat) (i : Nat) : onAt l (P ++ B) (P.size + i) = onAt l B i := by
  unfold onAt
  rw [byteAt_app, ByteArray.size_append]
  congr 1
  by_cases h : i < B.size
  · rw [decide_eq_true h, decide_eq_true (by omega)]
  · rw [decide_eq_false h, decide_eq_false (by omega)]
theorem digitsS_sh (i : Nat) : digitsS (P ++ B) (P.size + i) = (digitsS B i).sh P.size (P.size + ·) := by
  unfold digitsS
  rw [skip_sh, ByteArray.size_append]
  by_cases h : i < skip isDig B i
  · rw [if_pos h, if_pos (by omega)]; rfl
  · rw [if_neg h, if_neg (by omega)]
    by_cases h2 : i = B.size
    · rw [if_pos h2, if_pos (by omega)]; simp [Sc.sh]
    · rw [if_neg h2, if_neg (by omega)]; simp [Sc.sh]
theorem numberS_sh (i : Nat) : numberS (P ++ B) (P.size + i) = (numberS B i).sh P.size (P.size + ·) := by
  unfold numberS
  rw [onAt_sh]
  have e1 : (if onAt [45] B i = true then P.size + i + 1 else P.size + i) = P.size + (if onAt [45] B i = true then i + 1 else i) := by split <;> omega
  rw [e1]
  generalize (if onAt [45] B i = true then i + 1 else i) = i1
  rw [onAt_sh]
  have e2 : (if onAt [48] B i1 = true then Sc.ok (P.size + i1 + 1) else digitsS (P ++ B) (P.size + i1)) = (if onAt [48] B i1 = true then Sc.ok (i1 + 1) else digitsS B i1).sh P.size (P.size + ·) := by
    split
    · rfl
    · exact digitsS_sh i1
  rw [e2]
  refine Sc.bind_sh (fun i2 => ?_)
  try simp only
  rw [onAt_sh]
  have e3 : (if onAt [46] B i2 = true then digitsS (P ++ B) (P.size + i2 + 1) else Sc.ok (P.size + i2)) = (if onAt [46] B i2 = true then digitsS B (i2 + 1) else Sc.ok i2).sh P.size (P.size + ·) := by
    split
    · rw [Nat.add_assoc]; exact digitsS_sh (i2 + 1)
    · rfl
  rw [e3]
  refine Sc.bind_sh (fun i3 => ?_)
  try simp only
  rw [onAt_sh, Nat.add_assoc P.size i3 1, onAt_sh]
  have e4 : (if onAt [43, 45] B (i3 + 1) = true then P.size + i3 + 2 else P.size + (i3 + 1)) = P.size + (if onAt [43, 45] B (i3 + 1) = true then i3 + 2 else i3 + 1) := by split <;> omega
  rw [e4, digitsS_sh]
  split <;> rfl
theorem firstBad_sh {i n : Nat} {fit fit' : Nat → Bool} (h : ∀ k, fit k = fit' k) : firstBad (P ++ B) (P.size + i) n fit = (firstBad B i n fit').sh P.size id := by
  obtain rfl : fit = fit' := funext h
  unfold firstBad
  cases (List.range n).find? (fun k => !fit k) with
  | none => rfl
  | some k =>
    simp only [ByteArray.size_append]
    by_cases h2 : i + k = B.size
    · rw [if_pos h2, if_pos (by omega)]; simp [Sc.sh]
    · rw [if_neg h2, if_neg (by omega)]; simp [Sc.sh, Int.add_assoc]
theorem lt_sh (i : Nat) : decide (P.size + i < (P ++ B).size) = decide (i < B.size) := by
  rw [ByteArray.size_append]
  by_cases h : i < B.size
  · rw [decide_eq_true h, decide_eq_true (by omega)]
  · rw [decide_eq_false h, decide_eq_false (by omega)]
theorem unitFit_sh (i k : Nat) : unitFit (P ++ B) (P.size + i) k = unitFit B i k := by
  unfold unitFit
  rw [Nat.add_assoc, Nat.add_assoc, lt_sh, byteAt_app, byteAt_app, byteAt_app]
theorem hex4_sh (i : Nat) : hex4 (P ++ B) (P.size + i) = hex4 B i := by
  unfold hex4
  simp only [Nat.add_assoc, byteAt_app]
theorem unitS_sh (i : Nat) : unitS (P ++ B) (P.size + i) = (unitS B i).sh P.size id := by
  unfold unitS
  rw [firstBad_sh (unitFit_sh i)]
  refine Sc.bind_sh (fun _ => ?_)
  rw [Nat.add_assoc, hex4_sh]; rfl
theorem pairS_sh (i : Nat) : pairS (P ++ B) (P.size + i) = (pairS B i).sh P.size id := by
  unfold pairS
  rw [unitS_sh]
  refine Sc.bind_sh (fun n => ?_)
  simp only [id]
  split
  · rfl
  · split
    · rw [Nat.add_assoc, unitS_sh]
      cases unitS B (i + 6) with
      | ok m => simp only [Sc.sh, pairLow, id]; split <;> simp [Sc.sh]
      | no k j => simp only [Sc.sh, pairLow]; split <;> simp [Sc.sh]
    · simp [Sc.sh]
theorem escapeS_sh (i : Nat) : escapeS (P ++ B) (P.size + i) = (escapeS B i).sh P.size id := by
  unfold escapeS
  rw [Nat.add_assoc, byteAt_app, ByteArray.size_append, pairS_sh]
  by_cases h2 : i + 1 = B.size
  · rw [if_pos h2, if_pos (by omega)]; simp [Sc.sh]
  · rw [if_neg h2, if_neg (by omega)]
    split
    · rfl
    · cases simpleS (byteAt B (i + 1)) <;> simp [Sc.sh]
theorem decU_sh (i : Nat) : decU (P ++ B) (P.size + i) = decU B i := by
  unfold decU
  rw [ByteArray.size_append, show P.size + B.size - (P.size + i) = B.size - i by omega]
  simp only [Nat.add_assoc, byteAt_app]
theorem charS_sh (i : Nat) : charS (P ++ B) (P.size + i) = (charS B i).sh P.size id := by
  unfold charS
  rw [decU_sh, ByteArray.size_append]
  by_cases h2 : i = B.size
  · rw [if_pos h2, if_pos (by omega)]; simp [Sc.sh]
  · rw [if_neg h2, if_neg (by omega)]
    split <;> simp [Sc.sh]
theorem textStep_sh (i : Nat) : textStep (P ++ B) (P.size + i) = (textStep B i).sh P.size id := by
  unfold textStep
  rw [byteAt_app, escapeS_sh, charS_sh]
  split <;> rfl
theorem textF_sh : ∀ f i acc, textF (P ++ B) f (P.size + i) acc = (textF B f i acc).sh P.size (fun x => (x.1, P.size + x.2))
  | 0, i, acc => by simp [textF, Sc.sh]
  | f + 1, i, acc => by
    rw [textF, textF, byteAt_app, ByteArray.size_append, textStep_sh]
    by_cases h2 : i = B.size
    · rw [if_pos h2, if_pos (by omega)]; simp [Sc.sh]
    · rw [if_neg h2, if_neg (by omega)]
      split
      · simp [Sc.sh, Nat.add_assoc]
      · split
        · simp [Sc.sh]
        · refine Sc.bind_sh (fun x => ?_)
          simp only [id]
          rw [Nat.add_assoc, textF_sh]
theorem textS_sh (i : Nat) (acc : List Nat) : textS (P ++ B) (P.size + i) acc = (textS B i acc).sh P.size (fun x => (x.1, P.size + x.2)) := by
  unfold textS
  rw [ByteArray.size_append, show P.size + B.size - (P.size + i) = B.size - i by omega, textF_sh]
theorem wordS_sh (i : Nat) (w : List Nat) : wordS (P ++ B) (P.size + i) w = (wordS B i w).sh P.size (P.size + ·) := by
  unfold wordS
  rw [firstBad_sh (fun k => by rw [Nat.add_assoc, lt_sh, byteAt_app])]
  refine Sc.bind_sh (fun _ => ?_)
  simp [Sc.sh, Nat.add_assoc]
theorem tokenS_sh (i : Nat) : tokenS (P ++ B) (P.size + i) = (tokenS B i).sh P.size (fun x => (x.1, P.size + x.2)) := by
  unfold tokenS
  rw [byteAt_app, ByteArray.size_append, Nat.add_assoc, textS_sh, numberS_sh, wordS_sh, wordS_sh, wordS_sh]
  by_cases h2 : i = B.size
  · rw [if_pos h2, if_pos (by omega)]; rfl
  · rw [if_neg h2, if_neg (by omega)]
    repeat' split
    all_goals first | rfl | exact Sc.bind_sh (fun _ => rfl)
theorem nextS_sh (i : Nat) : nextS (P ++ B) (P.size + i) = (nextS B i).sh P.size (fun t => ⟨t.kind, P.size + t.fr, P.size + t.to⟩) := by
  unfold nextS
  rw [skip_sh, tokenS_sh]
  refine Sc.bind_sh (fun x => ?_)
  simp [Sc.sh]
end
/-- Blanks ahead move a token, and nothing else. -/
theorem next_blanks (P B : ByteArray) (h : ∀ i, i < P.size → isBlank (byteAt P i) = true) : nextI (P ++ B) 0 = (nextI B 0).sh P.size (fun t => ⟨t.kind, P.size + t.fr, P.size + t.to⟩) := by
  have e1 : nextI (P ++ B) 0 = nextS (P ++ B) 0 := by unfold nextI; rw [if_neg (by omega)]; rfl
  have e2 : nextI B 0 = nextS B 0 := by unfold nextI; rw [if_neg (by omega)]; rfl
  rw [e1, e2, ← nextS_sh]
  have key : ∀ n i, P.size - i = n → i ≤ P.size → skip isBlank (P ++ B) i = skip isBlank (P ++ B) P.size := by
    intro n
    induction n with
    | zero => intro i hn hi; rw [show i = P.size by omega]
    | succ n ih =>
      intro i hn hi
      rw [skip_go (by rw [ByteArray.size_append]; omega) (by rw [byteAt_pre P B i (by omega)]; exact h i (by omega))]
      exact ih (i + 1) (by omega) (by omega)
  unfold nextS
  rw [key _ 0 rfl (Nat.zero_le _), Nat.add_zero]
end Go.Proofs.YtmhfbdeeebbloaaDoor
