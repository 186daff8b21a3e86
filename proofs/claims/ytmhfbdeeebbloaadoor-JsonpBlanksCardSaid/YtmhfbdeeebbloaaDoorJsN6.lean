/- ScanSh, Quo0, Quo1, JsP3, JsP4, JsN5 in one text (a claim holds at most 60 files). -/
import Derived.Test.YtmhfbdeeebbloaaDoorScan0
import Derived.Test.YtmhfbdeeebbloaaDoorUtf0
import Derived.Test.YtmhfbdeeebbloaaDoorScanAll0
import Derived.Test.YtmhfbdeeebbloaaDoorJsP0
import Derived.Test.YtmhfbdeeebbloaaDoorJsN1
import Derived.Test.YtmhfbdeeebbloaaDoorConv0
import Derived.LoopN
import Derived.Deep.RegionHeld3
namespace Go.Proofs.YtmhfbdeeebbloaaDoor
section
open Go.RowKit
theorem byteAt_app (P B : ByteArray) (i : Nat) : byteAt (P ++ B) (P.size + i) = byteAt B i := by
  unfold byteAt
  rw [ByteArray.data_append, Array.getElem?_append_right (by show P.size ≤ _; omega)]
  congr 3
  show P.size + i - P.size = i
  omega
theorem byteAt_pre (P B : ByteArray) (i : Nat) (h : i < P.size) : byteAt (P ++ B) i = byteAt P i := by
  unfold byteAt
  rw [ByteArray.data_append, Array.getElem?_append_left h]
def Sc.sh {α : Type} (p : Nat) (f : α → α) : Sc α → Sc α
  | .ok a => .ok (f a)
  | .no k i => .no k (p + i)
theorem Sc.bind_sh {α β : Type} {p : Nat} {f : α → α} {f' : β → β} {r : Sc α} {g g' : α → Sc β} (h : ∀ a, g (f a) = (g' a).sh p f') : (r.sh p f).bind g = (r.bind g').sh p f' := by
  cases r with
  | ok a => exact h a
  | no k i => rfl
section
variable {P B : ByteArray}
theorem skipF_sh (q : Nat → Bool) : ∀ f i, skipF q (P ++ B) f (P.size + i) = P.size + skipF q B f i
  | 0, i => rfl
  | f + 1, i => by
    rw [skipF, skipF, byteAt_app, ByteArray.size_append]
    by_cases h : i < B.size ∧ q (byteAt B i) = true
    · rw [if_pos h, if_pos ⟨by omega, h.2⟩, Nat.add_assoc, skipF_sh q f (i + 1)]
    · rw [if_neg h, if_neg (by rintro ⟨h1, h2⟩; exact h ⟨by omega, h2⟩)]
theorem skip_sh (q : Nat → Bool) (i : Nat) : skip q (P ++ B) (P.size + i) = P.size + skip q B i := by
  unfold skip
  rw [ByteArray.size_append, show P.size + B.size - (P.size + i) = B.size - i by omega, skipF_sh]
theorem onAt_sh (l : List Nat) (i : Nat) : onAt l (P ++ B) (P.size + i) = onAt l B i := by
  unfold onAt
  rw [byteAt_app, ByteArray.size_append]
  congr 1
  by_cases h : i < B.size
  · rw [decide_eq_true h, decide_eq_true (by omega)]
  · rw [decide_eq_false h, decide_eq_false (by omega)]
theorem digitsS_sh (i : Nat) : digitsS (P ++ B) (P.size + i) = (digitsS B i).sh P.size (P.size + ·) := by
  unfold digitsS
  rw [skip_sh, ByteArray.size_append]
  by_cases h : i < skip isDig B i
  · rw [if_pos h, if_pos (by omega)]; rfl
  · rw [if_neg h, if_neg (by omega)]
    by_cases h2 : i = B.size
    · rw [if_pos h2, if_pos (by omega)]; simp [Sc.sh]
    · rw [if_neg h2, if_neg (by omega)]; simp [Sc.sh]
theorem numberS_sh (i : Nat) : numberS (P ++ B) (P.size + i) = (numberS B i).sh P.size (P.size + ·) := by
  unfold numberS
  rw [onAt_sh]
  have e1 : (if onAt [45] B i = true then P.size + i + 1 else P.size + i) = P.size + (if onAt [45] B i = true then i + 1 else i) := by split <;> omega
  rw [e1]
  generalize (if onAt [45] B i = true then i + 1 else i) = i1
  rw [onAt_sh]
  have e2 : (if onAt [48] B i1 = true then Sc.ok (P.size + i1 + 1) else digitsS (P ++ B) (P.size + i1)) = (if onAt [48] B i1 = true then Sc.ok (i1 + 1) else digitsS B i1).sh P.size (P.size + ·) := by
    split
    · rfl
    · exact digitsS_sh i1
  rw [e2]
  refine Sc.bind_sh (fun i2 => ?_)
  try simp only
  rw [onAt_sh]
  have e3 : (if onAt [46] B i2 = true then digitsS (P ++ B) (P.size + i2 + 1) else Sc.ok (P.size + i2)) = (if onAt [46] B i2 = true then digitsS B (i2 + 1) else Sc.ok i2).sh P.size (P.size + ·) := by
    split
    · rw [Nat.add_assoc]; exact digitsS_sh (i2 + 1)
    · rfl
  rw [e3]
  refine Sc.bind_sh (fun i3 => ?_)
  try simp only
  rw [onAt_sh, Nat.add_assoc P.size i3 1, onAt_sh]
  have e4 : (if onAt [43, 45] B (i3 + 1) = true then P.size + i3 + 2 else P.size + (i3 + 1)) = P.size + (if onAt [43, 45] B (i3 + 1) = true then i3 + 2 else i3 + 1) := by split <;> omega
  rw [e4, digitsS_sh]
  split <;> rfl
theorem firstBad_sh {i n : Nat} {fit fit' : Nat → Bool} (h : ∀ k, fit k = fit' k) : firstBad (P ++ B) (P.size + i) n fit = (firstBad B i n fit').sh P.size id := by
  obtain rfl : fit = fit' := funext h
  unfold firstBad
  cases (List.range n).find? (fun k => !fit k) with
  | none => rfl
  | some k =>
    simp only [ByteArray.size_append]
    by_cases h2 : i + k = B.size
    · rw [if_pos h2, if_pos (by omega)]; simp [Sc.sh]
    · rw [if_neg h2, if_neg (by omega)]; simp [Sc.sh, Int.add_assoc]
theorem lt_sh (i : Nat) : decide (P.size + i < (P ++ B).size) = decide (i < B.size) := by
  rw [ByteArray.size_append]
  by_cases h : i < B.size
  · rw [decide_eq_true h, decide_eq_true (by omega)]
  · rw [decide_eq_false h, decide_eq_false (by omega)]
theorem unitFit_sh (i k : Nat) : unitFit (P ++ B) (P.size + i) k = unitFit B i k := by
  unfold unitFit
  rw [Nat.add_assoc, Nat.add_assoc, lt_sh, byteAt_app, byteAt_app, byteAt_app]
theorem hex4_sh (i : Nat) : hex4 (P ++ B) (P.size + i) = hex4 B i := by
  unfold hex4
  simp only [Nat.add_assoc, byteAt_app]
theorem unitS_sh (i : Nat) : unitS (P ++ B) (P.size + i) = (unitS B i).sh P.size id := by
  unfold unitS
  rw [firstBad_sh (unitFit_sh i)]
  refine Sc.bind_sh (fun _ => ?_)
  rw [Nat.add_assoc, hex4_sh]; rfl
theorem pairS_sh (i : Nat) : pairS (P ++ B) (P.size + i) = (pairS B i).sh P.size id := by
  unfold pairS
  rw [unitS_sh]
  refine Sc.bind_sh (fun n => ?_)
  simp only [id]
  split
  · rfl
  · split
    · rw [Nat.add_assoc, unitS_sh]
      cases unitS B (i + 6) with
      | ok m => simp only [Sc.sh, pairLow, id]; split <;> simp [Sc.sh]
      | no k j => simp only [Sc.sh, pairLow]; split <;> simp [Sc.sh]
    · simp [Sc.sh]
theorem escapeS_sh (i : Nat) : escapeS (P ++ B) (P.size + i) = (escapeS B i).sh P.size id := by
  unfold escapeS
  rw [Nat.add_assoc, byteAt_app, ByteArray.size_append, pairS_sh]
  by_cases h2 : i + 1 = B.size
  · rw [if_pos h2, if_pos (by omega)]; simp [Sc.sh]
  · rw [if_neg h2, if_neg (by omega)]
    split
    · rfl
    · cases simpleS (byteAt B (i + 1)) <;> simp [Sc.sh]
theorem decU_sh (i : Nat) : decU (P ++ B) (P.size + i) = decU B i := by
  unfold decU
  rw [ByteArray.size_append, show P.size + B.size - (P.size + i) = B.size - i by omega]
  simp only [Nat.add_assoc, byteAt_app]
theorem charS_sh (i : Nat) : charS (P ++ B) (P.size + i) = (charS B i).sh P.size id := by
  unfold charS
  rw [decU_sh, ByteArray.size_append]
  by_cases h2 : i = B.size
  · rw [if_pos h2, if_pos (by omega)]; simp [Sc.sh]
  · rw [if_neg h2, if_neg (by omega)]
    split <;> simp [Sc.sh]
theorem textStep_sh (i : Nat) : textStep (P ++ B) (P.size + i) = (textStep B i).sh P.size id := by
  unfold textStep
  rw [byteAt_app, escapeS_sh, charS_sh]
  split <;> rfl
theorem textF_sh : ∀ f i acc, textF (P ++ B) f (P.size + i) acc = (textF B f i acc).sh P.size (fun x => (x.1, P.size + x.2))
  | 0, i, acc => by simp [textF, Sc.sh]
  | f + 1, i, acc => by
    rw [textF, textF, byteAt_app, ByteArray.size_append, textStep_sh]
    by_cases h2 : i = B.size
    · rw [if_pos h2, if_pos (by omega)]; simp [Sc.sh]
    · rw [if_neg h2, if_neg (by omega)]
      split
      · simp [Sc.sh, Nat.add_assoc]
      · split
        · simp [Sc.sh]
        · refine Sc.bind_sh (fun x => ?_)
          simp only [id]
          rw [Nat.add_assoc, textF_sh]
theorem textS_sh (i : Nat) (acc : List Nat) : textS (P ++ B) (P.size + i) acc = (textS B i acc).sh P.size (fun x => (x.1, P.size + x.2)) := by
  unfold textS
  rw [ByteArray.size_append, show P.size + B.size - (P.size + i) = B.size - i by omega, textF_sh]
theorem wordS_sh (i : Nat) (w : List Nat) : wordS (P ++ B) (P.size + i) w = (wordS B i w).sh P.size (P.size + ·) := by
  unfold wordS
  rw [firstBad_sh (fun k => by rw [Nat.add_assoc, lt_sh, byteAt_app])]
  refine Sc.bind_sh (fun _ => ?_)
  simp [Sc.sh, Nat.add_assoc]
theorem tokenS_sh (i : Nat) : tokenS (P ++ B) (P.size + i) = (tokenS B i).sh P.size (fun x => (x.1, P.size + x.2)) := by
  unfold tokenS
  rw [byteAt_app, ByteArray.size_append, Nat.add_assoc, textS_sh, numberS_sh, wordS_sh, wordS_sh, wordS_sh]
  by_cases h2 : i = B.size
  · rw [if_pos h2, if_pos (by omega)]; rfl
  · rw [if_neg h2, if_neg (by omega)]
    repeat' split
    all_goals first | rfl | exact Sc.bind_sh (fun _ => rfl)
theorem nextS_sh (i : Nat) : nextS (P ++ B) (P.size + i) = (nextS B i).sh P.size (fun t => ⟨t.kind, P.size + t.fr, P.size + t.to⟩) := by
  unfold nextS
  rw [skip_sh, tokenS_sh]
  refine Sc.bind_sh (fun x => ?_)
  simp [Sc.sh]
end
/-- Blanks ahead move a token, and nothing else. -/
theorem next_blanks (P B : ByteArray) (h : ∀ i, i < P.size → isBlank (byteAt P i) = true) : nextI (P ++ B) 0 = (nextI B 0).sh P.size (fun t => ⟨t.kind, P.size + t.fr, P.size + t.to⟩) := by
  have e1 : nextI (P ++ B) 0 = nextS (P ++ B) 0 := by unfold nextI; rw [if_neg (by omega)]; rfl
  have e2 : nextI B 0 = nextS B 0 := by unfold nextI; rw [if_neg (by omega)]; rfl
  rw [e1, e2, ← nextS_sh]
  have key : ∀ n i, P.size - i = n → i ≤ P.size → skip isBlank (P ++ B) i = skip isBlank (P ++ B) P.size := by
    intro n
    induction n with
    | zero => intro i hn hi; rw [show i = P.size by omega]
    | succ n ih =>
      intro i hn hi
      rw [skip_go (by rw [ByteArray.size_append]; omega) (by rw [byteAt_pre P B i (by omega)]; exact h i (by omega))]
      exact ih (i + 1) (by omega) (by omega)
  unfold nextS
  rw [key _ 0 rfl (Nat.zero_le _), Nat.add_zero]
end
section
open Go.RowKit
/-- The characters from a place on, or the place at which none stands. -/
def charsF (B : ByteArray) : Nat → Nat → List Nat → Sc (List Nat)
  | 0, i, acc => if i < B.size then .no 12 i else .ok acc
  | f + 1, i, acc => if i < B.size then (if decU B i = (65533, 1) then .no 12 i else charsF B f (i + (decU B i).2) (acc ++ [(decU B i).1])) else .ok acc
def charsS (B : ByteArray) (i : Nat) (acc : List Nat) : Sc (List Nat) := charsF B (B.size - i) i acc
theorem decU_size {B : ByteArray} {i : Nat} (hi : i < B.size) : 0 < (decU B i).2 ∧ i + (decU B i).2 ≤ B.size := by
  have := decodeN_size (B.size - i) (byteAt B i) (byteAt B (i + 1)) (byteAt B (i + 2)) (byteAt B (i + 3)) (by omega)
  unfold decU; omega
theorem charsF_fuel (B : ByteArray) : ∀ n f g i acc, B.size - i = n → n ≤ f → n ≤ g → charsF B f i acc = charsF B g i acc := by
  intro n
  induction n using Nat.strongRecOn with
  | ind n ih =>
    intro f g i acc hn hf hg
    by_cases hi : i < B.size
    · cases f with
      | zero => omega
      | succ f =>
        cases g with
        | zero => omega
        | succ g =>
          have hd := decU_size hi
          rw [charsF, charsF, if_pos hi, if_pos hi]
          split
          · rfl
          · exact ih (B.size - (i + (decU B i).2)) (by omega) f g _ _ rfl (by omega) (by omega)
    · cases f <;> cases g <;> simp only [charsF, if_neg hi]
theorem charsS_step {B : ByteArray} {i : Nat} {acc : List Nat} (hi : i < B.size) : charsS B i acc = if decU B i = (65533, 1) then .no 12 i else charsS B (i + (decU B i).2) (acc ++ [(decU B i).1]) := by
  have hd := decU_size hi
  unfold charsS
  cases hf : B.size - i with
  | zero => omega
  | succ f =>
    rw [charsF, if_pos hi]
    split
    · rfl
    · exact charsF_fuel B _ _ _ _ _ rfl (by omega) (by omega)
theorem charsS_end {B : ByteArray} {i : Nat} {acc : List Nat} (hi : ¬ i < B.size) : charsS B i acc = .ok acc := by
  unfold charsS
  cases B.size - i <;> simp only [charsF, if_neg hi]
/-- A right character: its bytes are those that stand there. -/
theorem dec_ok {B : ByteArray} {i : Nat} (hi : i < B.size) (h : decU B i ≠ (65533, 1)) : ∃ k, 1 ≤ k ∧ k ≤ 4 ∧ i + k ≤ B.size ∧ hitN (byteAt B i) (byteAt B (i + 1)) (byteAt B (i + 2)) (byteAt B (i + 3)) k = true := by
  by_cases hx : ∃ k, 1 ≤ k ∧ k ≤ 4 ∧ k ≤ B.size - i ∧ hitN (byteAt B i) (byteAt B (i + 1)) (byteAt B (i + 2)) (byteAt B (i + 3)) k = true
  · obtain ⟨k, h1, h2, h3, h4⟩ := hx
    exact ⟨k, h1, h2, by omega, h4⟩
  · exfalso
    apply h
    exact decode_none (byteAt_lt B i) (byteAt_lt B (i + 1)) (byteAt_lt B (i + 2)) (B.size - i) (by omega) (fun k h1 h2 h3 => by
      cases hh : hitN (byteAt B i) (byteAt B (i + 1)) (byteAt B (i + 2)) (byteAt B (i + 3)) k with
      | false => rfl
      | true => exact absurd ⟨k, h1, h2, h3, hh⟩ hx)
theorem dec_hit {B : ByteArray} {i k : Nat} (h1 : 1 ≤ k) (h4 : k ≤ 4) (hk : i + k ≤ B.size) (hh : hitN (byteAt B i) (byteAt B (i + 1)) (byteAt B (i + 2)) (byteAt B (i + 3)) k = true) :
    decU B i = ((guessN (byteAt B i) (byteAt B (i + 1)) (byteAt B (i + 2)) (byteAt B (i + 3)) k).toNat, k) ∧ decU B i ≠ (65533, 1) ∧ putN (decU B i).1 = [byteAt B i, byteAt B (i + 1), byteAt B (i + 2), byteAt B (i + 3)].take k := by
  obtain ⟨e1, e2⟩ := decode_hit (byteAt_lt B i) (byteAt_lt B (i + 1)) (byteAt_lt B (i + 2)) (B.size - i) (by omega) k h1 h4 (by omega) hh
  have e : decU B i = ((guessN (byteAt B i) (byteAt B (i + 1)) (byteAt B (i + 2)) (byteAt B (i + 3)) k).toNat, k) := e1
  refine ⟨e, by rw [e]; exact e2, ?_⟩
  rw [e]
  unfold hitN at hh
  simp only [Bool.and_eq_true, beq_iff_eq] at hh
  exact hh.2
/-- The same bytes stand for the same character, wherever they are. -/
theorem hit_local {b0 b1 b2 b3 c1 c2 c3 k : Nat} (h1 : 1 ≤ k) (h4 : k ≤ 4) (e1 : 1 < k → c1 = b1) (e2 : 2 < k → c2 = b2) (e3 : 3 < k → c3 = b3) : hitN b0 c1 c2 c3 k = hitN b0 b1 b2 b3 k ∧ guessN b0 c1 c2 c3 k = guessN b0 b1 b2 b3 k := by
  have hk : k = 1 ∨ k = 2 ∨ k = 3 ∨ k = 4 := by omega
  rcases hk with rfl | rfl | rfl | rfl
  · exact ⟨rfl, rfl⟩
  · rw [e1 (by omega)]; exact ⟨rfl, rfl⟩
  · rw [e1 (by omega), e2 (by omega)]; exact ⟨rfl, rfl⟩
  · rw [e1 (by omega), e2 (by omega), e3 (by omega)]; exact ⟨rfl, rfl⟩
theorem dec_local {B Q : ByteArray} {i p : Nat} (hi : i < B.size) (h : decU B i ≠ (65533, 1)) (hs : p + (decU B i).2 ≤ Q.size) (hb : ∀ m, m < (decU B i).2 → byteAt Q (p + m) = byteAt B (i + m)) : decU Q p = decU B i := by
  obtain ⟨k, h1, h4, hk, hh⟩ := dec_ok hi h
  obtain ⟨e, _, _⟩ := dec_hit h1 h4 hk hh
  have hk2 : (decU B i).2 = k := by rw [e]
  rw [hk2] at hs hb
  have b0 : byteAt Q p = byteAt B i := hb 0 (by omega)
  obtain ⟨l1, l2⟩ := hit_local (b0 := byteAt B i) (b1 := byteAt B (i + 1)) (b2 := byteAt B (i + 2)) (b3 := byteAt B (i + 3)) (c1 := byteAt Q (p + 1)) (c2 := byteAt Q (p + 2)) (c3 := byteAt Q (p + 3)) h1 h4 (fun h => hb 1 h) (fun h => hb 2 h) (fun h => hb 3 h)
  have hq : hitN (byteAt Q p) (byteAt Q (p + 1)) (byteAt Q (p + 2)) (byteAt Q (p + 3)) k = true := by rw [b0, l1]; exact hh
  obtain ⟨eq, _, _⟩ := dec_hit h1 h4 hs hq
  rw [eq, e, b0, l2]
/-! ### A byte in a token -/
def valL : List Nat := [34, 92, 8, 12, 10, 13, 9]
def namL : List Nat := [34, 92, 98, 102, 110, 114, 116]
def hexU (d : Nat) : Nat := if d < 10 then 48 + d else 55 + d
def escB (c : Nat) : List Nat := if valL.contains c then [92, namL[valL.idxOf c]?.getD 0] else if c < 32 then [92, 117, 48, 48, hexU (c / 16), hexU (c % 16)] else [c]
theorem escB_len (c : Nat) : 1 ≤ (escB c).length ∧ (escB c).length ≤ 6 := by unfold escB; split <;> (try split) <;> simp
theorem escB_plain : ∀ c : Fin 256, 32 ≤ c.val → c.val ≠ 34 → c.val ≠ 92 → escB c.val = [c.val] := by decide +kernel
theorem escB_short : ∀ c : Fin 256, valL.contains c.val = true → ∃ x : Fin 256, escB c.val = [92, x.val] ∧ x.val ≠ 117 ∧ simpleS x.val = some c.val := by decide +kernel
theorem escB_unit : ∀ c : Fin 256, valL.contains c.val = false → c.val < 32 → escB c.val = [92, 117, 48, 48, hexU (c.val / 16), hexU (c.val % 16)] ∧ isHex (hexU (c.val / 16)) = true ∧ isHex (hexU (c.val % 16)) = true ∧ 16 * hexV (hexU (c.val / 16)) + hexV (hexU (c.val % 16)) = c.val := by decide +kernel
theorem escB_great : ∀ c : Fin 256, 128 ≤ c.val → escB c.val = [c.val] := by decide +kernel
def bytesN (B : ByteArray) : List Nat := B.data.toList.map (·.toNat)
def quoteL (B : ByteArray) : List Nat := 34 :: ((bytesN B).flatMap escB ++ [34])
def quoteB (B : ByteArray) : ByteArray := ⟨((quoteL B).map UInt8.ofNat).toArray⟩
/-- The place at which the i-th byte's text begins. -/
def offQ (B : ByteArray) (i : Nat) : Nat := 1 + (((bytesN B).take i).flatMap escB).length
end
section
open Go.RowKit
theorem bytesN_len (B : ByteArray) : (bytesN B).length = B.size := by
  show (B.data.toList.map (·.toNat)).length = B.data.size
  simp
theorem bytesN_get {B : ByteArray} {i : Nat} (hi : i < B.size) : (bytesN B)[i]? = some (byteAt B i) := by
  have hd : i < B.data.size := hi
  unfold bytesN byteAt
  rw [List.getElem?_map, Array.getElem?_toList, Array.getElem?_eq_getElem hd]; rfl
theorem escB_lt : ∀ c : Fin 256, ∀ x ∈ escB c.val, x < 256 := by decide +kernel
theorem quoteL_lt (B : ByteArray) : ∀ x ∈ quoteL B, x < 256 := by
  intro x hx
  unfold quoteL at hx
  rcases List.mem_cons.1 hx with rfl | hx
  · decide
  · rcases List.mem_append.1 hx with hx | hx
    · obtain ⟨c, hc, hx⟩ := List.mem_flatMap.1 hx
      obtain ⟨u, _, rfl⟩ := List.mem_map.1 hc
      exact escB_lt ⟨u.toNat, UInt8.toNat_lt u⟩ x hx
    · rw [List.mem_singleton.1 hx]; decide
theorem quoteB_size (B : ByteArray) : (quoteB B).size = (quoteL B).length := by
  show ((quoteL B).map UInt8.ofNat).toArray.size = _
  simp
theorem quoteB_at {B : ByteArray} {p x : Nat} (h : (quoteL B)[p]? = some x) : byteAt (quoteB B) p = x := by
  have hx := quoteL_lt B x (List.mem_of_getElem? h)
  unfold byteAt quoteB
  simp only [List.getElem?_toArray, List.getElem?_map, h, Option.map_some, Option.getD_some]
  simp; omega
theorem offQ_zero (B : ByteArray) : offQ B 0 = 1 := by simp [offQ]
theorem take_more {B : ByteArray} {i : Nat} (hi : i < B.size) : (bytesN B).take (i + 1) = (bytesN B).take i ++ [byteAt B i] := by
  rw [List.take_add_one, bytesN_get hi]; rfl
theorem offQ_next {B : ByteArray} {i : Nat} (hi : i < B.size) : offQ B (i + 1) = offQ B i + (escB (byteAt B i)).length := by
  unfold offQ
  rw [take_more hi, List.flatMap_append, List.length_append]
  simp; omega
theorem offQ_end (B : ByteArray) : (quoteB B).size = offQ B B.size + 1 := by
  rw [quoteB_size]
  unfold offQ quoteL
  rw [List.take_of_length_le (by rw [bytesN_len]; exact Nat.le_refl _)]
  simp; omega
theorem quoteL_split {B : ByteArray} {i : Nat} (hi : i < B.size) : quoteL B = (34 :: ((bytesN B).take i).flatMap escB) ++ (escB (byteAt B i) ++ (((bytesN B).drop (i + 1)).flatMap escB ++ [34])) := by
  unfold quoteL
  conv => lhs; rw [← List.take_append_drop (i + 1) (bytesN B), List.flatMap_append, take_more hi, List.flatMap_append]
  simp
theorem quote_at {B : ByteArray} {i m x : Nat} (hi : i < B.size) (hx : (escB (byteAt B i))[m]? = some x) : byteAt (quoteB B) (offQ B i + m) = x := by
  have hm := (List.getElem?_eq_some_iff.1 hx).1
  apply quoteB_at
  rw [quoteL_split hi]
  have hl : (34 :: ((bytesN B).take i).flatMap escB).length = offQ B i := by unfold offQ; simp; omega
  rw [List.getElem?_append_right (by omega), hl, Nat.add_sub_cancel_left, List.getElem?_append_left hm]
  exact hx
theorem quote_last (B : ByteArray) : byteAt (quoteB B) (offQ B B.size) = 34 := by
  apply quoteB_at
  unfold quoteL offQ
  rw [List.take_of_length_le (by rw [bytesN_len]; exact Nat.le_refl _)]
  rw [Nat.add_comm, List.getElem?_cons_succ, List.getElem?_append_right (Nat.le_refl _), Nat.sub_self]; rfl
theorem offQ_mono {B : ByteArray} {i : Nat} (hi : i ≤ B.size) : offQ B i ≤ offQ B B.size := by
  obtain ⟨d, hd⟩ : ∃ d, B.size = i + d := ⟨B.size - i, by omega⟩
  have : ∀ d, i + d ≤ B.size → offQ B i ≤ offQ B (i + d) := by
    intro d
    induction d with
    | zero => intro _; exact Nat.le_refl _
    | succ d ih =>
      intro h
      have h1 := ih (by omega)
      have h2 := offQ_next (B := B) (i := i + d) (by omega)
      show offQ B i ≤ offQ B (i + d + 1)
      omega
  rw [hd]; exact this d (by omega)
/-- A character of several bytes stands in the token as it is. -/
theorem great_run {B : ByteArray} {i : Nat} : ∀ n, i + n ≤ B.size → (∀ m, m < n → 128 ≤ byteAt B (i + m)) → offQ B (i + n) = offQ B i + n ∧ ∀ m, m < n → byteAt (quoteB B) (offQ B i + m) = byteAt B (i + m)
  | 0, _, _ => ⟨rfl, fun m h => by omega⟩
  | n + 1, hn, h => by
    obtain ⟨h1, h2⟩ := great_run n (by omega) (fun m hm => h m (by omega))
    have hg := escB_great ⟨byteAt B (i + n), byteAt_lt B _⟩ (h n (by omega))
    have hg' : escB (byteAt B (i + n)) = [byteAt B (i + n)] := hg
    have hlt : i + n < B.size := by omega
    refine ⟨?_, fun m hm => ?_⟩
    · have := offQ_next hlt
      rw [hg'] at this
      show offQ B (i + n + 1) = _
      simp at this; omega
    · by_cases e : m = n
      · subst e
        have := quote_at (B := B) (i := i + m) (m := 0) (x := byteAt B (i + m)) hlt (by rw [hg']; rfl)
        rw [Nat.add_zero, h1] at this
        exact this
      · exact h2 m (by omega)
theorem hit_great {b0 b1 b2 b3 k : Nat} (_h0 : b0 < 256) (h1 : b1 < 256) (h2 : b2 < 256) (hk1 : 1 ≤ k) (hk : k ≤ 4) (_hb : 128 ≤ b0) (hh : hitN b0 b1 b2 b3 k = true) : (1 < k → 128 ≤ b1) ∧ (2 < k → 128 ≤ b2) ∧ (3 < k → 128 ≤ b3) := by
  have hc : k = 1 ∨ k = 2 ∨ k = 3 ∨ k = 4 := by omega
  rcases hc with rfl | rfl | rfl | rfl
  · refine ⟨fun h => by omega, fun h => by omega, fun h => by omega⟩
  · have := (hit2 (b0 := b0) (b1 := b1) (b2 := b2) (b3 := b3) h1).1 hh
    refine ⟨fun _ => by omega, fun h => by omega, fun h => by omega⟩
  · have := (hit3 (b0 := b0) (b1 := b1) (b2 := b2) (b3 := b3) h1).1 hh
    refine ⟨fun _ => by omega, fun _ => by omega, fun h => by omega⟩
  · have := (hit4 (b0 := b0) (b1 := b1) (b2 := b2) (b3 := b3) h2).1 hh
    refine ⟨fun _ => by omega, fun _ => by omega, fun _ => by omega⟩
end
section
open Go.RowKit
/-- R is B, and blanks behind it. -/
structure Tail (B R : ByteArray) : Prop where
  le : B.size ≤ R.size
  same : ∀ i, i < B.size → byteAt R i = byteAt B i
  blank : ∀ i, B.size ≤ i → i < R.size → isBlank (byteAt R i) = true
theorem blank_is {c : Nat} (h : isBlank c = true) : c = 32 ∨ c = 9 ∨ c = 10 ∨ c = 13 := by simpa [isBlank] using h
def okE {α : Type} (r r' : Sc α) : Prop := ∀ a, r = .ok a ↔ r' = .ok a
theorem okE.refl {α : Type} (r : Sc α) : okE r r := fun _ => Iff.rfl
theorem okE.bind {α β : Type} {r r' : Sc α} {f f' : α → Sc β} (h : okE r r') (hf : ∀ a, r = .ok a → okE (f a) (f' a)) : okE (r.bind f) (r'.bind f') := by
  intro b
  constructor
  · intro hb
    obtain ⟨a, ha, hb⟩ := Sc.bind_eq_ok hb
    rw [(h a).1 ha]
    exact (hf a ha b).1 hb
  · intro hb
    obtain ⟨a, ha, hb⟩ := Sc.bind_eq_ok hb
    have ha' := (h a).2 ha
    rw [ha']
    exact (hf a ha' b).2 hb
theorem okE.none {α : Type} {r r' : Sc α} (h : ∀ a, r ≠ .ok a) (h' : ∀ a, r' ≠ .ok a) : okE r r' := fun a => ⟨fun e => absurd e (h a), fun e => absurd e (h' a)⟩
section
variable {B R : ByteArray} (h : Tail B R)
include h
theorem Tail.skipE {q : Nat → Bool} (hq : ∀ c, isBlank c = true → q c = false) {i : Nat} (hi : i ≤ B.size) : skip q R i = skip q B i := by
  have h1 := skip_le q B i hi
  have h2 := h.le
  refine skip_is _ i _ rfl (skip_ge _ _ _) (by omega) (fun j a b => ?_) (fun hlt => ?_)
  · rw [h.same j (by omega)]; exact skip_all q B _ i j rfl a b
  · by_cases e : Go.Proofs.YtmhfbdeeebbloaaDoor.skip q B i < B.size
    · rw [h.same _ e]; exact skip_end q B _ i rfl e
    · exact hq _ (h.blank _ (by omega) hlt)
theorem Tail.onAtE {l : List Nat} (hl : ∀ c, isBlank c = true → l.contains c = false) {i : Nat} (_hi : i ≤ B.size) : onAt l R i = onAt l B i := by
  have h2 := h.le
  by_cases e : i < B.size
  · rw [onAt_in e, onAt_in (by omega), h.same i e]
  · rw [onAt_out (B := B) (by omega)]
    by_cases e2 : i < R.size
    · rw [onAt_in e2]; exact hl _ (h.blank i (by omega) e2)
    · exact onAt_out (by omega)
theorem Tail.digits {i : Nat} (hi : i ≤ B.size) : okE (digitsS R i) (digitsS B i) := by
  unfold digitsS
  rw [h.skipE (q := isDig) (fun c hc => by rcases blank_is hc with rfl | rfl | rfl | rfl <;> rfl) hi]
  by_cases e : i < Go.Proofs.YtmhfbdeeebbloaaDoor.skip isDig B i
  · rw [if_pos e, if_pos e]; exact okE.refl _
  · rw [if_neg e, if_neg e]
    exact okE.none (fun a => by split <;> (intro h; cases h)) (fun a => by split <;> (intro h; cases h))
theorem Tail.number {i : Nat} (hi : i < B.size) : okE (numberS R i) (numberS B i) := by
  have off : ∀ l : List Nat, (l = [48] ∨ l = [45] ∨ l = [46] ∨ l = [101, 69] ∨ l = [43, 45]) → ∀ c, isBlank c = true → l.contains c = false := by
    intro l hl c hc
    rcases hl with rfl | rfl | rfl | rfl | rfl <;> rcases blank_is hc with rfl | rfl | rfl | rfl <;> rfl
  unfold numberS
  rw [h.onAtE (off [45] (by simp)) (Nat.le_of_lt hi)]
  obtain ⟨i1, hi1⟩ : ∃ i1, (if Go.Proofs.YtmhfbdeeebbloaaDoor.onAt [45] B i = true then i + 1 else i) = i1 := ⟨_, rfl⟩
  rw [hi1]
  have hi1' : i1 ≤ B.size := by rw [← hi1]; split <;> omega
  rw [h.onAtE (off [48] (by simp)) hi1']
  refine okE.bind ?_ (fun i2 h2 => ?_)
  · split
    · exact okE.refl _
    · exact h.digits hi1'
  · have hi2 : i2 ≤ B.size := by
      split at h2
      · rename_i e; cases h2; have := onAt_lt e; omega
      · exact (digitsS_ok hi1' ((h.digits hi1' _).1 h2)).2
    rw [h.onAtE (off [46] (by simp)) hi2]
    refine okE.bind ?_ (fun i3 h3 => ?_)
    · split
      · rename_i e; exact h.digits (onAt_lt e)
      · exact okE.refl _
    · have hi3 : i3 ≤ B.size := by
        split at h3
        · rename_i e; exact (digitsS_ok (onAt_lt e) ((h.digits (onAt_lt e) _).1 h3)).2
        · cases h3; exact hi2
      rw [h.onAtE (off [101, 69] (by simp)) hi3]
      split
      · rename_i e
        have h3' := onAt_lt e
        rw [h.onAtE (off [43, 45] (by simp)) h3']
        split
        · rename_i e2; exact h.digits (by have := onAt_lt e2; omega)
        · exact h.digits h3'
      · exact okE.refl _
theorem Tail.fit {i k : Nat} : unitFit R i k = unitFit B i k := by
  have h2 := h.le
  unfold unitFit
  by_cases e : i + k < B.size
  · rw [decide_eq_true e, decide_eq_true (show i + k < R.size by omega)]
    by_cases k0 : k = 0
    · subst k0; simp only [if_true]; rw [h.same i (by omega)]
    · rw [if_neg k0, if_neg k0]
      by_cases k1 : k = 1
      · subst k1; simp only [if_true]; rw [h.same (i + 1) e]
      · rw [if_neg k1, if_neg k1, h.same _ e]
  · rw [decide_eq_false e, Bool.false_and]
    by_cases e2 : i + k < R.size
    · have hb := h.blank _ (by omega) e2
      rw [decide_eq_true e2, Bool.true_and]
      by_cases k0 : k = 0
      · subst k0; rw [if_pos rfl]; rw [Nat.add_zero] at hb
        rcases blank_is hb with e | e | e | e <;> rw [e] <;> rfl
      · rw [if_neg k0]
        by_cases k1 : k = 1
        · subst k1; rw [if_pos rfl]
          rcases blank_is hb with e | e | e | e <;> rw [e] <;> rfl
        · rw [if_neg k1]
          rcases blank_is hb with e | e | e | e <;> rw [e] <;> rfl
    · rw [decide_eq_false e2, Bool.false_and]
theorem Tail.unit (i : Nat) : okE (unitS R i) (unitS B i) := by
  have hx : i + 6 ≤ B.size → hex4 R (i + 2) = hex4 B (i + 2) := fun hs => by
    unfold hex4
    rw [h.same _ (by omega), h.same _ (by omega), h.same _ (by omega), h.same _ (by omega)]
  intro n
  constructor
  · intro hn
    obtain ⟨hf, rfl, _⟩ := unitS_ok hn
    have hf' : ∀ m, m < 6 → unitFit B i m = true := fun m hm => by rw [← h.fit]; exact hf m hm
    have := unitFit_lt (hf' 5 (by decide))
    unfold unitS
    rw [firstBad_ok hf', Sc.bind_ok, hx (by omega)]
  · intro hn
    obtain ⟨hf, rfl, hs⟩ := unitS_ok hn
    have hf' : ∀ m, m < 6 → unitFit R i m = true := fun m hm => by rw [h.fit]; exact hf m hm
    unfold unitS
    rw [firstBad_ok hf', Sc.bind_ok, hx hs]
theorem Tail.pair (i : Nat) : okE (pairS R i) (pairS B i) := by
  unfold pairS
  refine okE.bind (h.unit i) (fun n _ => ?_)
  split
  · exact okE.refl _
  · split
    · have hu := h.unit (i + 6)
      generalize unitS R (i + 6) = r at hu
      generalize unitS B (i + 6) = r' at hu
      cases r with
      | ok a => rw [(hu a).1 rfl]; exact okE.refl _
      | no k j =>
        cases r' with
        | ok a => have := (hu a).2 rfl; cases this
        | no k' j' => exact okE.none (fun a => by simp only [pairLow]; split <;> (intro h; cases h)) (fun a => by simp only [pairLow]; split <;> (intro h; cases h))
    · exact okE.none (fun a h => by cases h) (fun a h => by cases h)
theorem Tail.escape {i : Nat} (hi : i < B.size) : okE (escapeS R i) (escapeS B i) := by
  have h2 := h.le
  unfold escapeS
  by_cases e : i + 1 = B.size
  · rw [if_pos e]
    refine okE.none (fun a => ?_) (fun a h => by cases h)
    by_cases e2 : i + 1 = R.size
    · rw [if_pos e2]; intro h; cases h
    · rw [if_neg e2]
      have hb := h.blank (i + 1) (by omega) (by omega)
      rcases blank_is hb with e | e | e | e <;> rw [e] <;> (intro h; simp [simpleS] at h)
  · rw [if_neg e, if_neg (by omega), h.same (i + 1) (by omega)]
    split
    · exact h.pair i
    · exact okE.refl _
theorem Tail.dec {i : Nat} (hi : i < B.size) : decU R i = decU B i := by
  have h2 := h.le
  by_cases hR : decU R i = (65533, 1)
  · by_cases hB : decU B i = (65533, 1)
    · rw [hR, hB]
    · have hz := decU_size hi
      exact dec_local hi hB (by omega) (fun m hm => h.same _ (by omega))
  · obtain ⟨k, k1, k4, hk, hh⟩ := dec_ok (by omega) hR
    obtain ⟨e, _, _⟩ := dec_hit k1 k4 hk hh
    have hk2 : (decU R i).2 = k := by rw [e]
    have hkB : i + k ≤ B.size := by
      by_cases hc : i + k ≤ B.size
      · exact hc
      · exfalso
        have hb0 : 128 ≤ byteAt R i := by
          have hcs : k = 2 ∨ k = 3 ∨ k = 4 := by omega
          rcases hcs with rfl | rfl | rfl
          · have := (hit2 (byteAt_lt R _)).1 hh; omega
          · have := (hit3 (byteAt_lt R _)).1 hh; omega
          · have := (hit4 (byteAt_lt R _)).1 hh; omega
        obtain ⟨g1, g2, g3⟩ := hit_great (byteAt_lt R i) (byteAt_lt R (i + 1)) (byteAt_lt R (i + 2)) k1 k4 hb0 hh
        obtain ⟨m, hm⟩ : ∃ m, B.size = i + m := ⟨B.size - i, by omega⟩
        have hbl := blank_is (h.blank B.size (Nat.le_refl _) (by omega))
        rw [hm] at hbl
        have hm3 : m = 1 ∨ m = 2 ∨ m = 3 := by omega
        rcases hm3 with rfl | rfl | rfl
        · have := g1 (by omega); omega
        · have := g2 (by omega); omega
        · have := g3 (by omega); omega
    exact (dec_local (B := R) (Q := B) (i := i) (p := i) (by omega) hR (by rw [hk2]; exact hkB) (fun m hm => (h.same _ (by rw [hk2] at hm; omega)).symm)).symm
theorem Tail.step {i : Nat} (hi : i < B.size) : okE (textStep R i) (textStep B i) := by
  have h2 := h.le
  unfold textStep
  rw [h.same i hi]
  split
  · exact h.escape hi
  · unfold charS
    rw [if_neg (show ¬ i = R.size by omega), if_neg (show ¬ i = B.size by omega), h.dec hi]
    exact okE.refl _
end
theorem text_close {X : ByteArray} : ∀ f i acc x, i ≤ X.size → textF X f i acc = .ok x → i < x.2 ∧ byteAt X (x.2 - 1) = 34
  | 0, i, acc, x, _, h => by cases h
  | f + 1, i, acc, x, hi, h => by
    rw [textF] at h
    split at h
    · cases h
    · split at h
      · rename_i h34; cases h; exact ⟨Nat.lt_succ_self _, by simpa using h34⟩
      · split at h
        · cases h
        · obtain ⟨y, hy, h⟩ := Sc.bind_eq_ok h
          have := textStep_ok (by omega) hy
          have := text_close f _ _ _ (by omega) h
          exact ⟨by omega, this.2⟩
theorem Tail.text {B R : ByteArray} (h : Tail B R) : ∀ n i acc, B.size - i = n → i ≤ B.size → okE (textS R i acc) (textS B i acc) := by
  have h2 := h.le
  intro n
  induction n using Nat.strongRecOn with
  | ind n ih =>
    intro i acc hn hi
    by_cases e : i = B.size
    · refine okE.none (fun x hx => ?_) (fun x hx => ?_)
      · have hc := text_close _ _ _ _ (by omega) (show textF R _ i acc = .ok x from hx)
        have hz := (textS_ok _ i acc x rfl (by omega) hx).2
        have hb := h.blank (x.2 - 1) (by omega) (by omega)
        rw [hc.2] at hb
        revert hb; decide
      · rw [textS_step hi, if_pos e] at hx; cases hx
    · rw [textS_step hi, textS_step (by omega), if_neg e, if_neg (by omega), h.same i (by omega)]
      split
      · exact okE.refl _
      · split
        · exact okE.none (fun a h => by cases h) (fun a h => by cases h)
        · refine okE.bind (h.step (by omega)) (fun x hx => ?_)
          have hs := textStep_ok (show i < B.size by omega) ((h.step (by omega) _).1 hx)
          exact ih (B.size - (i + x.2)) (by omega) _ _ rfl hs.2
theorem Tail.word {B R : ByteArray} (h : Tail B R) {i : Nat} {l : List Nat} (hl : ∀ k : Nat, isBlank (l[k]?.getD 0) = false) : okE (wordS R i l) (wordS B i l) := by
  have h2 := h.le
  have hf : ∀ k, (decide (i + k < R.size) && (byteAt R (i + k) == l[k]?.getD 0)) = (decide (i + k < B.size) && (byteAt B (i + k) == l[k]?.getD 0)) := fun k => by
    by_cases e : i + k < B.size
    · rw [decide_eq_true e, decide_eq_true (show i + k < R.size by omega), h.same _ e]
    · rw [decide_eq_false e, Bool.false_and]
      by_cases e2 : i + k < R.size
      · have hb := h.blank _ (by omega) e2
        rw [decide_eq_true e2, Bool.true_and]
        exact beq_eq_false_iff_ne.2 (fun e => by rw [e, hl k] at hb; cases hb)
      · rw [decide_eq_false e2, Bool.false_and]
  intro a
  unfold wordS
  constructor
  · intro ha
    obtain ⟨u, hu, he⟩ := Sc.bind_eq_ok ha
    have := firstBad_unit hu
    rw [firstBad_ok (fun m hm => by rw [← hf]; exact this m hm), Sc.bind_ok]; exact he
  · intro ha
    obtain ⟨u, hu, he⟩ := Sc.bind_eq_ok ha
    have := firstBad_unit hu
    rw [firstBad_ok (fun m hm => by rw [hf]; exact this m hm), Sc.bind_ok]; exact he
theorem noBlank {l : List Nat} (h : ∀ c ∈ l, isBlank c = false) (k : Nat) : isBlank (l[k]?.getD 0) = false := by
  cases e : l[k]? with
  | none => rfl
  | some c => exact h c (List.mem_of_getElem? e)
theorem Tail.token {B R : ByteArray} (h : Tail B R) {p : Nat} (hp : p < B.size) : okE (tokenS R p) (tokenS B p) := by
  have h2 := h.le
  unfold tokenS
  rw [if_neg (show ¬ p = R.size by omega), if_neg (show ¬ p = B.size by omega), h.same p hp]
  split
  · exact okE.refl _
  · split
    · exact okE.bind (h.text _ _ _ rfl (by omega)) (fun _ _ => okE.refl _)
    · split
      · exact okE.bind (h.number hp) (fun _ _ => okE.refl _)
      · split
        · exact okE.bind (h.word (noBlank (by decide))) (fun _ _ => okE.refl _)
        · split
          · exact okE.bind (h.word (noBlank (by decide))) (fun _ _ => okE.refl _)
          · split
            · exact okE.bind (h.word (noBlank (by decide))) (fun _ _ => okE.refl _)
            · exact okE.refl _
theorem Tail.next {B R : ByteArray} (h : Tail B R) {i : Nat} (hi : i ≤ B.size) :
    (nextI B i = .ok ⟨0, B.size, B.size⟩ ∧ nextI R i = .ok ⟨0, R.size, R.size⟩) ∨ (okE (nextI R i) (nextI B i) ∧ ∀ t, nextI B i = .ok t → t.kind ≠ 0 ∧ t.to ≤ B.size) := by
  have h2 := h.le
  have e1 : nextI B i = nextS B i := by unfold nextI; rw [if_neg (by omega)]; rfl
  have e2 : nextI R i = nextS R i := by unfold nextI; rw [if_neg (by omega)]; rfl
  have hle := skip_le isBlank B i hi
  by_cases hp : skip isBlank B i < B.size
  · right
    have hs : skip isBlank R i = skip isBlank B i := skip_is _ i _ rfl (skip_ge _ _ _) (by omega) (fun j a b => by rw [h.same j (by omega)]; exact skip_all _ B _ i j rfl a b) (fun _ => by rw [h.same _ hp]; exact skip_end _ B _ i rfl hp)
    refine ⟨?_, fun t ht => ?_⟩
    · rw [e1, e2]
      unfold nextS
      rw [hs]
      exact okE.bind (h.token hp) (fun _ _ => okE.refl _)
    · have := tok_shape ht
      rw [e1] at ht
      unfold nextS at ht
      obtain ⟨x, hx, he⟩ := Sc.bind_eq_ok ht
      have hk := tokenS_ok hle hx
      cases he
      refine ⟨?_, this.2.2.2.1⟩
      simp only
      omega
  · left
    have hpe : skip isBlank B i = B.size := by omega
    have hs : skip isBlank R i = R.size := skip_is _ i _ rfl (by omega) (Nat.le_refl _) (fun j a b => by
      by_cases e : j < B.size
      · rw [h.same j e]; exact skip_all _ B _ i j rfl a (by omega)
      · exact h.blank j (by omega) b) (fun h => by omega)
    refine ⟨?_, ?_⟩
    · rw [e1]; unfold nextS tokenS; rw [hpe, if_pos rfl]; rfl
    · rw [e2]; unfold nextS tokenS; rw [hs, if_pos rfl]; rfl
end
section
open Go.RowKit
def shT (d : Nat) (t : Tok) : Tok := ⟨t.kind, d + t.fr, d + t.to⟩
def shJ (d : Nat) (j : JN) : JN := ⟨j.kind, j.key, j.text, j.at_ + d⟩
def shP (d : Nat) (s : PS) : PS := ⟨s.js.map (shJ d), s.ups, s.stack⟩
def okB {α β : Type} (f : α → β) (r : Sc α) (r' : Sc β) : Prop := (∀ a, r = .ok a → r' = .ok (f a)) ∧ (∀ b, r' = .ok b → ∃ a, r = .ok a ∧ b = f a)
theorem okB.pure {α β : Type} (f : α → β) (a : α) : okB f (.ok a) (.ok (f a)) := ⟨fun b h => (by cases h; rfl), fun b h => (by cases h; exact ⟨a, rfl, rfl⟩)⟩
theorem okB.no {α β : Type} (f : α → β) (k : Nat) (p : Int) (k' : Nat) (p' : Int) : okB f (.no k p) (.no k' p') := ⟨fun b h => (by cases h), fun b h => (by cases h)⟩
theorem okB.bind {α α' β β' : Type} {f : α → α'} {g : β → β'} {r : Sc α} {r' : Sc α'} {k : α → Sc β} {k' : α' → Sc β'} (h : okB f r r') (hk : ∀ a, r = .ok a → okB g (k a) (k' (f a))) : okB g (r.bind k) (r'.bind k') := by
  constructor
  · intro b hb
    obtain ⟨a, ha, hb⟩ := Sc.bind_eq_ok hb
    rw [h.1 a ha]
    exact (hk a ha).1 b hb
  · intro b hb
    obtain ⟨a', ha, hb⟩ := Sc.bind_eq_ok hb
    obtain ⟨a, h1, rfl⟩ := h.2 a' ha
    rw [h1]
    exact (hk a h1).2 b hb
theorem wrong_okB {α β : Type} (f : α → β) (t t' : Tok) : okB f (wrongS t) (wrongS t') := by
  unfold wrongS
  split <;> split <;> exact okB.no _ _ _ _ _
structure Pad (B P Q : ByteArray) : Prop where
  is : Q = P ++ (B ++ P)
  blank : ∀ i, i < P.size → isBlank (byteAt P i) = true
theorem Pad.tail {B P Q : ByteArray} (h : Pad B P Q) : Tail B (B ++ P) := by
  refine ⟨by simp, fun i hi => byteAt_pre _ _ _ hi, fun i h1 h2 => ?_⟩
  obtain ⟨j, rfl⟩ : ∃ j, i = B.size + j := ⟨i - B.size, by omega⟩
  rw [byteAt_app]
  exact h.blank j (by simp at h2; omega)
theorem next_sh {P R : ByteArray} {i : Nat} (hi : i ≤ R.size) : nextI (P ++ R) ((P.size + i : Nat) : Int) = (nextI R i).sh P.size (shT P.size) := by
  have hz : (P ++ R).size = P.size + R.size := by simp
  unfold nextI
  rw [if_neg (by omega), if_neg (by omega), Int.toNat_natCast, Int.toNat_natCast]
  exact nextS_sh i
theorem Pad.next {B P Q : ByteArray} (h : Pad B P Q) {i : Nat} (hi : i ≤ B.size) :
    (∃ e e', nextI B i = .ok ⟨0, e, e⟩ ∧ nextI Q ((P.size + i : Nat) : Int) = .ok ⟨0, e', e'⟩) ∨ (okB (shT P.size) (nextI B i) (nextI Q ((P.size + i : Nat) : Int)) ∧ ∀ t, nextI B i = .ok t → t.kind ≠ 0 ∧ t.to ≤ B.size) := by
  have ht := h.tail
  have hz : (B ++ P).size = B.size + P.size := by simp
  rw [h.is, next_sh (P := P) (R := B ++ P) (i := i) (by omega)]
  rcases ht.next hi with ⟨h1, h2⟩ | ⟨h1, h2⟩
  · left
    rw [h2]
    exact ⟨_, _, h1, rfl⟩
  · right
    refine ⟨⟨fun a ha => ?_, fun b hb => ?_⟩, h2⟩
    · rw [(h1 a).2 ha]; rfl
    · cases hr : nextI (B ++ P) i with
      | no k p => rw [hr] at hb; cases hb
      | ok t => rw [hr] at hb; cases hb; exact ⟨t, (h1 t).1 hr, rfl⟩
theorem Pad.text {B P Q : ByteArray} (h : Pad B P Q) {i : Int} {t : Tok} (ht : nextI B i = .ok t) (h7 : t.kind = 7) : textTok Q (shT P.size t) = textTok B t := by
  have ha := tok_again ht
  have hs := tok_shape ht
  obtain ⟨p, y, hp, hlt, _, hy⟩ := tok_text ha h7
  have hB : textTok B t = some (strOf y.1) := by
    unfold textTok
    rw [ha]
    simp only [h7, and_self, if_true]
    rw [hp, Int.toNat_natCast, hy]
  have hQ : nextI Q ((P.size + p : Nat) : Int) = .ok (shT P.size t) := by
    rw [hp] at ha
    rcases h.next (i := p) (by omega) with ⟨e, e', h1, _⟩ | ⟨h1, _⟩
    · rw [h1] at ha; cases ha; simp at h7
    · exact h1.1 _ ha
  have hf : (shT P.size t).fr = ((P.size + p : Nat) : Int) := by unfold shT; simp only; omega
  have hx : textS Q (P.size + p + 1) [] = .ok (y.1, P.size + y.2) := by
    rw [h.is, Nat.add_assoc, textS_sh, (h.tail.text _ (p + 1) [] rfl (by omega) y).2 hy]; rfl
  rw [hB]
  unfold textTok
  rw [hf, hQ]
  have hk7 : (shT P.size t).kind = 7 := h7
  simp only [hk7, and_self, if_true]
  rw [Int.toNat_natCast, hx]
theorem Pad.num {B P Q : ByteArray} (h : Pad B P Q) {a b : Nat} (hb : b ≤ B.size) : Q.extract (P.size + a) (P.size + b) = B.extract a b := by
  rw [h.is]
  rw [ByteArray.extract_append_size_add]
  rw [ByteArray.extract_append]
  rw [show b - B.size = 0 by omega]
  apply ByteArray.ext
  simp [ByteArray.data_append, ByteArray.data_extract]
theorem Pad.textN {B P Q : ByteArray} (h : Pad B P Q) {i : Int} {t : Tok} (ht : nextI B i = .ok t) {k : Int} (hk : kindS t.kind = some k) : textN Q k (shT P.size t) = textN B k t := by
  have hs := tok_shape ht
  unfold Go.Proofs.YtmhfbdeeebbloaaDoor.textN
  split
  · rename_i h4
    have h7 : t.kind = 7 := by
      subst h4
      unfold kindS at hk
      repeat' (split at hk)
      all_goals first | assumption | (have := Option.some.inj hk; omega) | cases hk
    rw [h.text ht h7]
  · split
    · have e1 : (shT P.size t).fr.toNat = P.size + t.fr.toNat := by unfold shT; simp only; omega
      have e2 : (shT P.size t).to.toNat = P.size + t.to.toNat := by unfold shT; simp only; omega
      rw [e1, e2]
      exact h.num (by omega)
    · rfl
/-- Two tokens that are taken alike. -/
structure Alike (B Q : ByteArray) (d : Nat) (t t' : Tok) : Prop where
  kind : t'.kind = t.kind
  text : t.kind = 7 → textTok Q t' = textTok B t
  txt : ∀ k, kindS t.kind = some k → textN Q k t' = textN B k t ∧ t'.fr = t.fr + d
theorem add_sh {B Q : ByteArray} {d : Nat} {t t' : Tok} (h : Alike B Q d t t') {s : PS} {o : Op} {k : Int} (hk : kindS t.kind = some k) (st : List Op) : addS Q (shP d s) o k t' st = shP d (addS B s o k t st) := by
  unfold addS shP nodeS shJ
  obtain ⟨h1, h2⟩ := h.txt k hk
  simp [h1, h2]
theorem value_okB {B Q : ByteArray} {d : Nat} {t t' : Tok} (h : Alike B Q d t t') (m : Bd) (s : PS) (o : Op) (r : List Op) : okB (shP d) (valueS B m s o r t) (valueS Q m (shP d s) o r t') := by
  have hl : (shP d s).js.length = s.js.length := by simp [shP]
  unfold valueS
  rw [h.kind]
  cases hk : kindS t.kind with
  | none => exact wrong_okB _ _ _
  | some k =>
    simp only [hl]
    split
    · exact okB.no _ _ _ _ _
    · split
      · rw [add_sh h hk]; exact okB.pure _ _
      · split
        · exact okB.no _ _ _ _ _
        · rw [add_sh h hk]; exact okB.pure _ _
theorem key_okB {B Q : ByteArray} {d : Nat} {t t' : Tok} (h : Alike B Q d t t') (s : PS) (o : Op) (r : List Op) : okB (shP d) (keyS B s o r t) (keyS Q (shP d s) o r t') := by
  unfold keyS
  rw [h.kind]
  split
  · exact wrong_okB _ _ _
  · rename_i h7
    rw [h.text (by simpa using h7)]
    cases textTok B t with
    | none => exact okB.no _ _ _ _ _
    | some x => exact okB.pure (shP d) { s with stack := { o with st := 3, key := x } :: r }
theorem between_okB {B Q : ByteArray} {d : Nat} {t t' : Tok} (h : Alike B Q d t t') (s : PS) (o : Op) (r : List Op) : okB (shP d) (betweenS s o r t) (betweenS (shP d s) o r t') := by
  have he : endsS o t' = endsS o t := by unfold endsS; rw [h.kind]
  unfold betweenS
  rw [h.kind, he]
  split
  · exact okB.pure (shP d) { s with stack := afterS r }
  · split
    · exact wrong_okB _ _ _
    · exact okB.pure (shP d) { s with stack := { o with st := if o.obj then 2 else 1 } :: r }
theorem take_okB {B Q : ByteArray} {d : Nat} {t t' : Tok} (h : Alike B Q d t t') (m : Bd) (s : PS) : okB (shP d) (takeS B m s t) (takeS Q m (shP d s) t') := by
  unfold takeS
  rw [show (shP d s).stack = s.stack from rfl]
  cases s.stack with
  | nil => exact okB.pure _ _
  | cons o r =>
    have he : endsS o t' = endsS o t := by unfold endsS; rw [h.kind]
    simp only [h.kind, he]
    split
    · split
      · exact okB.pure _ _
      · exact wrong_okB _ _ _
    · split
      · split
        · exact okB.pure (shP d) { s with stack := { o with st := 1 } :: r }
        · exact wrong_okB _ _ _
      · split
        · exact between_okB h _ _ _
        · split
          · split
            · exact okB.pure (shP d) { s with stack := afterS r }
            · split
              · exact key_okB h _ _ _
              · exact value_okB h _ _ _ _
          · split
            · exact key_okB h _ _ _
            · exact value_okB h _ _ _ _
theorem Pad.run {B P Q : ByteArray} (h : Pad B P Q) (m : Bd) : ∀ n (i : Nat) s, B.size - i = n → i ≤ B.size → okB (shP P.size) (runS B m i s) (runS Q m ((P.size + i : Nat) : Int) (shP P.size s)) := by
  intro n
  induction n using Nat.strongRecOn with
  | ind n ih =>
    intro i s hn hi
    rw [runS_step, runS_step]
    rcases h.next hi with ⟨e, e', h1, h2⟩ | ⟨h1, h2⟩
    · rw [h1, h2]
      simp only [Sc.bind_ok]
      have al : Alike B Q P.size ⟨0, e, e⟩ ⟨0, e', e'⟩ := ⟨rfl, fun h => by simp at h, fun k hk => by simp [kindS] at hk⟩
      refine okB.bind (f := shP P.size) (take_okB al m s) (fun a _ => ?_)
      simp only [if_true]
      exact okB.pure _ _
    · refine okB.bind h1 (fun t ht => ?_)
      obtain ⟨g1, g2⟩ := h2 t ht
      have hs := tok_shape ht
      have hfr : (shT P.size t).fr = t.fr + P.size := by unfold shT; simp only; omega
      have al : Alike B Q P.size t (shT P.size t) := ⟨rfl, fun h7 => h.text ht h7, fun k hk => ⟨h.textN ht hk, hfr⟩⟩
      refine okB.bind (f := shP P.size) (take_okB al m s) (fun a _ => ?_)
      rw [if_neg g1, if_neg (show ¬ (shT P.size t).kind = 0 from g1)]
      obtain ⟨p, hp⟩ := Int.eq_ofNat_of_zero_le (show 0 ≤ t.to by omega)
      have := ih (B.size - p) (by omega) p a rfl (by omega)
      rw [show (shT P.size t).to = ((P.size + p : Nat) : Int) by unfold shT; simp only; omega, hp]
      exact this
theorem Pad.parse {B P Q : ByteArray} (h : Pad B P Q) (m : Bd) (h1 : (B.size : Int) ≤ m.bytes) (h2 : (Q.size : Int) ≤ m.bytes) : okB (shP P.size) (parseS B m) (parseS Q m) := by
  unfold parseS
  rw [if_neg (by omega), if_neg (by omega)]
  have e := h.run m _ 0 ps0 rfl (Nat.zero_le _)
  have e0 : runS Q m 0 ps0 = runS Q m ((P.size + 0 : Nat) : Int) ps0 := by
    rw [runS_step, runS_step Q m ((P.size + 0 : Nat) : Int), h.is, next_sh (P := P) (R := B ++ P) (i := 0) (Nat.zero_le _), next_blanks P (B ++ P) h.blank]
    rfl
  rw [e0]
  exact e
theorem takeS_js {B : ByteArray} {m : Bd} {s s' : PS} {t : Tok} (h : takeS B m s t = .ok s') : s'.js = s.js ∨ ∃ j, s'.js = s.js ++ [j] ∧ j.at_ = t.fr := by
  unfold takeS betweenS keyS valueS wrongS at h
  repeat' (split at h)
  all_goals first | (cases h; left; rfl) | (cases h; right; exact ⟨_, rfl, rfl⟩) | cases h
theorem runS_at (B : ByteArray) (m : Bd) : ∀ n (i : Nat) (s s' : PS), B.size - i = n → i ≤ B.size → s.js.length ≤ i → (∀ j : JN, j ∈ s.js → 0 ≤ j.at_ ∧ j.at_ ≤ (B.size : Int)) → runS B m i s = .ok s' → s'.js.length ≤ B.size + 1 ∧ ∀ j : JN, j ∈ s'.js → 0 ≤ j.at_ ∧ j.at_ ≤ (B.size : Int) := by
  intro n
  induction n using Nat.strongRecOn with
  | ind n ih =>
    intro i s s' hn hi hl hs h
    rw [runS_step] at h
    obtain ⟨t, ht, h⟩ := Sc.bind_eq_ok h
    obtain ⟨s1, h1, h⟩ := Sc.bind_eq_ok h
    have hsh := tok_shape ht
    have hl1 : s1.js.length ≤ i + 1 := by
      rcases takeS_js h1 with e | ⟨j, e, ej⟩ <;> rw [e]
      · omega
      · simp; omega
    have hs1 : ∀ j : JN, j ∈ s1.js → 0 ≤ j.at_ ∧ j.at_ ≤ (B.size : Int) := by
      rcases takeS_js h1 with e | ⟨j, e, ej⟩
      · rw [e]; exact hs
      · rw [e]
        intro x hx
        rcases List.mem_append.1 hx with hx | hx
        · exact hs x hx
        · rw [List.mem_singleton.1 hx, ej]; omega
    split at h
    · cases h; exact ⟨by omega, hs1⟩
    · obtain ⟨p, hp⟩ := Int.eq_ofNat_of_zero_le (show 0 ≤ t.to by omega)
      rw [hp] at h
      exact ih (B.size - p) (by omega) p s1 s' rfl (by omega) (by omega) hs1 h
theorem parse_at {B : ByteArray} {m : Bd} {s : PS} (h : parseS B m = .ok s) : s.js.length ≤ B.size + 1 ∧ ∀ j : JN, j ∈ s.js → 0 ≤ j.at_ ∧ j.at_ ≤ (B.size : Int) := by
  unfold parseS at h
  split at h
  · cases h
  · exact runS_at B m _ 0 ps0 s rfl (Nat.zero_le _) (Nat.le_refl _) (fun j hj => by cases hj) h
end
section
open Go.RowKit
theorem and7 : ∀ X : Fin 256, bits .and .u8 ((X.val : Nat) : Int) 7 = ((X.val % 8 : Nat) : Int) := by decide +kernel
theorem pad_facts : ∀ X : Fin 8, (({ data := #[32, 9, 10, 13, 32, 9, 10, 13] } : ByteArray).extract 0 X.val).size = X.val ∧ ∀ i : Fin 8, i.val < X.val → isBlank (byteAt (({ data := #[32, 9, 10, 13, 32, 9, 10, 13] } : ByteArray).extract 0 X.val) i.val) = true := by decide +kernel
theorem bytes_at (s : ByteArray) (w : World) : ∃ (W0 : World) (cap : Nat), (convert 9 26 (.string s)).run Tryd.prog w = .ok (.slice (some ⟨w.heap.size, 0, none⟩) s.size cap) W0 ∧ Below w.heap.size w W0 ∧ Rd (Own W0) W0 (.slice (some ⟨w.heap.size, 0, none⟩) s.size cap) (bytesDB s) := by
  have hcv := run_bytes_of_string (P := Tryd.prog) w 9 26 5 s Tryd.underlying9 Tryd.underlying26 Tryd.underlying5
  have hx : (w.drew.alloc (.cells (bytesRow s (grownCap w s.size 0 5)) 5 ((bytesRow s (grownCap w s.size 0 5)).size, (bytesRow s (grownCap w s.size 0 5)).size + 1))).heap[w.heap.size]? = some (.cells (bytesRow s (grownCap w s.size 0 5)) 5 ((bytesRow s (grownCap w s.size 0 5)).size, (bytesRow s (grownCap w s.size 0 5)).size + 1)) := heap_alloc_new w.drew _
  refine ⟨_, _, hcv, ⟨rfl, rfl, rfl, by simp, fun k hk => Below.heap_alloc w.drew _ k hk⟩, rd_of_cells (by simp [Own]) (grownCap_ge _ _ _ _) (fun i hi => ?_)⟩
  have hi' : i < s.data.size := hi
  have := bytesRow_at s (grownCap w s.size 0 5) i hi'
  rw [byteAt, Array.getElem?_eq_getElem hi']
  rw [cell_of_row _ w.heap.size i _ _ _ hx]
  simpa using this
def JbRel (L : Nat) (W : World) (i : Value) (wr : World) : Prop := ∃ j : Nat, i = .int .i64 j ∧ j ≤ L ∧ Below W.heap.size W wr
set_option maxRecDepth 100000 in
set_option maxHeartbeats 16000000 in
theorem jsonpBlanks_any (v : Value) (B : ByteArray) (n : Nat) (w : World) (he : ScEnv w) (hg : Glob w) (hn : n < 256) (h : Rd (Own w) w v (bytesDB B)) :
    Calls Tryd.prog 6 #[v, .int .u8 n] w fun e w' => e = .returned (.bool true) ∧ Below w.heap.size w w' := by
  obtain ⟨a0, c0, rfl, _, _, _⟩ := h.by_inv
  have SP := Lib.hid (speaks07 w he)
  have HE := Lib.hid he; have HG := Lib.hid hg; have HH := Lib.hid h
  obtain ⟨m, hm⟩ : ∃ m, n % 8 = m := ⟨_, rfl⟩
  have a1 : bits .and .u8 (n : Int) 7 = (m : Int) := by rw [← hm]; exact and7 ⟨n, hn⟩
  have hm8 : m < 8 := by omega
  have w1 : IntKind.i64.wrap (m : Int) = (m : Int) := IntWalk.i64_in _ (by omega)
  clear he hg hm hn h
  by_cases hbig : 2000 < B.size
  · have q : decide ((2000 : Int) < (B.size : Int)) = true := decide_eq_true (by omega)
    clear hbig
    go_enter Tryd.func6, Tryd.ntmps6
    go_wp2_with fail
    refine SP.out.mono ?_
    rintro e w1 ⟨rfl, hb⟩
    have HB := Lib.hid hb; clear hb
    go_wp2
    go_ret
    exact ⟨rfl, HB.out⟩
  · have t1 : decide ((2000 : Int) < (B.size : Int)) = false := decide_eq_false (by omega)
    have hB : B.size ≤ 2000 := by omega
    have HPF := Lib.hid (pad_facts ⟨m, hm8⟩)
    clear hbig
    go_enter Tryd.func6, Tryd.ntmps6
    go_wp2_with fail
    refine SP.out.mono ?_
    rintro e w2 ⟨rfl, hb⟩
    have HB2 := Lib.hid hb; clear hb
    go_wp2_with fail
    generalize ({ data := #[32, 9, 10, 13, 32, 9, 10, 13] } : ByteArray).extract 0 m = P at *
    obtain ⟨hPm, hPb⟩ := HPF.out
    try simp only at hPm
    obtain ⟨Q, hQ⟩ : ∃ Q, P ++ B ++ P = Q := ⟨_, rfl⟩
    have pad : Pad B P Q := ⟨by rw [← hQ, ByteArray.append_assoc], fun i hi => hPb ⟨i, by omega⟩ (by simp only; omega)⟩
    have hQz : Q.size = m + B.size + m := by rw [← hQ, ByteArray.size_append, ByteArray.size_append, hPm]
    have hpp := pad.parse ⟨1048576, 64, 5000⟩ (by simp only; omega) (by simp only; omega)
    have h0 : m = 0 → Q = B := fun h0 => by
      have e : P = ByteArray.empty := by
        apply ByteArray.ext; apply Array.eq_empty_of_size_eq_zero; rw [h0] at hPm; exact hPm
      rw [← hQ, e, ByteArray.empty_append, ByteArray.append_empty]
    have HQ := Lib.hid hQ
    have HP := Lib.hid hPm
    have PX := Lib.hid (fun W (hW : Below w.heap.size w W) => parse_any W _ B ⟨1048576, 64, 5000⟩ (HH.out.ext hW) (HE.out.ext hW) (by omega))
    have PY := Lib.hid (fun W (hW : Below w.heap.size w W) v (hr : Rd (Own W) W v (bytesDB Q)) => parse_any W v Q ⟨1048576, 64, 5000⟩ hr (HE.out.ext hW) (by omega))
    refine (wide_any _).mono ?_
    rintro e w3 ⟨rfl, hb⟩
    have HB3 := Lib.hid (ext_trans HB2.out hb); clear hb
    have CV := Lib.hid (fun W (hW : Below w.heap.size w W) => conv_rd (HH.out.ext hW))
    clear HPF hPb pad hQ hPm hQz
    have PX3 := Lib.hid (PX.out _ HB3.out)
    clear PX
    cases hx : parseS B ⟨1048576, 64, 5000⟩ with
    | no k i =>
      obtain ⟨k', i', hy, hk⟩ : ∃ k' i', parseS Q ⟨1048576, 64, 5000⟩ = .no k' i' ∧ (m = 0 → k' = k) := by
        cases hy : parseS Q ⟨1048576, 64, 5000⟩ with
        | no k' i' =>
          refine ⟨k', i', rfl, fun e => ?_⟩
          rw [h0 e, hx] at hy; cases hy; rfl
        | ok b =>
          obtain ⟨a, ha, _⟩ := hpp.2 b hy
          rw [hx] at ha; cases ha
      have q9 : ((k : Int) == (k' : Int)) = true ∨ (((k : Int) == (k' : Int)) = false ∧ decide ((0 : Int) < (m : Int)) = true) := by
        by_cases e : (k : Int) = (k' : Int)
        · exact .inl (beq_iff_eq.2 e)
        · refine .inr ⟨beq_eq_false_iff_ne.2 e, decide_eq_true ?_⟩
          by_cases e2 : m = 0
          · have := hk e2; omega
          · omega
      have PX4 := PX3.out
      rw [hx] at PX4
      have PX5 := Lib.hid PX4
      have HY := Lib.hid hy
      clear PX3 PX4 hx hy hk h0 hpp
      go_wp2_with fail
      refine PX5.out.mono ?_
      rintro e w5 ⟨u, rfl, hf⟩
      have HB5 := Lib.hid (ext_trans HB3.out hf.2)
      have HU := Lib.hid (hf.1.wide (S' := Own w5) (fun b hb => hb.2))
      clear hf PX5
      have HBD := Lib.hid (show Below w.heap.size w w5.drew from ext_drewN 1 HB5.out)
      have HUD := Lib.hid (HU.out.ext (show Below w5.heap.size w5 w5.drew from ext_drewN 1 (Below.refl _ _)))
      have cv5 := CV.out _ HBD.out
      go_wp2_with fail
      refine wp_region_noPanic ?_
      refine wp_region_held_drew (S := fun W => (convert 26 9 (.slice a0 B.size c0)).run Tryd.prog W = .ok (.string B) W) (by kernel_rfl) cv5 (fun hHeld => ?_)
      clear HB5 HU
      generalize w5.drew = wd at *
      refine wpAnyH_take (i := 0) (oi := _) (v := .string P) rfl (by kernel_rfl) (by kernel_rfl) (by kernel_rfl) (fun _ _ _ h => h) (Or.inl ⟨by rfl, ?_⟩) hHeld ?_
      · intro w hSw; go_simp
      try simp only [Act.put, List.setIfInBounds_toArray, List.set_cons_zero, List.set_cons_succ, List.getElem_toArray, List.getElem_cons_zero, List.getElem_cons_succ]
      refine wpAnyH_take (i := 1) (oi := _) (v := .slice a0 B.size c0) rfl (by kernel_rfl) (by kernel_rfl) (by kernel_rfl) (fun _ _ _ h => h) (Or.inl ⟨by rfl, ?_⟩) hHeld ?_
      · intro w hSw; go_simp
      try simp only [Act.put, List.setIfInBounds_toArray, List.set_cons_zero, List.set_cons_succ, List.getElem_toArray, List.getElem_cons_zero, List.getElem_cons_succ]
      refine wpAnyH_take (i := 2) (oi := _) (v := .string B) rfl (by kernel_rfl) (by kernel_rfl) (by kernel_rfl) (fun _ _ _ h => h) (Or.inl ⟨by rfl, ?_⟩) hHeld ?_
      · intro w hSw; go_simp
      try simp only [Act.put, List.setIfInBounds_toArray, List.set_cons_zero, List.set_cons_succ, List.getElem_toArray, List.getElem_cons_zero, List.getElem_cons_succ]
      refine wpAnyH_take (i := 3) (oi := _) (v := .string (P ++ B)) rfl (by kernel_rfl) (by kernel_rfl) (by kernel_rfl) (fun _ _ _ h => h) (Or.inl ⟨by rfl, ?_⟩) hHeld ?_
      · intro w hSw; go_simp; have := HP.out; omega
      try simp only [Act.put, List.setIfInBounds_toArray, List.set_cons_zero, List.set_cons_succ, List.getElem_toArray, List.getElem_cons_zero, List.getElem_cons_succ]
      refine wpAnyH_take (i := 4) (oi := _) (v := .string P) rfl (by kernel_rfl) (by kernel_rfl) (by kernel_rfl) (fun _ _ _ h => h) (Or.inl ⟨by rfl, ?_⟩) hHeld ?_
      · intro w hSw; go_simp
      try simp only [Act.put, List.setIfInBounds_toArray, List.set_cons_zero, List.set_cons_succ, List.getElem_toArray, List.getElem_cons_zero, List.getElem_cons_succ]
      refine wpAnyH_take (i := 5) (oi := _) (v := .string (P ++ B ++ P)) rfl (by kernel_rfl) (by kernel_rfl) (by kernel_rfl) (fun _ _ _ h => h) (Or.inl ⟨by rfl, ?_⟩) hHeld ?_
      · intro w hSw; go_simp; have := HP.out; omega
      try simp only [Act.put, List.setIfInBounds_toArray, List.set_cons_zero, List.set_cons_succ, List.getElem_toArray, List.getElem_cons_zero, List.getElem_cons_succ]
      rw [HQ.out]
      refine wpAnyH_ready (rs := [6, 7]) (by kernel_rfl) (by simp) ?_
      refine AllReadyH.cons (o := _) rfl (fun K hK => ?_) (AllReadyH.cons (o := _) rfl (fun K hK => ?_) (AllReadyH.nil))
      · obtain ⟨W0, cq, cvq, hb0, hr0⟩ := bytes_at Q wd
        have HB0 := Lib.hid hb0; have HR0 := Lib.hid hr0
        clear hb0 hr0
        go_simp
        refine hK.out _ _ (CV.out _ (ext_trans HBD.out HB0.out)) (fun hHeld => ?_)
        clear hK K
        try simp only [Act.put, List.setIfInBounds_toArray, List.set_cons_zero, List.set_cons_succ, List.getElem_toArray, List.getElem_cons_zero, List.getElem_cons_succ]
        refine wpAnyH_ready (rs := [7]) (by kernel_rfl) (by simp) ?_
        refine AllReadyH.cons (o := _) rfl (fun K hK => ?_) (AllReadyH.nil)
        go_simp
        refine (wide_any _).mono ?_
        rintro e w6 ⟨rfl, hb⟩
        have HB6 := Lib.hid hb; clear hb
        go_wp2_with fail
        have HBZ := Lib.hid (ext_trans HB0.out HB6.out)
        have HRQ := Lib.hid (HR0.out.ext HB6.out)
        refine hK.out _ _ (CV.out _ (ext_trans HBD.out HBZ.out)) (fun hHeld => ?_)
        clear hK K
        try simp only [Act.put, List.setIfInBounds_toArray, List.set_cons_zero, List.set_cons_succ, List.getElem_toArray, List.getElem_cons_zero, List.getElem_cons_succ]
        have PY6 := PY.out _ (ext_trans HBD.out HBZ.out) _ HRQ.out
        rw [HY.out] at PY6
        have PYH := Lib.hid PY6
        clear PY6 cvq
        refine wpAnyH_ready (rs := [8]) (by kernel_rfl) (by simp) ?_
        refine AllReadyH.cons (o := _) rfl (fun K hK => ?_) (AllReadyH.nil)
        go_simp
        refine PYH.out.mono ?_
        rintro e w7 ⟨u2, rfl, hf2⟩
        have HB7 := Lib.hid (ext_trans HBD.out (ext_trans HBZ.out hf2.2))
        have HU7 := Lib.hid (HUD.out.ext (ext_trans HBZ.out hf2.2))
        have HV7 := Lib.hid (hf2.1.wide (S' := Own w7) (fun b hb => hb.2))
        clear hf2
        go_wp2_with fail
        refine hK.out _ _ (CV.out _ HB7.out) (fun hHeld => ?_)
        clear hK K
        try simp only [Act.put, List.setIfInBounds_toArray, List.set_cons_zero, List.set_cons_succ, List.getElem_toArray, List.getElem_cons_zero, List.getElem_cons_succ]
        refine wpAnyH_take (i := 9) (oi := _) (v := .tuple #[.pointer none, .iface 119 (.pointer (some u2))]) rfl (by kernel_rfl) (by kernel_rfl) (by kernel_rfl) (fun _ _ _ h => h) (Or.inl ⟨by rfl, ?_⟩) hHeld ?_
        · intro w hSw; go_simp
        try simp only [Act.put, List.setIfInBounds_toArray, List.set_cons_zero, List.set_cons_succ, List.getElem_toArray, List.getElem_cons_zero, List.getElem_cons_succ]
        refine wpAnyH_take (i := 10) (oi := _) (v := .pointer none) rfl (by kernel_rfl) (by kernel_rfl) (by kernel_rfl) (fun _ _ _ h => h) (Or.inl ⟨by rfl, ?_⟩) hHeld ?_
        · intro w hSw; go_simp
        try simp only [Act.put, List.setIfInBounds_toArray, List.set_cons_zero, List.set_cons_succ, List.getElem_toArray, List.getElem_cons_zero, List.getElem_cons_succ]
        refine wpAnyH_take (i := 11) (oi := _) (v := .iface 119 (.pointer (some u2))) rfl (by kernel_rfl) (by kernel_rfl) (by kernel_rfl) (fun _ _ _ h => h) (Or.inl ⟨by rfl, ?_⟩) hHeld ?_
        · intro w hSw; go_simp
        try simp only [Act.put, List.setIfInBounds_toArray, List.set_cons_zero, List.set_cons_succ, List.getElem_toArray, List.getElem_cons_zero, List.getElem_cons_succ]
        refine wpAnyH_take (i := 12) (oi := _) (v := .pointer none) rfl (by kernel_rfl) (by kernel_rfl) (by kernel_rfl) (fun _ _ _ h => h) (Or.inl ⟨by rfl, ?_⟩) hHeld ?_
        · intro w hSw; go_simp
        try simp only [Act.put, List.setIfInBounds_toArray, List.set_cons_zero, List.set_cons_succ, List.getElem_toArray, List.getElem_cons_zero, List.getElem_cons_succ]
        refine wpAnyH_take (i := 13) (oi := _) (v := .iface 119 (.pointer (some u2))) rfl (by kernel_rfl) (by kernel_rfl) (by kernel_rfl) (fun _ _ _ h => h) (Or.inl ⟨by rfl, ?_⟩) hHeld ?_
        · intro w hSw; go_simp
        try simp only [Act.put, List.setIfInBounds_toArray, List.set_cons_zero, List.set_cons_succ, List.getElem_toArray, List.getElem_cons_zero, List.getElem_cons_succ]
        refine wpAnyH_done (by kernel_rfl) ?_ _
        refine NoPanic.normal ?_
        clear HBZ HRQ PYH
        go_wp2_with fail
        refine (kind_any _ [((k : Int), i)] _ (HG.out.ext HB7.out) HU7.out).mono ?_
        rintro e w8 ⟨rfl, hb8⟩
        rw [show kindI [((k : Int), i)] = (k : Int) from rfl]
        have HB8 := Lib.hid (ext_trans HB7.out hb8)
        have HV8 := Lib.hid (HV7.out.ext hb8)
        clear hb8
        go_wp2_with fail
        refine (kind_any _ [((k' : Int), i')] _ (HG.out.ext HB8.out) HV8.out).mono ?_
        rintro e w9 ⟨rfl, hb9⟩
        rw [show kindI [((k' : Int), i')] = (k' : Int) from rfl]
        have HB9 := Lib.hid (ext_trans HB8.out hb9)
        clear hb9
        rcases q9 with q9 | ⟨q9, q10⟩
        · go_wp2
          go_ret
          exact ⟨rfl, HB9.out⟩
        · have q11 : decide (0 < m) = true := by simpa using q10
          go_wp2
          go_ret
          exact ⟨rfl, HB9.out⟩
      · go_simp
        refine (wide_any _).mono ?_
        rintro e w6 ⟨rfl, hb⟩
        have HB6 := Lib.hid hb; clear hb
        go_wp2_with fail
        refine hK.out _ _ (CV.out _ (ext_trans HBD.out HB6.out)) (fun hHeld => ?_)
        clear hK K
        try simp only [Act.put, List.setIfInBounds_toArray, List.set_cons_zero, List.set_cons_succ, List.getElem_toArray, List.getElem_cons_zero, List.getElem_cons_succ]
        obtain ⟨W0, cq, cvq, hb0, hr0⟩ := bytes_at Q w6
        have HB0 := Lib.hid hb0; have HRQ := Lib.hid hr0
        clear hb0 hr0
        have HBZ := Lib.hid (ext_trans HB6.out HB0.out)
        refine wpAnyH_ready (rs := [6]) (by kernel_rfl) (by simp) ?_
        refine AllReadyH.cons (o := _) rfl (fun K hK => ?_) (AllReadyH.nil)
        go_simp
        refine hK.out _ _ (CV.out _ (ext_trans HBD.out HBZ.out)) (fun hHeld => ?_)
        clear hK K
        try simp only [Act.put, List.setIfInBounds_toArray, List.set_cons_zero, List.set_cons_succ, List.getElem_toArray, List.getElem_cons_zero, List.getElem_cons_succ]
        have PY6 := PY.out _ (ext_trans HBD.out HBZ.out) _ HRQ.out
        rw [HY.out] at PY6
        have PYH := Lib.hid PY6
        clear PY6 cvq
        refine wpAnyH_ready (rs := [8]) (by kernel_rfl) (by simp) ?_
        refine AllReadyH.cons (o := _) rfl (fun K hK => ?_) (AllReadyH.nil)
        go_simp
        refine PYH.out.mono ?_
        rintro e w7 ⟨u2, rfl, hf2⟩
        have HB7 := Lib.hid (ext_trans HBD.out (ext_trans HBZ.out hf2.2))
        have HU7 := Lib.hid (HUD.out.ext (ext_trans HBZ.out hf2.2))
        have HV7 := Lib.hid (hf2.1.wide (S' := Own w7) (fun b hb => hb.2))
        clear hf2
        go_wp2_with fail
        refine hK.out _ _ (CV.out _ HB7.out) (fun hHeld => ?_)
        clear hK K
        try simp only [Act.put, List.setIfInBounds_toArray, List.set_cons_zero, List.set_cons_succ, List.getElem_toArray, List.getElem_cons_zero, List.getElem_cons_succ]
        refine wpAnyH_take (i := 9) (oi := _) (v := .tuple #[.pointer none, .iface 119 (.pointer (some u2))]) rfl (by kernel_rfl) (by kernel_rfl) (by kernel_rfl) (fun _ _ _ h => h) (Or.inl ⟨by rfl, ?_⟩) hHeld ?_
        · intro w hSw; go_simp
        try simp only [Act.put, List.setIfInBounds_toArray, List.set_cons_zero, List.set_cons_succ, List.getElem_toArray, List.getElem_cons_zero, List.getElem_cons_succ]
        refine wpAnyH_take (i := 10) (oi := _) (v := .pointer none) rfl (by kernel_rfl) (by kernel_rfl) (by kernel_rfl) (fun _ _ _ h => h) (Or.inl ⟨by rfl, ?_⟩) hHeld ?_
        · intro w hSw; go_simp
        try simp only [Act.put, List.setIfInBounds_toArray, List.set_cons_zero, List.set_cons_succ, List.getElem_toArray, List.getElem_cons_zero, List.getElem_cons_succ]
        refine wpAnyH_take (i := 11) (oi := _) (v := .iface 119 (.pointer (some u2))) rfl (by kernel_rfl) (by kernel_rfl) (by kernel_rfl) (fun _ _ _ h => h) (Or.inl ⟨by rfl, ?_⟩) hHeld ?_
        · intro w hSw; go_simp
        try simp only [Act.put, List.setIfInBounds_toArray, List.set_cons_zero, List.set_cons_succ, List.getElem_toArray, List.getElem_cons_zero, List.getElem_cons_succ]
        refine wpAnyH_take (i := 12) (oi := _) (v := .pointer none) rfl (by kernel_rfl) (by kernel_rfl) (by kernel_rfl) (fun _ _ _ h => h) (Or.inl ⟨by rfl, ?_⟩) hHeld ?_
        · intro w hSw; go_simp
        try simp only [Act.put, List.setIfInBounds_toArray, List.set_cons_zero, List.set_cons_succ, List.getElem_toArray, List.getElem_cons_zero, List.getElem_cons_succ]
        refine wpAnyH_take (i := 13) (oi := _) (v := .iface 119 (.pointer (some u2))) rfl (by kernel_rfl) (by kernel_rfl) (by kernel_rfl) (fun _ _ _ h => h) (Or.inl ⟨by rfl, ?_⟩) hHeld ?_
        · intro w hSw; go_simp
        try simp only [Act.put, List.setIfInBounds_toArray, List.set_cons_zero, List.set_cons_succ, List.getElem_toArray, List.getElem_cons_zero, List.getElem_cons_succ]
        refine wpAnyH_done (by kernel_rfl) ?_ _
        refine NoPanic.normal ?_
        clear HBZ HRQ PYH
        go_wp2_with fail
        refine (kind_any _ [((k : Int), i)] _ (HG.out.ext HB7.out) HU7.out).mono ?_
        rintro e w8 ⟨rfl, hb8⟩
        rw [show kindI [((k : Int), i)] = (k : Int) from rfl]
        have HB8 := Lib.hid (ext_trans HB7.out hb8)
        have HV8 := Lib.hid (HV7.out.ext hb8)
        clear hb8
        go_wp2_with fail
        refine (kind_any _ [((k' : Int), i')] _ (HG.out.ext HB8.out) HV8.out).mono ?_
        rintro e w9 ⟨rfl, hb9⟩
        rw [show kindI [((k' : Int), i')] = (k' : Int) from rfl]
        have HB9 := Lib.hid (ext_trans HB8.out hb9)
        clear hb9
        rcases q9 with q9 | ⟨q9, q10⟩
        · go_wp2
          go_ret
          exact ⟨rfl, HB9.out⟩
        · have q11 : decide (0 < m) = true := by simpa using q10
          go_wp2
          go_ret
          exact ⟨rfl, HB9.out⟩
    | ok s =>
      have hy := hpp.1 s hx
      obtain ⟨hjl, hat⟩ := parse_at hx
      have PX4 := PX3.out
      rw [hx] at PX4
      have PX5 := Lib.hid PX4
      have HY := Lib.hid hy
      have HAT := Lib.hid hat
      have HJL := Lib.hid hjl
      clear PX3 PX4 hx hy h0 hpp hat hjl
      go_wp2_with fail
      refine PX5.out.mono ?_
      rintro e w5 ⟨D, T, tv, ns, rfl, hd, hb⟩
      have HB5 := Lib.hid (ext_trans HB3.out hb)
      have HD := Lib.hid hd
      clear hd hb PX5
      have HBD := Lib.hid (show Below w.heap.size w w5.drew from ext_drewN 1 HB5.out)
      have HDD := Lib.hid (HD.out.below (show Below w5.heap.size w5 w5.drew from ext_drewN 1 (Below.refl _ _)))
      have cv5 := CV.out _ HBD.out
      go_wp2_with fail
      refine wp_region_noPanic ?_
      refine wp_region_held_drew (S := fun W => (convert 26 9 (.slice a0 B.size c0)).run Tryd.prog W = .ok (.string B) W) (by kernel_rfl) cv5 (fun hHeld => ?_)
      clear HB5 HD
      generalize w5.drew = wd at *
      refine wpAnyH_take (i := 0) (oi := _) (v := .string P) rfl (by kernel_rfl) (by kernel_rfl) (by kernel_rfl) (fun _ _ _ h => h) (Or.inl ⟨by rfl, ?_⟩) hHeld ?_
      · intro w hSw; go_simp
      try simp only [Act.put, List.setIfInBounds_toArray, List.set_cons_zero, List.set_cons_succ, List.getElem_toArray, List.getElem_cons_zero, List.getElem_cons_succ]
      refine wpAnyH_take (i := 1) (oi := _) (v := .slice a0 B.size c0) rfl (by kernel_rfl) (by kernel_rfl) (by kernel_rfl) (fun _ _ _ h => h) (Or.inl ⟨by rfl, ?_⟩) hHeld ?_
      · intro w hSw; go_simp
      try simp only [Act.put, List.setIfInBounds_toArray, List.set_cons_zero, List.set_cons_succ, List.getElem_toArray, List.getElem_cons_zero, List.getElem_cons_succ]
      refine wpAnyH_take (i := 2) (oi := _) (v := .string B) rfl (by kernel_rfl) (by kernel_rfl) (by kernel_rfl) (fun _ _ _ h => h) (Or.inl ⟨by rfl, ?_⟩) hHeld ?_
      · intro w hSw; go_simp
      try simp only [Act.put, List.setIfInBounds_toArray, List.set_cons_zero, List.set_cons_succ, List.getElem_toArray, List.getElem_cons_zero, List.getElem_cons_succ]
      refine wpAnyH_take (i := 3) (oi := _) (v := .string (P ++ B)) rfl (by kernel_rfl) (by kernel_rfl) (by kernel_rfl) (fun _ _ _ h => h) (Or.inl ⟨by rfl, ?_⟩) hHeld ?_
      · intro w hSw; go_simp; have := HP.out; omega
      try simp only [Act.put, List.setIfInBounds_toArray, List.set_cons_zero, List.set_cons_succ, List.getElem_toArray, List.getElem_cons_zero, List.getElem_cons_succ]
      refine wpAnyH_take (i := 4) (oi := _) (v := .string P) rfl (by kernel_rfl) (by kernel_rfl) (by kernel_rfl) (fun _ _ _ h => h) (Or.inl ⟨by rfl, ?_⟩) hHeld ?_
      · intro w hSw; go_simp
      try simp only [Act.put, List.setIfInBounds_toArray, List.set_cons_zero, List.set_cons_succ, List.getElem_toArray, List.getElem_cons_zero, List.getElem_cons_succ]
      refine wpAnyH_take (i := 5) (oi := _) (v := .string (P ++ B ++ P)) rfl (by kernel_rfl) (by kernel_rfl) (by kernel_rfl) (fun _ _ _ h => h) (Or.inl ⟨by rfl, ?_⟩) hHeld ?_
      · intro w hSw; go_simp; have := HP.out; omega
      try simp only [Act.put, List.setIfInBounds_toArray, List.set_cons_zero, List.set_cons_succ, List.getElem_toArray, List.getElem_cons_zero, List.getElem_cons_succ]
      rw [HQ.out]
      refine wpAnyH_ready (rs := [6, 7]) (by kernel_rfl) (by simp) ?_
      refine AllReadyH.cons (o := _) rfl (fun K hK => ?_) (AllReadyH.cons (o := _) rfl (fun K hK => ?_) (AllReadyH.nil))
      · obtain ⟨W0, cq, cvq, hb0, hr0⟩ := bytes_at Q wd
        have HB0 := Lib.hid hb0; have HR0 := Lib.hid hr0
        clear hb0 hr0
        go_simp
        refine hK.out _ _ (CV.out _ (ext_trans HBD.out HB0.out)) (fun hHeld => ?_)
        clear hK K
        try simp only [Act.put, List.setIfInBounds_toArray, List.set_cons_zero, List.set_cons_succ, List.getElem_toArray, List.getElem_cons_zero, List.getElem_cons_succ]
        refine wpAnyH_ready (rs := [7]) (by kernel_rfl) (by simp) ?_
        refine AllReadyH.cons (o := _) rfl (fun K hK => ?_) (AllReadyH.nil)
        go_simp
        refine (wide_any _).mono ?_
        rintro e w6 ⟨rfl, hb⟩
        have HB6 := Lib.hid hb; clear hb
        go_wp2_with fail
        have HBZ := Lib.hid (ext_trans HB0.out HB6.out)
        have HRQ := Lib.hid (HR0.out.ext HB6.out)
        refine hK.out _ _ (CV.out _ (ext_trans HBD.out HBZ.out)) (fun hHeld => ?_)
        clear hK K
        try simp only [Act.put, List.setIfInBounds_toArray, List.set_cons_zero, List.set_cons_succ, List.getElem_toArray, List.getElem_cons_zero, List.getElem_cons_succ]
        have PY6 := PY.out _ (ext_trans HBD.out HBZ.out) _ HRQ.out
        rw [HY.out] at PY6
        have PYH := Lib.hid PY6
        clear PY6 cvq
        refine wpAnyH_ready (rs := [8]) (by kernel_rfl) (by simp) ?_
        refine AllReadyH.cons (o := _) rfl (fun K hK => ?_) (AllReadyH.nil)
        go_simp
        refine PYH.out.mono ?_
        rintro e w7 ⟨D2, T2, tv2, ns2, rfl, hd2, hb7⟩
        have HB7 := Lib.hid (ext_trans HBD.out (ext_trans HBZ.out hb7))
        have HD7 := Lib.hid (HDD.out.below (ext_trans HBZ.out hb7))
        have HE7 := Lib.hid hd2
        clear hd2 hb7
        go_wp2_with fail
        refine hK.out _ _ (CV.out _ HB7.out) (fun hHeld => ?_)
        clear hK K
        try simp only [Act.put, List.setIfInBounds_toArray, List.set_cons_zero, List.set_cons_succ, List.getElem_toArray, List.getElem_cons_zero, List.getElem_cons_succ]
        refine wpAnyH_take (i := 9) (oi := _) (v := .tuple #[ptrV D2, .nilIface]) rfl (by kernel_rfl) (by kernel_rfl) (by kernel_rfl) (fun _ _ _ h => h) (Or.inl ⟨by rfl, ?_⟩) hHeld ?_
        · intro w hSw; go_simp
        try simp only [Act.put, List.setIfInBounds_toArray, List.set_cons_zero, List.set_cons_succ, List.getElem_toArray, List.getElem_cons_zero, List.getElem_cons_succ]
        refine wpAnyH_take (i := 10) (oi := _) (v := ptrV D2) rfl (by kernel_rfl) (by kernel_rfl) (by kernel_rfl) (fun _ _ _ h => h) (Or.inl ⟨by rfl, ?_⟩) hHeld ?_
        · intro w hSw; go_simp
        try simp only [Act.put, List.setIfInBounds_toArray, List.set_cons_zero, List.set_cons_succ, List.getElem_toArray, List.getElem_cons_zero, List.getElem_cons_succ]
        refine wpAnyH_take (i := 11) (oi := _) (v := .nilIface) rfl (by kernel_rfl) (by kernel_rfl) (by kernel_rfl) (fun _ _ _ h => h) (Or.inl ⟨by rfl, ?_⟩) hHeld ?_
        · intro w hSw; go_simp
        try simp only [Act.put, List.setIfInBounds_toArray, List.set_cons_zero, List.set_cons_succ, List.getElem_toArray, List.getElem_cons_zero, List.getElem_cons_succ]
        refine wpAnyH_take (i := 12) (oi := _) (v := ptrV D2) rfl (by kernel_rfl) (by kernel_rfl) (by kernel_rfl) (fun _ _ _ h => h) (Or.inl ⟨by rfl, ?_⟩) hHeld ?_
        · intro w hSw; go_simp
        try simp only [Act.put, List.setIfInBounds_toArray, List.set_cons_zero, List.set_cons_succ, List.getElem_toArray, List.getElem_cons_zero, List.getElem_cons_succ]
        refine wpAnyH_take (i := 13) (oi := _) (v := .nilIface) rfl (by kernel_rfl) (by kernel_rfl) (by kernel_rfl) (fun _ _ _ h => h) (Or.inl ⟨by rfl, ?_⟩) hHeld ?_
        · intro w hSw; go_simp
        try simp only [Act.put, List.setIfInBounds_toArray, List.set_cons_zero, List.set_cons_succ, List.getElem_toArray, List.getElem_cons_zero, List.getElem_cons_succ]
        refine wpAnyH_done (by kernel_rfl) ?_ _
        refine NoPanic.normal ?_
        clear HBZ HRQ PYH
        have hL2 : (shP P.size s).js.length = s.js.length := by simp [shP]
        have LN1 := Lib.hid (fun W (hW : Below w7.heap.size w7 W) => tlen_any W _ D T s _ tv ns (HD7.out.below hW))
        have LN2 := Lib.hid (fun W (hW : Below w7.heap.size w7 W) => by
          have := tlen_any W _ D2 T2 (shP P.size s) _ tv2 ns2 (HE7.out.below hW)
          rw [hL2] at this
          exact this)
        have hjl := HJL.out
        have ND1 := Lib.hid (fun W (hW : Below w7.heap.size w7 W) (id : Int) => node_any W _ D T s _ tv ns id (HD7.out.below hW) (by omega))
        have ND2 := Lib.hid (fun W (hW : Below w7.heap.size w7 W) (id : Int) => node_any W _ D2 T2 (shP P.size s) _ tv2 ns2 id (HE7.out.below hW) (by omega))
        have HL2 := Lib.hid hL2
        have lb : ((s.js.length : Int) == (s.js.length : Int)) = true := beq_self_eq_true _
        have R0 : JbRel s.js.length w7 (.int .i64 0) w7 := ⟨0, rfl, Nat.zero_le _, Below.refl _ _⟩
        have HR0 := Lib.hid R0
        clear R0 hL2 hjl
        go_wp2_with fail
        refine (LN1.out _ (Below.refl _ _)).mono ?_
        rintro e w8 ⟨rfl, rfl⟩
        go_wp2_with fail
        refine (LN2.out _ (Below.refl _ _)).mono ?_
        rintro e w8 ⟨rfl, rfl⟩
        go_wp2_with fail
        go_loopw [10] (JbRel s.js.length w7) (fun x _ => s.js.length - (intOf x).toNat)
        case atStart => exact HR0.out
        case round =>
          obtain ⟨x, rfl, hxl, hbw⟩ := hrel
          have HBW := Lib.hid hbw
          go_wp2_with fail
          refine (LN1.out _ HBW.out).mono ?_
          rintro e w8 ⟨rfl, rfl⟩
          by_cases hlt : x < s.js.length
          · have t4 : decide ((x : Int) < (s.js.length : Int)) = true := decide_eq_true (by omega)
            have t4' : decide (x < s.js.length) = true := decide_eq_true hlt
            have hjl := HJL.out
            have q3 : IntKind.i64.wrap ((x : Int) + 1) = (x : Int) + 1 := IntWalk.i64_in _ (by omega)
            obtain ⟨y, hy⟩ := get_ex s.js x hlt
            have hay := HAT.out y (List.mem_of_getElem? hy)
            have hPz := HP.out
            have q4 : IntKind.i64.wrap (y.at_ + (P.size : Int)) = y.at_ + (P.size : Int) := IntWalk.i64_in _ (by omega)
            have hy2 : (shP P.size s).js[x]? = some (shJ P.size y) := by simp [shP, hy]
            have HY1 := Lib.hid hy; have HY2 := Lib.hid hy2
            have hR : ∀ V, Below w7.heap.size w7 V → JbRel s.js.length w7 (.int .i64 ((x : Int) + 1)) V := fun V hV => ⟨x + 1, by go_num, hlt, hV⟩
            have HRR := Lib.hid hR
            clear hbw hy hy2 hR hay hPz hjl
            go_wp2_with fail
            refine (ND1.out _ HBW.out x).mono ?_
            intro e w10 hp
            have hp' : e = .returned (.tuple #[.agg #[.int .i64 y.kind, .string y.key, .string y.text, .int .i64 y.at_], .bool true]) ∧ Below wr.heap.size wr w10 := by
              rcases hp with ⟨i', y', hi', hy', h, hb⟩ | ⟨hno, _⟩
              · obtain rfl : x = i' := by omega
                obtain rfl : y' = y := by rw [HY1.out] at hy'; exact (Option.some.inj hy').symm
                exact ⟨h, hb⟩
              · omega
            obtain ⟨rfl, hb10⟩ := hp'
            have HB10 := Lib.hid (ext_trans HBW.out hb10)
            obtain ⟨O, hO⟩ : ∃ O, O = Obj.cells #[.int .i64 y.kind, .string y.key, .string y.text, .int .i64 y.at_] 58 (0, 0) := ⟨_, rfl⟩
            have HO := Lib.hid hO
            clear hp hb10 hO
            go_wp2_with fail
            refine (ND2.out _ (ext_alloc HB10.out _) x).mono ?_
            intro e w11 hp
            have hp' : e = .returned (.tuple #[.agg #[.int .i64 y.kind, .string y.key, .string y.text, .int .i64 (y.at_ + (P.size : Int))], .bool true]) ∧ Below (w10.heap.size + 1) (w10.alloc (.cells #[.int .i64 y.kind, .string y.key, .string y.text, .int .i64 y.at_] 58)) w11 := by
              rcases hp with ⟨i', y', hi', hy', h, hb⟩ | ⟨hno, _⟩
              · obtain rfl : x = i' := by omega
                obtain rfl : y' = shJ P.size y := by rw [HY2.out] at hy'; exact (Option.some.inj hy').symm
                exact ⟨h, by simpa using hb⟩
              · have := HL2.out; omega
            obtain ⟨rfl, hb11⟩ := hp'
            have p0 := fun j => bcell1 hb11 (b := w10.heap.size) (by omega) j
            have p1 := fun j => bfrozen1 hb11 (b := w10.heap.size) (by omega) j
            have hsz : w10.heap.size < w11.heap.size := by have := hb11.size; simp at this; omega
            have HB11 := Lib.hid (ext_trans (ext_alloc HB10.out (.cells #[.int .i64 y.kind, .string y.key, .string y.text, .int .i64 y.at_] 58)) (by simpa using hb11))
            have HFIN := Lib.hid (fun (u : Value) ob => HRR.out _ (ext_alloc (HB11.out.setCell (p := ⟨w10.heap.size, 3, none⟩) (show w7.heap.size ≤ w10.heap.size from HB10.out.size) u) ob))
            clear hp hb11
            go_wp2
            refine ⟨?_, by simp [intOf]; omega⟩
            have R := HFIN.out
            first | exact R _ _ | ((repeat apply Exists.intro); exact ⟨R _ _, rfl⟩)
          · have t4 : decide ((x : Int) < (s.js.length : Int)) = false := decide_eq_false (by omega)
            have t4' : decide (x < s.js.length) = false := decide_eq_false hlt
            have HF := Lib.hid (ext_trans HB7.out hbw)
            clear hbw
            go_wp2
            go_ret
            exact ⟨rfl, HF.out⟩
      · go_simp
        refine (wide_any _).mono ?_
        rintro e w6 ⟨rfl, hb⟩
        have HB6 := Lib.hid hb; clear hb
        go_wp2_with fail
        refine hK.out _ _ (CV.out _ (ext_trans HBD.out HB6.out)) (fun hHeld => ?_)
        clear hK K
        try simp only [Act.put, List.setIfInBounds_toArray, List.set_cons_zero, List.set_cons_succ, List.getElem_toArray, List.getElem_cons_zero, List.getElem_cons_succ]
        obtain ⟨W0, cq, cvq, hb0, hr0⟩ := bytes_at Q w6
        have HB0 := Lib.hid hb0; have HRQ := Lib.hid hr0
        clear hb0 hr0
        have HBZ := Lib.hid (ext_trans HB6.out HB0.out)
        refine wpAnyH_ready (rs := [6]) (by kernel_rfl) (by simp) ?_
        refine AllReadyH.cons (o := _) rfl (fun K hK => ?_) (AllReadyH.nil)
        go_simp
        refine hK.out _ _ (CV.out _ (ext_trans HBD.out HBZ.out)) (fun hHeld => ?_)
        clear hK K
        try simp only [Act.put, List.setIfInBounds_toArray, List.set_cons_zero, List.set_cons_succ, List.getElem_toArray, List.getElem_cons_zero, List.getElem_cons_succ]
        have PY6 := PY.out _ (ext_trans HBD.out HBZ.out) _ HRQ.out
        rw [HY.out] at PY6
        have PYH := Lib.hid PY6
        clear PY6 cvq
        refine wpAnyH_ready (rs := [8]) (by kernel_rfl) (by simp) ?_
        refine AllReadyH.cons (o := _) rfl (fun K hK => ?_) (AllReadyH.nil)
        go_simp
        refine PYH.out.mono ?_
        rintro e w7 ⟨D2, T2, tv2, ns2, rfl, hd2, hb7⟩
        have HB7 := Lib.hid (ext_trans HBD.out (ext_trans HBZ.out hb7))
        have HD7 := Lib.hid (HDD.out.below (ext_trans HBZ.out hb7))
        have HE7 := Lib.hid hd2
        clear hd2 hb7
        go_wp2_with fail
        refine hK.out _ _ (CV.out _ HB7.out) (fun hHeld => ?_)
        clear hK K
        try simp only [Act.put, List.setIfInBounds_toArray, List.set_cons_zero, List.set_cons_succ, List.getElem_toArray, List.getElem_cons_zero, List.getElem_cons_succ]
        refine wpAnyH_take (i := 9) (oi := _) (v := .tuple #[ptrV D2, .nilIface]) rfl (by kernel_rfl) (by kernel_rfl) (by kernel_rfl) (fun _ _ _ h => h) (Or.inl ⟨by rfl, ?_⟩) hHeld ?_
        · intro w hSw; go_simp
        try simp only [Act.put, List.setIfInBounds_toArray, List.set_cons_zero, List.set_cons_succ, List.getElem_toArray, List.getElem_cons_zero, List.getElem_cons_succ]
        refine wpAnyH_take (i := 10) (oi := _) (v := ptrV D2) rfl (by kernel_rfl) (by kernel_rfl) (by kernel_rfl) (fun _ _ _ h => h) (Or.inl ⟨by rfl, ?_⟩) hHeld ?_
        · intro w hSw; go_simp
        try simp only [Act.put, List.setIfInBounds_toArray, List.set_cons_zero, List.set_cons_succ, List.getElem_toArray, List.getElem_cons_zero, List.getElem_cons_succ]
        refine wpAnyH_take (i := 11) (oi := _) (v := .nilIface) rfl (by kernel_rfl) (by kernel_rfl) (by kernel_rfl) (fun _ _ _ h => h) (Or.inl ⟨by rfl, ?_⟩) hHeld ?_
        · intro w hSw; go_simp
        try simp only [Act.put, List.setIfInBounds_toArray, List.set_cons_zero, List.set_cons_succ, List.getElem_toArray, List.getElem_cons_zero, List.getElem_cons_succ]
        refine wpAnyH_take (i := 12) (oi := _) (v := ptrV D2) rfl (by kernel_rfl) (by kernel_rfl) (by kernel_rfl) (fun _ _ _ h => h) (Or.inl ⟨by rfl, ?_⟩) hHeld ?_
        · intro w hSw; go_simp
        try simp only [Act.put, List.setIfInBounds_toArray, List.set_cons_zero, List.set_cons_succ, List.getElem_toArray, List.getElem_cons_zero, List.getElem_cons_succ]
        refine wpAnyH_take (i := 13) (oi := _) (v := .nilIface) rfl (by kernel_rfl) (by kernel_rfl) (by kernel_rfl) (fun _ _ _ h => h) (Or.inl ⟨by rfl, ?_⟩) hHeld ?_
        · intro w hSw; go_simp
        try simp only [Act.put, List.setIfInBounds_toArray, List.set_cons_zero, List.set_cons_succ, List.getElem_toArray, List.getElem_cons_zero, List.getElem_cons_succ]
        refine wpAnyH_done (by kernel_rfl) ?_ _
        refine NoPanic.normal ?_
        clear HBZ HRQ PYH
        have hL2 : (shP P.size s).js.length = s.js.length := by simp [shP]
        have LN1 := Lib.hid (fun W (hW : Below w7.heap.size w7 W) => tlen_any W _ D T s _ tv ns (HD7.out.below hW))
        have LN2 := Lib.hid (fun W (hW : Below w7.heap.size w7 W) => by
          have := tlen_any W _ D2 T2 (shP P.size s) _ tv2 ns2 (HE7.out.below hW)
          rw [hL2] at this
          exact this)
        have hjl := HJL.out
        have ND1 := Lib.hid (fun W (hW : Below w7.heap.size w7 W) (id : Int) => node_any W _ D T s _ tv ns id (HD7.out.below hW) (by omega))
        have ND2 := Lib.hid (fun W (hW : Below w7.heap.size w7 W) (id : Int) => node_any W _ D2 T2 (shP P.size s) _ tv2 ns2 id (HE7.out.below hW) (by omega))
        have HL2 := Lib.hid hL2
        have lb : ((s.js.length : Int) == (s.js.length : Int)) = true := beq_self_eq_true _
        have R0 : JbRel s.js.length w7 (.int .i64 0) w7 := ⟨0, rfl, Nat.zero_le _, Below.refl _ _⟩
        have HR0 := Lib.hid R0
        clear R0 hL2 hjl
        go_wp2_with fail
        refine (LN1.out _ (Below.refl _ _)).mono ?_
        rintro e w8 ⟨rfl, rfl⟩
        go_wp2_with fail
        refine (LN2.out _ (Below.refl _ _)).mono ?_
        rintro e w8 ⟨rfl, rfl⟩
        go_wp2_with fail
        go_loopw [10] (JbRel s.js.length w7) (fun x _ => s.js.length - (intOf x).toNat)
        case atStart => exact HR0.out
        case round =>
          obtain ⟨x, rfl, hxl, hbw⟩ := hrel
          have HBW := Lib.hid hbw
          go_wp2_with fail
          refine (LN1.out _ HBW.out).mono ?_
          rintro e w8 ⟨rfl, rfl⟩
          by_cases hlt : x < s.js.length
          · have t4 : decide ((x : Int) < (s.js.length : Int)) = true := decide_eq_true (by omega)
            have t4' : decide (x < s.js.length) = true := decide_eq_true hlt
            have hjl := HJL.out
            have q3 : IntKind.i64.wrap ((x : Int) + 1) = (x : Int) + 1 := IntWalk.i64_in _ (by omega)
            obtain ⟨y, hy⟩ := get_ex s.js x hlt
            have hay := HAT.out y (List.mem_of_getElem? hy)
            have hPz := HP.out
            have q4 : IntKind.i64.wrap (y.at_ + (P.size : Int)) = y.at_ + (P.size : Int) := IntWalk.i64_in _ (by omega)
            have hy2 : (shP P.size s).js[x]? = some (shJ P.size y) := by simp [shP, hy]
            have HY1 := Lib.hid hy; have HY2 := Lib.hid hy2
            have hR : ∀ V, Below w7.heap.size w7 V → JbRel s.js.length w7 (.int .i64 ((x : Int) + 1)) V := fun V hV => ⟨x + 1, by go_num, hlt, hV⟩
            have HRR := Lib.hid hR
            clear hbw hy hy2 hR hay hPz hjl
            go_wp2_with fail
            refine (ND1.out _ HBW.out x).mono ?_
            intro e w10 hp
            have hp' : e = .returned (.tuple #[.agg #[.int .i64 y.kind, .string y.key, .string y.text, .int .i64 y.at_], .bool true]) ∧ Below wr.heap.size wr w10 := by
              rcases hp with ⟨i', y', hi', hy', h, hb⟩ | ⟨hno, _⟩
              · obtain rfl : x = i' := by omega
                obtain rfl : y' = y := by rw [HY1.out] at hy'; exact (Option.some.inj hy').symm
                exact ⟨h, hb⟩
              · omega
            obtain ⟨rfl, hb10⟩ := hp'
            have HB10 := Lib.hid (ext_trans HBW.out hb10)
            obtain ⟨O, hO⟩ : ∃ O, O = Obj.cells #[.int .i64 y.kind, .string y.key, .string y.text, .int .i64 y.at_] 58 (0, 0) := ⟨_, rfl⟩
            have HO := Lib.hid hO
            clear hp hb10 hO
            go_wp2_with fail
            refine (ND2.out _ (ext_alloc HB10.out _) x).mono ?_
            intro e w11 hp
            have hp' : e = .returned (.tuple #[.agg #[.int .i64 y.kind, .string y.key, .string y.text, .int .i64 (y.at_ + (P.size : Int))], .bool true]) ∧ Below (w10.heap.size + 1) (w10.alloc (.cells #[.int .i64 y.kind, .string y.key, .string y.text, .int .i64 y.at_] 58)) w11 := by
              rcases hp with ⟨i', y', hi', hy', h, hb⟩ | ⟨hno, _⟩
              · obtain rfl : x = i' := by omega
                obtain rfl : y' = shJ P.size y := by rw [HY2.out] at hy'; exact (Option.some.inj hy').symm
                exact ⟨h, by simpa using hb⟩
              · have := HL2.out; omega
            obtain ⟨rfl, hb11⟩ := hp'
            have p0 := fun j => bcell1 hb11 (b := w10.heap.size) (by omega) j
            have p1 := fun j => bfrozen1 hb11 (b := w10.heap.size) (by omega) j
            have hsz : w10.heap.size < w11.heap.size := by have := hb11.size; simp at this; omega
            have HB11 := Lib.hid (ext_trans (ext_alloc HB10.out (.cells #[.int .i64 y.kind, .string y.key, .string y.text, .int .i64 y.at_] 58)) (by simpa using hb11))
            have HFIN := Lib.hid (fun (u : Value) ob => HRR.out _ (ext_alloc (HB11.out.setCell (p := ⟨w10.heap.size, 3, none⟩) (show w7.heap.size ≤ w10.heap.size from HB10.out.size) u) ob))
            clear hp hb11
            go_wp2
            refine ⟨?_, by simp [intOf]; omega⟩
            have R := HFIN.out
            first | exact R _ _ | ((repeat apply Exists.intro); exact ⟨R _ _, rfl⟩)
          · have t4 : decide ((x : Int) < (s.js.length : Int)) = false := decide_eq_false (by omega)
            have t4' : decide (x < s.js.length) = false := decide_eq_false hlt
            have HF := Lib.hid (ext_trans HB7.out hbw)
            clear hbw
            go_wp2
            go_ret
            exact ⟨rfl, HF.out⟩
end
end Go.Proofs.YtmhfbdeeebbloaaDoor
