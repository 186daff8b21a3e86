
/- What a text's token stands for: the plain functions. -/
import Derived.Test.YtmhfbdeeebbloaaDoorScanAll0
import Derived.Test.YtmhfbdeeebbloaaDoorScanLe
import Derived.Test.YtmhfbdeeebbloaaDoorScan5
import Derived.Test.YtmhfbdeeebbloaaDoorUtf0
import Derived.Test.YtmhfbdeeebbloaaDoorInts0
-- @auto
import Derived.Lib.RuneBytes
namespace Go.Proofs.YtmhfbdeeebbloaaDoor
open Go.RowKit
/-- The bytes of characters. -/
def strOf (acc : List Nat) : ByteArray := ⟨((acc.flatMap putN).map UInt8.ofNat).toArray⟩
def putC (n : Nat) : List Value := (putN n).map fun x : Nat => Value.int .u8 (x : Int)
def AllRight (acc : List Nat) : Prop := ∀ c ∈ acc, rightN (c : Int) = true
theorem AllRight.snoc {acc : List Nat} {c : Nat} (h : AllRight acc) (hc : rightN (c : Int) = true) : AllRight (acc ++ [c]) := by
  intro x hx
  rw [List.mem_append] at hx
  rcases hx with hx | hx
  · exact h x hx
  · rw [List.mem_singleton.1 hx]; exact hc
theorem right_lt {c : Nat} (h : rightN (c : Int) = true) : c < 1114112 := by
  have := (right_iff _).1 h; omega
theorem byV_strOf : ∀ {acc : List Nat}, AllRight acc → byV (strOf acc) = acc.flatMap putC
  | [], _ => rfl
  | c :: acc, h => by
    have ih := byV_strOf (acc := acc) (fun x hx => h x (List.mem_cons_of_mem _ hx))
    have hc := right_lt (h c (by simp))
    unfold byV strOf at ih ⊢
    rw [List.toList_toArray] at ih ⊢
    rw [List.flatMap_cons, List.map_append, List.map_append, ih, List.flatMap_cons]
    congr 1
    unfold putC
    rw [List.map_map]
    apply List.map_congr_left
    intro x hx
    have := putN_lt hc x hx
    simp; omega
theorem putN_len (n : Nat) : (putN n).length ≤ 4 := by
  unfold putN; split
  · simp
  · split
    · simp
    · split <;> simp
theorem putC_len (n : Nat) : (putC n).length = (putN n).length := by simp [putC]
theorem strOf_size (acc : List Nat) : (strOf acc).size = (acc.flatMap putN).length := by
  show ((acc.flatMap putN).map UInt8.ofNat).toArray.size = _
  simp
theorem strOf_le : ∀ acc : List Nat, (strOf acc).size ≤ 4 * acc.length
  | [] => by simp [strOf_size]
  | c :: acc => by
    have ih := strOf_le acc
    have := putN_len c
    rw [strOf_size] at ih ⊢
    rw [List.flatMap_cons, List.length_append, List.length_cons]; omega
theorem rune_put {c : Nat} (h : rightN (c : Int) = true) : Go.Lib.runeCells (c : Int) = putC c := by
  have hc := (right_iff _).1 h
  unfold Go.Lib.runeCells putC putN
  by_cases h1 : c < 128
  · rw [if_pos h1, Go.Lib.encodeRuneZ_one (by omega) (by omega)]; rfl
  · rw [if_neg h1]
    by_cases h2 : c < 2048
    · rw [if_pos h2, Go.Lib.encodeRuneZ_two (by omega) (by omega)]
      simp
    · rw [if_neg h2]
      by_cases h3 : c < 65536
      · rw [if_pos h3, Go.Lib.encodeRuneZ_three (by omega)]
        simp
      · rw [if_neg h3, Go.Lib.encodeRuneZ_four (by omega) (by omega)]
        simp
theorem strOf_app (a b : List Nat) : byV (strOf (a ++ b)) = byV (strOf a) ++ byV (strOf b) := by
  unfold byV strOf
  simp [List.flatMap_append]
theorem byV_length (B : ByteArray) : (byV B).length = B.size := by simp [byV]
theorem strOf_snoc {acc : List Nat} {c : Nat} (h : AllRight acc) (hc : rightN (c : Int) = true) : byV (strOf (acc ++ [c])) = byV (strOf acc) ++ putC c := by
  rw [byV_strOf (h.snoc hc), byV_strOf h, List.flatMap_append]; simp
theorem take_snoc {acc : List Nat} {j : Nat} (hj : j < acc.length) : acc.take (j + 1) = acc.take j ++ [acc[j]] := List.take_succ_eq_append_getElem hj
theorem AllRight.take {acc : List Nat} (h : AllRight acc) (j : Nat) : AllRight (acc.take j) := fun c hc => h c (List.mem_of_mem_take hc)
theorem AllRight.get {acc : List Nat} (h : AllRight acc) {j : Nat} (hj : j < acc.length) : rightN (acc[j] : Int) = true := h _ (List.getElem_mem hj)
/-- The characters of a text that was read are right. -/
theorem textF_right {B : ByteArray} : ∀ f i acc x, AllRight acc → textF B f i acc = .ok x → AllRight x.1
  | 0, i, acc, x, _, h => by cases h
  | f + 1, i, acc, x, ha, h => by
    rw [textF] at h
    split at h
    · cases h
    · split at h
      · cases h; exact ha
      · split at h
        · cases h
        · obtain ⟨y, h1, h2⟩ := Sc.bind_eq_ok h
          exact textF_right f _ _ x (ha.snoc (textStep_right h1)) h2
theorem textS_right {B : ByteArray} {i : Nat} {x : List Nat × Nat} (h : textS B i [] = .ok x) : AllRight x.1 := textF_right _ _ _ _ (fun c hc => by cases hc) h
theorem textF_len {B : ByteArray} : ∀ f i acc x, i ≤ B.size → textF B f i acc = .ok x → x.1.length ≤ acc.length + (B.size - i)
  | 0, i, acc, x, _, h => by cases h
  | f + 1, i, acc, x, hi, h => by
    rw [textF] at h
    split at h
    · cases h
    · split at h
      · cases h; simp
      · split at h
        · cases h
        · obtain ⟨y, h1, h2⟩ := Sc.bind_eq_ok h
          have hs := textStep_ok (by omega) h1
          have := textF_len f _ _ x hs.2 h2
          rw [List.length_append, List.length_cons, List.length_nil] at this
          omega
theorem textS_len {B : ByteArray} {i : Nat} {x : List Nat × Nat} (hi : i ≤ B.size) (h : textS B i [] = .ok x) : x.1.length ≤ B.size := by
  have := textF_len _ _ _ _ hi h; simp at this; omega
/-- What a token stands for. -/
def textTok (B : ByteArray) (t : Tok) : Option ByteArray := match nextI B t.fr with
  | .ok x => if x = t ∧ t.kind = 7 then (match textS B (t.fr.toNat + 1) [] with | .ok y => some (strOf y.1) | .no _ _ => none) else none
  | .no _ _ => none
/-- A text's token: where it begins a mark stands, and it ends. -/
theorem tok_text {B : ByteArray} {t : Tok} (h : nextI B t.fr = .ok t) (h7 : t.kind = 7) : ∃ (p : Nat) (y : List Nat × Nat), t.fr = p ∧ p < B.size ∧ byteAt B p = 34 ∧ textS B (p + 1) [] = .ok y := by
  unfold nextI at h
  split at h
  · cases h
  · rename_i hn
    obtain ⟨p, hp⟩ := Int.eq_ofNat_of_zero_le (show 0 ≤ t.fr by omega)
    rw [hp, Int.toNat_natCast] at h
    unfold nextS at h
    obtain ⟨x, h1, h2⟩ := Sc.bind_eq_ok h
    have h2' := Sc.ok.inj h2
    have hk : x.1 = 7 := by have := congrArg Tok.kind h2'; simp only at this; omega
    have hf : skip isBlank B p = p := by have := congrArg Tok.fr h2'; simp only at this; omega
    rw [hf] at h1
    have hple : p ≤ B.size := by omega
    unfold tokenS at h1
    split at h1
    · cases h1; simp at hk
    · rename_i hpe
      split at h1
      · rename_i hm
        have hlt : marksL.idxOf (byteAt B p) < 6 := List.idxOf_lt_length_iff.2 (by simpa using hm)
        cases h1; simp only at hk; omega
      · split at h1
        · rename_i h34
          obtain ⟨y, h3, h4⟩ := Sc.bind_eq_ok h1
          exact ⟨p, y, hp, by omega, h34, h3⟩
        · split at h1
          · obtain ⟨y, h3, h4⟩ := Sc.bind_eq_ok h1; cases h4; simp at hk
          · split at h1
            · obtain ⟨y, h3, h4⟩ := Sc.bind_eq_ok h1; cases h4; simp at hk
            · split at h1
              · obtain ⟨y, h3, h4⟩ := Sc.bind_eq_ok h1; cases h4; simp at hk
              · split at h1
                · obtain ⟨y, h3, h4⟩ := Sc.bind_eq_ok h1; cases h4; simp at hk
                · cases h1
/-! ### Errors have a number -/
theorem digitsS_pos {B : ByteArray} {i k : Nat} {p : Int} (h : digitsS B i = .no k p) : k ≠ 0 := by
  unfold digitsS at h; split at h
  · cases h
  · split at h <;> cases h <;> decide
theorem Sc.bind_no_iff {α β : Type} {r : Sc α} {f : α → Sc β} {k : Nat} {p : Int} (h : r.bind f = .no k p) : r = .no k p ∨ ∃ a, r = .ok a ∧ f a = .no k p := by
  cases r with
  | ok a => exact .inr ⟨a, rfl, h⟩
  | no _ _ => cases h; exact .inl rfl
theorem numberS_pos {B : ByteArray} {i k : Nat} {p : Int} (h : numberS B i = .no k p) : k ≠ 0 := by
  unfold numberS at h
  generalize (if onAt [45] B i then i + 1 else i) = j at h
  rcases Sc.bind_no_iff h with h | ⟨a, _, h⟩
  · split at h
    · cases h
    · exact digitsS_pos h
  · rcases Sc.bind_no_iff h with h | ⟨b, _, h⟩
    · split at h
      · exact digitsS_pos h
      · cases h
    · split at h
      · exact digitsS_pos h
      · cases h
theorem unitS_pos {B : ByteArray} {i k : Nat} {p : Int} (h : unitS B i = .no k p) : k ≠ 0 := by
  unfold unitS at h
  rcases Sc.bind_no_iff h with h | ⟨b, _, h⟩
  · exact firstBad_pos h
  · cases h
theorem wordS_pos {B : ByteArray} {i k : Nat} {p : Int} {l : List Nat} (h : wordS B i l = .no k p) : k ≠ 0 := by
  unfold wordS at h
  rcases Sc.bind_no_iff h with h | ⟨b, _, h⟩
  · exact firstBad_pos h
  · cases h
theorem escapeS_pos {B : ByteArray} {i k : Nat} {p : Int} (h : escapeS B i = .no k p) : k ≠ 0 := by
  unfold escapeS at h
  split at h
  · cases h; decide
  · split at h
    · unfold pairS at h
      rcases Sc.bind_no_iff h with h | ⟨n, _, h⟩
      · exact unitS_pos h
      · split at h
        · cases h
        · split at h
          · cases hl : unitS B (i + 6) with
            | ok m => rw [hl] at h; simp only [pairLow] at h; split at h <;> cases h; decide
            | no k' j => rw [hl] at h; simp only [pairLow] at h; split at h <;> cases h <;> decide
          · cases h; decide
    · split at h
      · cases h
      · cases h; decide
theorem textF_pos {B : ByteArray} {k : Nat} {p : Int} : ∀ f i acc, textF B f i acc = .no k p → k ≠ 0
  | 0, i, acc, h => by cases h; decide
  | f + 1, i, acc, h => by
    rw [textF] at h
    split at h
    · cases h; decide
    · split at h
      · cases h
      · split at h
        · cases h; decide
        · rcases Sc.bind_no_iff h with h | ⟨x, _, h⟩
          · unfold textStep at h
            split at h
            · exact escapeS_pos h
            · unfold charS at h
              split at h
              · cases h; decide
              · split at h
                · cases h; decide
                · cases h
          · exact textF_pos f _ _ h
theorem nextI_pos {B : ByteArray} {i p : Int} {k : Nat} (h : nextI B i = .no k p) : k ≠ 0 := by
  unfold nextI at h
  split at h
  · cases h; decide
  · unfold nextS at h
    rcases Sc.bind_no_iff h with h | ⟨x, _, h⟩
    · unfold tokenS at h
      split at h
      · cases h
      · split at h
        · cases h
        · split at h
          · rcases Sc.bind_no_iff h with h | ⟨x, _, h⟩
            · exact textF_pos _ _ _ h
            · cases h
          · split at h
            · rcases Sc.bind_no_iff h with h | ⟨x, _, h⟩
              · exact numberS_pos h
              · cases h
            · split at h
              · rcases Sc.bind_no_iff h with h | ⟨x, _, h⟩
                · exact wordS_pos h
                · cases h
              · split at h
                · rcases Sc.bind_no_iff h with h | ⟨x, _, h⟩
                  · exact wordS_pos h
                  · cases h
                · split at h
                  · rcases Sc.bind_no_iff h with h | ⟨x, _, h⟩
                    · exact wordS_pos h
                    · cases h
                  · cases h; decide
    · cases h
theorem nextI_at {B : ByteArray} {i : Nat} (hi : i ≤ B.size) (hb : i < B.size → isBlank (byteAt B i) = false) : nextI B i = (tokenS B i).bind fun x => .ok ⟨x.1, i, x.2⟩ := by
  unfold nextI nextS
  rw [if_neg (by omega), Int.toNat_natCast, skip_stop hb]
end Go.Proofs.YtmhfbdeeebbloaaDoor
