
/- JrP1, JrC1, JrC2 in one text (a claim holds at most 60 files). -/
import Derived.Test.YtheoaijheijojaaGreatDoorZJsN1
import Derived.Test.YtheoaijheijojaaGreatDoorZJrM1s
import Derived.Test.YtheoaijheijojaaGreatDoorZOwn0s
import Derived.BigQuiet
-- @auto
namespace Go.Proofs.YtheoaijheijojaaGreatDoor
section
open Go.RowKit
theorem foldK_none {js : List JN} {key : ByteArray} : ∀ (l : List Nat) (a : Int), (∀ k ∈ l, keyA js k ≠ key) → l.foldl (fun a k => if keyA js k = key then (k : Int) else a) a = a
  | [], _, _ => rfl
  | k :: l, a, h => by
    rw [List.foldl_cons, if_neg (h k (by simp))]
    exact foldK_none l a (fun k' hk => h k' (by simp [hk]))
theorem foldK_some {js : List JN} {key : ByteArray} : ∀ (l : List Nat) (a : Int), (∃ k ∈ l, keyA js k = key) → ∃ k ∈ l, l.foldl (fun a k => if keyA js k = key then (k : Int) else a) a = (k : Int)
  | [], _, h => by obtain ⟨k, hk, _⟩ := h; simp at hk
  | k :: l, a, h => by
    rw [List.foldl_cons]
    by_cases hl : ∃ k' ∈ l, keyA js k' = key
    · obtain ⟨k', hk', e⟩ := foldK_some l (if keyA js k = key then (k : Int) else a) hl
      exact ⟨k', by simp [hk'], e⟩
    · have hk : keyA js k = key := by
        obtain ⟨k', hk', e⟩ := h
        rcases List.mem_cons.1 hk' with rfl | h2
        · exact e
        · exact absurd ⟨k', h2, e⟩ hl
      rw [if_pos hk, foldK_none l _ (fun k' hk' e => hl ⟨k', hk', e⟩)]
      exact ⟨k, by simp, rfl⟩
/-- The last of its key: none behind it has the same. -/
theorem isLast_iff {js : List JN} {all : List Nat} (hn : all.Pairwise (· < ·)) {i k : Nat} (hk : all[i]? = some k) : isLast js all k = !anyK js (all.drop (i + 1)) (keyA js k) := by
  obtain ⟨hi, e⟩ := List.getElem?_eq_some_iff.1 hk
  have hs : all = all.take i ++ k :: all.drop (i + 1) := by
    rw [← e, ← List.drop_eq_getElem_cons hi, List.take_append_drop]
  have hf : lastK js all (keyA js k) = (all.drop (i + 1)).foldl (fun a k' => if keyA js k' = keyA js k then (k' : Int) else a) (k : Int) := by
    unfold lastK
    rw [hs, List.foldl_append, List.foldl_cons, if_pos rfl, ← hs]
  unfold isLast
  rw [hf]
  by_cases h : ∃ k' ∈ all.drop (i + 1), keyA js k' = keyA js k
  · obtain ⟨k', hk', e'⟩ := foldK_some (js := js) (key := keyA js k) (all.drop (i + 1)) (k : Int) h
    rw [e']
    have hlt : k < k' := by
      rw [hs] at hn
      exact (List.pairwise_cons.1 (List.pairwise_append.1 hn).2.1).1 k' hk'
    have ha : anyK js (all.drop (i + 1)) (keyA js k) = true := by
      obtain ⟨k2, h2, e2⟩ := h
      exact List.any_eq_true.2 ⟨k2, h2, decide_eq_true e2⟩
    rw [ha]
    exact beq_eq_false_iff_ne.2 (by omega)
  · rw [foldK_none _ _ (fun k' hk' e' => h ⟨k', hk', e'⟩)]
    have ha : anyK js (all.drop (i + 1)) (keyA js k) = false := by
      rw [Bool.eq_false_iff]
      intro hx
      obtain ⟨k2, h2, e2⟩ := List.any_eq_true.1 hx
      exact h ⟨k2, h2, of_decide_eq_true e2⟩
    rw [ha]
    exact beq_self_eq_true _
/-- What a call for a kind tells: an error's number and its place. -/
def checkS (js : List JN) (id kind : Int) : Int × Int := if 0 ≤ id then match js[id.toNat]? with
    | some x => if x.kind = kind ∨ kind = 2 ∧ x.kind = 1 then (0, 0) else (32, x.at_)
    | none => (30, id)
  else (30, id)
theorem checkS_in {js : List JN} {i : Nat} {x : JN} (hx : js[i]? = some x) (kind : Int) : checkS js i kind = if x.kind = kind ∨ kind = 2 ∧ x.kind = 1 then (0, 0) else (32, x.at_) := by
  unfold checkS
  rw [if_pos (by omega), Int.toNat_natCast, hx]
theorem checkS_out {js : List JN} {id : Int} (h : ¬ (0 ≤ id ∧ id < js.length)) (kind : Int) : checkS js id kind = (30, id) := by
  unfold checkS
  by_cases h0 : 0 ≤ id
  · rw [if_pos h0, List.getElem?_eq_none (by omega)]
  · rw [if_neg h0]
/-- The texts of a list, up to the first value that is none. -/
def textA (js : List JN) (k : Nat) : JN := (js[k]?).getD jz
end
section
open Go.RowKit
end
section
open Go.RowKit
end
end Go.Proofs.YtheoaijheijojaaGreatDoor
