/- The law ArenaWalks: what it reads, as plain lists. Nothing of the program. -/
import Derived.Test.YtjbbpmjbohedkaaArena1
namespace Go.Proofs.Ytjbbpmjbohedkaa
open Go.RowKit
def upsL (us : List Nat) : List Nat := 0 :: us.mapIdx fun i u => u % (i + 1)
theorem upsL_length (us : List Nat) : (upsL us).length = us.length + 1 := by simp [upsL]
theorem upsL_snoc (us : List Nat) (u : Nat) : upsL (us ++ [u]) = upsL us ++ [u % (us.length + 1)] := by simp [upsL, List.mapIdx_append]
theorem upsL_take (us : List Nat) (j u : Nat) (h : us[j]? = some u) : upsL (us.take (j + 1)) = upsL (us.take j) ++ [u % (j + 1)] := by
  have hj := (List.getElem?_eq_some_iff.1 h).1
  rw [List.take_add_one, h, Option.toList_some, upsL_snoc, List.length_take, Nat.min_eq_left (by omega)]
theorem upsL_get (us : List Nat) (i u : Nat) (h : us[i]? = some u) : (upsL us)[i + 1]? = some (u % (i + 1)) := by simp [upsL, h]
theorem upsL_wf (us : List Nat) : WfUps (upsL us) := by
  intro i x hi hx
  cases i with
  | zero => omega
  | succ i =>
    simp [upsL] at hx
    obtain ⟨u, _, rfl⟩ := hx
    exact Nat.mod_lt _ (by omega)
def placeAt (A : List Nat) (id : Nat) : Int := if id ∈ A then (A.idxOf id : Int) + 1 else 0
def placeOf (A : List Nat) (n : Nat) : List Int := (List.range n).map (placeAt A)
theorem placeOf_length (A : List Nat) (n : Nat) : (placeOf A n).length = n := by simp [placeOf]
theorem placeOf_get (A : List Nat) (n id : Nat) (h : id < n) : (placeOf A n)[id]? = some (placeAt A id) := by simp [placeOf, h]
theorem placeOf_nil (n : Nat) : placeOf [] n = List.replicate n 0 := by
  apply List.ext_getElem?
  intro j
  by_cases h : j < n
  · simp [placeOf, placeAt, h]
  · simp [placeOf, h]
theorem placeOf_snoc (A : List Nat) (n k : Nat) (hk : k < n) (hn : k ∉ A) : placeOf (A ++ [k]) n = (placeOf A n).set k (A.length + 1 : Nat) := by
  apply List.ext_getElem?
  intro j
  by_cases h : j < n
  · rw [placeOf_get _ _ _ h]
    by_cases e : k = j
    · subst e
      rw [List.getElem?_set_self (by rw [placeOf_length]; exact hk)]
      simp [placeAt, List.idxOf_append, hn]
    · rw [List.getElem?_set_ne e, placeOf_get _ _ _ h]
      have e' : ¬ j = k := fun h => e h.symm
      by_cases hm : j ∈ A
      · simp [placeAt, List.idxOf_append, hm]
      · simp [placeAt, hm, e']
  · rw [List.getElem?_eq_none (by rw [placeOf_length]; omega), List.getElem?_eq_none (by simp [placeOf_length]; omega)]
/-- In the walk from the root each number comes behind the one above it. -/
theorem place_before {ups : List Nat} (hw : WfUps ups) {c u : Nat} (hc0 : 0 < c) (hu : ups[c]? = some u) : placeAt (pre ups ups.length 0) u < placeAt (pre ups ups.length 0) c := by
  have hc := (List.getElem?_eq_some_iff.1 hu).1
  have hlt := hw c u hc0 hu
  have hcm := pre_all hw (Nat.le_refl ups.length) c hc
  have hum := pre_all hw (Nat.le_refl ups.length) u (by omega)
  obtain ⟨A, Bs, e, hA⟩ := List.eq_append_cons_of_mem hcm
  simp only [placeAt, if_pos hcm, if_pos hum]
  rcases pre_before hw _ _ A Bs c e with h | ⟨x, hx, hxu⟩
  · omega
  · rw [hu] at hxu
    cases hxu
    rw [e, List.idxOf_append, List.idxOf_append, if_pos hx, if_neg hA, List.idxOf_cons_self]
    have := List.idxOf_lt_length_of_mem hx
    omega
end Go.Proofs.Ytjbbpmjbohedkaa
