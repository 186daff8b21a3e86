/- Rows of structs read out of memory, one by one. Nothing of the program. -/
import Derived.Test.YtcaiibkgajhohaaGreatDoorYOwn0s
namespace Go.Proofs.YtcaiibkgajhohaaGreatDoor
open Go.RowKit
section
variable {α : Type} {f : α → List Dat} {k : Nat}
theorem flat_len (hf : ∀ x, (f x).length = k) (l : List α) : (l.flatMap f).length = l.length * k := by
 induction l with
 | nil => simp
 | cons a l ih => rw [List.flatMap_cons, List.length_append, ih, hf, List.length_cons, Nat.add_mul, Nat.one_mul, Nat.add_comm]
theorem flat_get (hf : ∀ x, (f x).length = k) : ∀ (l : List α) (j i : Nat) (x : α), l[j]? = some x → i < k → (l.flatMap f)[j * k + i]? = (f x)[i]?
 | [], _, _, _, h, _ => by simp at h
 | a :: l, 0, i, x, h, hi => by
   simp only [List.getElem?_cons_zero, Option.some.injEq] at h
   subst h
   rw [List.flatMap_cons, Nat.zero_mul, Nat.zero_add, List.getElem?_append_left (by rw [hf]; exact hi)]
 | a :: l, j + 1, i, x, h, hi => by
   rw [List.getElem?_cons_succ] at h
   rw [List.flatMap_cons, List.getElem?_append_right (by rw [hf, Nat.add_mul]; omega), hf, show (j + 1) * k + i - k = j * k + i by rw [Nat.add_mul]; omega]
   exact flat_get hf l j i x h hi
/-- An element's cells. -/
theorem flat_read {S : Nat → Prop} {w : World} {v : Value} {l : List α} (hf : ∀ x, (f x).length = k) (hk : 0 < k) (h : Rd S w v (.list k (l.flatMap f))) : ∃ (a : Option Addr) (c : Nat), v = .slice a l.length c ∧ ∀ j x, l[j]? = some x → ∃ b o, a = some ⟨b, o, none⟩ ∧ S b ∧ ∀ i d, (f x)[i]? = some d → ∃ u, w.cell? ⟨b, o + (j * k + i), none⟩ = some u ∧ Rd S w u d := by
 obtain ⟨a, n, c, rfl, hl, _, _, hc⟩ := h.list_inv
 rw [flat_len hf] at hl
 obtain rfl : l.length = n := Nat.eq_of_mul_eq_mul_right hk hl
 refine ⟨a, c, rfl, fun j x hx => ?_⟩
 have hj : j < l.length := (List.getElem?_eq_some_iff.1 hx).1
 obtain ⟨b, o, rfl, hS, hcell⟩ := hc (by omega)
 refine ⟨b, o, rfl, hS, fun i d hd => ?_⟩
 have hi : i < k := by rw [← hf x]; exact (List.getElem?_eq_some_iff.1 hd).1
 have hg := flat_get hf l j i x hx hi
 rw [hd] at hg
 obtain ⟨hlt, he⟩ := List.getElem?_eq_some_iff.1 hg
 obtain ⟨u, h1, h2⟩ := hcell _ hlt
 exact ⟨u, h1, he ▸ h2⟩
end
end Go.Proofs.YtcaiibkgajhohaaGreatDoor
