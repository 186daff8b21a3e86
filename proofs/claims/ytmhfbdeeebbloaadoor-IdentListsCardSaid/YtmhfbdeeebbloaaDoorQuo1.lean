/- Texts as tokens: a quoted text is read as it. Nothing of the program. -/
import Derived.Test.YtmhfbdeeebbloaaDoorQuo0
namespace Go.Proofs.YtmhfbdeeebbloaaDoor
open Go.RowKit
theorem bytesN_len (B : ByteArray) : (bytesN B).length = B.size := by
  show (B.data.toList.map (·.toNat)).length = B.data.size
  simp
theorem bytesN_get {B : ByteArray} {i : Nat} (hi : i < B.size) : (bytesN B)[i]? = some (byteAt B i) := by
  have hd : i < B.data.size := hi
  unfold bytesN byteAt
  rw [List.getElem?_map, Array.getElem?_toList, Array.getElem?_eq_getElem hd]; rfl
theorem escB_lt : ∀ c : Fin 256, ∀ x ∈ escB c.val, x < 256 := by decide +kernel
theorem quoteL_lt (B : ByteArray) : ∀ x ∈ quoteL B, x < 256 := by
  intro x hx
  unfold quoteL at hx
  rcases List.mem_cons.1 hx with rfl | hx
  · decide
  · rcases List.mem_append.1 hx with hx | hx
    · obtain ⟨c, hc, hx⟩ := List.mem_flatMap.1 hx
      obtain ⟨u, _, rfl⟩ := List.mem_map.1 hc
      exact escB_lt ⟨u.toNat, UInt8.toNat_lt u⟩ x hx
    · rw [List.mem_singleton.1 hx]; decide
theorem quoteB_size (B : ByteArray) : (quoteB B).size = (quoteL B).length := by
  show ((quoteL B).map UInt8.ofNat).toArray.size = _
  simp
theorem quoteB_at {B : ByteArray} {p x : Nat} (h : (quoteL B)[p]? = some x) : byteAt (quoteB B) p = x := by
  have hx := quoteL_lt B x (List.mem_of_getElem? h)
  unfold byteAt quoteB
  simp only [List.getElem?_toArray, List.getElem?_map, h, Option.map_some, Option.getD_some]
  simp; omega
theorem offQ_zero (B : ByteArray) : offQ B 0 = 1 := by simp [offQ]
theorem take_more {B : ByteArray} {i : Nat} (hi : i < B.size) : (bytesN B).take (i + 1) = (bytesN B).take i ++ [byteAt B i] := by
  rw [List.take_add_one, bytesN_get hi]; rfl
theorem offQ_next {B : ByteArray} {i : Nat} (hi : i < B.size) : offQ B (i + 1) = offQ B i + (escB (byteAt B i)).length := by
  unfold offQ
  rw [take_more hi, List.flatMap_append, List.length_append]
  simp; omega
theorem offQ_end (B : ByteArray) : (quoteB B).size = offQ B B.size + 1 := by
  rw [quoteB_size]
  unfold offQ quoteL
  rw [List.take_of_length_le (by rw [bytesN_len]; exact Nat.le_refl _)]
  simp; omega
theorem quoteL_split {B : ByteArray} {i : Nat} (hi : i < B.size) : quoteL B = (34 :: ((bytesN B).take i).flatMap escB) ++ (escB (byteAt B i) ++ (((bytesN B).drop (i + 1)).flatMap escB ++ [34])) := by
  unfold quoteL
  conv => lhs; rw [← List.take_append_drop (i + 1) (bytesN B), List.flatMap_append, take_more hi, List.flatMap_append]
  simp
theorem quote_at {B : ByteArray} {i m x : Nat} (hi : i < B.size) (hx : (escB (byteAt B i))[m]? = some x) : byteAt (quoteB B) (offQ B i + m) = x := by
  have hm := (List.getElem?_eq_some_iff.1 hx).1
  apply quoteB_at
  rw [quoteL_split hi]
  have hl : (34 :: ((bytesN B).take i).flatMap escB).length = offQ B i := by unfold offQ; simp; omega
  rw [List.getElem?_append_right (by omega), hl, Nat.add_sub_cancel_left, List.getElem?_append_left hm]
  exact hx
theorem quote_last (B : ByteArray) : byteAt (quoteB B) (offQ B B.size) = 34 := by
  apply quoteB_at
  unfold quoteL offQ
  rw [List.take_of_length_le (by rw [bytesN_len]; exact Nat.le_refl _)]
  rw [Nat.add_comm, List.getElem?_cons_succ, List.getElem?_append_right (Nat.le_refl _), Nat.sub_self]; rfl
theorem offQ_mono {B : ByteArray} {i : Nat} (hi : i ≤ B.size) : offQ B i ≤ offQ B B.size := by
  obtain ⟨d, hd⟩ : ∃ d, B.size = i + d := ⟨B.size - i, by omega⟩
  have : ∀ d, i + d ≤ B.size → offQ B i ≤ offQ B (i + d) := by
    intro d
    induction d with
    | zero => intro _; exact Nat.le_refl _
    | succ d ih =>
      intro h
      have h1 := ih (by omega)
      have h2 := offQ_next (B := B) (i := i + d) (by omega)
      show offQ B i ≤ offQ B (i + d + 1)
      omega
  rw [hd]; exact this d (by omega)
/-- A character of several bytes stands in the token as it is. -/
theorem great_run {B : ByteArray} {i : Nat} : ∀ n, i + n ≤ B.size → (∀ m, m < n → 128 ≤ byteAt B (i + m)) → offQ B (i + n) = offQ B i + n ∧ ∀ m, m < n → byteAt (quoteB B) (offQ B i + m) = byteAt B (i + m)
  | 0, _, _ => ⟨rfl, fun m h => by omega⟩
  | n + 1, hn, h => by
    obtain ⟨h1, h2⟩ := great_run n (by omega) (fun m hm => h m (by omega))
    have hg := escB_great ⟨byteAt B (i + n), byteAt_lt B _⟩ (h n (by omega))
    have hg' : escB (byteAt B (i + n)) = [byteAt B (i + n)] := hg
    have hlt : i + n < B.size := by omega
    refine ⟨?_, fun m hm => ?_⟩
    · have := offQ_next hlt
      rw [hg'] at this
      show offQ B (i + n + 1) = _
      simp at this; omega
    · by_cases e : m = n
      · subst e
        have := quote_at (B := B) (i := i + m) (m := 0) (x := byteAt B (i + m)) hlt (by rw [hg']; rfl)
        rw [Nat.add_zero, h1] at this
        exact this
      · exact h2 m (by omega)
theorem hit_great {b0 b1 b2 b3 k : Nat} (_h0 : b0 < 256) (h1 : b1 < 256) (h2 : b2 < 256) (hk1 : 1 ≤ k) (hk : k ≤ 4) (_hb : 128 ≤ b0) (hh : hitN b0 b1 b2 b3 k = true) : (1 < k → 128 ≤ b1) ∧ (2 < k → 128 ≤ b2) ∧ (3 < k → 128 ≤ b3) := by
  have hc : k = 1 ∨ k = 2 ∨ k = 3 ∨ k = 4 := by omega
  rcases hc with rfl | rfl | rfl | rfl
  · refine ⟨fun h => by omega, fun h => by omega, fun h => by omega⟩
  · have := (hit2 (b0 := b0) (b1 := b1) (b2 := b2) (b3 := b3) h1).1 hh
    refine ⟨fun _ => by omega, fun h => by omega, fun h => by omega⟩
  · have := (hit3 (b0 := b0) (b1 := b1) (b2 := b2) (b3 := b3) h1).1 hh
    refine ⟨fun _ => by omega, fun _ => by omega, fun h => by omega⟩
  · have := (hit4 (b0 := b0) (b1 := b1) (b2 := b2) (b3 := b3) h2).1 hh
    refine ⟨fun _ => by omega, fun _ => by omega, fun _ => by omega⟩
end Go.Proofs.YtmhfbdeeebbloaaDoor
