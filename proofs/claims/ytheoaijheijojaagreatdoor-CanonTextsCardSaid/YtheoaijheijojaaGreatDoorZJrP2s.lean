/- JrP2, JrP3 in one text (a claim holds at most 60 files). -/
import Derived.Test.YtheoaijheijojaaGreatDoorZJbP0
import Derived.Test.YtheoaijheijojaaGreatDoorZJsM6s
namespace Go.Proofs.YtheoaijheijojaaGreatDoor
section
open Go.RowKit
end
section
open Go.RowKit
theorem take_len2 {B : ByteArray} {m : Bd} {s s' : PS} {t : Tok} (h : takeS B m s t = .ok s') : s'.js.length ≤ s.js.length + 1 ∧ (t.kind = 0 → s'.js.length = s.js.length) := by
  unfold takeS valueS keyS betweenS wrongS addS at h
  repeat' split at h
  all_goals first
    | (cases h; done)
    | (cases h; exact ⟨by simp, fun _ => rfl⟩)
    | (cases h; exact ⟨by simp, fun h0 => absurd h0 (kindS_pos (by assumption))⟩)
theorem run_len2 (B : ByteArray) (m : Bd) : ∀ f (i : Int) s s', (s.js.length : Int) ≤ i → i ≤ B.size → runF B m f i s = .ok s' → s'.js.length ≤ B.size
  | 0, i, s, s', h1, h2, h => by cases h; omega
  | f + 1, i, s, s', h1, h2, h => by
    rw [runF] at h
    obtain ⟨t, hn, h⟩ := Sc.bind_eq_ok h
    obtain ⟨s2, ht, h⟩ := Sc.bind_eq_ok h
    have hs := tok_shape hn
    have hl := take_len2 ht
    split at h
    · rename_i h0
      cases h
      have := hl.2 h0
      omega
    · exact run_len2 B m f t.to s2 s' (by omega) (by omega) h
theorem parse_len {B : ByteArray} {m : Bd} {s : PS} (h : parseS B m = .ok s) : s.js.length ≤ B.size := by
  unfold parseS at h
  split at h
  · cases h
  · exact run_len2 B m _ 0 ps0 s (Int.le_refl _) (by omega) h
end
end Go.Proofs.YtheoaijheijojaaGreatDoor
