/- The keys of a text that was read are no longer than four times the text. Nothing of the program. -/
import Derived.Test.YtmhfbdeeebbloaaGreatDoorZJbP0
import Derived.Test.YtmhfbdeeebbloaaGreatDoorZJsM7
namespace Go.Proofs.YtmhfbdeeebbloaaGreatDoor
open Go.RowKit
theorem textTok_size {B : ByteArray} {t : Tok} {x : ByteArray} (h : textTok B t = some x) : x.size ≤ 4 * B.size := by
  unfold textTok at h
  split at h
  · rename_i y hy
    split at h
    · rename_i hc
      split at h
      · rename_i z hz
        cases h
        have hs := tok_shape hy
        obtain ⟨rfl, h7⟩ := hc
        have := textS_len (by omega) hz
        have := strOf_le z.1
        omega
      · cases h
    · cases h
  · cases h
def KOK (K : Nat) (s : PS) : Prop := (∀ x ∈ s.js, x.key.size ≤ K) ∧ (∀ o ∈ s.stack, o.key.size ≤ K)
theorem kok_cons {K : Nat} {o : Op} {r : List Op} (h1 : o.key.size ≤ K) (h2 : ∀ p ∈ r, p.key.size ≤ K) : ∀ p ∈ o :: r, p.key.size ≤ K := fun p hp => by
  rcases List.mem_cons.1 hp with rfl | hp
  · exact h1
  · exact h2 p hp
theorem kok_after {K : Nat} {r : List Op} (h : ∀ o ∈ r, o.key.size ≤ K) : ∀ o ∈ afterS r, o.key.size ≤ K := by
  cases r with
  | nil => exact h
  | cons o r => exact kok_cons (show (aftO o).key.size ≤ K from h o (by simp)) (fun p hp => h p (by simp [hp]))
theorem kok_node {K : Nat} {B : ByteArray} {o : Op} {k : Int} {t : Tok} (h : o.key.size ≤ K) : (nodeS B o k t).key.size ≤ K := by
  unfold nodeS
  simp only
  split
  · exact h
  · exact Nat.zero_le _
theorem take_key {K : Nat} {B : ByteArray} {m : Bd} {s s' : PS} {t : Tok} (hK : ∀ t x, textTok B t = some x → x.size ≤ K) (hk : KOK K s) (h : takeS B m s t = .ok s') : KOK K s' := by
  unfold takeS at h
  cases hs : s.stack with
  | nil => rw [hs] at h; cases h; exact hk
  | cons o r =>
    rw [hs] at h
    simp only at h
    have ho : o.key.size ≤ K := hk.2 o (by rw [hs]; simp)
    have hr : ∀ p ∈ r, p.key.size ≤ K := fun p hp => hk.2 p (by rw [hs]; simp [hp])
    have hw : ∀ {a b : PS}, (wrongS t : Sc PS) = .ok b → KOK K b := fun h => by unfold wrongS at h; split at h <;> cases h
    have hv : valueS B m s o r t = .ok s' → KOK K s' := fun h => by
      unfold valueS at h
      split at h
      · exact hw (a := s) h
      · split at h
        · cases h
        · split at h
          · cases h
            exact ⟨fun x hx => by
              rcases List.mem_append.1 hx with hx | hx
              · exact hk.1 x hx
              · rw [List.mem_singleton.1 hx]; exact kok_node ho, kok_after (kok_cons ho hr)⟩
          · split at h
            · cases h
            · cases h
              exact ⟨fun x hx => by
                rcases List.mem_append.1 hx with hx | hx
                · exact hk.1 x hx
                · rw [List.mem_singleton.1 hx]; exact kok_node ho, kok_cons (Nat.zero_le _) (kok_cons ho hr)⟩
    have hy : keyS B s o r t = .ok s' → KOK K s' := fun h => by
      unfold keyS at h
      split at h
      · exact hw (a := s) h
      · split at h
        · rename_i x hx
          cases h
          exact ⟨hk.1, kok_cons (hK _ _ hx) hr⟩
        · cases h
    have hb : betweenS s o r t = .ok s' → KOK K s' := fun h => by
      unfold betweenS at h
      split at h
      · cases h; exact ⟨hk.1, kok_after hr⟩
      · split at h
        · exact hw (a := s) h
        · cases h; exact ⟨hk.1, kok_cons ho hr⟩
    split at h
    · split at h
      · cases h; exact hk
      · exact hw (a := s) h
    · split at h
      · split at h
        · cases h; exact ⟨hk.1, kok_cons ho hr⟩
        · exact hw (a := s) h
      · split at h
        · exact hb h
        · split at h
          · split at h
            · cases h; exact ⟨hk.1, kok_after hr⟩
            · split at h
              · exact hy h
              · exact hv h
          · split at h
            · exact hy h
            · exact hv h
theorem run_key {K : Nat} {B : ByteArray} {m : Bd} (hK : ∀ t x, textTok B t = some x → x.size ≤ K) : ∀ f i s s', KOK K s → runF B m f i s = .ok s' → KOK K s'
  | 0, i, s, s', hk, h => by cases h; exact hk
  | f + 1, i, s, s', hk, h => by
    rw [runF] at h
    obtain ⟨t, hn, h⟩ := Sc.bind_eq_ok h
    obtain ⟨s2, ht, h⟩ := Sc.bind_eq_ok h
    have h2 := take_key hK hk ht
    split at h
    · cases h; exact h2
    · exact run_key hK f _ s2 s' h2 h
theorem parse_key {B : ByteArray} {m : Bd} {s : PS} (h : parseS B m = .ok s) (k : Nat) : (keyA s.js k).size ≤ 4 * B.size := by
  unfold parseS at h
  split at h
  · cases h
  · have hk := run_key (K := 4 * B.size) (fun t x hx => textTok_size hx) _ _ _ _ ⟨fun x hx => by simp [ps0] at hx, fun o ho => by simp [ps0] at ho; subst ho; exact Nat.zero_le _⟩ h
    unfold keyA
    split
    · rename_i x hx
      exact hk.1 x (List.mem_of_getElem? hx)
    · exact Nat.zero_le _
end Go.Proofs.YtmhfbdeeebbloaaGreatDoor
