/- Bytes of a text by their places; what is read, or an error and its place. Nothing of the program. -/
import Derived.Test.YtmhfbdeeebbloaaDoorLib0
namespace Go.Proofs.YtmhfbdeeebbloaaDoor
open Go.RowKit
def byteAt (s : ByteArray) (i : Nat) : Nat := (s.data[i]?.getD 0).toNat
theorem byteAt_lt (s : ByteArray) (i : Nat) : byteAt s i < 256 := UInt8.toNat_lt _
theorem byteAt_get (s : ByteArray) (i : Nat) (h : i < s.size) : byteAt s i = (s[i]'h).toNat := by
  have h' : i < s.data.size := h
  unfold byteAt; rw [Array.getElem?_eq_getElem h']; rfl
theorem byteAt_out (s : ByteArray) (i : Nat) (h : s.size ≤ i) : byteAt s i = 0 := by
  have h' : s.data.size ≤ i := h
  unfold byteAt; rw [Array.getElem?_eq_none h']; rfl
/-- What was read, or the number of an error and its place. -/
inductive Sc (α : Type) where
  | ok (a : α)
  | no (k : Nat) (i : Int)
deriving DecidableEq
def Sc.bind {α β : Type} (r : Sc α) (f : α → Sc β) : Sc β := match r with
  | .ok a => f a
  | .no k i => .no k i
@[simp] theorem Sc.bind_ok {α β : Type} (a : α) (f : α → Sc β) : (Sc.ok a).bind f = f a := rfl
@[simp] theorem Sc.bind_no {α β : Type} (k : Nat) (i : Int) (f : α → Sc β) : (Sc.no k i : Sc α).bind f = .no k i := rfl
/-- The first place from i on that does not pass. -/
def skipF (p : Nat → Bool) (B : ByteArray) : Nat → Nat → Nat
  | 0, i => i
  | f + 1, i => if i < B.size ∧ p (byteAt B i) = true then skipF p B f (i + 1) else i
def skip (p : Nat → Bool) (B : ByteArray) (i : Nat) : Nat := skipF p B (B.size - i) i
theorem skip_go {p : Nat → Bool} {B : ByteArray} {i : Nat} (h : i < B.size) (hp : p (byteAt B i) = true) : skip p B i = skip p B (i + 1) := by
  have e : B.size - i = (B.size - (i + 1)) + 1 := by omega
  unfold skip
  rw [e, skipF, if_pos ⟨h, hp⟩]
theorem skip_stop {p : Nat → Bool} {B : ByteArray} {i : Nat} (h : i < B.size → p (byteAt B i) = false) : skip p B i = i := by
  unfold skip
  cases hf : B.size - i with
  | zero => rfl
  | succ f => rw [skipF, if_neg (by rintro ⟨h1, h2⟩; rw [h h1] at h2; cases h2)]
theorem skipF_ge (p : Nat → Bool) (B : ByteArray) : ∀ f i, i ≤ skipF p B f i
  | 0, i => Nat.le_refl _
  | f + 1, i => by
    rw [skipF]; split
    · have := skipF_ge p B f (i + 1); omega
    · exact Nat.le_refl _
theorem skip_ge (p : Nat → Bool) (B : ByteArray) (i : Nat) : i ≤ skip p B i := skipF_ge _ _ _ _
theorem skipF_le (p : Nat → Bool) (B : ByteArray) : ∀ f i, i ≤ B.size → skipF p B f i ≤ B.size
  | 0, i, h => h
  | f + 1, i, h => by
    rw [skipF]; split
    · rename_i hc; exact skipF_le p B f (i + 1) hc.1
    · exact h
theorem skip_le (p : Nat → Bool) (B : ByteArray) (i : Nat) (h : i ≤ B.size) : skip p B i ≤ B.size := skipF_le _ _ _ _ h
/-- Where it stopped nothing passes; all ahead of it passed. -/
theorem skip_end (p : Nat → Bool) (B : ByteArray) : ∀ n i, B.size - i = n → skip p B i < B.size → p (byteAt B (skip p B i)) = false
  | 0, i, hn, h => by
    have := skip_ge p B i; omega
  | n + 1, i, hn, h => by
    by_cases hp : p (byteAt B i) = true
    · have hi : i < B.size := by omega
      rw [skip_go hi hp] at h ⊢
      exact skip_end p B n (i + 1) (by omega) h
    · have hp' : p (byteAt B i) = false := by simpa using hp
      rw [skip_stop (fun _ => hp')]; exact hp'
theorem skip_all (p : Nat → Bool) (B : ByteArray) : ∀ n i j, B.size - i = n → i ≤ j → j < skip p B i → p (byteAt B j) = true
  | 0, i, j, hn, h1, h2 => by
    have : skip p B i = i := skip_stop (fun h => by omega)
    omega
  | n + 1, i, j, hn, h1, h2 => by
    by_cases hp : p (byteAt B i) = true
    · rw [skip_go (by omega) hp] at h2
      by_cases e : j = i
      · subst e; exact hp
      · exact skip_all p B n (i + 1) j (by omega) (by omega) h2
    · have : skip p B i = i := skip_stop (fun _ => by simpa using hp)
      omega
/-- It is told by these. -/
theorem skip_is {p : Nat → Bool} {B : ByteArray} : ∀ n i e, e - i = n → i ≤ e → e ≤ B.size → (∀ j, i ≤ j → j < e → p (byteAt B j) = true) → (e < B.size → p (byteAt B e) = false) → skip p B i = e
  | 0, i, e, hn, h1, h2, h3, h4 => by
    obtain rfl : e = i := by omega
    exact skip_stop h4
  | n + 1, i, e, hn, h1, h2, h3, h4 => by
    rw [skip_go (by omega) (h3 i (Nat.le_refl _) (by omega))]
    exact skip_is n (i + 1) e (by omega) (by omega) h2 (fun j a b => h3 j (by omega) b) h4
/-- One of some bytes stands at a place. -/
def onAt (l : List Nat) (B : ByteArray) (i : Nat) : Bool := decide (i < B.size) && l.contains (byteAt B i)
theorem onAt_in {l : List Nat} {B : ByteArray} {i : Nat} (h : i < B.size) : onAt l B i = l.contains (byteAt B i) := by simp [onAt, h]
theorem onAt_out {l : List Nat} {B : ByteArray} {i : Nat} (h : B.size ≤ i) : onAt l B i = false := by simp [onAt]; omega
theorem onAt_lt {l : List Nat} {B : ByteArray} {i : Nat} (h : onAt l B i = true) : i < B.size := by simp [onAt] at h; exact h.1
/-- A text's bytes, as a slice has them. -/
def bytesDB (B : ByteArray) : Dat := .list 1 (B.data.toList.map fun x => Dat.int .u8 (x.toNat : Nat))
theorem Rd.by_inv {S : Nat → Prop} {w : World} {v : Value} {B : ByteArray} (h : Rd S w v (bytesDB B)) : ∃ a c, v = .slice a B.size c ∧ (a = none → B.size = 0 ∧ c = 0) ∧ B.size ≤ c ∧
    (0 < B.size → ∃ b off, a = some ⟨b, off, none⟩ ∧ S b ∧ ∀ i, i < B.size → w.cell? ⟨b, off + i, none⟩ = some (.int .u8 (byteAt B i))) := by
  obtain ⟨a, n, c, rfl, hl, hac, hnc, hc⟩ := h.list_inv
  have hs : n = B.size := by
    simp only [List.length_map, Nat.mul_one] at hl
    exact hl.symm
  subst hs
  refine ⟨a, c, rfl, hac, hnc, fun h0 => ?_⟩
  obtain ⟨b, off, rfl, hS, hcc⟩ := hc h0
  refine ⟨b, off, rfl, hS, fun i hi => ?_⟩
  obtain ⟨u, hu, hr⟩ := hcc i (by rw [hl, Nat.mul_one]; exact hi)
  have hi' : i < B.data.size := hi
  have e : (B.data.toList.map fun x => Dat.int .u8 ((x.toNat : Nat) : Int))[i]'(by simpa using hi) = Dat.int .u8 (byteAt B i) := by
    simp only [List.getElem_map, Array.getElem_toList]
    unfold byteAt; rw [Array.getElem?_eq_getElem hi']; rfl
  rw [e] at hr
  rw [hu, hr.int_inv]
end Go.Proofs.YtmhfbdeeebbloaaDoor
