/- Fingerprints' texts: the plain law. Nothing of the program. -/
import Derived.Test.YtmhfbdeeebbloaaDoorQuo6
import Derived.Test.YtmhfbdeeebbloaaDoorScanSh
import Derived.Test.YtmhfbdeeebbloaaDoorFold0
namespace Go.Proofs.YtmhfbdeeebbloaaDoor
open Go.RowKit
theorem prExt {B : ByteArray} {f g j : Nat} (h : f + j < g) : byteAt (B.extract f g) j = byteAt B (f + j) := by
  unfold byteAt
  rw [ByteArray.data_extract, Array.getElem?_extract]
  split
  · rfl
  · rw [Array.getElem?_eq_none (by omega)]
/-- The text of the first so many bytes. -/
def prT (f : Nat → Nat) : Nat → ByteArray
  | 0 => ⟨#[]⟩
  | j + 1 => (if 0 < j then prT f j ++ ⟨#[58]⟩ else prT f j) ++ dig2 (f j)
theorem dig2_size (n : Nat) : (dig2 n).size = 2 := rfl
theorem prT_size (f : Nat → Nat) : ∀ j, (prT f j).size = 3 * j - 1
  | 0 => rfl
  | j + 1 => by
    have ih := prT_size f j
    rw [prT, ByteArray.size_append, dig2_size]
    split
    · rw [ByteArray.size_append, ih, show (⟨#[58]⟩ : ByteArray).size = 1 from rfl]; omega
    · have : j = 0 := by omega
      subst this
      rfl
theorem hexU_lt {d : Nat} (h : d < 16) : hexU d < 256 := by unfold hexU; split <;> omega
theorem dig2_0 {n : Nat} (h : n < 256) : byteAt (dig2 n) 0 = hexU (n / 16) := by
  have h2 := hexU_lt (d := n / 16) (by omega)
  unfold byteAt dig2
  simp
  omega
theorem dig2_1 {n : Nat} (h : n < 256) : byteAt (dig2 n) 1 = hexU (n % 16) := by
  have h2 := hexU_lt (d := n % 16) (by omega)
  unfold byteAt dig2
  simp
  omega
/-- What stands at each place. -/
theorem prT_at {f : Nat → Nat} (hf : ∀ i, f i < 256) : ∀ j i, i < j → byteAt (prT f j) (3 * i) = hexU (f i / 16) ∧ byteAt (prT f j) (3 * i + 1) = hexU (f i % 16) ∧ (i + 1 < j → byteAt (prT f j) (3 * i + 2) = 58)
  | 0, i, h => by omega
  | j + 1, i, h => by
    have hz := prT_size f j
    by_cases hj : 0 < j
    · have e : prT f (j + 1) = (prT f j ++ ⟨#[58]⟩) ++ dig2 (f j) := by rw [prT, if_pos hj]
      have hz2 : (prT f j ++ ⟨#[58]⟩).size = 3 * j := by rw [ByteArray.size_append, hz, show (⟨#[58]⟩ : ByteArray).size = 1 from rfl]; omega
      rw [e]
      by_cases hij : i < j
      · obtain ⟨h1, h2, h3⟩ := prT_at hf j i hij
        refine ⟨?_, ?_, fun _ => ?_⟩
        · rw [byteAt_pre _ _ _ (by omega), byteAt_pre _ _ _ (by omega)]; exact h1
        · rw [byteAt_pre _ _ _ (by omega), byteAt_pre _ _ _ (by omega)]; exact h2
        · rw [byteAt_pre _ _ _ (by omega)]
          by_cases hl : i + 1 < j
          · rw [byteAt_pre _ _ _ (by omega)]; exact h3 hl
          · have := byteAt_app (prT f j) ⟨#[58]⟩ 0
            rw [hz, show 3 * j - 1 + 0 = 3 * i + 2 by omega] at this
            rw [this]; rfl
      · obtain rfl : i = j := by omega
        have a0 := byteAt_app (prT f i ++ ⟨#[58]⟩) (dig2 (f i)) 0
        have a1 := byteAt_app (prT f i ++ ⟨#[58]⟩) (dig2 (f i)) 1
        rw [hz2] at a0 a1
        refine ⟨?_, ?_, fun h => by omega⟩
        · rw [Nat.add_zero] at a0; rw [a0, dig2_0 (hf i)]
        · rw [a1, dig2_1 (hf i)]
    · have : j = 0 := by omega
      subst this
      obtain rfl : i = 0 := by omega
      have e : prT f 1 = ⟨#[]⟩ ++ dig2 (f 0) := rfl
      have e2 : (⟨#[]⟩ : ByteArray) ++ dig2 (f 0) = dig2 (f 0) := ByteArray.empty_append
      rw [e, e2]
      exact ⟨dig2_0 (hf 0), dig2_1 (hf 0), fun h => by omega⟩
/-- A text that tells a fingerprint. -/
structure PrOk (s : ByteArray) (f : Nat → Nat) : Prop where
  size : s.size = 95
  hi : ∀ i, i < 32 → digV (byteAt s (3 * i)) = f i / 16
  lo : ∀ i, i < 32 → digV (byteAt s (3 * i + 1)) = f i % 16
  mark : ∀ i, i < 31 → byteAt s (3 * i + 2) = 58
  lt : ∀ i, f i < 256
theorem digV_hexU : ∀ d : Fin 16, digV (hexU d.val) = d.val := by decide +kernel
theorem prT_ok {f : Nat → Nat} (hf : ∀ i, f i < 256) : PrOk (prT f 32) f := by
  refine ⟨by rw [prT_size], fun i hi => ?_, fun i hi => ?_, fun i hi => ?_, hf⟩
  · rw [(prT_at hf 32 i hi).1]; exact digV_hexU ⟨f i / 16, by have := hf i; omega⟩
  · rw [(prT_at hf 32 i hi).2.1]; exact digV_hexU ⟨f i % 16, by omega⟩
  · exact (prT_at hf 32 i (by omega)).2.2 (by omega)
/-- With small digits. -/
def lowC (c : Nat) : Nat := if 65 ≤ c ∧ c ≤ 70 then c + 32 else c
theorem digV_low : ∀ c : Fin 256, digV (lowC c.val) = digV c.val := by decide +kernel
theorem PrOk.low {s t : ByteArray} {f : Nat → Nat} (h : PrOk s f) (hz : t.size = s.size) (ht : ∀ i, i < s.size → byteAt t i = lowC (byteAt s i)) : PrOk t f := by
  have hs := h.size
  refine ⟨by rw [hz]; exact hs, fun i hi => ?_, fun i hi => ?_, fun i hi => ?_, h.lt⟩
  · rw [ht _ (by omega), digV_low ⟨byteAt s (3 * i), byteAt_lt _ _⟩]; exact h.hi i hi
  · rw [ht _ (by omega), digV_low ⟨byteAt s (3 * i + 1), byteAt_lt _ _⟩]; exact h.lo i hi
  · rw [ht _ (by omega), h.mark i hi]; rfl
/-- The test of a place and a byte. -/
def prB (i c : Nat) : Bool := if i % 3 = 2 then decide (c = 58) else decide (digV c < 16)
theorem PrOk.fits {s : ByteArray} {f : Nat → Nat} (h : PrOk s f) {m : Nat} (hm : m < s.size) : prB m (byteAt s m) = true := by
  have hs := h.size
  have e : m = 3 * (m / 3) + m % 3 := by omega
  unfold prB
  by_cases h2 : m % 3 = 2
  · rw [if_pos h2]
    have := h.mark (m / 3) (by omega)
    rw [show 3 * (m / 3) + 2 = m by omega] at this
    exact decide_eq_true this
  · rw [if_neg h2]
    have hl := h.lt (m / 3)
    by_cases h1 : m % 3 = 1
    · have := h.lo (m / 3) (by omega)
      rw [show 3 * (m / 3) + 1 = m by omega] at this
      exact decide_eq_true (by omega)
    · have := h.hi (m / 3) (by omega)
      rw [show 3 * (m / 3) = m by omega] at this
      exact decide_eq_true (by omega)
/-- Two digits are a byte. -/
theorem PrOk.pair {s : ByteArray} {f : Nat → Nat} (h : PrOk s f) {i : Nat} (hi : i < 32) : numberF 16 255 (s.extract (3 * i) (3 * i + 2)) = .ok (f i) := by
  have hs := h.size
  have hz : (s.extract (3 * i) (3 * i + 2)).size = 2 := by rw [ByteArray.size_extract]; omega
  have b0 : byteAt (s.extract (3 * i) (3 * i + 2)) 0 = byteAt s (3 * i) := by rw [prExt (by omega), Nat.add_zero]
  have b1 : byteAt (s.extract (3 * i) (3 * i + 2)) 1 = byteAt s (3 * i + 1) := by rw [prExt (by omega)]
  have hl := h.lt i
  have h0 := h.hi i hi
  have h1 := h.lo i hi
  have hv : numVal 16 (s.extract (3 * i) (3 * i + 2)) 2 = f i := by
    show (0 * 16 + digV (byteAt _ 0)) * 16 + digV (byteAt _ 1) = f i
    rw [b0, b1, h0, h1]; omega
  rw [numberF_end (by omega) (fun m hm => ?_), hz, hv, if_neg (by omega)]
  unfold notDigit
  rw [hz] at hm
  have : m = 0 ∨ m = 1 := by omega
  rcases this with rfl | rfl
  · rw [b0, h0]; exact decide_eq_false (by omega)
  · rw [b1, h1]; exact decide_eq_false (by omega)
/-- One digit. -/
theorem one_digit (c : Nat) (hc : c < 256) : (digV c < 16 → ∃ n, numberF 16 15 ⟨#[UInt8.ofNat c]⟩ = .ok n) ∧ (¬ digV c < 16 → ∃ k p, numberF 16 15 ⟨#[UInt8.ofNat c]⟩ = .no k p) := by
  have hb : byteAt ⟨#[UInt8.ofNat c]⟩ 0 = c := by
    unfold byteAt; simp; omega
  have hz : (⟨#[UInt8.ofNat c]⟩ : ByteArray).size = 1 := rfl
  refine ⟨fun h => ?_, fun h => ?_⟩
  · rw [numberF_end (by rw [hz]; decide) (fun m hm => ?_)]
    · rw [hz]
      have : numVal 16 ⟨#[UInt8.ofNat c]⟩ 1 = digV c := by
        show 0 * 16 + digV (byteAt _ 0) = _
        rw [hb]; omega
      rw [this, if_neg (by omega)]
      exact ⟨_, rfl⟩
    · rw [hz] at hm
      obtain rfl : m = 0 := by omega
      unfold notDigit
      rw [hb]; exact decide_eq_false (by omega)
  · rw [numberF_bad (j := 0) (by rw [hz]; decide) (by unfold notDigit; rw [hb]; exact decide_eq_true (by omega)) (fun m hm => by omega)]
    exact ⟨_, _, rfl⟩
end Go.Proofs.YtmhfbdeeebbloaaDoor
