
/- Scan4, Scan5 in one text (a claim holds at most 60 files). -/
import Derived.Test.YtbeodjipdpcaiaaGreatDoorZScan1s
import Derived.Test.YtbeodjipdpcaiaaGreatDoorZFoldWs
-- @auto
namespace Go.Proofs.YtbeodjipdpcaiaaGreatDoor
section
open Go.RowKit
/-- The bytes from a place on, so many. -/
def subB (B : ByteArray) (p n : Nat) : ByteArray := ⟨B.data.extract p (p + n)⟩
theorem subB_size (B : ByteArray) (p n : Nat) (h : p + n ≤ B.size) : (subB B p n).size = n := by
  show (B.data.extract p (p + n)).size = n
  have h' : p + n ≤ B.data.size := h
  simp; omega
theorem subB_at (B : ByteArray) (p n j : Nat) (hj : j < n) : byteAt (subB B p n) j = byteAt B (p + j) := by
  unfold byteAt subB
  simp only [Array.getElem?_extract]
  split
  · rfl
  · rename_i h
    have hz : B.data.size = B.size := rfl
    have : B.data.size ≤ p + j := by simp at h; omega
    rw [Array.getElem?_eq_none this]
theorem bytes_back (w : World) (b off n cap : Nat) (S : ByteArray) (hS : S.size = n) (hc : ∀ j, j < n → w.cell? ⟨b, off + j, none⟩ = some (.int .u8 (byteAt S j))) :
    (convert 29 9 (.slice (some ⟨b, off, none⟩) n cap)).run Tryz.prog w = .ok (.string S) w := by
  have hl : S.data.toList.length = n := by rw [Array.length_toList]; exact hS
  have := run_convert_bytes_back (P := Tryz.prog) w 29 9 5 ⟨b, off, none⟩ cap S.data.toList Tryz.underlying29 Tryz.underlying5 Tryz.underlying9 (fun j hj => by
    rw [Addr.add_lit, hc j (by omega)]
    have hj' : j < S.data.size := by rw [← Array.length_toList]; exact hj
    unfold byteAt
    rw [Array.getElem?_eq_getElem hj']; rfl)
  rwa [hl, Array.toArray_toList] at this
theorem isHex_digV (c : Nat) : isHex c = decide (digV c < 16) := by
  rw [Bool.eq_iff_iff, decide_eq_true_eq]
  simp only [isHex, isDig, Bool.or_eq_true, Bool.and_eq_true, decide_eq_true_eq]
  unfold digV
  split
  · omega
  · split
    · omega
    · split <;> omega
theorem hexV_digV {c : Nat} (h : isHex c = true) : hexV c = digV c := by
  simp only [isHex, isDig, Bool.or_eq_true, Bool.and_eq_true, decide_eq_true_eq] at h
  unfold hexV digV
  repeat' split
  all_goals omega
theorem hex1 (B : ByteArray) (p : Nat) (h : p < B.size) : numberF 16 65535 (subB B p 1) = if isHex (byteAt B p) then .ok (digV (byteAt B p)) else .no 11 0 := by
  have hs := subB_size B p 1 (by omega)
  have h0 := subB_at B p 1 0 (by omega)
  rw [Nat.add_zero] at h0
  by_cases hx : isHex (byteAt B p) = true
  · rw [if_pos hx]
    have hd : digV (byteAt B p) < 16 := by rw [isHex_digV] at hx; exact of_decide_eq_true hx
    rw [numberF_end (by omega) (fun m hm => by
      obtain rfl : m = 0 := by omega
      unfold notDigit; rw [h0]; exact decide_eq_false (by omega)), hs]
    simp only [numVal, h0, Nat.zero_mul, Nat.zero_add]
    rw [if_neg (by omega)]
  · rw [if_neg hx]
    have hd : ¬ digV (byteAt B p) < 16 := fun h => hx (by rw [isHex_digV]; exact decide_eq_true h)
    exact numberF_bad (j := 0) (by omega) (by unfold notDigit; rw [h0]; exact decide_eq_true (by omega)) (fun m hm => by omega)
theorem hex4_num (B : ByteArray) (p : Nat) (h : p + 4 ≤ B.size) (hx : ∀ k, k < 4 → isHex (byteAt B (p + k)) = true) : numberF 16 65535 (subB B p 4) = .ok (hex4 B p) ∧ hex4 B p < 65536 := by
  have hs := subB_size B p 4 h
  have hd : ∀ k, k < 4 → digV (byteAt B (p + k)) < 16 := fun k hk => by have := hx k hk; rw [isHex_digV] at this; exact of_decide_eq_true this
  have d0 := hd 0 (by omega); have d1 := hd 1 (by omega); have d2 := hd 2 (by omega); have d3 := hd 3 (by omega)
  have e0 := hexV_digV (hx 0 (by omega)); have e1 := hexV_digV (hx 1 (by omega)); have e2 := hexV_digV (hx 2 (by omega)); have e3 := hexV_digV (hx 3 (by omega))
  have s0 := subB_at B p 4 0 (by omega); have s1 := subB_at B p 4 1 (by omega); have s2 := subB_at B p 4 2 (by omega); have s3 := subB_at B p 4 3 (by omega)
  rw [Nat.add_zero] at d0 e0 s0
  have hv : numVal 16 (subB B p 4) 4 = hex4 B p := by
    simp only [numVal, s0, s1, s2, s3, hex4, e0, e1, e2, e3]
    omega
  have hlt : hex4 B p < 65536 := by unfold hex4; omega
  refine ⟨?_, hlt⟩
  rw [numberF_end (by omega) (fun m hm => by
    unfold notDigit
    rw [subB_at B p 4 m (by omega)]
    exact decide_eq_false (by have := hd m (by omega); omega)), hs, hv, if_neg (by omega)]
def UnRel (B : ByteArray) (i : Nat) (w : World) (k : Value) (wr : World) : Prop := ∃ j : Nat, k = .int .i64 ((i + j : Nat) : Int) ∧ j ≤ 6 ∧ Below w.heap.size w wr ∧ ∀ m, m < j → unitFit B i m = true
section
variable {v : Value} {B : ByteArray} {w : World}
end
end
section
open Go.RowKit
end
end Go.Proofs.YtbeodjipdpcaiaaGreatDoor
