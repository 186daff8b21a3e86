
/- Quo0, Utf1, Quo1, Quo2 in one text (a claim holds at most 60 files). -/
import Derived.Test.YtbeodjipdpcaiaaGreatDoorZFold0s
import Derived.Test.YtbeodjipdpcaiaaGreatDoorZScan0s
-- @auto
namespace Go.Proofs.YtbeodjipdpcaiaaGreatDoor
section
open Go.RowKit
/-- The characters from a place on, or the place at which none stands. -/
def charsF (B : ByteArray) : Nat → Nat → List Nat → Sc (List Nat)
  | 0, i, acc => if i < B.size then .no 12 i else .ok acc
  | f + 1, i, acc => if i < B.size then (if decU B i = (65533, 1) then .no 12 i else charsF B f (i + (decU B i).2) (acc ++ [(decU B i).1])) else .ok acc
def charsS (B : ByteArray) (i : Nat) (acc : List Nat) : Sc (List Nat) := charsF B (B.size - i) i acc
theorem decU_size {B : ByteArray} {i : Nat} (hi : i < B.size) : 0 < (decU B i).2 ∧ i + (decU B i).2 ≤ B.size := by
  have := decodeN_size (B.size - i) (byteAt B i) (byteAt B (i + 1)) (byteAt B (i + 2)) (byteAt B (i + 3)) (by omega)
  unfold decU; omega
theorem charsF_fuel (B : ByteArray) : ∀ n f g i acc, B.size - i = n → n ≤ f → n ≤ g → charsF B f i acc = charsF B g i acc := by
  intro n
  induction n using Nat.strongRecOn with
  | ind n ih =>
    intro f g i acc hn hf hg
    by_cases hi : i < B.size
    · cases f with
      | zero => omega
      | succ f =>
        cases g with
        | zero => omega
        | succ g =>
          have hd := decU_size hi
          rw [charsF, charsF, if_pos hi, if_pos hi]
          split
          · rfl
          · exact ih (B.size - (i + (decU B i).2)) (by omega) f g _ _ rfl (by omega) (by omega)
    · cases f <;> cases g <;> simp only [charsF, if_neg hi]
theorem charsS_step {B : ByteArray} {i : Nat} {acc : List Nat} (hi : i < B.size) : charsS B i acc = if decU B i = (65533, 1) then .no 12 i else charsS B (i + (decU B i).2) (acc ++ [(decU B i).1]) := by
  have hd := decU_size hi
  unfold charsS
  cases hf : B.size - i with
  | zero => omega
  | succ f =>
    rw [charsF, if_pos hi]
    split
    · rfl
    · exact charsF_fuel B _ _ _ _ _ rfl (by omega) (by omega)
theorem charsS_end {B : ByteArray} {i : Nat} {acc : List Nat} (hi : ¬ i < B.size) : charsS B i acc = .ok acc := by
  unfold charsS
  cases B.size - i <;> simp only [charsF, if_neg hi]
/-- A right character: its bytes are those that stand there. -/
theorem dec_ok {B : ByteArray} {i : Nat} (hi : i < B.size) (h : decU B i ≠ (65533, 1)) : ∃ k, 1 ≤ k ∧ k ≤ 4 ∧ i + k ≤ B.size ∧ hitN (byteAt B i) (byteAt B (i + 1)) (byteAt B (i + 2)) (byteAt B (i + 3)) k = true := by
  by_cases hx : ∃ k, 1 ≤ k ∧ k ≤ 4 ∧ k ≤ B.size - i ∧ hitN (byteAt B i) (byteAt B (i + 1)) (byteAt B (i + 2)) (byteAt B (i + 3)) k = true
  · obtain ⟨k, h1, h2, h3, h4⟩ := hx
    exact ⟨k, h1, h2, by omega, h4⟩
  · exfalso
    apply h
    exact decode_none (byteAt_lt B i) (byteAt_lt B (i + 1)) (byteAt_lt B (i + 2)) (B.size - i) (by omega) (fun k h1 h2 h3 => by
      cases hh : hitN (byteAt B i) (byteAt B (i + 1)) (byteAt B (i + 2)) (byteAt B (i + 3)) k with
      | false => rfl
      | true => exact absurd ⟨k, h1, h2, h3, hh⟩ hx)
theorem dec_hit {B : ByteArray} {i k : Nat} (h1 : 1 ≤ k) (h4 : k ≤ 4) (hk : i + k ≤ B.size) (hh : hitN (byteAt B i) (byteAt B (i + 1)) (byteAt B (i + 2)) (byteAt B (i + 3)) k = true) :
    decU B i = ((guessN (byteAt B i) (byteAt B (i + 1)) (byteAt B (i + 2)) (byteAt B (i + 3)) k).toNat, k) ∧ decU B i ≠ (65533, 1) ∧ putN (decU B i).1 = [byteAt B i, byteAt B (i + 1), byteAt B (i + 2), byteAt B (i + 3)].take k := by
  obtain ⟨e1, e2⟩ := decode_hit (byteAt_lt B i) (byteAt_lt B (i + 1)) (byteAt_lt B (i + 2)) (B.size - i) (by omega) k h1 h4 (by omega) hh
  have e : decU B i = ((guessN (byteAt B i) (byteAt B (i + 1)) (byteAt B (i + 2)) (byteAt B (i + 3)) k).toNat, k) := e1
  refine ⟨e, by rw [e]; exact e2, ?_⟩
  rw [e]
  unfold hitN at hh
  simp only [Bool.and_eq_true, beq_iff_eq] at hh
  exact hh.2
/-! ### A byte in a token -/
def hexU (d : Nat) : Nat := if d < 10 then 48 + d else 55 + d
def bytesN (B : ByteArray) : List Nat := B.data.toList.map (·.toNat)
end
section
open Go.RowKit
/-- The bytes of characters. -/
def strOf (acc : List Nat) : ByteArray := ⟨((acc.flatMap putN).map UInt8.ofNat).toArray⟩
def AllRight (acc : List Nat) : Prop := ∀ c ∈ acc, rightN (c : Int) = true
theorem AllRight.snoc {acc : List Nat} {c : Nat} (h : AllRight acc) (hc : rightN (c : Int) = true) : AllRight (acc ++ [c]) := by
  intro x hx
  rw [List.mem_append] at hx
  rcases hx with hx | hx
  · exact h x hx
  · rw [List.mem_singleton.1 hx]; exact hc
theorem right_lt {c : Nat} (h : rightN (c : Int) = true) : c < 1114112 := by
  have := (right_iff _).1 h; omega
theorem AllRight.take {acc : List Nat} (h : AllRight acc) (j : Nat) : AllRight (acc.take j) := fun c hc => h c (List.mem_of_mem_take hc)
theorem bytesN_len (B : ByteArray) : (bytesN B).length = B.size := by
  show (B.data.toList.map (·.toNat)).length = B.data.size
  simp
theorem bytesN_get {B : ByteArray} {i : Nat} (hi : i < B.size) : (bytesN B)[i]? = some (byteAt B i) := by
  have hd : i < B.data.size := hi
  unfold bytesN byteAt
  rw [List.getElem?_map, Array.getElem?_toList, Array.getElem?_eq_getElem hd]; rfl
theorem put_dec {Q : ByteArray} {p c : Nat} (hc : rightN (c : Int) = true) (hp : ∀ m x, (putN c)[m]? = some x → byteAt Q (p + m) = x) (hz : p + (putN c).length ≤ Q.size) : decU Q p = (c, (putN c).length) ∧ decU Q p ≠ (65533, 1) := by
  have hr := (right_iff _).1 hc
  have key : ∀ k, (putN c).length = k → 1 ≤ k → k ≤ 4 → guessN (byteAt Q p) (byteAt Q (p + 1)) (byteAt Q (p + 2)) (byteAt Q (p + 3)) k = (c : Int) → putN c = [byteAt Q p, byteAt Q (p + 1), byteAt Q (p + 2), byteAt Q (p + 3)].take k → decU Q p = (c, k) ∧ decU Q p ≠ (65533, 1) := by
    intro k hk h1 h4 hg hl
    have hh : hitN (byteAt Q p) (byteAt Q (p + 1)) (byteAt Q (p + 2)) (byteAt Q (p + 3)) k = true := by
      unfold hitN
      rw [hg, hc, Int.toNat_natCast, hl]
      simp
    obtain ⟨e1, e2, _⟩ := dec_hit h1 h4 (by omega) hh
    rw [hg, Int.toNat_natCast] at e1
    exact ⟨e1, e2⟩
  by_cases h1 : c < 128
  · have e : putN c = [c] := by unfold putN; rw [if_pos h1]
    have b0 := hp 0 c (by rw [e]; rfl)
    rw [Nat.add_zero] at b0
    rw [e]
    exact key 1 (by rw [e]; rfl) (by omega) (by omega) (by rw [guess1]; omega) (by rw [e]; simp; omega)
  · by_cases h2 : c < 2048
    · have e : putN c = [192 + c / 64, 128 + c % 64] := by unfold putN; rw [if_neg h1, if_pos h2]
      have b0 := hp 0 _ (by rw [e]; rfl)
      have b1 := hp 1 _ (by rw [e]; rfl)
      rw [Nat.add_zero] at b0
      rw [e]
      exact key 2 (by rw [e]; rfl) (by omega) (by omega) (by rw [guess2]; omega) (by rw [e, b0, b1]; simp)
    · by_cases h3 : c < 65536
      · have e : putN c = [224 + c / 4096, 128 + c / 64 % 64, 128 + c % 64] := by unfold putN; rw [if_neg h1, if_neg h2, if_pos h3]
        have b0 := hp 0 _ (by rw [e]; rfl)
        have b1 := hp 1 _ (by rw [e]; rfl)
        have b2 := hp 2 _ (by rw [e]; rfl)
        rw [Nat.add_zero] at b0
        rw [e]
        exact key 3 (by rw [e]; rfl) (by omega) (by omega) (by rw [guess3]; omega) (by rw [e, b0, b1, b2]; simp)
      · have e : putN c = [240 + c / 262144, 128 + c / 4096 % 64, 128 + c / 64 % 64, 128 + c % 64] := by unfold putN; rw [if_neg h1, if_neg h2, if_neg h3]
        have b0 := hp 0 _ (by rw [e]; rfl)
        have b1 := hp 1 _ (by rw [e]; rfl)
        have b2 := hp 2 _ (by rw [e]; rfl)
        have b3 := hp 3 _ (by rw [e]; rfl)
        rw [Nat.add_zero] at b0
        rw [e]
        exact key 4 (by rw [e]; rfl) (by omega) (by omega) (by rw [guess4]; omega) (by rw [e, b0, b1, b2, b3]; simp)
theorem putN_pos (c : Nat) : 0 < (putN c).length := by
  unfold putN; split
  · simp
  · split
    · simp
    · split <;> simp
theorem charsS_puts {Q : ByteArray} : ∀ (cs : List Nat) (p : Nat) (acc : List Nat), AllRight cs → (∀ m x, (cs.flatMap putN)[m]? = some x → byteAt Q (p + m) = x) → Q.size = p + (cs.flatMap putN).length → charsS Q p acc = .ok (acc ++ cs)
  | [], p, acc, _, _, hz => by rw [charsS_end (by simp at hz; omega), List.append_nil]
  | c :: cs, p, acc, ha, hp, hz => by
    rw [List.flatMap_cons, List.length_append] at hz
    have hpos := putN_pos c
    obtain ⟨e1, e2⟩ := put_dec (Q := Q) (p := p) (c := c) (ha c (by simp)) (fun m x hx => hp m x (by
      rw [List.flatMap_cons, List.getElem?_append_left (List.getElem?_eq_some_iff.1 hx).1]; exact hx)) (by omega)
    rw [charsS_step (by omega), if_neg e2, e1]
    have := charsS_puts cs (p + (putN c).length) (acc ++ [c]) (fun x hx => ha x (by simp [hx])) (fun m x hx => by
      have := hp ((putN c).length + m) x (by rw [List.flatMap_cons, List.getElem?_append_right (by omega), Nat.add_sub_cancel_left]; exact hx)
      rw [Nat.add_assoc]; exact this) (by omega)
    rw [this]; simp
theorem chars_put {B : ByteArray} : ∀ n i acc cs, B.size - i = n → i ≤ B.size → charsS B i acc = .ok cs → cs.flatMap putN = acc.flatMap putN ++ (bytesN B).drop i := by
  intro n
  induction n using Nat.strongRecOn with
  | ind n ih =>
    intro i acc cs hn hi h
    by_cases hlt : i < B.size
    · rw [charsS_step hlt] at h
      by_cases hd : decU B i = (65533, 1)
      · rw [if_pos hd] at h; cases h
      · rw [if_neg hd] at h
        have hz := decU_size hlt
        have ih2 := ih (B.size - (i + (decU B i).2)) (by omega) (i + (decU B i).2) _ cs rfl hz.2 h
        obtain ⟨k, k1, k4, kz, hh⟩ := dec_ok hlt hd
        obtain ⟨e, _, hp⟩ := dec_hit k1 k4 kz hh
        have hk2 : (decU B i).2 = k := by rw [e]
        rw [ih2, List.flatMap_append, hk2]
        simp only [List.flatMap_cons, List.flatMap_nil, List.append_nil, List.append_assoc]
        rw [hp]
        congr 1
        have key : ∀ j, (h : i + j ≤ B.size) → j ≤ k → [byteAt B i, byteAt B (i + 1), byteAt B (i + 2), byteAt B (i + 3)].take j ++ (bytesN B).drop (i + j) = (bytesN B).drop i := by
          intro j
          induction j with
          | zero => intro _ _; rfl
          | succ j ihj =>
            intro h1 h2
            rw [← ihj (by omega) (by omega)]
            have hjl : i + j < (bytesN B).length := by rw [bytesN_len]; omega
            have hg : (bytesN B)[i + j] = byteAt B (i + j) := by
              have := bytesN_get (B := B) (i := i + j) (by omega)
              rw [List.getElem?_eq_getElem hjl] at this
              exact Option.some.inj this
            rw [List.drop_eq_getElem_cons hjl, hg]
            have hc : j = 0 ∨ j = 1 ∨ j = 2 ∨ j = 3 := by omega
            rcases hc with rfl | rfl | rfl | rfl <;> simp [Nat.add_assoc]
        exact key k kz (Nat.le_refl _)
    · rw [charsS_end hlt] at h
      cases h
      rw [List.drop_of_length_le (by rw [bytesN_len]; omega)]; simp
end
section
open Go.RowKit
end
section
open Go.RowKit
end
end Go.Proofs.YtbeodjipdpcaiaaGreatDoor
