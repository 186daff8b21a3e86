/- Quo0, Utf1, Quo1, Quo2 in one text (a claim holds at most 60 files). -/
import Derived.Test.YtheoaijheijojaaGreatDoorZFold0s
import Derived.Test.YtheoaijheijojaaGreatDoorZScan0s
namespace Go.Proofs.YtheoaijheijojaaGreatDoor
section
open Go.RowKit
/-- The characters from a place on, or the place at which none stands. -/
def charsF (B : ByteArray) : Nat → Nat → List Nat → Sc (List Nat)
  | 0, i, acc => if i < B.size then .no 12 i else .ok acc
  | f + 1, i, acc => if i < B.size then (if decU B i = (65533, 1) then .no 12 i else charsF B f (i + (decU B i).2) (acc ++ [(decU B i).1])) else .ok acc
def charsS (B : ByteArray) (i : Nat) (acc : List Nat) : Sc (List Nat) := charsF B (B.size - i) i acc
theorem decU_size {B : ByteArray} {i : Nat} (hi : i < B.size) : 0 < (decU B i).2 ∧ i + (decU B i).2 ≤ B.size := by
  have := decodeN_size (B.size - i) (byteAt B i) (byteAt B (i + 1)) (byteAt B (i + 2)) (byteAt B (i + 3)) (by omega)
  unfold decU; omega
theorem charsF_fuel (B : ByteArray) : ∀ n f g i acc, B.size - i = n → n ≤ f → n ≤ g → charsF B f i acc = charsF B g i acc := by
  intro n
  induction n using Nat.strongRecOn with
  | ind n ih =>
    intro f g i acc hn hf hg
    by_cases hi : i < B.size
    · cases f with
      | zero => omega
      | succ f =>
        cases g with
        | zero => omega
        | succ g =>
          have hd := decU_size hi
          rw [charsF, charsF, if_pos hi, if_pos hi]
          split
          · rfl
          · exact ih (B.size - (i + (decU B i).2)) (by omega) f g _ _ rfl (by omega) (by omega)
    · cases f <;> cases g <;> simp only [charsF, if_neg hi]
theorem charsS_step {B : ByteArray} {i : Nat} {acc : List Nat} (hi : i < B.size) : charsS B i acc = if decU B i = (65533, 1) then .no 12 i else charsS B (i + (decU B i).2) (acc ++ [(decU B i).1]) := by
  have hd := decU_size hi
  unfold charsS
  cases hf : B.size - i with
  | zero => omega
  | succ f =>
    rw [charsF, if_pos hi]
    split
    · rfl
    · exact charsF_fuel B _ _ _ _ _ rfl (by omega) (by omega)
theorem charsS_end {B : ByteArray} {i : Nat} {acc : List Nat} (hi : ¬ i < B.size) : charsS B i acc = .ok acc := by
  unfold charsS
  cases B.size - i <;> simp only [charsF, if_neg hi]
/-- A right character: its bytes are those that stand there. -/
theorem dec_ok {B : ByteArray} {i : Nat} (hi : i < B.size) (h : decU B i ≠ (65533, 1)) : ∃ k, 1 ≤ k ∧ k ≤ 4 ∧ i + k ≤ B.size ∧ hitN (byteAt B i) (byteAt B (i + 1)) (byteAt B (i + 2)) (byteAt B (i + 3)) k = true := by
  by_cases hx : ∃ k, 1 ≤ k ∧ k ≤ 4 ∧ k ≤ B.size - i ∧ hitN (byteAt B i) (byteAt B (i + 1)) (byteAt B (i + 2)) (byteAt B (i + 3)) k = true
  · obtain ⟨k, h1, h2, h3, h4⟩ := hx
    exact ⟨k, h1, h2, by omega, h4⟩
  · exfalso
    apply h
    exact decode_none (byteAt_lt B i) (byteAt_lt B (i + 1)) (byteAt_lt B (i + 2)) (B.size - i) (by omega) (fun k h1 h2 h3 => by
      cases hh : hitN (byteAt B i) (byteAt B (i + 1)) (byteAt B (i + 2)) (byteAt B (i + 3)) k with
      | false => rfl
      | true => exact absurd ⟨k, h1, h2, h3, hh⟩ hx)
theorem dec_hit {B : ByteArray} {i k : Nat} (h1 : 1 ≤ k) (h4 : k ≤ 4) (hk : i + k ≤ B.size) (hh : hitN (byteAt B i) (byteAt B (i + 1)) (byteAt B (i + 2)) (byteAt B (i + 3)) k = true) :
    decU B i = ((guessN (byteAt B i) (byteAt B (i + 1)) (byteAt B (i + 2)) (byteAt B (i + 3)) k).toNat, k) ∧ decU B i ≠ (65533, 1) ∧ putN (decU B i).1 = [byteAt B i, byteAt B (i + 1), byteAt B (i + 2), byteAt B (i + 3)].take k := by
  obtain ⟨e1, e2⟩ := decode_hit (byteAt_lt B i) (byteAt_lt B (i + 1)) (byteAt_lt B (i + 2)) (B.size - i) (by omega) k h1 h4 (by omega) hh
  have e : decU B i = ((guessN (byteAt B i) (byteAt B (i + 1)) (byteAt B (i + 2)) (byteAt B (i + 3)) k).toNat, k) := e1
  refine ⟨e, by rw [e]; exact e2, ?_⟩
  rw [e]
  unfold hitN at hh
  simp only [Bool.and_eq_true, beq_iff_eq] at hh
  exact hh.2
/-- The same bytes stand for the same character, wherever they are. -/
theorem hit_local {b0 b1 b2 b3 c1 c2 c3 k : Nat} (h1 : 1 ≤ k) (h4 : k ≤ 4) (e1 : 1 < k → c1 = b1) (e2 : 2 < k → c2 = b2) (e3 : 3 < k → c3 = b3) : hitN b0 c1 c2 c3 k = hitN b0 b1 b2 b3 k ∧ guessN b0 c1 c2 c3 k = guessN b0 b1 b2 b3 k := by
  have hk : k = 1 ∨ k = 2 ∨ k = 3 ∨ k = 4 := by omega
  rcases hk with rfl | rfl | rfl | rfl
  · exact ⟨rfl, rfl⟩
  · rw [e1 (by omega)]; exact ⟨rfl, rfl⟩
  · rw [e1 (by omega), e2 (by omega)]; exact ⟨rfl, rfl⟩
  · rw [e1 (by omega), e2 (by omega), e3 (by omega)]; exact ⟨rfl, rfl⟩
theorem dec_local {B Q : ByteArray} {i p : Nat} (hi : i < B.size) (h : decU B i ≠ (65533, 1)) (hs : p + (decU B i).2 ≤ Q.size) (hb : ∀ m, m < (decU B i).2 → byteAt Q (p + m) = byteAt B (i + m)) : decU Q p = decU B i := by
  obtain ⟨k, h1, h4, hk, hh⟩ := dec_ok hi h
  obtain ⟨e, _, _⟩ := dec_hit h1 h4 hk hh
  have hk2 : (decU B i).2 = k := by rw [e]
  rw [hk2] at hs hb
  have b0 : byteAt Q p = byteAt B i := hb 0 (by omega)
  obtain ⟨l1, l2⟩ := hit_local (b0 := byteAt B i) (b1 := byteAt B (i + 1)) (b2 := byteAt B (i + 2)) (b3 := byteAt B (i + 3)) (c1 := byteAt Q (p + 1)) (c2 := byteAt Q (p + 2)) (c3 := byteAt Q (p + 3)) h1 h4 (fun h => hb 1 h) (fun h => hb 2 h) (fun h => hb 3 h)
  have hq : hitN (byteAt Q p) (byteAt Q (p + 1)) (byteAt Q (p + 2)) (byteAt Q (p + 3)) k = true := by rw [b0, l1]; exact hh
  obtain ⟨eq, _, _⟩ := dec_hit h1 h4 hs hq
  rw [eq, e, b0, l2]
/-! ### A byte in a token -/
def valL : List Nat := [34, 92, 8, 12, 10, 13, 9]
def namL : List Nat := [34, 92, 98, 102, 110, 114, 116]
def hexU (d : Nat) : Nat := if d < 10 then 48 + d else 55 + d
def escB (c : Nat) : List Nat := if valL.contains c then [92, namL[valL.idxOf c]?.getD 0] else if c < 32 then [92, 117, 48, 48, hexU (c / 16), hexU (c % 16)] else [c]
theorem escB_len (c : Nat) : 1 ≤ (escB c).length ∧ (escB c).length ≤ 6 := by unfold escB; split <;> (try split) <;> simp
theorem escB_plain : ∀ c : Fin 256, 32 ≤ c.val → c.val ≠ 34 → c.val ≠ 92 → escB c.val = [c.val] := by decide +kernel
theorem escB_short : ∀ c : Fin 256, valL.contains c.val = true → ∃ x : Fin 256, escB c.val = [92, x.val] ∧ x.val ≠ 117 ∧ simpleS x.val = some c.val := by decide +kernel
theorem escB_unit : ∀ c : Fin 256, valL.contains c.val = false → c.val < 32 → escB c.val = [92, 117, 48, 48, hexU (c.val / 16), hexU (c.val % 16)] ∧ isHex (hexU (c.val / 16)) = true ∧ isHex (hexU (c.val % 16)) = true ∧ 16 * hexV (hexU (c.val / 16)) + hexV (hexU (c.val % 16)) = c.val := by decide +kernel
theorem escB_great : ∀ c : Fin 256, 128 ≤ c.val → escB c.val = [c.val] := by decide +kernel
def bytesN (B : ByteArray) : List Nat := B.data.toList.map (·.toNat)
def quoteL (B : ByteArray) : List Nat := 34 :: ((bytesN B).flatMap escB ++ [34])
def quoteB (B : ByteArray) : ByteArray := ⟨((quoteL B).map UInt8.ofNat).toArray⟩
/-- The place at which the i-th byte's text begins. -/
def offQ (B : ByteArray) (i : Nat) : Nat := 1 + (((bytesN B).take i).flatMap escB).length
end
section
open Go.RowKit
/-- The bytes of characters. -/
def strOf (acc : List Nat) : ByteArray := ⟨((acc.flatMap putN).map UInt8.ofNat).toArray⟩
def AllRight (acc : List Nat) : Prop := ∀ c ∈ acc, rightN (c : Int) = true
theorem AllRight.snoc {acc : List Nat} {c : Nat} (h : AllRight acc) (hc : rightN (c : Int) = true) : AllRight (acc ++ [c]) := by
  intro x hx
  rw [List.mem_append] at hx
  rcases hx with hx | hx
  · exact h x hx
  · rw [List.mem_singleton.1 hx]; exact hc
theorem right_lt {c : Nat} (h : rightN (c : Int) = true) : c < 1114112 := by
  have := (right_iff _).1 h; omega
theorem putN_len (n : Nat) : (putN n).length ≤ 4 := by
  unfold putN; split
  · simp
  · split
    · simp
    · split <;> simp
theorem strOf_size (acc : List Nat) : (strOf acc).size = (acc.flatMap putN).length := by
  show ((acc.flatMap putN).map UInt8.ofNat).toArray.size = _
  simp
theorem AllRight.take {acc : List Nat} (h : AllRight acc) (j : Nat) : AllRight (acc.take j) := fun c hc => h c (List.mem_of_mem_take hc)
theorem AllRight.get {acc : List Nat} (h : AllRight acc) {j : Nat} (hj : j < acc.length) : rightN (acc[j] : Int) = true := h _ (List.getElem_mem hj)
theorem bytesN_len (B : ByteArray) : (bytesN B).length = B.size := by
  show (B.data.toList.map (·.toNat)).length = B.data.size
  simp
theorem bytesN_get {B : ByteArray} {i : Nat} (hi : i < B.size) : (bytesN B)[i]? = some (byteAt B i) := by
  have hd : i < B.data.size := hi
  unfold bytesN byteAt
  rw [List.getElem?_map, Array.getElem?_toList, Array.getElem?_eq_getElem hd]; rfl
theorem put_dec {Q : ByteArray} {p c : Nat} (hc : rightN (c : Int) = true) (hp : ∀ m x, (putN c)[m]? = some x → byteAt Q (p + m) = x) (hz : p + (putN c).length ≤ Q.size) : decU Q p = (c, (putN c).length) ∧ decU Q p ≠ (65533, 1) := by
  have hr := (right_iff _).1 hc
  have key : ∀ k, (putN c).length = k → 1 ≤ k → k ≤ 4 → guessN (byteAt Q p) (byteAt Q (p + 1)) (byteAt Q (p + 2)) (byteAt Q (p + 3)) k = (c : Int) → putN c = [byteAt Q p, byteAt Q (p + 1), byteAt Q (p + 2), byteAt Q (p + 3)].take k → decU Q p = (c, k) ∧ decU Q p ≠ (65533, 1) := by
    intro k hk h1 h4 hg hl
    have hh : hitN (byteAt Q p) (byteAt Q (p + 1)) (byteAt Q (p + 2)) (byteAt Q (p + 3)) k = true := by
      unfold hitN
      rw [hg, hc, Int.toNat_natCast, hl]
      simp
    obtain ⟨e1, e2, _⟩ := dec_hit h1 h4 (by omega) hh
    rw [hg, Int.toNat_natCast] at e1
    exact ⟨e1, e2⟩
  by_cases h1 : c < 128
  · have e : putN c = [c] := by unfold putN; rw [if_pos h1]
    have b0 := hp 0 c (by rw [e]; rfl)
    rw [Nat.add_zero] at b0
    rw [e]
    exact key 1 (by rw [e]; rfl) (by omega) (by omega) (by rw [guess1]; omega) (by rw [e]; simp; omega)
  · by_cases h2 : c < 2048
    · have e : putN c = [192 + c / 64, 128 + c % 64] := by unfold putN; rw [if_neg h1, if_pos h2]
      have b0 := hp 0 _ (by rw [e]; rfl)
      have b1 := hp 1 _ (by rw [e]; rfl)
      rw [Nat.add_zero] at b0
      rw [e]
      exact key 2 (by rw [e]; rfl) (by omega) (by omega) (by rw [guess2]; omega) (by rw [e, b0, b1]; simp)
    · by_cases h3 : c < 65536
      · have e : putN c = [224 + c / 4096, 128 + c / 64 % 64, 128 + c % 64] := by unfold putN; rw [if_neg h1, if_neg h2, if_pos h3]
        have b0 := hp 0 _ (by rw [e]; rfl)
        have b1 := hp 1 _ (by rw [e]; rfl)
        have b2 := hp 2 _ (by rw [e]; rfl)
        rw [Nat.add_zero] at b0
        rw [e]
        exact key 3 (by rw [e]; rfl) (by omega) (by omega) (by rw [guess3]; omega) (by rw [e, b0, b1, b2]; simp)
      · have e : putN c = [240 + c / 262144, 128 + c / 4096 % 64, 128 + c / 64 % 64, 128 + c % 64] := by unfold putN; rw [if_neg h1, if_neg h2, if_neg h3]
        have b0 := hp 0 _ (by rw [e]; rfl)
        have b1 := hp 1 _ (by rw [e]; rfl)
        have b2 := hp 2 _ (by rw [e]; rfl)
        have b3 := hp 3 _ (by rw [e]; rfl)
        rw [Nat.add_zero] at b0
        rw [e]
        exact key 4 (by rw [e]; rfl) (by omega) (by omega) (by rw [guess4]; omega) (by rw [e, b0, b1, b2, b3]; simp)
theorem putN_pos (c : Nat) : 0 < (putN c).length := by
  unfold putN; split
  · simp
  · split
    · simp
    · split <;> simp
theorem charsS_puts {Q : ByteArray} : ∀ (cs : List Nat) (p : Nat) (acc : List Nat), AllRight cs → (∀ m x, (cs.flatMap putN)[m]? = some x → byteAt Q (p + m) = x) → Q.size = p + (cs.flatMap putN).length → charsS Q p acc = .ok (acc ++ cs)
  | [], p, acc, _, _, hz => by rw [charsS_end (by simp at hz; omega), List.append_nil]
  | c :: cs, p, acc, ha, hp, hz => by
    rw [List.flatMap_cons, List.length_append] at hz
    have hpos := putN_pos c
    obtain ⟨e1, e2⟩ := put_dec (Q := Q) (p := p) (c := c) (ha c (by simp)) (fun m x hx => hp m x (by
      rw [List.flatMap_cons, List.getElem?_append_left (List.getElem?_eq_some_iff.1 hx).1]; exact hx)) (by omega)
    rw [charsS_step (by omega), if_neg e2, e1]
    have := charsS_puts cs (p + (putN c).length) (acc ++ [c]) (fun x hx => ha x (by simp [hx])) (fun m x hx => by
      have := hp ((putN c).length + m) x (by rw [List.flatMap_cons, List.getElem?_append_right (by omega), Nat.add_sub_cancel_left]; exact hx)
      rw [Nat.add_assoc]; exact this) (by omega)
    rw [this]; simp
theorem chars_put {B : ByteArray} : ∀ n i acc cs, B.size - i = n → i ≤ B.size → charsS B i acc = .ok cs → cs.flatMap putN = acc.flatMap putN ++ (bytesN B).drop i := by
  intro n
  induction n using Nat.strongRecOn with
  | ind n ih =>
    intro i acc cs hn hi h
    by_cases hlt : i < B.size
    · rw [charsS_step hlt] at h
      by_cases hd : decU B i = (65533, 1)
      · rw [if_pos hd] at h; cases h
      · rw [if_neg hd] at h
        have hz := decU_size hlt
        have ih2 := ih (B.size - (i + (decU B i).2)) (by omega) (i + (decU B i).2) _ cs rfl hz.2 h
        obtain ⟨k, k1, k4, kz, hh⟩ := dec_ok hlt hd
        obtain ⟨e, _, hp⟩ := dec_hit k1 k4 kz hh
        have hk2 : (decU B i).2 = k := by rw [e]
        rw [ih2, List.flatMap_append, hk2]
        simp only [List.flatMap_cons, List.flatMap_nil, List.append_nil, List.append_assoc]
        rw [hp]
        congr 1
        have key : ∀ j, (h : i + j ≤ B.size) → j ≤ k → [byteAt B i, byteAt B (i + 1), byteAt B (i + 2), byteAt B (i + 3)].take j ++ (bytesN B).drop (i + j) = (bytesN B).drop i := by
          intro j
          induction j with
          | zero => intro _ _; rfl
          | succ j ihj =>
            intro h1 h2
            rw [← ihj (by omega) (by omega)]
            have hjl : i + j < (bytesN B).length := by rw [bytesN_len]; omega
            have hg : (bytesN B)[i + j] = byteAt B (i + j) := by
              have := bytesN_get (B := B) (i := i + j) (by omega)
              rw [List.getElem?_eq_getElem hjl] at this
              exact Option.some.inj this
            rw [List.drop_eq_getElem_cons hjl, hg]
            have hc : j = 0 ∨ j = 1 ∨ j = 2 ∨ j = 3 := by omega
            rcases hc with rfl | rfl | rfl | rfl <;> simp [Nat.add_assoc]
        exact key k kz (Nat.le_refl _)
    · rw [charsS_end hlt] at h
      cases h
      rw [List.drop_of_length_le (by rw [bytesN_len]; omega)]; simp
end
section
open Go.RowKit
theorem escB_lt : ∀ c : Fin 256, ∀ x ∈ escB c.val, x < 256 := by decide +kernel
theorem quoteL_lt (B : ByteArray) : ∀ x ∈ quoteL B, x < 256 := by
  intro x hx
  unfold quoteL at hx
  rcases List.mem_cons.1 hx with rfl | hx
  · decide
  · rcases List.mem_append.1 hx with hx | hx
    · obtain ⟨c, hc, hx⟩ := List.mem_flatMap.1 hx
      obtain ⟨u, _, rfl⟩ := List.mem_map.1 hc
      exact escB_lt ⟨u.toNat, UInt8.toNat_lt u⟩ x hx
    · rw [List.mem_singleton.1 hx]; decide
theorem quoteB_size (B : ByteArray) : (quoteB B).size = (quoteL B).length := by
  show ((quoteL B).map UInt8.ofNat).toArray.size = _
  simp
theorem quoteB_at {B : ByteArray} {p x : Nat} (h : (quoteL B)[p]? = some x) : byteAt (quoteB B) p = x := by
  have hx := quoteL_lt B x (List.mem_of_getElem? h)
  unfold byteAt quoteB
  simp only [List.getElem?_toArray, List.getElem?_map, h, Option.map_some, Option.getD_some]
  simp; omega
theorem offQ_zero (B : ByteArray) : offQ B 0 = 1 := by simp [offQ]
theorem take_more {B : ByteArray} {i : Nat} (hi : i < B.size) : (bytesN B).take (i + 1) = (bytesN B).take i ++ [byteAt B i] := by
  rw [List.take_add_one, bytesN_get hi]; rfl
theorem offQ_next {B : ByteArray} {i : Nat} (hi : i < B.size) : offQ B (i + 1) = offQ B i + (escB (byteAt B i)).length := by
  unfold offQ
  rw [take_more hi, List.flatMap_append, List.length_append]
  simp; omega
theorem offQ_end (B : ByteArray) : (quoteB B).size = offQ B B.size + 1 := by
  rw [quoteB_size]
  unfold offQ quoteL
  rw [List.take_of_length_le (by rw [bytesN_len]; exact Nat.le_refl _)]
  simp; omega
theorem quoteL_split {B : ByteArray} {i : Nat} (hi : i < B.size) : quoteL B = (34 :: ((bytesN B).take i).flatMap escB) ++ (escB (byteAt B i) ++ (((bytesN B).drop (i + 1)).flatMap escB ++ [34])) := by
  unfold quoteL
  conv => lhs; rw [← List.take_append_drop (i + 1) (bytesN B), List.flatMap_append, take_more hi, List.flatMap_append]
  simp
theorem quote_at {B : ByteArray} {i m x : Nat} (hi : i < B.size) (hx : (escB (byteAt B i))[m]? = some x) : byteAt (quoteB B) (offQ B i + m) = x := by
  have hm := (List.getElem?_eq_some_iff.1 hx).1
  apply quoteB_at
  rw [quoteL_split hi]
  have hl : (34 :: ((bytesN B).take i).flatMap escB).length = offQ B i := by unfold offQ; simp; omega
  rw [List.getElem?_append_right (by omega), hl, Nat.add_sub_cancel_left, List.getElem?_append_left hm]
  exact hx
theorem quote_last (B : ByteArray) : byteAt (quoteB B) (offQ B B.size) = 34 := by
  apply quoteB_at
  unfold quoteL offQ
  rw [List.take_of_length_le (by rw [bytesN_len]; exact Nat.le_refl _)]
  rw [Nat.add_comm, List.getElem?_cons_succ, List.getElem?_append_right (Nat.le_refl _), Nat.sub_self]; rfl
theorem offQ_mono {B : ByteArray} {i : Nat} (hi : i ≤ B.size) : offQ B i ≤ offQ B B.size := by
  obtain ⟨d, hd⟩ : ∃ d, B.size = i + d := ⟨B.size - i, by omega⟩
  have : ∀ d, i + d ≤ B.size → offQ B i ≤ offQ B (i + d) := by
    intro d
    induction d with
    | zero => intro _; exact Nat.le_refl _
    | succ d ih =>
      intro h
      have h1 := ih (by omega)
      have h2 := offQ_next (B := B) (i := i + d) (by omega)
      show offQ B i ≤ offQ B (i + d + 1)
      omega
  rw [hd]; exact this d (by omega)
/-- A character of several bytes stands in the token as it is. -/
theorem great_run {B : ByteArray} {i : Nat} : ∀ n, i + n ≤ B.size → (∀ m, m < n → 128 ≤ byteAt B (i + m)) → offQ B (i + n) = offQ B i + n ∧ ∀ m, m < n → byteAt (quoteB B) (offQ B i + m) = byteAt B (i + m)
  | 0, _, _ => ⟨rfl, fun m h => by omega⟩
  | n + 1, hn, h => by
    obtain ⟨h1, h2⟩ := great_run n (by omega) (fun m hm => h m (by omega))
    have hg := escB_great ⟨byteAt B (i + n), byteAt_lt B _⟩ (h n (by omega))
    have hg' : escB (byteAt B (i + n)) = [byteAt B (i + n)] := hg
    have hlt : i + n < B.size := by omega
    refine ⟨?_, fun m hm => ?_⟩
    · have := offQ_next hlt
      rw [hg'] at this
      show offQ B (i + n + 1) = _
      simp at this; omega
    · by_cases e : m = n
      · subst e
        have := quote_at (B := B) (i := i + m) (m := 0) (x := byteAt B (i + m)) hlt (by rw [hg']; rfl)
        rw [Nat.add_zero, h1] at this
        exact this
      · exact h2 m (by omega)
theorem hit_great {b0 b1 b2 b3 k : Nat} (_h0 : b0 < 256) (h1 : b1 < 256) (h2 : b2 < 256) (hk1 : 1 ≤ k) (hk : k ≤ 4) (_hb : 128 ≤ b0) (hh : hitN b0 b1 b2 b3 k = true) : (1 < k → 128 ≤ b1) ∧ (2 < k → 128 ≤ b2) ∧ (3 < k → 128 ≤ b3) := by
  have hc : k = 1 ∨ k = 2 ∨ k = 3 ∨ k = 4 := by omega
  rcases hc with rfl | rfl | rfl | rfl
  · refine ⟨fun h => by omega, fun h => by omega, fun h => by omega⟩
  · have := (hit2 (b0 := b0) (b1 := b1) (b2 := b2) (b3 := b3) h1).1 hh
    refine ⟨fun _ => by omega, fun h => by omega, fun h => by omega⟩
  · have := (hit3 (b0 := b0) (b1 := b1) (b2 := b2) (b3 := b3) h1).1 hh
    refine ⟨fun _ => by omega, fun _ => by omega, fun h => by omega⟩
  · have := (hit4 (b0 := b0) (b1 := b1) (b2 := b2) (b3 := b3) h2).1 hh
    refine ⟨fun _ => by omega, fun _ => by omega, fun _ => by omega⟩
end
section
open Go.RowKit
theorem decU_ascii {B : ByteArray} {i : Nat} (h : byteAt B i < 128) : decU B i = (byteAt B i, 1) := by
  unfold decU Go.Lib.decodeN; rw [if_pos h]
theorem quote_step {B : ByteArray} {i : Nat} (hi : i < B.size) (hd : decU B i ≠ (65533, 1)) :
    offQ B i < (quoteB B).size ∧ byteAt (quoteB B) (offQ B i) ≠ 34 ∧ ¬ byteAt (quoteB B) (offQ B i) < 32 ∧ textStep (quoteB B) (offQ B i) = .ok ((decU B i).1, offQ B (i + (decU B i).2) - offQ B i) := by
  have hsz := offQ_end B
  have hbl := byteAt_lt B i
  by_cases h128 : byteAt B i < 128
  · have hdu := decU_ascii h128
    have hn := offQ_next hi
    have hm := offQ_mono (B := B) (i := i + 1) hi
    rw [hdu]
    simp only
    cases hv : valL.contains (byteAt B i) with
    | true =>
      obtain ⟨x, hx, hx1, hx2⟩ := escB_short ⟨byteAt B i, hbl⟩ hv
      simp only at hx hx2
      rw [hx] at hn
      simp only [List.length_cons, List.length_nil] at hn
      have q0 := quote_at (B := B) (i := i) (m := 0) (x := 92) hi (by rw [hx]; rfl)
      have q1 := quote_at (B := B) (i := i) (m := 1) (x := x.val) hi (by rw [hx]; rfl)
      rw [Nat.add_zero] at q0
      refine ⟨by omega, by rw [q0]; decide, by rw [q0]; decide, ?_⟩
      unfold textStep escapeS
      rw [q0, if_pos rfl, if_neg (by omega), q1, if_neg hx1, hx2]
      simp only
      congr 2; omega
    | false =>
      by_cases h32 : byteAt B i < 32
      · obtain ⟨hx, u1, u2, u3⟩ := escB_unit ⟨byteAt B i, hbl⟩ hv h32
        simp only at hx u1 u2 u3
        rw [hx] at hn
        simp only [List.length_cons, List.length_nil] at hn
        have q0 := quote_at (B := B) (i := i) (m := 0) (x := 92) hi (by rw [hx]; rfl)
        have q1 := quote_at (B := B) (i := i) (m := 1) (x := 117) hi (by rw [hx]; rfl)
        have q2 := quote_at (B := B) (i := i) (m := 2) (x := 48) hi (by rw [hx]; rfl)
        have q3 := quote_at (B := B) (i := i) (m := 3) (x := 48) hi (by rw [hx]; rfl)
        have q4 := quote_at (B := B) (i := i) (m := 4) (x := hexU (byteAt B i / 16)) hi (by rw [hx]; rfl)
        have q5 := quote_at (B := B) (i := i) (m := 5) (x := hexU (byteAt B i % 16)) hi (by rw [hx]; rfl)
        rw [Nat.add_zero] at q0
        have hu : unitS (quoteB B) (offQ B i) = .ok (byteAt B i) := by
          unfold unitS
          rw [firstBad_ok (fun m hm => by
            have hc : m = 0 ∨ m = 1 ∨ m = 2 ∨ m = 3 ∨ m = 4 ∨ m = 5 := by omega
            have hlt : decide (offQ B i + m < (quoteB B).size) = true := decide_eq_true (by omega)
            unfold unitFit
            rw [hlt]
            rcases hc with rfl | rfl | rfl | rfl | rfl | rfl
            · rw [q0]; rfl
            · rw [q1]; rfl
            · rw [q2]; rfl
            · rw [q3]; rfl
            · rw [q4, if_neg (by decide), if_neg (by decide), u1]; rfl
            · rw [q5, if_neg (by decide), if_neg (by decide), u2]; rfl)]
          simp only [Sc.bind_ok]
          congr 1
          unfold hex4
          rw [show offQ B i + 2 + 1 = offQ B i + 3 by omega, show offQ B i + 2 + 2 = offQ B i + 4 by omega, show offQ B i + 2 + 3 = offQ B i + 5 by omega, q2, q3, q4, q5]
          have e0 : hexV 48 = 0 := by decide
          rw [e0]; omega
        refine ⟨by omega, by rw [q0]; decide, by rw [q0]; decide, ?_⟩
        unfold textStep escapeS pairS
        rw [q0, if_pos rfl, if_neg (by omega), q1, if_pos rfl, hu]
        simp only [Sc.bind_ok]
        rw [if_pos (by omega)]
        congr 2; omega
      · have hne : byteAt B i ≠ 34 ∧ byteAt B i ≠ 92 := by
          constructor <;> (intro e; rw [e] at hv; revert hv; decide)
        have hx := escB_plain ⟨byteAt B i, hbl⟩ (by show 32 ≤ byteAt B i; omega) hne.1 hne.2
        simp only at hx
        rw [hx] at hn
        simp only [List.length_cons, List.length_nil] at hn
        have q0 := quote_at (B := B) (i := i) (m := 0) (x := byteAt B i) hi (by rw [hx]; rfl)
        rw [Nat.add_zero] at q0
        have hdq : decU (quoteB B) (offQ B i) = (byteAt B i, 1) := by rw [decU_ascii (by rw [q0]; exact h128), q0]
        refine ⟨by omega, by rw [q0]; exact hne.1, by rw [q0]; exact h32, ?_⟩
        unfold textStep charS
        rw [q0, if_neg hne.2, if_neg (by omega), hdq, if_neg (by intro e; have := congrArg Prod.fst e; simp only at this; omega)]
        congr 2; omega
  · obtain ⟨k, k1, k4, kz, hh⟩ := dec_ok hi hd
    obtain ⟨e, _, _⟩ := dec_hit k1 k4 kz hh
    have hk2 : (decU B i).2 = k := by rw [e]
    have hg := hit_great (byteAt_lt B i) (byteAt_lt B (i + 1)) (byteAt_lt B (i + 2)) k1 k4 (by omega) hh
    obtain ⟨r1, r2⟩ := great_run (B := B) (i := i) k kz (fun m hm => by
      have hc : m = 0 ∨ m = 1 ∨ m = 2 ∨ m = 3 := by omega
      rcases hc with rfl | rfl | rfl | rfl
      · rw [Nat.add_zero]; omega
      · exact hg.1 hm
      · exact hg.2.1 hm
      · exact hg.2.2 hm)
    have hm := offQ_mono (B := B) (i := i + k) kz
    have q0 := r2 0 (by omega)
    rw [Nat.add_zero, Nat.add_zero] at q0
    have hdq := dec_local (B := B) (Q := quoteB B) (i := i) (p := offQ B i) hi hd (by rw [hk2]; omega) (fun m hm => r2 m (by omega))
    refine ⟨by omega, by rw [q0]; omega, by rw [q0]; omega, ?_⟩
    unfold textStep charS
    rw [q0, if_neg (by omega), if_neg (by omega), hdq, if_neg hd, hk2, r1]
    congr 1
    rw [Nat.add_sub_cancel_left, ← hk2]
theorem text_quote {B : ByteArray} : ∀ n i acc cs, B.size - i = n → i ≤ B.size → charsS B i acc = .ok cs → textS (quoteB B) (offQ B i) acc = .ok (cs, (quoteB B).size) := by
  intro n
  induction n using Nat.strongRecOn with
  | ind n ih =>
    intro i acc cs hn hi h
    have hsz := offQ_end B
    have hmo := offQ_mono hi
    by_cases hlt : i < B.size
    · rw [charsS_step hlt] at h
      by_cases hd : decU B i = (65533, 1)
      · rw [if_pos hd] at h; cases h
      · rw [if_neg hd] at h
        obtain ⟨g1, g2, g3, g4⟩ := quote_step hlt hd
        have hz := decU_size hlt
        rw [textS_step (Nat.le_of_lt g1), if_neg (by omega), if_neg g2, if_neg g3, g4]
        simp only [Sc.bind_ok]
        have ih2 := ih (B.size - (i + (decU B i).2)) (by omega) (i + (decU B i).2) _ cs rfl hz.2 h
        have hge : offQ B i ≤ offQ B (i + (decU B i).2) := by
          have h1 := textStep_ok g1 g4
          simp only at h1; omega
        rw [show offQ B i + (offQ B (i + (decU B i).2) - offQ B i) = offQ B (i + (decU B i).2) by omega]
        exact ih2
    · obtain rfl : i = B.size := by omega
      rw [charsS_end hlt] at h
      cases h
      have hq := quote_last B
      rw [textS_step (by omega), if_neg (by omega), if_pos hq, hsz]
theorem all_quote {B : ByteArray} {cs : List Nat} (h : charsS B 0 [] = .ok cs) : textS (quoteB B) 1 [] = .ok (cs, (quoteB B).size) ∧ allS (quoteB B) 0 = .ok [⟨7, 0, (quoteB B).size⟩, ⟨0, (quoteB B).size, (quoteB B).size⟩] := by
  have ht := text_quote (B := B) _ 0 [] cs rfl (Nat.zero_le _) h
  rw [offQ_zero] at ht
  refine ⟨ht, ?_⟩
  have hsz := offQ_end B
  have h0 : byteAt (quoteB B) 0 = 34 := quoteB_at (by unfold quoteL; rfl)
  have hs : skip isBlank (quoteB B) 0 = 0 := skip_stop (fun _ => by rw [h0]; decide)
  have n0 : nextS (quoteB B) 0 = .ok ⟨7, 0, (quoteB B).size⟩ := by
    unfold nextS tokenS
    rw [hs, if_neg (by omega), h0, if_neg (by decide), if_pos rfl, Nat.zero_add, ht]; rfl
  have hse : skip isBlank (quoteB B) (quoteB B).size = (quoteB B).size := skip_stop (fun h => by omega)
  have n1 : nextS (quoteB B) (quoteB B).size = .ok ⟨0, (quoteB B).size, (quoteB B).size⟩ := by
    unfold nextS tokenS
    rw [hse, if_pos rfl]; rfl
  rw [allS_step (Nat.zero_le _), n0]
  simp only [Sc.bind_ok]
  rw [if_neg (by decide), Int.toNat_natCast, allS_step (Nat.le_refl _), n1]
  simp only [Sc.bind_ok]
  rw [if_pos trivial]; rfl
end
end Go.Proofs.YtheoaijheijojaaGreatDoor
