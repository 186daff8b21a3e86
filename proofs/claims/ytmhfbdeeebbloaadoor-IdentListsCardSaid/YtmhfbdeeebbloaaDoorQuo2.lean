/- Texts as tokens: a quoted text is read as it: the law. Nothing of the program. -/
import Derived.Test.YtmhfbdeeebbloaaDoorQuo1
namespace Go.Proofs.YtmhfbdeeebbloaaDoor
open Go.RowKit
theorem decU_ascii {B : ByteArray} {i : Nat} (h : byteAt B i < 128) : decU B i = (byteAt B i, 1) := by
  unfold decU Go.Lib.decodeN; rw [if_pos h]
theorem quote_step {B : ByteArray} {i : Nat} (hi : i < B.size) (hd : decU B i ≠ (65533, 1)) :
    offQ B i < (quoteB B).size ∧ byteAt (quoteB B) (offQ B i) ≠ 34 ∧ ¬ byteAt (quoteB B) (offQ B i) < 32 ∧ textStep (quoteB B) (offQ B i) = .ok ((decU B i).1, offQ B (i + (decU B i).2) - offQ B i) := by
  have hsz := offQ_end B
  have hbl := byteAt_lt B i
  by_cases h128 : byteAt B i < 128
  · have hdu := decU_ascii h128
    have hn := offQ_next hi
    have hm := offQ_mono (B := B) (i := i + 1) hi
    rw [hdu]
    simp only
    cases hv : valL.contains (byteAt B i) with
    | true =>
      obtain ⟨x, hx, hx1, hx2⟩ := escB_short ⟨byteAt B i, hbl⟩ hv
      simp only at hx hx2
      rw [hx] at hn
      simp only [List.length_cons, List.length_nil] at hn
      have q0 := quote_at (B := B) (i := i) (m := 0) (x := 92) hi (by rw [hx]; rfl)
      have q1 := quote_at (B := B) (i := i) (m := 1) (x := x.val) hi (by rw [hx]; rfl)
      rw [Nat.add_zero] at q0
      refine ⟨by omega, by rw [q0]; decide, by rw [q0]; decide, ?_⟩
      unfold textStep escapeS
      rw [q0, if_pos rfl, if_neg (by omega), q1, if_neg hx1, hx2]
      simp only
      congr 2; omega
    | false =>
      by_cases h32 : byteAt B i < 32
      · obtain ⟨hx, u1, u2, u3⟩ := escB_unit ⟨byteAt B i, hbl⟩ hv h32
        simp only at hx u1 u2 u3
        rw [hx] at hn
        simp only [List.length_cons, List.length_nil] at hn
        have q0 := quote_at (B := B) (i := i) (m := 0) (x := 92) hi (by rw [hx]; rfl)
        have q1 := quote_at (B := B) (i := i) (m := 1) (x := 117) hi (by rw [hx]; rfl)
        have q2 := quote_at (B := B) (i := i) (m := 2) (x := 48) hi (by rw [hx]; rfl)
        have q3 := quote_at (B := B) (i := i) (m := 3) (x := 48) hi (by rw [hx]; rfl)
        have q4 := quote_at (B := B) (i := i) (m := 4) (x := hexU (byteAt B i / 16)) hi (by rw [hx]; rfl)
        have q5 := quote_at (B := B) (i := i) (m := 5) (x := hexU (byteAt B i % 16)) hi (by rw [hx]; rfl)
        rw [Nat.add_zero] at q0
        have hu : unitS (quoteB B) (offQ B i) = .ok (byteAt B i) := by
          unfold unitS
          rw [firstBad_ok (fun m hm => by
            have hc : m = 0 ∨ m = 1 ∨ m = 2 ∨ m = 3 ∨ m = 4 ∨ m = 5 := by omega
            have hlt : decide (offQ B i + m < (quoteB B).size) = true := decide_eq_true (by omega)
            unfold unitFit
            rw [hlt]
            rcases hc with rfl | rfl | rfl | rfl | rfl | rfl
            · rw [q0]; rfl
            · rw [q1]; rfl
            · rw [q2]; rfl
            · rw [q3]; rfl
            · rw [q4, if_neg (by decide), if_neg (by decide), u1]; rfl
            · rw [q5, if_neg (by decide), if_neg (by decide), u2]; rfl)]
          simp only [Sc.bind_ok]
          congr 1
          unfold hex4
          rw [show offQ B i + 2 + 1 = offQ B i + 3 by omega, show offQ B i + 2 + 2 = offQ B i + 4 by omega, show offQ B i + 2 + 3 = offQ B i + 5 by omega, q2, q3, q4, q5]
          have e0 : hexV 48 = 0 := by decide
          rw [e0]; omega
        refine ⟨by omega, by rw [q0]; decide, by rw [q0]; decide, ?_⟩
        unfold textStep escapeS pairS
        rw [q0, if_pos rfl, if_neg (by omega), q1, if_pos rfl, hu]
        simp only [Sc.bind_ok]
        rw [if_pos (by omega)]
        congr 2; omega
      · have hne : byteAt B i ≠ 34 ∧ byteAt B i ≠ 92 := by
          constructor <;> (intro e; rw [e] at hv; revert hv; decide)
        have hx := escB_plain ⟨byteAt B i, hbl⟩ (by show 32 ≤ byteAt B i; omega) hne.1 hne.2
        simp only at hx
        rw [hx] at hn
        simp only [List.length_cons, List.length_nil] at hn
        have q0 := quote_at (B := B) (i := i) (m := 0) (x := byteAt B i) hi (by rw [hx]; rfl)
        rw [Nat.add_zero] at q0
        have hdq : decU (quoteB B) (offQ B i) = (byteAt B i, 1) := by rw [decU_ascii (by rw [q0]; exact h128), q0]
        refine ⟨by omega, by rw [q0]; exact hne.1, by rw [q0]; exact h32, ?_⟩
        unfold textStep charS
        rw [q0, if_neg hne.2, if_neg (by omega), hdq, if_neg (by intro e; have := congrArg Prod.fst e; simp only at this; omega)]
        congr 2; omega
  · obtain ⟨k, k1, k4, kz, hh⟩ := dec_ok hi hd
    obtain ⟨e, _, _⟩ := dec_hit k1 k4 kz hh
    have hk2 : (decU B i).2 = k := by rw [e]
    have hg := hit_great (byteAt_lt B i) (byteAt_lt B (i + 1)) (byteAt_lt B (i + 2)) k1 k4 (by omega) hh
    obtain ⟨r1, r2⟩ := great_run (B := B) (i := i) k kz (fun m hm => by
      have hc : m = 0 ∨ m = 1 ∨ m = 2 ∨ m = 3 := by omega
      rcases hc with rfl | rfl | rfl | rfl
      · rw [Nat.add_zero]; omega
      · exact hg.1 hm
      · exact hg.2.1 hm
      · exact hg.2.2 hm)
    have hm := offQ_mono (B := B) (i := i + k) kz
    have q0 := r2 0 (by omega)
    rw [Nat.add_zero, Nat.add_zero] at q0
    have hdq := dec_local (B := B) (Q := quoteB B) (i := i) (p := offQ B i) hi hd (by rw [hk2]; omega) (fun m hm => r2 m (by omega))
    refine ⟨by omega, by rw [q0]; omega, by rw [q0]; omega, ?_⟩
    unfold textStep charS
    rw [q0, if_neg (by omega), if_neg (by omega), hdq, if_neg hd, hk2, r1]
    congr 1
    rw [Nat.add_sub_cancel_left, ← hk2]
theorem text_quote {B : ByteArray} : ∀ n i acc cs, B.size - i = n → i ≤ B.size → charsS B i acc = .ok cs → textS (quoteB B) (offQ B i) acc = .ok (cs, (quoteB B).size) := by
  intro n
  induction n using Nat.strongRecOn with
  | ind n ih =>
    intro i acc cs hn hi h
    have hsz := offQ_end B
    have hmo := offQ_mono hi
    by_cases hlt : i < B.size
    · rw [charsS_step hlt] at h
      by_cases hd : decU B i = (65533, 1)
      · rw [if_pos hd] at h; cases h
      · rw [if_neg hd] at h
        obtain ⟨g1, g2, g3, g4⟩ := quote_step hlt hd
        have hz := decU_size hlt
        rw [textS_step (Nat.le_of_lt g1), if_neg (by omega), if_neg g2, if_neg g3, g4]
        simp only [Sc.bind_ok]
        have ih2 := ih (B.size - (i + (decU B i).2)) (by omega) (i + (decU B i).2) _ cs rfl hz.2 h
        have hge : offQ B i ≤ offQ B (i + (decU B i).2) := by
          have h1 := textStep_ok g1 g4
          simp only at h1; omega
        rw [show offQ B i + (offQ B (i + (decU B i).2) - offQ B i) = offQ B (i + (decU B i).2) by omega]
        exact ih2
    · obtain rfl : i = B.size := by omega
      rw [charsS_end hlt] at h
      cases h
      have hq := quote_last B
      rw [textS_step (by omega), if_neg (by omega), if_pos hq, hsz]
theorem chars_put {B : ByteArray} : ∀ n i acc cs, B.size - i = n → i ≤ B.size → charsS B i acc = .ok cs → cs.flatMap putN = acc.flatMap putN ++ (bytesN B).drop i := by
  intro n
  induction n using Nat.strongRecOn with
  | ind n ih =>
    intro i acc cs hn hi h
    by_cases hlt : i < B.size
    · rw [charsS_step hlt] at h
      by_cases hd : decU B i = (65533, 1)
      · rw [if_pos hd] at h; cases h
      · rw [if_neg hd] at h
        have hz := decU_size hlt
        have ih2 := ih (B.size - (i + (decU B i).2)) (by omega) (i + (decU B i).2) _ cs rfl hz.2 h
        obtain ⟨k, k1, k4, kz, hh⟩ := dec_ok hlt hd
        obtain ⟨e, _, hp⟩ := dec_hit k1 k4 kz hh
        have hk2 : (decU B i).2 = k := by rw [e]
        rw [ih2, List.flatMap_append, hk2]
        simp only [List.flatMap_cons, List.flatMap_nil, List.append_nil, List.append_assoc]
        rw [hp]
        congr 1
        have key : ∀ j, (h : i + j ≤ B.size) → j ≤ k → [byteAt B i, byteAt B (i + 1), byteAt B (i + 2), byteAt B (i + 3)].take j ++ (bytesN B).drop (i + j) = (bytesN B).drop i := by
          intro j
          induction j with
          | zero => intro _ _; rfl
          | succ j ihj =>
            intro h1 h2
            rw [← ihj (by omega) (by omega)]
            have hjl : i + j < (bytesN B).length := by rw [bytesN_len]; omega
            have hg : (bytesN B)[i + j] = byteAt B (i + j) := by
              have := bytesN_get (B := B) (i := i + j) (by omega)
              rw [List.getElem?_eq_getElem hjl] at this
              exact Option.some.inj this
            rw [List.drop_eq_getElem_cons hjl, hg]
            have hc : j = 0 ∨ j = 1 ∨ j = 2 ∨ j = 3 := by omega
            rcases hc with rfl | rfl | rfl | rfl <;> simp [Nat.add_assoc]
        exact key k kz (Nat.le_refl _)
    · rw [charsS_end hlt] at h
      cases h
      rw [List.drop_of_length_le (by rw [bytesN_len]; omega)]; simp
theorem all_quote {B : ByteArray} {cs : List Nat} (h : charsS B 0 [] = .ok cs) : textS (quoteB B) 1 [] = .ok (cs, (quoteB B).size) ∧ allS (quoteB B) 0 = .ok [⟨7, 0, (quoteB B).size⟩, ⟨0, (quoteB B).size, (quoteB B).size⟩] := by
  have ht := text_quote (B := B) _ 0 [] cs rfl (Nat.zero_le _) h
  rw [offQ_zero] at ht
  refine ⟨ht, ?_⟩
  have hsz := offQ_end B
  have h0 : byteAt (quoteB B) 0 = 34 := quoteB_at (by unfold quoteL; rfl)
  have hs : skip isBlank (quoteB B) 0 = 0 := skip_stop (fun _ => by rw [h0]; decide)
  have n0 : nextS (quoteB B) 0 = .ok ⟨7, 0, (quoteB B).size⟩ := by
    unfold nextS tokenS
    rw [hs, if_neg (by omega), h0, if_neg (by decide), if_pos rfl, Nat.zero_add, ht]; rfl
  have hse : skip isBlank (quoteB B) (quoteB B).size = (quoteB B).size := skip_stop (fun h => by omega)
  have n1 : nextS (quoteB B) (quoteB B).size = .ok ⟨0, (quoteB B).size, (quoteB B).size⟩ := by
    unfold nextS tokenS
    rw [hse, if_pos rfl]; rfl
  rw [allS_step (Nat.zero_le _), n0]
  simp only [Sc.bind_ok]
  rw [if_neg (by decide), Int.toNat_natCast, allS_step (Nat.le_refl _), n1]
  simp only [Sc.bind_ok]
  rw [if_pos trivial]; rfl
end Go.Proofs.YtmhfbdeeebbloaaDoor
