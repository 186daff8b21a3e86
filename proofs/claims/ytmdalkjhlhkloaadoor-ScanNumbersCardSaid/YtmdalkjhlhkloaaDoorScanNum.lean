/- Digits, with a point and an exponent, are one number: the plain law. Nothing of the program. -/
import Derived.Test.YtmdalkjhlhkloaaDoorScanSh
namespace Go.Proofs.YtmdalkjhlhkloaaDoor
open Go.RowKit
/-- A number's decimal digits: at least one; no nought ahead of others. -/
structure NumText (T : ByteArray) : Prop where
  pos : 0 < T.size
  dig : ∀ i, i < T.size → isDig (byteAt T i) = true
  lead : T.size = 1 ∨ byteAt T 0 ≠ 48
/-- What stands behind goes not on with it. -/
def Ends (l : List Nat) (R : ByteArray) : Prop := 0 < R.size → l.contains (byteAt R 0) = false
def digL : List Nat := [48, 49, 50, 51, 52, 53, 54, 55, 56, 57]
theorem isDig_digL (c : Nat) : isDig c = digL.contains c := by
  rw [Bool.eq_iff_iff]
  simp [isDig, digL]
  omega
theorem digits_run {T R : ByteArray} (h0 : 0 < T.size) (hd : ∀ i, i < T.size → isDig (byteAt T i) = true) (hR : Ends digL R) : digitsS (T ++ R) 0 = .ok T.size := by
  have e : skip isDig (T ++ R) 0 = T.size := by
    refine skip_is _ 0 T.size rfl (Nat.zero_le _) (by rw [ByteArray.size_append]; omega) (fun j _ hj => by rw [byteAt_pre T R j hj]; exact hd j hj) (fun h => ?_)
    have h' : 0 < R.size := by rw [ByteArray.size_append] at h; omega
    have := byteAt_app T R 0
    rw [Nat.add_zero] at this
    rw [this, isDig_digL]; exact hR h'
  unfold digitsS
  rw [e, if_pos h0]
theorem onAt_head {l : List Nat} {R : ByteArray} (h : Ends l R) : onAt l R 0 = false := by
  by_cases h0 : 0 < R.size
  · rw [onAt_in h0]; exact h h0
  · exact onAt_out (by omega)
theorem Ends.app {l : List Nat} {T R : ByteArray} (hT : Ends l T) (hR : Ends l R) : Ends l (T ++ R) := by
  intro h
  by_cases h0 : 0 < T.size
  · rw [byteAt_pre T R 0 h0]; exact hT h0
  · have e : T.size = 0 := by omega
    have := byteAt_app T R 0
    rw [e] at this
    rw [this]
    exact hR (by rw [ByteArray.size_append] at h; omega)
theorem ends_of {l : List Nat} {T : ByteArray} {c : Nat} (hc : byteAt T 0 = c) (h : l.contains c = false) : Ends l T := fun _ => by rw [hc]; exact h
theorem onAt_first {l : List Nat} {T R : ByteArray} {c : Nat} (h0 : 0 < T.size) (hc : byteAt T 0 = c) (h : l.contains c = true) : onAt l (T ++ R) 0 = true := by
  rw [onAt_in (by rw [ByteArray.size_append]; omega), byteAt_pre T R 0 h0, hc]; exact h
theorem NumText.ends {T : ByteArray} (h : NumText T) {l : List Nat} (hl : ∀ c ∈ l, isDig c = false) : Ends l T := by
  intro h0
  cases hc : l.contains (byteAt T 0) with
  | false => rfl
  | true =>
    have := hl _ (by simpa using hc)
    rw [h.dig 0 h.pos] at this; cases this
/-- A sign, or none. -/
def SignT (s : ByteArray) : Prop := s.size = 0 ∨ (s.size = 1 ∧ byteAt s 0 = 45)
/-- A point with digits behind it, or nothing. -/
def FracT (s : ByteArray) : Prop := s.size = 0 ∨ ∃ p T : ByteArray, s = p ++ T ∧ p.size = 1 ∧ byteAt p 0 = 46 ∧ NumText T
/-- An exponent, or none. -/
def ExpT (s : ByteArray) : Prop := s.size = 0 ∨ ∃ p T : ByteArray, s = p ++ T ∧ NumText T ∧ (byteAt p 0 = 101 ∨ byteAt p 0 = 69) ∧ (p.size = 1 ∨ (p.size = 2 ∧ (byteAt p 1 = 43 ∨ byteAt p 1 = 45)))
theorem sh0 (P : ByteArray) {α : Type} (f : Nat → α) (h : α) (e : f (P.size + 0) = h) : f P.size = h := e
theorem empty_app {T R : ByteArray} (h : T.size = 0) : T ++ R = R := by
  have : T = ByteArray.empty := by
    cases T with | mk d => 
    have : d = #[] := Array.eq_empty_of_size_eq_zero h
    subst this; rfl
  rw [this]; exact ByteArray.empty_append
theorem number_whole {sg A fr ex R : ByteArray} (hs : SignT sg) (hA : NumText A) (hf : FracT fr) (he : ExpT ex) (hR : Ends [48, 49, 50, 51, 52, 53, 54, 55, 56, 57, 46, 101, 69] R) :
    numberS (sg ++ (A ++ (fr ++ (ex ++ R)))) 0 = .ok (sg.size + A.size + fr.size + ex.size) := by
  have sub : ∀ l : List Nat, (∀ c ∈ l, c ∈ ([48, 49, 50, 51, 52, 53, 54, 55, 56, 57, 46, 101, 69] : List Nat)) → Ends l R := by
    intro l hl h0
    have := hR h0
    cases hc : l.contains (byteAt R 0) with
    | false => rfl
    | true =>
      have h1 := hl _ (by simpa using hc)
      simp only [List.contains_eq_mem, decide_eq_false_iff_not] at this
      exact absurd h1 this
  have R1 := sub digL (by decide)
  have R2 := sub [46] (by decide)
  have R3 := sub [101, 69] (by decide)
  -- what stands behind the digits
  have exd : ∀ l : List Nat, l.contains 101 = false → l.contains 69 = false → Ends l ex := by
    intro l h1 h2
    rcases he with h | ⟨p, T, rfl, _, hc, hz⟩
    · intro h0; omega
    · intro _
      rw [byteAt_pre p T 0 (by omega)]
      rcases hc with hc | hc <;> rw [hc] <;> assumption
  have frd : ∀ l : List Nat, l.contains 46 = false → Ends l fr := by
    intro l h1
    rcases hf with h | ⟨p, T, rfl, hz, hc, _⟩
    · intro h0; omega
    · intro _
      rw [byteAt_pre p T 0 (by omega), hc]; exact h1
  have dX : Ends digL (ex ++ R) := (exd digL (by decide) (by decide)).app R1
  have pX : Ends [46] (ex ++ R) := (exd [46] (by decide) (by decide)).app R2
  have dF : Ends digL (fr ++ (ex ++ R)) := (frd digL (by decide)).app dX
  have hd (l : List Nat) {T X : ByteArray} (h0 : 0 < T.size) : onAt l (T ++ X) 0 = l.contains (byteAt T 0) := by
    rw [onAt_in (by rw [ByteArray.size_append]; omega), byteAt_pre T X 0 h0]
  have A0 := hA.dig 0 hA.pos
  have at_ (l : List Nat) (P X : ByteArray) : onAt l (P ++ X) P.size = onAt l X 0 := onAt_sh (P := P) (B := X) l 0
  have dg (P X : ByteArray) : digitsS (P ++ X) P.size = (digitsS X 0).sh P.size (P.size + ·) := digitsS_sh (P := P) (B := X) 0
  unfold numberS
  have e1 : (if onAt [45] (sg ++ (A ++ (fr ++ (ex ++ R)))) 0 = true then 0 + 1 else 0) = sg.size := by
    rcases hs with h | ⟨h, hc⟩
    · rw [h, empty_app h, hd _ hA.pos, if_neg]
      intro hc
      simp only [List.contains_cons, List.contains_nil, Bool.or_false, beq_iff_eq] at hc
      rw [hc] at A0; revert A0; decide
    · rw [h, hd _ (by omega), hc, if_pos (by decide)]
  rw [e1]
  have e2 : (if onAt [48] (sg ++ (A ++ (fr ++ (ex ++ R)))) sg.size = true then Sc.ok (sg.size + 1) else digitsS (sg ++ (A ++ (fr ++ (ex ++ R)))) sg.size) = .ok (sg.size + A.size) := by
    rw [at_, hd _ hA.pos]
    by_cases hc : ([48] : List Nat).contains (byteAt A 0) = true
    · rw [if_pos hc]
      simp only [List.contains_cons, List.contains_nil, Bool.or_false, beq_iff_eq] at hc
      rcases hA.lead with h | h
      · rw [h]
      · exact absurd hc h
    · rw [if_neg hc, dg, digits_run hA.pos hA.dig dF]; rfl
  rw [e2, Sc.bind_ok, ← ByteArray.append_assoc, ← ByteArray.size_append]
  generalize sg ++ A = Q
  have e3 : (if onAt [46] (Q ++ (fr ++ (ex ++ R))) Q.size = true then digitsS (Q ++ (fr ++ (ex ++ R))) (Q.size + 1) else Sc.ok Q.size) = .ok (Q.size + fr.size) := by
    rw [at_]
    rcases hf with h | ⟨p, T, rfl, hz, hc, hT⟩
    · rw [h, empty_app h, onAt_head pX]; rfl
    · rw [ByteArray.append_assoc, hd _ (by omega), hc, if_pos (by decide), ← hz, ← ByteArray.size_append, ← ByteArray.append_assoc, dg, digits_run hT.pos hT.dig dX]
      simp [Sc.sh, Nat.add_assoc]
  rw [e3, Sc.bind_ok, ← ByteArray.append_assoc, ← ByteArray.size_append]
  generalize Q ++ fr = Q3
  rw [at_]
  rcases he with h | ⟨p, T, rfl, hT, hc, hz⟩
  · rw [h, empty_app h, onAt_head R3]; rfl
  · have hp0 : 0 < p.size := by omega
    have T0 := hT.dig 0 hT.pos
    rw [ByteArray.append_assoc, hd _ hp0, if_pos (by rcases hc with hc | hc <;> rw [hc] <;> decide)]
    rcases hz with hz | ⟨hz, hc2⟩
    · have e5 : onAt [43, 45] (Q3 ++ (p ++ (T ++ R))) (Q3.size + 1) = false := by
        rw [← hz, ← ByteArray.size_append, ← ByteArray.append_assoc, at_, hd _ hT.pos]
        cases hc : ([43, 45] : List Nat).contains (byteAt T 0) with
        | false => rfl
        | true =>
          simp only [List.contains_cons, List.contains_nil, Bool.or_false, Bool.or_eq_true, beq_iff_eq] at hc
          rcases hc with hc | hc <;> (rw [hc] at T0; revert T0; decide)
      rw [e5, if_neg (by simp), ← hz, ← ByteArray.size_append, ← ByteArray.append_assoc, dg, digits_run hT.pos hT.dig R1]
      simp [Sc.sh, hz, Nat.add_assoc]
    · have e5 : onAt [43, 45] (Q3 ++ (p ++ (T ++ R))) (Q3.size + 1) = true := by
        rw [onAt_sh, onAt_in (by rw [ByteArray.size_append]; omega), byteAt_pre _ _ 1 (by omega)]
        rcases hc2 with hc | hc <;> rw [hc] <;> decide
      rw [e5, if_pos rfl, ← hz, ← ByteArray.size_append, ← ByteArray.append_assoc, dg, digits_run hT.pos hT.dig R1]
      simp [Sc.sh, hz, Nat.add_assoc]
/-- Such a text is one number's token. -/
theorem next_number {sg A fr ex R : ByteArray} (hs : SignT sg) (hA : NumText A) (hf : FracT fr) (he : ExpT ex) (hR : Ends [48, 49, 50, 51, 52, 53, 54, 55, 56, 57, 46, 101, 69] R) :
    nextI (sg ++ (A ++ (fr ++ (ex ++ R)))) 0 = .ok ⟨8, 0, (sg.size + A.size + fr.size + ex.size : Nat)⟩ := by
  have hn := number_whole hs hA hf he hR
  have A0 := hA.dig 0 hA.pos
  have hsz : 0 < (sg ++ (A ++ (fr ++ (ex ++ R)))).size := by
    have := hA.pos
    simp only [ByteArray.size_append]; omega
  have hc : byteAt (sg ++ (A ++ (fr ++ (ex ++ R)))) 0 = 45 ∨ isDig (byteAt (sg ++ (A ++ (fr ++ (ex ++ R)))) 0) = true := by
    rcases hs with h | ⟨h, hc⟩
    · rw [empty_app h, byteAt_pre _ _ 0 hA.pos]; exact .inr A0
    · rw [byteAt_pre _ _ 0 (by omega)]; exact .inl hc
  generalize hB : sg ++ (A ++ (fr ++ (ex ++ R))) = B at *
  have hb : 48 ≤ byteAt B 0 ∧ byteAt B 0 ≤ 57 ∨ byteAt B 0 = 45 := by
    rcases hc with h | h
    · exact .inr h
    · simp [isDig] at h; exact .inl h
  have hsk : skip isBlank B 0 = 0 := skip_stop (fun _ => by
    simp only [isBlank, List.contains_eq_mem, decide_eq_false_iff_not, List.mem_cons, List.not_mem_nil, or_false]
    omega)
  have ht : tokenS B 0 = .ok (8, sg.size + A.size + fr.size + ex.size) := by
    unfold tokenS
    rw [if_neg (by omega), if_neg (by simp only [marksL, List.contains_eq_mem, decide_eq_true_eq, List.mem_cons, List.not_mem_nil, or_false]; omega), if_neg (by omega), if_pos hc, hn]
    rfl
  unfold nextI nextS
  rw [if_neg (by omega)]
  simp only [Int.toNat_zero, hsk, ht, Sc.bind_ok]
  rfl
end Go.Proofs.YtmdalkjhlhkloaaDoor
