/- The document's reader of chapter 6: what it reads, told by the plain functions. Nothing of the program's text. -/
import Derived.Test.YtmdalkjhlhkloaaDoorEye6
import Derived.Test.YtmdalkjhlhkloaaDoorChr4
namespace Go.Proofs.YtmdalkjhlhkloaaDoor
open Go.RowKit
def escNames : List Nat := [34, 92, 47, 98, 102, 110, 114, 116]
def escVals : List Nat := [34, 92, 47, 8, 12, 10, 13, 9]
def lowE (B : ByteArray) (u : St) : St := unitE B ⟨u.i, 0, 0⟩
def lowV (B : ByteArray) (u : St) : Nat := unitV B ⟨u.i, 0, 0⟩
def pairE (B : ByteArray) (s : St) : St × Nat :=
  let u := unitE B s
  let n := unitV B s
  if u.k ≠ 0 ∨ halfN n = 0 then (u, n)
  else if halfN n = 1 then
    if (lowE B u).k = 0 ∧ halfN (lowV B u) = 2 then (⟨(lowE B u).i, u.k, u.a⟩, (rwholeN n (lowV B u)).toNat)
    else if (lowE B u).k = 10 then (failE u 10 (lowE B u).a, 0) else (failE u 11 s.i, 0)
  else (failE u 11 s.i, 0)
def escE (B : ByteArray) (s : St) : St × Nat :=
  if s.i + 1 = B.size then (failE (stepE s) 10 ((s.i + 1 : Nat) : Int), 0)
  else if escNames.contains (byteAt B (s.i + 1)) then (stepE (stepE s), escVals[escNames.idxOf (byteAt B (s.i + 1))]?.getD 0)
  else if byteAt B (s.i + 1) ≠ 117 then (failE (stepE s) 11 ((s.i + 1 : Nat) : Int), 0)
  else pairE B s
/-- What a reader without an error has read from a place on. -/
def Tells (a : Int) (s : St) : Sc Nat → Prop
  | .ok e => s = ⟨e, 0, a⟩
  | .no k p => s.k = k ∧ s.a = p ∧ k ≠ 0
theorem must_kept {l : List Nat} {B : ByteArray} {s : St} (h : s.k ≠ 0) : mustE l B s = s := by unfold mustE; rw [if_pos h]
theorem has_kept {l : List Nat} {B : ByteArray} {s : St} (h : s.k ≠ 0) : hasE l B s = false := by simp [hasE, h]
theorem run_kept {p : Nat → Bool} {B : ByteArray} {s : St} (h : s.k ≠ 0) : runE p B s = s := by unfold runE; rw [if_pos h]
theorem has_on (l : List Nat) (B : ByteArray) (i : Nat) (a : Int) : hasE l B ⟨i, 0, a⟩ = onAt l B i := by simp [hasE, onAt]
theorem must_at (l : List Nat) (B : ByteArray) (i : Nat) (a : Int) : mustE l B ⟨i, 0, a⟩ = if i = B.size then ⟨i, 10, i⟩ else if l.contains (byteAt B i) then ⟨i + 1, 0, a⟩ else ⟨i, 11, i⟩ := by
  unfold mustE; rw [if_neg (by simp)]; rfl
theorem fig_fun : figL.contains = isDig := funext fig_dig
theorem some_tells {B : ByteArray} {i : Nat} (a : Int) (hi : i ≤ B.size) : Tells a (someE B ⟨i, 0, a⟩) (digitsS B i) := by
  unfold someE digitsS
  rw [must_at]
  by_cases h1 : i = B.size
  · have hs : skip isDig B i = i := skip_stop (fun h => by omega)
    rw [if_pos h1, run_kept (by simp), hs, if_neg (by omega), if_pos h1]
    exact ⟨rfl, by simp [h1], by decide⟩
  · rw [if_neg h1]
    cases h2 : figL.contains (byteAt B i) with
    | true =>
      have h3 : isDig (byteAt B i) = true := by rw [← fig_dig]; exact h2
      have hs := skip_go (p := isDig) (by omega : i < B.size) h3
      have := skip_ge isDig B (i + 1)
      rw [if_pos rfl, hs, if_pos (by omega), fig_fun]
      unfold runE
      rw [if_neg (by simp)]
      rfl
    | false =>
      have h3 : isDig (byteAt B i) = false := by rw [← fig_dig]; exact h2
      have hs : skip isDig B i = i := skip_stop (fun _ => h3)
      rw [if_neg (by simp), run_kept (by simp), hs, if_neg (by omega), if_neg h1]
      exact ⟨rfl, rfl, by decide⟩
theorem some_kept {B : ByteArray} {s : St} (h : s.k ≠ 0) : someE B s = s := by unfold someE; rw [must_kept h, run_kept h]
theorem num2_kept {B : ByteArray} {s : St} (h : s.k ≠ 0) : num2E B s = s := by unfold num2E; rw [has_kept h]; exact some_kept h
theorem num3_kept {B : ByteArray} {s : St} (h : s.k ≠ 0) : num3E B s = s := by unfold num3E; rw [has_kept h]; rfl
theorem num4_kept {B : ByteArray} {s : St} (h : s.k ≠ 0) : num4E B s = s := by unfold num4E; rw [has_kept h]; rfl
theorem Tells.bind {a : Int} {s : St} {r : Sc Nat} {f : St → St} {g : Nat → Sc Nat} (h : Tells a s r) (hf : ∀ t : St, t.k ≠ 0 → f t = t) (hg : ∀ e, r = .ok e → Tells a (f ⟨e, 0, a⟩) (g e)) : Tells a (f s) (r.bind g) := by
  cases r with
  | ok e => have e1 : s = ⟨e, 0, a⟩ := h; rw [e1]; exact hg e rfl
  | no k p =>
    obtain ⟨h1, h2, h3⟩ := h
    rw [hf s (by rw [h1]; exact h3)]
    exact ⟨h1, h2, h3⟩
theorem opt_at (l : List Nat) (B : ByteArray) (i : Nat) (a : Int) : optE l B ⟨i, 0, a⟩ = ⟨if onAt l B i then i + 1 else i, 0, a⟩ := by
  unfold optE stepE; rw [has_on]; split <;> rfl
theorem num_tells {B : ByteArray} {i : Nat} (a : Int) (hi : i < B.size) : Tells a (numE B ⟨i, 0, a⟩) (numberS B i) := by
  unfold numE numberS
  rw [opt_at]
  have h1 : (if onAt [45] B i then i + 1 else i) ≤ B.size := by split <;> omega
  generalize (if onAt [45] B i then i + 1 else i) = j at *
  have hA : Tells a (num2E B ⟨j, 0, a⟩) (if onAt [48] B j then .ok (j + 1) else digitsS B j) := by
    unfold num2E; rw [has_on]
    split
    · rfl
    · exact some_tells a h1
  have hA2 : ∀ e, (if onAt [48] B j then .ok (j + 1) else digitsS B j) = Sc.ok e → e ≤ B.size := by
    intro e he
    split at he
    · rename_i ho; have := onAt_lt ho; cases he; omega
    · exact (digitsS_ok h1 he).2
  refine Tells.bind (f := fun t => num4E B (num3E B t)) hA (fun t ht => by show num4E B (num3E B t) = t; rw [num3_kept ht, num4_kept ht]) (fun e he => ?_)
  have he' := hA2 e he
  have hC : Tells a (num3E B ⟨e, 0, a⟩) (if onAt [46] B e then digitsS B (e + 1) else .ok e) := by
    unfold num3E; rw [has_on]
    split
    · rename_i ho; have := onAt_lt ho; show Tells a (someE B ⟨e + 1, 0, a⟩) _; exact some_tells a this
    · rfl
  refine Tells.bind (f := num4E B) hC (fun t ht => num4_kept ht) (fun e2 _ => ?_)
  unfold num4E
  rw [has_on]
  split
  · rename_i ho
    have := onAt_lt ho
    show Tells a (someE B (optE [43, 45] B ⟨e2 + 1, 0, a⟩)) _
    rw [opt_at]
    split
    · rename_i ho2; have := onAt_lt ho2; exact some_tells a (by omega)
    · exact some_tells a (by omega)
  · rfl
/-! ### Rows of bytes that must stand -/
def mustsL (B : ByteArray) (ls : List (List Nat)) (s : St) : St := ls.foldl (fun t l => mustE l B t) s
def fitL (B : ByteArray) (i : Nat) (ls : List (List Nat)) (k : Nat) : Bool := decide (i + k < B.size) && (ls[k]?.getD []).contains (byteAt B (i + k))
theorem firstBad_more {B : ByteArray} {i n k : Nat} {p : Int} {fit : Nat → Bool} (h : firstBad B i n fit = .no k p) : firstBad B i (n + 1) fit = .no k p := by
  unfold firstBad at h ⊢
  rw [List.range_succ, List.find?_append]
  split at h
  · rename_i x hx
    rw [hx, Option.some_or]
    exact h
  · cases h
theorem firstBad_pos {B : ByteArray} {i n k : Nat} {p : Int} {fit : Nat → Bool} (h : firstBad B i n fit = .no k p) : k ≠ 0 := by
  unfold firstBad at h
  split at h
  · split at h <;> cases h <;> decide
  · cases h
theorem musts_tells {B : ByteArray} {i : Nat} (a : Int) (hi : i ≤ B.size) (ls : List (List Nat)) : ∀ n, n ≤ ls.length → Tells a (mustsL B (ls.take n) ⟨i, 0, a⟩) ((firstBad B i n (fitL B i ls)).bind fun _ => .ok (i + n))
  | 0, _ => by rw [firstBad_ok (fun m h => by omega)]; rfl
  | n + 1, hn => by
    have ih := musts_tells a hi ls n (by omega)
    have hlt : n < ls.length := hn
    have he : mustsL B (ls.take (n + 1)) ⟨i, 0, a⟩ = mustE ls[n] B (mustsL B (ls.take n) ⟨i, 0, a⟩) := by
      unfold mustsL; rw [List.take_succ_eq_append_getElem hlt, List.foldl_append]; rfl
    rw [he]
    cases hb : firstBad B i n (fitL B i ls) with
    | no k p =>
      rw [hb] at ih
      obtain ⟨h1, h2, h3⟩ := ih
      rw [firstBad_more hb, must_kept (by rw [h1]; exact h3)]
      exact ⟨h1, h2, h3⟩
    | ok u =>
      rw [hb] at ih
      have e1 : mustsL B (ls.take n) ⟨i, 0, a⟩ = ⟨i + n, 0, a⟩ := ih
      have hf := firstBad_unit hb
      have hin : i + n ≤ B.size := by
        by_cases h0 : n = 0
        · omega
        · have := hf (n - 1) (by omega)
          simp only [fitL, Bool.and_eq_true, decide_eq_true_eq] at this
          omega
      have hg : ls[n]?.getD [] = ls[n] := by rw [List.getElem?_eq_getElem hlt]; rfl
      rw [e1, must_at]
      by_cases hend : i + n = B.size
      · rw [if_pos hend, firstBad_no (Nat.lt_succ_self n) (by simp [fitL]; omega) (fun m hm => hf m hm), if_pos hend]
        exact ⟨rfl, by simp [hend], by decide⟩
      · rw [if_neg hend]
        cases hc : ls[n].contains (byteAt B (i + n)) with
        | true =>
          rw [if_pos rfl, firstBad_ok (fun m hm => by
            by_cases e : m = n
            · subst e; unfold fitL; rw [hg, hc]; simp; omega
            · exact hf m (by omega))]
          rfl
        | false =>
          rw [if_neg (by simp), firstBad_no (Nat.lt_succ_self n) (by unfold fitL; rw [hg, hc]; simp) (fun m hm => hf m hm), if_neg hend]
          exact ⟨rfl, rfl, by decide⟩
theorem firstBad_congr {B : ByteArray} {i n : Nat} {f g : Nat → Bool} (h : ∀ m, m < n → f m = g m) : firstBad B i n f = firstBad B i n g := by
  unfold firstBad
  have : (List.range n).find? (fun k => !f k) = (List.range n).find? (fun k => !g k) := by
    induction n with
    | zero => rfl
    | succ n ih =>
      rw [List.range_succ, List.find?_append, List.find?_append, ih (fun m hm => h m (by omega)), List.find?_cons, List.find?_cons, h n (by omega)]
      simp only [List.find?_nil]
  rw [this]
theorem word_tells {B : ByteArray} {i : Nat} (a : Int) (hi : i ≤ B.size) (w : List Nat) : Tells a (wordE B w ⟨i, 0, a⟩) (wordS B i w) := by
  have h := musts_tells a hi (w.map fun c => [c]) w.length (by simp)
  rw [List.take_of_length_le (by simp)] at h
  have e1 : mustsL B (w.map fun c => [c]) ⟨i, 0, a⟩ = wordE B w ⟨i, 0, a⟩ := by unfold mustsL wordE; rw [List.foldl_map]
  rw [e1] at h
  unfold wordS
  rw [firstBad_congr (g := fitL B i (w.map fun c => [c])) (fun m hm => by
    unfold fitL
    rw [List.getElem?_map, List.getElem?_eq_getElem hm]
    rw [Bool.eq_iff_iff]; simp)]
  exact h
/-! ### Units, pairs, escapes -/
def unitL : List (List Nat) := [[92], [117], hxL, hxL, hxL, hxL]
theorem hx_hex (c : Nat) : hxL.contains c = isHex c := by
  rw [Bool.eq_iff_iff]
  simp only [hxL, isHex, isDig, List.contains_eq_mem, decide_eq_true_eq, Bool.or_eq_true, Bool.and_eq_true, List.mem_cons, List.not_mem_nil, or_false]
  omega
theorem fit_unit (B : ByteArray) (i m : Nat) (hm : m < 6) : unitFit B i m = fitL B i unitL m := by
  have h : m = 0 ∨ m = 1 ∨ m = 2 ∨ m = 3 ∨ m = 4 ∨ m = 5 := by omega
  rcases h with rfl | rfl | rfl | rfl | rfl | rfl
  · rw [Bool.eq_iff_iff]; simp [unitFit, fitL, unitL]
  · rw [Bool.eq_iff_iff]; simp [unitFit, fitL, unitL]
  all_goals
    unfold unitFit fitL unitL
    rw [if_neg (by decide), if_neg (by decide), ← hx_hex]
    rfl
theorem num4_hex (B : ByteArray) (p : Nat) (_h : p + 4 ≤ B.size) (hx : ∀ k, k < 4 → isHex (byteAt B (p + k)) = true) : numVal 16 (subB B p 4) 4 = hex4 B p := by
  have e0 := hexV_digV (hx 0 (by omega)); have e1 := hexV_digV (hx 1 (by omega)); have e2 := hexV_digV (hx 2 (by omega)); have e3 := hexV_digV (hx 3 (by omega))
  have s0 := subB_at B p 4 0 (by omega); have s1 := subB_at B p 4 1 (by omega); have s2 := subB_at B p 4 2 (by omega); have s3 := subB_at B p 4 3 (by omega)
  rw [Nat.add_zero] at e0 s0
  simp only [numVal, s0, s1, s2, s3, hex4, e0, e1, e2, e3]
  omega
theorem unit_tells {B : ByteArray} {i : Nat} (a : Int) (hi : i ≤ B.size) : Tells a (unitE B ⟨i, 0, a⟩) ((unitS B i).bind fun _ => .ok (i + 6)) ∧ ∀ n, unitS B i = .ok n → unitV B ⟨i, 0, a⟩ = n := by
  have h := musts_tells a hi unitL 6 (by decide)
  have e1 : mustsL B (unitL.take 6) ⟨i, 0, a⟩ = unitE B ⟨i, 0, a⟩ := rfl
  rw [e1, firstBad_congr (g := unitFit B i) (fun m hm => (fit_unit B i m hm).symm)] at h
  have h' : Tells a (unitE B ⟨i, 0, a⟩) ((unitS B i).bind fun _ => .ok (i + 6)) := by
    unfold unitS
    cases hb : firstBad B i 6 (unitFit B i) with
    | ok u => rw [hb] at h; exact h
    | no k p => rw [hb] at h; exact h
  refine ⟨h', fun n hn => ?_⟩
  rw [hn] at h'
  have e2 : unitE B ⟨i, 0, a⟩ = ⟨i + 6, 0, a⟩ := h'
  obtain ⟨hf, e3, hsz⟩ := unitS_ok hn
  unfold unitV
  rw [e2, if_pos rfl, e3]
  refine num4_hex B (i + 2) (by omega) (fun k hk => ?_)
  have := hf (k + 2) (by omega)
  simp only [unitFit, Bool.and_eq_true] at this
  rw [if_neg (by omega), if_neg (by omega)] at this
  rw [Nat.add_assoc, Nat.add_comm 2 k]; exact this.2
/-- What a reader has read with a value. -/
def Tells2 (i : Nat) (a : Int) (x : St × Nat) : Sc (Nat × Nat) → Prop
  | .ok y => x.1 = ⟨i + y.2, 0, a⟩ ∧ x.2 = y.1
  | .no k p => x.1.k = k ∧ x.1.a = p ∧ k ≠ 0
theorem fail_at (i : Nat) (a : Int) (k : Nat) (p : Int) : failE ⟨i, 0, a⟩ k p = ⟨i, k, p⟩ := by unfold failE; rw [if_pos rfl]
theorem half_one {n : Nat} : halfN (n : Int) = 1 ↔ 55296 ≤ n ∧ n < 56320 := by unfold halfN; split <;> (try split) <;> omega
theorem half_two {n : Nat} : halfN (n : Int) = 2 ↔ 56320 ≤ n ∧ n < 57344 := by unfold halfN; split <;> (try split) <;> omega
theorem half_zero {n : Nat} : halfN (n : Int) = 0 ↔ n < 55296 ∨ 57343 < n := by unfold halfN; split <;> (try split) <;> omega
theorem pair_tells {B : ByteArray} {i : Nat} (a : Int) (hi : i ≤ B.size) : Tells2 i a (pairE B ⟨i, 0, a⟩) (pairS B i) := by
  obtain ⟨h1, h2⟩ := unit_tells a hi
  unfold pairE pairS
  cases hu : unitS B i with
  | no k p =>
    rw [hu] at h1
    obtain ⟨g1, g2, g3⟩ := h1
    simp only
    rw [if_pos (Or.inl (by rw [g1]; exact g3))]
    exact ⟨g1, g2, g3⟩
  | ok n =>
    rw [hu] at h1
    have e1 : unitE B ⟨i, 0, a⟩ = ⟨i + 6, 0, a⟩ := h1
    have hsz := (unitS_ok hu).2.2
    simp only [Sc.bind_ok]
    rw [h2 n hu, e1]
    by_cases c0 : n < 55296 ∨ 57343 < n
    · rw [if_pos (Or.inr (half_zero.2 c0)), if_pos c0]
      exact ⟨rfl, rfl⟩
    · rw [if_neg c0, if_neg (by simp [half_zero]; omega)]
      by_cases c1 : n < 56320
      · rw [if_pos c1, if_pos (half_one.2 (by omega))]
        obtain ⟨l1, l2⟩ := unit_tells (B := B) (i := i + 6) 0 hsz
        have el : lowE B ⟨i + 6, 0, a⟩ = unitE B ⟨i + 6, 0, 0⟩ := rfl
        have ev : lowV B ⟨i + 6, 0, a⟩ = unitV B ⟨i + 6, 0, 0⟩ := rfl
        cases hl : unitS B (i + 6) with
        | no k j =>
          rw [hl] at l1
          obtain ⟨g1, g2, g3⟩ := l1
          rw [el, g1, if_neg (by omega)]
          unfold pairLow
          simp only
          by_cases hk : k = 10
          · rw [if_pos hk, if_pos hk, g2, fail_at]
            exact ⟨rfl, rfl, by decide⟩
          · rw [if_neg hk, if_neg hk, fail_at]
            exact ⟨rfl, rfl, by decide⟩
        | ok m =>
          rw [hl] at l1
          have e2 : unitE B ⟨i + 6, 0, 0⟩ = ⟨i + 6 + 6, 0, 0⟩ := l1
          rw [el, e2, ev, l2 m hl]
          unfold pairLow
          simp only
          by_cases hm : 56320 ≤ m ∧ m ≤ 57343
          · rw [if_pos hm, if_pos ⟨trivial, half_two.2 (by omega)⟩]
            refine ⟨rfl, ?_⟩
            have q1 : (halfN (n : Int) == 1) = true := beq_iff_eq.2 (half_one.2 (by omega))
            have q2 : (halfN (m : Int) == 2) = true := beq_iff_eq.2 (half_two.2 (by omega))
            show (rwholeN n m).toNat = _
            unfold rwholeN
            rw [q1, q2, if_pos (by rfl)]
            simp only
            omega
          · rw [if_neg hm, if_neg (by simp [half_two]; omega), if_neg (by decide), fail_at]
            exact ⟨rfl, rfl, by decide⟩
      · rw [if_neg c1, if_neg (by simp [half_one]; omega), fail_at]
        exact ⟨rfl, rfl, by decide⟩
theorem esc_simple : ∀ c : Fin 256, simpleS c.val = if escNames.contains c.val then some (escVals[escNames.idxOf c.val]?.getD 0) else none := by decide +kernel
theorem esc_tells {B : ByteArray} {i : Nat} (a : Int) (hi : i < B.size) : Tells2 i a (escE B ⟨i, 0, a⟩) (escapeS B i) := by
  unfold escE escapeS
  have hc := byteAt_lt B (i + 1)
  by_cases h1 : i + 1 = B.size
  · rw [if_pos h1, if_pos h1]
    have : stepE ⟨i, 0, a⟩ = ⟨i + 1, 0, a⟩ := rfl
    rw [this, fail_at]
    exact ⟨rfl, by simp; omega, by decide⟩
  · rw [if_neg h1, if_neg h1]
    simp only
    have hs := esc_simple ⟨byteAt B (i + 1), hc⟩
    simp only at hs
    by_cases h2 : byteAt B (i + 1) = 117
    · rw [if_pos h2, if_neg (by rw [h2]; decide), if_neg (by rw [h2]; decide)]
      exact pair_tells a (by omega)
    · rw [if_neg h2, hs]
      cases h3 : escNames.contains (byteAt B (i + 1)) with
      | true =>
        rw [if_pos (show true = true from rfl), if_pos (show true = true from rfl)]
        exact ⟨rfl, rfl⟩
      | false =>
        rw [if_neg (show ¬ (false = true) by decide), if_neg (show ¬ (false = true) by decide), if_pos h2]
        have : stepE ⟨i, 0, a⟩ = ⟨i + 1, 0, a⟩ := rfl
        rw [this, fail_at]
        exact ⟨rfl, rfl, by decide⟩
theorem nx_char {B : ByteArray} {i : Nat} (hi : i < B.size) : (charS B i = .no 12 i ∧ (nxN B i).2 = 0) ∨ (charS B i = .ok (nxN B i) ∧ 0 < (nxN B i).2 ∧ i + (nxN B i).2 ≤ B.size) := by
  have h := decodeN_size (B.size - i) (byteAt B i) (byteAt B (i + 1)) (byteAt B (i + 2)) (byteAt B (i + 3)) (by omega)
  unfold charS nxN
  rw [if_neg (by omega)]
  by_cases hd : decU B i = (65533, 1)
  · rw [if_pos hd, if_pos hd]; exact Or.inl ⟨rfl, rfl⟩
  · rw [if_neg hd, if_neg hd]
    refine Or.inr ⟨rfl, ?_⟩
    unfold decU; omega
theorem fail_i (s : St) (k : Nat) (p : Int) : (failE s k p).i = s.i := by unfold failE; split <;> rfl
theorem unit_le {B : ByteArray} {s : St} (h : s.i ≤ B.size) : (unitE B s).i ≤ B.size := by unfold unitE; exact mustsE_le (mustE_le (mustE_le h)) 4
theorem pair_le {B : ByteArray} {s : St} (h : s.i ≤ B.size) : (pairE B s).1.i ≤ B.size := by
  have hu := unit_le h
  have hl : (lowE B (unitE B s)).i ≤ B.size := by unfold lowE; exact unit_le hu
  unfold pairE
  generalize unitE B s = u at *
  generalize unitV B s = n at *
  simp only
  split
  · exact hu
  · split
    · split
      · exact hl
      · split <;> (rw [fail_i]; exact hu)
    · rw [fail_i]; exact hu
theorem esc_le {B : ByteArray} {i : Nat} {a : Int} (hi : i < B.size) : (escE B ⟨i, 0, a⟩).1.i ≤ B.size := by
  have hp := pair_le (B := B) (s := ⟨i, 0, a⟩) (Nat.le_of_lt hi)
  unfold escE
  generalize pairE B ⟨i, 0, a⟩ = x at *
  by_cases h1 : i + 1 = B.size
  · rw [if_pos h1]; simp only; rw [fail_i]; exact hi
  · rw [if_neg h1]
    by_cases h2 : escNames.contains (byteAt B ((⟨i, 0, a⟩ : St).i + 1)) = true
    · rw [if_pos h2]; show i + 1 + 1 ≤ B.size; omega
    · rw [if_neg h2]
      by_cases h3 : byteAt B ((⟨i, 0, a⟩ : St).i + 1) ≠ 117
      · rw [if_pos h3]; simp only; rw [fail_i]; exact hi
      · rw [if_neg h3]; exact hp
end Go.Proofs.YtmdalkjhlhkloaaDoor
