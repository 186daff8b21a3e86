/- Cn8, Cn9 in one text (a claim holds at most 60 files). -/
import Derived.Test.YtheoaijheijojaaGreatDoorZCn3s
import Derived.Test.YtheoaijheijojaaGreatDoorZJbP0
import Derived.Test.YtheoaijheijojaaGreatDoorZJrP2s
namespace Go.Proofs.YtheoaijheijojaaGreatDoor
section
open Go.RowKit
theorem next_inv {B : ByteArray} {i : Int} {t : Tok} (h : nextI B i = .ok t) : ∃ (p : Nat) (x : Nat × Nat), t = ⟨x.1, p, x.2⟩ ∧ tokenS B p = .ok x ∧ p ≤ B.size ∧ i ≤ p := by
  unfold nextI at h
  split at h
  · cases h
  · rename_i hn
    unfold nextS at h
    obtain ⟨x, h1, h2⟩ := Sc.bind_eq_ok h
    cases h2
    have := skip_ge isBlank B i.toNat
    exact ⟨_, x, rfl, h1, skip_le _ _ _ (by omega), by omega⟩
theorem marks_lt {c : Nat} (h : marksL.contains c = true) : 1 + marksL.idxOf c < 7 := by
  have : marksL.idxOf c < 6 := List.idxOf_lt_length_iff.2 (by simpa using h)
  omega
theorem token_7 {B : ByteArray} {p : Nat} {x : Nat × Nat} (h : tokenS B p = .ok x) (h7 : x.1 = 7) : ∃ y, textS B (p + 1) [] = .ok y ∧ x.2 = y.2 := by
  unfold tokenS at h
  split at h
  · cases h; cases h7
  · split at h
    · rename_i hm; have := marks_lt hm; cases h; simp only at h7; omega
    · split at h
      · obtain ⟨y, h1, h2⟩ := Sc.bind_eq_ok h; cases h2; exact ⟨y, h1, rfl⟩
      · split at h
        · obtain ⟨y, h1, h2⟩ := Sc.bind_eq_ok h; cases h2; cases h7
        · repeat' split at h
          all_goals first
            | (obtain ⟨y, h1, h2⟩ := Sc.bind_eq_ok h; cases h2; cases h7)
            | cases h
theorem token_8 {B : ByteArray} {p : Nat} {x : Nat × Nat} (hp : p ≤ B.size) (h : tokenS B p = .ok x) (h8 : x.1 = 8) : p < B.size ∧ (byteAt B p = 45 ∨ isDig (byteAt B p) = true) ∧ numberS B p = .ok x.2 := by
  unfold tokenS at h
  split at h
  · cases h; cases h8
  · rename_i hne
    split at h
    · rename_i hm; have := marks_lt hm; cases h; simp only at h8; omega
    · split at h
      · obtain ⟨y, h1, h2⟩ := Sc.bind_eq_ok h; cases h2; cases h8
      · split at h
        · rename_i h45
          obtain ⟨y, h1, h2⟩ := Sc.bind_eq_ok h; cases h2; exact ⟨by omega, h45, h1⟩
        · repeat' split at h
          all_goals first
            | (obtain ⟨y, h1, h2⟩ := Sc.bind_eq_ok h; cases h2; cases h8)
            | cases h
theorem simple_lt {c x : Nat} (h : simpleS c = some x) : x < 128 := by
  unfold simpleS at h
  repeat' split at h
  all_goals first
    | (cases h; done)
    | (cases h; omega)
theorem step_put {B : ByteArray} {i : Nat} {y : Nat × Nat} (hi : i < B.size) (h : textStep B i = .ok y) : (putN y.1).length ≤ y.2 := by
  unfold textStep at h
  split at h
  · unfold escapeS at h
    split at h
    · cases h
    · split at h
      · have h4 := putN_len y.1
        unfold pairS at h
        obtain ⟨n, _, h2⟩ := Sc.bind_eq_ok h
        split at h2
        · cases h2; omega
        · split at h2
          · cases hm : unitS B (i + 6) with
            | ok m =>
              rw [hm, pairLow] at h2
              split at h2
              · rw [← Sc.ok.inj h2] at h4 ⊢; show _ ≤ 12; omega
              · cases h2
            | no k j => rw [hm, pairLow] at h2; split at h2 <;> cases h2
          · cases h2
      · split at h
        · rename_i x hx
          cases h
          have hx := simple_lt hx
          unfold putN
          rw [if_pos hx]
          show 1 ≤ 2
          decide
        · cases h
  · unfold charS at h
    split at h
    · cases h
    · split at h
      · cases h
      · rename_i hd
        cases h
        obtain ⟨k, k1, k4, kz, hh⟩ := dec_ok hi hd
        obtain ⟨e, _, hp⟩ := dec_hit k1 k4 kz hh
        have hk2 : (decU B i).2 = k := by rw [e]
        rw [hp, hk2, List.length_take]
        omega
theorem textF_put {B : ByteArray} : ∀ f i acc x, i ≤ B.size → textF B f i acc = .ok x → (x.1.flatMap putN).length + i ≤ (acc.flatMap putN).length + x.2
  | 0, i, acc, x, _, h => by cases h
  | f + 1, i, acc, x, hi, h => by
    rw [textF] at h
    split at h
    · cases h
    · split at h
      · cases h; simp only; omega
      · split at h
        · cases h
        · obtain ⟨y, h1, h2⟩ := Sc.bind_eq_ok h
          have hs := textStep_ok (by omega) h1
          have hp := step_put (by omega) h1
          have := textF_put f _ _ x hs.2 h2
          rw [List.flatMap_append, List.length_append, List.flatMap_cons, List.flatMap_nil, List.append_nil] at this
          omega
/-- A number's text. -/
def NumOK (x : JN) : Prop := x.kind = 3 → ∃ (B : ByteArray) (i e : Nat), i < B.size ∧ (byteAt B i = 45 ∨ isDig (byteAt B i) = true) ∧ numberS B i = .ok e ∧ x.text = B.extract i e
theorem textTok_le2 {B : ByteArray} {i : Int} {t : Tok} {x : ByteArray} (hn : nextI B i = .ok t) (h : textTok B t = some x) : (x.size : Int) ≤ t.to - t.fr := by
  obtain ⟨p, y, rfl, ht, hp, _⟩ := next_inv hn
  unfold textTok at h
  split at h
  · split at h
    · rename_i hc
      have h7 : (y.1 : Int) = 7 := hc.2
      obtain ⟨z, hz, e⟩ := token_7 ht (by omega)
      simp only [Int.toNat_natCast] at h
      rw [hz] at h
      cases h
      have hs := tokenS_ok hp ht
      have h1 := textF_put _ (p + 1) [] z (by omega) hz
      have h2 := strOf_size z.1
      simp only [List.flatMap_nil, List.length_nil] at h1
      simp only
      omega
    · cases h
  · cases h
theorem textN_le {B : ByteArray} {i : Int} {t : Tok} {k : Int} (hn : nextI B i = .ok t) : ((textN B k t).size : Int) ≤ t.to - t.fr := by
  have hs := tok_shape hn
  unfold textN
  split
  · cases ht : textTok B t with
    | none => show ((0 : Nat) : Int) ≤ _; omega
    | some x => exact textTok_le2 hn ht
  · split
    · rw [ByteArray.size_extract]; omega
    · show ((0 : Nat) : Int) ≤ _; omega
theorem node_numok {B : ByteArray} {i : Int} {t : Tok} {k : Int} {o : Op} (hn : nextI B i = .ok t) (hk : kindS t.kind = some k) : NumOK (nodeS B o k t) := by
  intro h3
  have h3 : k = 3 := h3
  subst h3
  obtain ⟨p, y, rfl, ht, hp, _⟩ := next_inv hn
  have h8 : y.1 = 8 := by
    unfold kindS at hk
    simp only at hk
    repeat' split at hk
    all_goals first
      | (cases hk; done)
      | omega
  obtain ⟨h1, h2, h3⟩ := token_8 hp ht h8
  refine ⟨B, p, y.2, h1, h2, h3, ?_⟩
  show textN B 3 _ = _
  unfold textN
  rw [if_neg (by decide), if_pos rfl]
  simp only [Int.toNat_natCast]
def pend : List Op → Nat
  | [] => 0
  | o :: _ => if (o.st = 1 ∨ o.st = 3) ∧ o.obj = true then o.key.size else 0
def wt (js : List JN) : Nat := (js.map fun x => x.key.size + x.text.size).sum
theorem wt_snoc (js : List JN) (x : JN) : wt (js ++ [x]) = wt js + (x.key.size + x.text.size) := by simp [wt]
structure WI (i : Int) (s : PS) : Prop where
  w : ((wt s.js + pend s.stack : Nat) : Int) ≤ i
  st : ∀ o ∈ s.stack, o.st = 0 ∨ o.st = 1 ∨ o.st = 2 ∨ o.st = 3 ∨ o.st = 4 ∨ o.st = 5
  nm : ∀ x ∈ s.js, NumOK x
def StOK (o : Op) : Prop := o.st = 0 ∨ o.st = 1 ∨ o.st = 2 ∨ o.st = 3 ∨ o.st = 4 ∨ o.st = 5
theorem st_cons {o : Op} {r : List Op} (h1 : StOK o) (h2 : ∀ p ∈ r, StOK p) : ∀ p ∈ o :: r, StOK p := fun p hp => by
  rcases List.mem_cons.1 hp with rfl | hp
  · exact h1
  · exact h2 p hp
theorem st_aft (o : Op) : StOK (aftO o) := by
  unfold aftO StOK
  simp only
  split <;> omega
theorem st_after {r : List Op} (h : ∀ o ∈ r, StOK o) : ∀ o ∈ afterS r, StOK o := by
  cases r with
  | nil => exact h
  | cons o r => exact st_cons (st_aft o) (fun p hp => h p (by simp [hp]))
theorem pend_zero {o : Op} {r : List Op} (h1 : o.st ≠ 1) (h3 : o.st ≠ 3) : pend (o :: r) = 0 := by
  show (if (o.st = 1 ∨ o.st = 3) ∧ o.obj = true then o.key.size else 0) = 0
  rw [if_neg (by rintro ⟨h | h, _⟩; exact h1 h; exact h3 h)]
theorem pend_after (r : List Op) : pend (afterS r) = 0 := by
  cases r with
  | nil => rfl
  | cons o r =>
    refine pend_zero ?_ ?_
    all_goals (unfold aftO; simp only; split <;> decide)
theorem take_wi {B : ByteArray} {m : Bd} {i : Int} {s s' : PS} {t : Tok} (hw : WI i s) (hn : nextI B i = .ok t) (h : takeS B m s t = .ok s') : WI t.to s' := by
  have hs := tok_shape hn
  have hw0 := hw.w
  have keep : ∀ (st : List Op), (∀ o ∈ st, StOK o) → pend st = 0 → WI t.to ⟨s.js, s.ups, st⟩ := fun st h1 h2 => ⟨by simp only [h2]; omega, h1, hw.nm⟩
  unfold takeS at h
  cases hs2 : s.stack with
  | nil => rw [hs2] at h; cases h; exact ⟨by omega, hw.st, hw.nm⟩
  | cons o r =>
    rw [hs2] at h hw0
    simp only at h
    have hst : ∀ p ∈ o :: r, StOK p := by rw [← hs2]; exact hw.st
    have ho : StOK o := hst o (by simp)
    have hr : ∀ p ∈ r, StOK p := fun p hp => hst p (by simp [hp])
    have hwr : ∀ {b : PS}, (wrongS t : Sc PS) = .ok b → WI t.to b := fun h => by unfold wrongS at h; split at h <;> cases h
    have hv : (o.st = 1 ∨ o.st = 0 ∧ o.obj = false) → valueS B m s o r t = .ok s' → WI t.to s' := fun hst1 h => by
      unfold valueS at h
      split at h
      · exact hwr h
      · rename_i kk hkk
        have hnd : wt (s.js ++ [nodeS B o kk t]) = wt s.js + ((nodeS B o kk t).key.size + (nodeS B o kk t).text.size) := wt_snoc _ _
        have hkey : (nodeS B o kk t).key.size ≤ pend (o :: r) := by
          show (if o.obj then o.key else ⟨#[]⟩ : ByteArray).size ≤ if (o.st = 1 ∨ o.st = 3) ∧ o.obj = true then o.key.size else 0
          rcases hst1 with h1 | ⟨_, h2⟩
          · cases hob : o.obj with
            | true => rw [if_pos rfl, if_pos ⟨.inl h1, rfl⟩]; exact Nat.le_refl _
            | false => rw [if_neg (by simp)]; exact Nat.zero_le _
          · rw [h2]; exact Nat.zero_le _
        have htx : (((nodeS B o kk t).text.size : Nat) : Int) ≤ t.to - t.fr := textN_le hn
        have hall : ∀ x ∈ s.js ++ [nodeS B o kk t], NumOK x := fun x hx => by
          rcases List.mem_append.1 hx with hx | hx
          · exact hw.nm x hx
          · rw [List.mem_singleton.1 hx]; exact node_numok hn hkk
        have done : ∀ st : List Op, (∀ o ∈ st, StOK o) → pend st = 0 → WI t.to (addS B s o kk t st) := fun st h1 h2 => ⟨by
          show ((wt (s.js ++ [nodeS B o kk t]) + pend st : Nat) : Int) ≤ t.to
          rw [hnd, h2]; omega, h1, hall⟩
        split at h
        · cases h
        · split at h
          · cases h
            exact done _ (st_after hst) (pend_after _)
          · split at h
            · cases h
            · cases h
              exact done _ (st_cons (.inl rfl) hst) (pend_zero (by show (0 : Int) ≠ 1; decide) (by show (0 : Int) ≠ 3; decide))
    have hy : (o.st = 0 ∨ o.st = 2) → keyS B s o r t = .ok s' → WI t.to s' := fun hst1 h => by
      unfold keyS at h
      split at h
      · exact hwr h
      · split at h
        · rename_i x hx
          cases h
          have := textTok_le2 hn hx
          have hp0 : pend (o :: r) = 0 := pend_zero (by omega) (by omega)
          have hp1 : pend ({ o with st := 3, key := x } :: r) ≤ x.size := by
            unfold pend
            simp only
            split <;> omega
          exact ⟨by simp only; omega, st_cons (.inr (.inr (.inr (.inl rfl)))) hr, hw.nm⟩
        · cases h
    have hb : betweenS s o r t = .ok s' → WI t.to s' := fun h => by
      unfold betweenS at h
      split at h
      · cases h; exact keep _ (st_after hr) (pend_after _)
      · split at h
        · exact hwr h
        · cases h
          refine keep _ (st_cons ?_ hr) ?_
          · unfold StOK; simp only; split <;> omega
          · unfold pend
            simp only
            cases o.obj <;> simp
    split at h
    · split at h
      · cases h; exact ⟨by rw [hs2]; omega, hw.st, hw.nm⟩
      · exact hwr h
    · rename_i n5
      split at h
      · rename_i h3
        split at h
        · cases h
          refine ⟨?_, st_cons (.inr (.inl rfl)) hr, hw.nm⟩
          have : pend ({ o with st := 1 } :: r) ≤ pend (o :: r) := by
            show (if ((1 : Int) = 1 ∨ (1 : Int) = 3) ∧ o.obj = true then o.key.size else 0) ≤ if (o.st = 1 ∨ o.st = 3) ∧ o.obj = true then o.key.size else 0
            cases o.obj with
            | true => rw [if_pos (by simp), if_pos ⟨.inr h3, rfl⟩]; exact Nat.le_refl _
            | false => rw [if_neg (by simp)]; exact Nat.zero_le _
          simp only
          omega
        · exact hwr h
      · rename_i n3
        split at h
        · exact hb h
        · rename_i n4
          split at h
          · rename_i h0
            split at h
            · cases h; exact keep _ (st_after hr) (pend_after _)
            · split at h
              · exact hy (.inl h0) h
              · rename_i hob; exact hv (.inr ⟨h0, by simpa using hob⟩) h
          · rename_i n0
            split at h
            · rename_i h2; exact hy (.inr h2) h
            · rename_i n2
              refine hv (.inl ?_) h
              rcases ho with h | h | h | h | h | h
              · exact absurd h n0
              · exact h
              · exact absurd h n2
              · exact absurd h n3
              · exact absurd h n4
              · exact absurd h n5
theorem run_wi {B : ByteArray} {m : Bd} : ∀ f i s s', WI i s → i ≤ B.size → runF B m f i s = .ok s' → WI B.size s'
  | 0, i, s, s', hw, hi, h => by cases h; exact ⟨by have := hw.w; omega, hw.st, hw.nm⟩
  | f + 1, i, s, s', hw, hi, h => by
    rw [runF] at h
    obtain ⟨t, hn, h⟩ := Sc.bind_eq_ok h
    obtain ⟨s2, ht, h⟩ := Sc.bind_eq_ok h
    have h2 := take_wi hw hn ht
    have hs := tok_shape hn
    split at h
    · cases h; exact ⟨by have := h2.w; omega, h2.st, h2.nm⟩
    · exact run_wi f _ s2 s' h2 hs.2.2.2.1 h
theorem parse_wt {B : ByteArray} {m : Bd} {s : PS} (h : parseS B m = .ok s) : wt s.js ≤ B.size ∧ ∀ x ∈ s.js, NumOK x := by
  unfold parseS at h
  split at h
  · cases h
  · have := run_wi _ 0 ps0 s ⟨by decide, fun o ho => by simp [ps0] at ho; subst ho; exact .inr (.inl rfl), fun x hx => by simp [ps0] at hx⟩ (by omega) h
    exact ⟨by have := this.w; omega, this.nm⟩
/-- The form's size, by what was read. -/
def gW (js : List JN) (k : Nat) : Nat := 6 * (keyA js k).size + 6 * (textA js k).text.size + 15
theorem sumW_flat (g : Nat → Nat) (h : Nat → List Nat) : ∀ l : List Nat, ((l.flatMap h).map g).sum = (l.map fun k => ((h k).map g).sum).sum
  | [] => rfl
  | x :: l => by rw [List.flatMap_cons, List.map_append, List.sum_append, sumW_flat g h l, List.map_cons, List.sum_cons]
theorem formF_size2 {js : List JN} {ups : List Nat} (hw : WfUps ups) : ∀ (f i : Nat), ups.length - i ≤ f → i < ups.length → (formF js ups f i).size + 6 * (keyA js i).size + 4 ≤ ((pre ups f i).map (gW js)).sum
  | 0, i, hf, hi => by omega
  | f + 1, i, hf, hi => by
    have ih : ∀ k ∈ kids ups i, (formF js ups f k).size + 6 * (keyA js k).size + 4 ≤ ((pre ups f k).map (gW js)).sum := fun k hk => by
      have h1 := kids_gt hw hk
      have h2 := (mem_kids.1 hk).2.1
      exact formF_size2 hw f k (by omega) h2
    have hsum := sum_le (kids ups i) ih
    rw [← sumW_flat] at hsum
    rw [show pre ups (f + 1) i = i :: (kids ups i).flatMap (pre ups f) from rfl, List.map_cons, List.sum_cons]
    have small : ∀ n, n ≤ 6 * (textA js i).text.size + 11 → n + 6 * (keyA js i).size + 4 ≤ gW js i + (((kids ups i).flatMap (pre ups f)).map (gW js)).sum := fun n hn => by unfold gW; omega
    rw [formF]
    split
    · exact small _ (by show 4 ≤ _; omega)
    · split
      · exact small _ (by show 5 ≤ _; omega)
      · split
        · exact small _ (by show 4 ≤ _; omega)
        · split
          · exact small _ (by omega)
          · split
            · exact small _ (by have := quoteB_le (textA js i).text; omega)
            · split
              · have h1 := objB_size ((membersS js (kids ups i)).map fun k => (keyA js k, formF js ups f k))
                rw [List.map_map] at h1
                have h2 : ((membersS js (kids ups i)).map ((fun p : KV => 6 * p.1.size + p.2.size + 4) ∘ fun k => (keyA js k, formF js ups f k))).sum ≤ ((kids ups i).map fun k => (formF js ups f k).size + 6 * (keyA js k).size + 4).sum :=
                  Nat.le_trans (sum_le (h := fun k => (formF js ups f k).size + 6 * (keyA js k).size + 4) _ (fun k _ => by
                    show 6 * (keyA js k).size + (formF js ups f k).size + 4 ≤ _
                    omega)) (sum_filter _ _ _)
                have hg : gW js i = 6 * (keyA js i).size + 6 * (textA js i).text.size + 15 := rfl
                omega
              · have h1 := lstB_size ((kids ups i).map (formF js ups f))
                rw [List.map_map] at h1
                have h2 : ((kids ups i).map ((fun x : ByteArray => x.size + 1) ∘ formF js ups f)).sum ≤ ((kids ups i).map fun k => (formF js ups f k).size + 6 * (keyA js k).size + 4).sum := sum_le _ (fun k _ => by
                  show (formF js ups f k).size + 1 ≤ _
                  omega)
                have hg : gW js i = 6 * (keyA js i).size + 6 * (textA js i).text.size + 15 := rfl
                omega
theorem sum_sub {g : Nat → Nat} : ∀ {l l' : List Nat}, l.Nodup → (∀ x ∈ l, x ∈ l') → (l.map g).sum ≤ (l'.map g).sum
  | [], l', _, _ => Nat.zero_le _
  | x :: t, l', hn, hs => by
    rw [List.nodup_cons] at hn
    have hp := List.perm_cons_erase (hs x (by simp))
    rw [sum_perm (hp.map g), List.map_cons, List.map_cons, List.sum_cons, List.sum_cons]
    have := sum_sub (g := g) (l := t) (l' := l'.erase x) hn.2 (fun y hy => by
      have hne : y ≠ x := fun e => hn.1 (e ▸ hy)
      exact (List.mem_erase_of_ne hne).2 (hs y (by simp [hy])))
    omega
theorem sum_all (js : List JN) : ((List.range js.length).map (gW js)).sum = 6 * wt js + 15 * js.length := by
  have e : (List.range js.length).map (gW js) = js.map fun x => 6 * x.key.size + 6 * x.text.size + 15 := by
    apply List.ext_getElem
    · simp
    · intro i h1 h2
      have hi : i < js.length := by simpa using h2
      simp only [List.getElem_map, List.getElem_range]
      unfold gW keyA textA
      rw [List.getElem?_eq_getElem hi]
      rfl
  rw [e]
  unfold wt
  have key : ∀ l : List JN, (l.map fun x => 6 * x.key.size + 6 * x.text.size + 15).sum = 6 * (l.map fun x => x.key.size + x.text.size).sum + 15 * l.length := fun l => by
    induction l with
    | nil => rfl
    | cons x l ih => simp only [List.map_cons, List.sum_cons, List.length_cons]; omega
  exact key js
end
section
open Go.RowKit
theorem formF_fuel {js : List JN} {ups : List Nat} (hw : WfUps ups) : ∀ (f g i : Nat), ups.length - i ≤ f → ups.length - i ≤ g → i < ups.length → formF js ups f i = formF js ups g i
  | 0, g, i, hf, hg, hi => by omega
  | f + 1, 0, i, hf, hg, hi => by omega
  | f + 1, g + 1, i, hf, hg, hi => by
    have ih : ∀ k ∈ kids ups i, formF js ups f k = formF js ups g k := fun k hk => by
      have h1 := kids_gt hw hk
      have h2 := (mem_kids.1 hk).2.1
      exact formF_fuel hw f g k (by omega) (by omega) h2
    have e1 : ((membersS js (kids ups i)).map fun k => (keyA js k, formF js ups f k)) = (membersS js (kids ups i)).map fun k => (keyA js k, formF js ups g k) :=
      List.map_congr_left (fun k hk => by rw [ih k (List.mem_filter.1 hk).1])
    have e2 : (kids ups i).map (formF js ups f) = (kids ups i).map (formF js ups g) := List.map_congr_left ih
    rw [formF, formF, e1, e2]
theorem members_all {js : List JN} {K : List Nat} (hs : K.Pairwise (· < ·)) (hd : ∀ (i j k k' : Nat), K[i]? = some k → K[j]? = some k' → keyA js k = keyA js k' → i = j) : membersS js K = K := by
  refine List.filter_eq_self.2 (fun k hk => ?_)
  obtain ⟨i, hi⟩ := List.getElem?_of_mem hk
  rw [isLast_iff hs hi]
  have : anyK js (K.drop (i + 1)) (keyA js k) = false := by
    rw [Bool.eq_false_iff]
    intro h
    obtain ⟨k', hk', e⟩ := List.any_eq_true.1 h
    obtain ⟨j, hj⟩ := List.getElem?_of_mem hk'
    rw [List.getElem?_drop] at hj
    have := hd _ _ _ _ hj hi (of_decide_eq_true e)
    omega
  rw [this]; rfl
theorem nodup_inj {α : Type} {l : List α} {i j : Nat} {x : α} (hn : l.Nodup) (h1 : l[i]? = some x) (h2 : l[j]? = some x) : i = j := by
  obtain ⟨a1, e1⟩ := List.getElem?_eq_some_iff.1 h1
  obtain ⟨a2, e2⟩ := List.getElem?_eq_some_iff.1 h2
  rcases Nat.lt_trichotomy i j with h | h | h
  · exact absurd (e1.trans e2.symm) (List.pairwise_iff_getElem.1 hn i j a1 a2 h)
  · exact h
  · exact absurd (e2.trans e1.symm) (List.pairwise_iff_getElem.1 hn j i a2 a1 h)
theorem rv_parse {φ : List JN → List Nat → Nat → Prop} {T : ByteArray} {c d : Nat} {m : Bd} (h : RV φ T c d) (hb : (T.size : Int) ≤ m.bytes) (hn : (c : Int) ≤ m.nodes) (hd : (d : Int) ≤ m.deep) :
    ∃ s, parseS T m = .ok s ∧ φ s.js s.ups 0 ∧ 0 < s.js.length ∧ s.js.length ≤ c ∧ s.ups.length = s.js.length := by
  obtain ⟨nj, nu, g1, g2, g3, g4, g5, g6, g7, g8⟩ := h T m 0 [] [] ⟨-1, false, 1, ⟨#[]⟩⟩ [] (at_self T) (fun h => by omega) (.inl rfl) rfl (.inl rfl) (by simpa using hn) (by simpa using hd)
  have he : nextI T ((T.size : Nat) : Int) = .ok ⟨0, T.size, T.size⟩ := by
    rw [nextI_at (Nat.le_refl _) (fun h => by omega)]
    unfold tokenS
    rw [if_pos rfl]; rfl
  refine ⟨⟨nj, nu, [aftO ⟨-1, false, 1, ⟨#[]⟩⟩]⟩, ?_, ?_, g2, g3, g1.symm⟩
  · unfold parseS
    rw [if_neg (by omega)]
    rw [Nat.zero_add] at g4
    show runS T m ((0 : Nat) : Int) ⟨[], [], ⟨-1, false, 1, ⟨#[]⟩⟩ :: []⟩ = _
    rw [g4]
    exact d_end rfl he rfl
  · refine g8 nj nu g1.symm ⟨fun k hk => ?_, fun k hk => ?_⟩ (fun k u h0 hk hor => ?_)
    · rw [show ([] : List JN).length + k = k from Nat.zero_add k]
    · rw [show ([] : List JN).length + k = k from Nat.zero_add k]
    · have := (List.getElem?_eq_some_iff.1 hk).1
      simp only [List.length_nil] at hor
      omega
structure ROK (s : PS) (D : Nat) : Prop where
  wf : WfUps s.ups
  ul : s.ups.length = s.js.length
  key : ∀ x ∈ s.js, RightB x.key
  text : ∀ x ∈ s.js, x.kind = 4 → RightB x.text
  lo : ∀ x ∈ s.js, 0 ≤ x.kind ∧ x.kind ≤ 6
  num : ∀ x ∈ s.js, NumOK x
  dp : ∀ (i : Nat) (x : JN), s.js[i]? = some x → 5 ≤ x.kind → chainU s.ups i ≤ D
def itF (js : List JN) (ups : List Nat) (f k : Nat) : It := ⟨keyA js k, formF js ups f k, fun js2 ups2 b => formF js2 ups2 f b = formF js ups f k, (pre ups f k).length⟩
theorem sum_len {α : Type} (g : α → List Nat) : ∀ l : List α, (l.map fun x => (g x).length).sum = (l.flatMap g).length
  | [] => rfl
  | x :: l => by rw [List.map_cons, List.sum_cons, sum_len g l, List.flatMap_cons, List.length_append]
theorem form_rv {s : PS} {D : Nat} (H : ROK s D) : ∀ (f i : Nat), s.ups.length - i ≤ f → i < s.ups.length → RV (fun js2 ups2 b => formF js2 ups2 f b = formF s.js s.ups f i) (formF s.js s.ups f i) (pre s.ups f i).length (D + 1 - chainU s.ups i)
  | 0, i, hf, hi => by omega
  | f + 1, i, hf, hi => by
    obtain ⟨x, hx⟩ := get_ex s.js i (by rw [← H.ul]; exact hi)
    have hm := List.mem_of_getElem? hx
    have ht : textA s.js i = x := by unfold textA; rw [hx]; rfl
    have hlo := H.lo x hm
    have hp : (pre s.ups (f + 1) i).length = ((kids s.ups i).flatMap (pre s.ups f)).length + 1 := rfl
    have hform : formF s.js s.ups (f + 1) i = (if x.kind = 0 then nullB else if x.kind = 1 then falseB else if x.kind = 2 then trueB else if x.kind = 3 then x.text else if x.kind = 4 then quoteB x.text
      else if x.kind = 6 then objB ((membersS s.js (kids s.ups i)).map fun k => (keyA s.js k, formF s.js s.ups f k)) else lstB ((kids s.ups i).map (formF s.js s.ups f))) := by rw [formF, ht]
    have hun : ∀ (js2 : List JN) (ups2 : List Nat) (b : Nat), formF js2 ups2 (f + 1) b = (if (textA js2 b).kind = 0 then nullB else if (textA js2 b).kind = 1 then falseB else if (textA js2 b).kind = 2 then trueB
      else if (textA js2 b).kind = 3 then (textA js2 b).text else if (textA js2 b).kind = 4 then quoteB (textA js2 b).text
      else if (textA js2 b).kind = 6 then objB ((membersS js2 (kids ups2 b)).map fun k => (keyA js2 k, formF js2 ups2 f k)) else lstB ((kids ups2 b).map (formF js2 ups2 f))) := fun _ _ _ => rfl
    have ih : ∀ k ∈ kids s.ups i, RV (fun js2 ups2 b => formF js2 ups2 f b = formF s.js s.ups f k) (formF s.js s.ups f k) (pre s.ups f k).length (D + 1 - chainU s.ups k) ∧ chainU s.ups k = chainU s.ups i + 1 ∧ RightB (keyA s.js k) := fun k hk => by
      have h1 := kids_gt H.wf hk
      have h2 := mem_kids.1 hk
      refine ⟨form_rv H f k (by omega) h2.2.1, chainU_up H.wf h2.1 h2.2.2, ?_⟩
      obtain ⟨y, hy⟩ := get_ex s.js k (by rw [← H.ul]; exact h2.2.1)
      unfold keyA
      rw [hy]
      exact H.key y (List.mem_of_getElem? hy)
    have hkc : x.kind = 0 ∨ x.kind = 1 ∨ x.kind = 2 ∨ x.kind = 3 ∨ x.kind = 4 ∨ x.kind = 6 ∨ x.kind = 5 := by omega
    rw [hform, hp]
    rcases hkc with hk | hk | hk | hk | hk | hk | hk
    · rw [if_pos hk]
      refine RV.mono (rv_word (k := 11) (c := 0) (.inr (.inr ⟨rfl, rfl, rfl⟩)) rfl (by decide)) (fun js2 ups2 b _ hφ => ?_) (by omega) (by omega)
      rw [hun, if_pos hφ.1]
    · rw [if_neg (by omega), if_pos hk]
      refine RV.mono (rv_word (k := 10) (c := 1) (.inr (.inl ⟨rfl, rfl, rfl⟩)) rfl (by decide)) (fun js2 ups2 b _ hφ => ?_) (by omega) (by omega)
      rw [hun, if_neg (by rw [hφ.1]; decide), if_pos hφ.1]
    · rw [if_neg (by omega), if_neg (by omega), if_pos hk]
      refine RV.mono (rv_word (k := 9) (c := 2) (.inl ⟨rfl, rfl, rfl⟩) rfl (by decide)) (fun js2 ups2 b _ hφ => ?_) (by omega) (by omega)
      rw [hun, if_neg (by rw [hφ.1]; decide), if_neg (by rw [hφ.1]; decide), if_pos hφ.1]
    · rw [if_neg (by omega), if_neg (by omega), if_neg (by omega), if_pos hk]
      obtain ⟨B, j, e, n1, n2, n3, n4⟩ := H.num x hm hk
      rw [n4]
      refine RV.mono (rv_num n1 n2 n3) (fun js2 ups2 b _ hφ => ?_) (by omega) (by omega)
      rw [hun, if_neg (by rw [hφ.1]; decide), if_neg (by rw [hφ.1]; decide), if_neg (by rw [hφ.1]; decide), if_pos hφ.1, hφ.2]
    · rw [if_neg (by omega), if_neg (by omega), if_neg (by omega), if_neg (by omega), if_pos hk]
      refine RV.mono (rv_text (H.text x hm hk)) (fun js2 ups2 b _ hφ => ?_) (by omega) (by omega)
      rw [hun, if_neg (by rw [hφ.1]; decide), if_neg (by rw [hφ.1]; decide), if_neg (by rw [hφ.1]; decide), if_neg (by rw [hφ.1]; decide), if_pos hφ.1, hφ.2]
    · rw [if_neg (by omega), if_neg (by omega), if_neg (by omega), if_neg (by omega), if_neg (by omega), if_pos hk]
      have hdp := H.dp i x hx (by omega)
      generalize hms : membersS s.js (kids s.ups i) = ms
      have hmk : ∀ k ∈ ms, k ∈ kids s.ups i := fun k hk => by rw [← hms] at hk; exact (List.mem_filter.1 hk).1
      have hmn : ms.Nodup := by rw [← hms]; exact List.Pairwise.filter _ ((kids_sorted s.ups i).imp (fun h => by omega))
      have hinj : ∀ a ∈ ms, ∀ b ∈ ms, keyA s.js a = keyA s.js b → a = b := fun a ha b hb h => by rw [← hms] at ha hb; exact members_inj ha hb h
      obtain ⟨h, hh⟩ : ∃ h : Nat → KV, h = fun k => (keyA s.js k, formF s.js s.ups f k) := ⟨_, rfl⟩
      rw [← hh]
      generalize hks : ms.mergeSort (fun a b => kvLe (h a) (h b)) = ks
      have hperm : ks.Perm ms := by rw [← hks]; exact List.mergeSort_perm _ _
      have hsort : (ms.map h).mergeSort kvLe = ks.map h := by
        rw [← hks]
        exact (List.map_mergeSort (r := fun a b => kvLe (h a) (h b)) (s := kvLe) (f := h) (l := ms) (fun a _ b _ => rfl)).symm
      have hkm : ∀ k ∈ ks, k ∈ ms := fun k hk => hperm.mem_iff.1 hk
      have hkn : ks.Nodup := (hperm.nodup_iff).2 hmn
      obtain ⟨l, hl⟩ : ∃ l, ks.map (itF s.js s.ups f) = l := ⟨_, rfl⟩
      have hT : objB (ms.map h) = ⟨#[if true then 123 else 91]⟩ ++ J (l.map (It.text true)) ++ ⟨#[closeC true]⟩ := by
        unfold objB
        rw [hsort, ← hl, List.map_map, List.map_map, hh]
        rfl
      have hc : sumC l ≤ ((kids s.ups i).flatMap (pre s.ups f)).length := by
        rw [← sum_len, ← hl]
        unfold sumC
        rw [List.map_map]
        show (ks.map fun k => (pre s.ups f k).length).sum ≤ _
        rw [sum_perm (hperm.map _), ← hms]
        exact sum_filter _ _ _
      rw [hT]
      refine RV.mono (rv_in true (D - chainU s.ups i) l (fun y hy => ?_)) (fun js2 ups2 b hlen hφ => ?_) (by omega) (by omega)
      · rw [← hl] at hy
        obtain ⟨k, hk, rfl⟩ := List.mem_map.1 hy
        obtain ⟨h1, h2, h3⟩ := ih k (hmk k (hkm k hk))
        refine ⟨?_, fun _ => h3⟩
        have e : D + 1 - chainU s.ups k = D - chainU s.ups i := by omega
        rw [e] at h1
        exact h1
      · rw [← hT]
        obtain ⟨p1, p2, p3⟩ := hφ
        have p1 : (textA js2 b).kind = 6 := p1
        rw [hun, if_neg (by rw [p1]; decide), if_neg (by rw [p1]; decide), if_neg (by rw [p1]; decide), if_neg (by rw [p1]; decide), if_neg (by rw [p1]; decide), if_pos p1]
        have hll : l.length = ks.length := by rw [← hl, List.length_map]
        have hat : ∀ (j q k : Nat), ks[j]? = some q → (kids ups2 b)[j]? = some k → formF js2 ups2 f k = formF s.js s.ups f q ∧ keyA js2 k = keyA s.js q := fun j q k hq hk => by
          have := p3 j (itF s.js s.ups f q) k (by rw [← hl, List.getElem?_map, hq]; rfl) hk
          exact this
        have hall : membersS js2 (kids ups2 b) = kids ups2 b := by
          refine members_all (kids_sorted _ _) (fun j j' k k' h1 h2 he => ?_)
          have l1 := (List.getElem?_eq_some_iff.1 h1).1
          have l2 := (List.getElem?_eq_some_iff.1 h2).1
          obtain ⟨q, hq⟩ := get_ex ks j (by omega)
          obtain ⟨q', hq'⟩ := get_ex ks j' (by omega)
          rw [(hat j q k hq h1).2, (hat j' q' k' hq' h2).2] at he
          have := hinj q (hkm q (List.mem_of_getElem? hq)) q' (hkm q' (List.mem_of_getElem? hq')) he
          subst this
          exact nodup_inj hkn hq hq'
        have hmap : ((kids ups2 b).map fun k => (keyA js2 k, formF js2 ups2 f k)) = ks.map h := by
          apply List.ext_getElem?
          intro j
          rw [List.getElem?_map, List.getElem?_map]
          by_cases hj : j < ks.length
          · obtain ⟨q, hq⟩ := get_ex ks j hj
            obtain ⟨k, hk⟩ := get_ex (kids ups2 b) j (by omega)
            obtain ⟨e1, e2⟩ := hat j q k hq hk
            rw [hq, hk, hh]
            simp only [Option.map_some]
            rw [e1, e2]
          · rw [List.getElem?_eq_none (by omega), List.getElem?_eq_none (by omega)]; rfl
        rw [hall, hmap]
        exact objB_perm (hperm.map h) (fun a ha b hb e => by
          obtain ⟨q, hq, rfl⟩ := List.mem_map.1 ha
          obtain ⟨q', hq', rfl⟩ := List.mem_map.1 hb
          rw [hh] at e
          rw [hinj q hq q' hq' e])
    · rw [if_neg (by omega), if_neg (by omega), if_neg (by omega), if_neg (by omega), if_neg (by omega), if_neg (by omega)]
      have hdp := H.dp i x hx (by omega)
      obtain ⟨l, hl⟩ : ∃ l, (kids s.ups i).map (itF s.js s.ups f) = l := ⟨_, rfl⟩
      have hT : lstB ((kids s.ups i).map (formF s.js s.ups f)) = ⟨#[if false then 123 else 91]⟩ ++ J (l.map (It.text false)) ++ ⟨#[closeC false]⟩ := by
        unfold lstB
        rw [← hl, List.map_map]
        rfl
      have hc : sumC l ≤ ((kids s.ups i).flatMap (pre s.ups f)).length := by
        rw [← sum_len, ← hl]
        unfold sumC
        rw [List.map_map]
        exact Nat.le_refl _
      rw [hT]
      refine RV.mono (rv_in false (D - chainU s.ups i) l (fun y hy => ?_)) (fun js2 ups2 b hlen hφ => ?_) (by omega) (by omega)
      · rw [← hl] at hy
        obtain ⟨k, hk, rfl⟩ := List.mem_map.1 hy
        obtain ⟨h1, h2, h3⟩ := ih k hk
        refine ⟨?_, fun h => by cases h⟩
        have e : D + 1 - chainU s.ups k = D - chainU s.ups i := by omega
        rw [e] at h1
        exact h1
      · rw [← hT]
        obtain ⟨p1, p2, p3⟩ := hφ
        have p1 : (textA js2 b).kind = 5 := p1
        rw [hun, if_neg (by rw [p1]; decide), if_neg (by rw [p1]; decide), if_neg (by rw [p1]; decide), if_neg (by rw [p1]; decide), if_neg (by rw [p1]; decide), if_neg (by rw [p1]; decide)]
        have hll : l.length = (kids s.ups i).length := by rw [← hl, List.length_map]
        congr 1
        apply List.ext_getElem?
        intro j
        rw [List.getElem?_map, List.getElem?_map]
        by_cases hj : j < (kids s.ups i).length
        · obtain ⟨q, hq⟩ := get_ex (kids s.ups i) j hj
          obtain ⟨k, hk⟩ := get_ex (kids ups2 b) j (by omega)
          have := p3 j (itF s.js s.ups f q) k (by rw [← hl, List.getElem?_map, hq]; rfl) hk
          rw [hq, hk]
          exact congrArg some this.1
        · rw [List.getElem?_eq_none (by omega), List.getElem?_eq_none (by omega)]; rfl
theorem deepTo_ge {js : List JN} {ups : List Nat} : ∀ (n i : Nat) (x : JN), i < n → js[i]? = some x → 5 ≤ x.kind → chainU ups i ≤ deepTo js ups n
  | 0, i, x, h, _, _ => by omega
  | n + 1, i, x, h, hx, hk => by
    rw [deepTo_succ]
    by_cases he : i = n
    · subst he
      rw [hx]
      simp only
      rw [if_neg (by omega)]
      exact Nat.le_max_right _ _
    · have := deepTo_ge (ups := ups) n i x (by omega) hx hk
      split
      · split
        · exact this
        · exact Nat.le_trans this (Nat.le_max_left _ _)
      · exact this
theorem parse_rok {B : ByteArray} {s : PS} (h : parseS B ⟨1048576, 64, 5000⟩ = .ok s) (hB : B.size ≤ 2000) : ROK s 64 := by
  have hn := parse_nodes h
  have hw := parse_wt h
  have hl := parse_len h
  unfold parseS at h
  split at h
  · cases h
  · have R := runs_ok B ⟨1048576, 64, 5000⟩ _ _ _ _ bi0 h
    refine ⟨R.bi.wf, R.bi.len, fun x hx => (hn x hx).key, fun x hx => (hn x hx).text, fun x hx => ⟨(hn x hx).lo, (hn x hx).hi⟩, hw.2, fun i x hx hk => ?_⟩
    have h1 := deepTo_ge (ups := s.ups) s.js.length i x (List.getElem?_eq_some_iff.1 hx).1 hx hk
    have h2 : deepS s.js s.ups ≤ 64 := by
      refine Nat.le_of_not_lt fun hlt => ?_
      obtain ⟨p, hp⟩ := R.over ⟨1048576, 64, 5000⟩ (by show (s.js.length : Int) ≤ 5000; omega) (by show ((0 : Nat) : Int) ≤ 64; decide) (by show (64 : Int) < _; omega)
      unfold runS at h
      rw [h] at hp
      cases hp
    exact Nat.le_trans h1 h2
theorem form_small {B : ByteArray} {s : PS} (h : parseS B ⟨1048576, 64, 5000⟩ = .ok s) (hB : B.size ≤ 2000) {f i : Nat} (hf : s.ups.length - i ≤ f) (hi : i < s.ups.length) : (formF s.js s.ups f i).size ≤ 50000 := by
  have H := parse_rok h hB
  have h1 := formF_size2 (js := s.js) H.wf f i hf hi
  have h2 : ((pre s.ups f i).map (gW s.js)).sum ≤ ((List.range s.js.length).map (gW s.js)).sum := sum_sub (pre_nodup H.wf f i hi) (fun x hx => List.mem_range.2 (by rw [← H.ul]; exact (pre_range H.wf f i x hi hx).2))
  rw [sum_all] at h2
  have h3 := (parse_wt h).1
  have h4 := parse_len h
  omega
theorem wt_mem : ∀ {js : List JN} {x : JN}, x ∈ js → x.key.size + x.text.size ≤ wt js
  | y :: l, x, h => by
    have e : wt (y :: l) = (y.key.size + y.text.size) + wt l := by simp [wt]
    rw [e]
    rcases List.mem_cons.1 h with rfl | h
    · omega
    · have := wt_mem h
      omega
theorem parse_nodes2 {B : ByteArray} {m : Bd} {s : PS} (h : parseS B m = .ok s) : ∀ x ∈ s.js, NodeOK B.size x := fun x hx => by
  have h1 := parse_nodes h x hx
  have h2 := wt_mem hx
  have h3 := (parse_wt h).1
  exact ⟨h1.key, h1.text, h1.lo, h1.hi, by omega, by omega⟩
/-- The canonical form is read, and has itself as its form. -/
theorem canon_again {B : ByteArray} {s : PS} (h : parseS B ⟨1048576, 64, 5000⟩ = .ok s) (hB : B.size ≤ 2000) {f i : Nat} (hf : s.ups.length ≤ f) (hi : i < s.ups.length) :
    ∃ s', parseS (formF s.js s.ups f i) ⟨1048576, 64, 5000⟩ = .ok s' ∧ formF s'.js s'.ups f 0 = formF s.js s.ups f i ∧ 0 < s'.js.length ∧ s'.js.length ≤ s.js.length := by
  have H := parse_rok h hB
  have h1 := form_rv H f i (by omega) hi
  have h2 := pre_length H.wf f i hi
  have h3 := form_small h hB (f := f) (i := i) (by omega) hi
  have h4 := parse_len h
  have hul := H.ul
  have h5 := chainU_pos hi
  obtain ⟨s', p1, p2, p3, p4, p5⟩ := rv_parse (m := ⟨1048576, 64, 5000⟩) h1 (by show ((formF s.js s.ups f i).size : Int) ≤ 1048576; omega) (by show (((pre s.ups f i).length : Nat) : Int) ≤ 5000; omega) (by show ((64 + 1 - chainU s.ups i : Nat) : Int) ≤ 64; omega)
  exact ⟨s', p1, p2, p3, by omega⟩
end
end Go.Proofs.YtheoaijheijojaaGreatDoor
