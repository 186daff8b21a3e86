/- Cn8, Cn9 in one text (a claim holds at most 60 files). -/
import Derived.Test.YtheoaijheijojaaGreatDoorZCn3s
import Derived.Test.YtheoaijheijojaaGreatDoorZJbP0
import Derived.Test.YtheoaijheijojaaGreatDoorZJrP2s
namespace Go.Proofs.YtheoaijheijojaaGreatDoor
section
open Go.RowKit
theorem next_inv {B : ByteArray} {i : Int} {t : Tok} (h : nextI B i = .ok t) : ∃ (p : Nat) (x : Nat × Nat), t = ⟨x.1, p, x.2⟩ ∧ tokenS B p = .ok x ∧ p ≤ B.size ∧ i ≤ p := by
  unfold nextI at h
  split at h
  · cases h
  · rename_i hn
    unfold nextS at h
    obtain ⟨x, h1, h2⟩ := Sc.bind_eq_ok h
    cases h2
    have := skip_ge isBlank B i.toNat
    exact ⟨_, x, rfl, h1, skip_le _ _ _ (by omega), by omega⟩
theorem marks_lt {c : Nat} (h : marksL.contains c = true) : 1 + marksL.idxOf c < 7 := by
  have : marksL.idxOf c < 6 := List.idxOf_lt_length_iff.2 (by simpa using h)
  omega
theorem token_7 {B : ByteArray} {p : Nat} {x : Nat × Nat} (h : tokenS B p = .ok x) (h7 : x.1 = 7) : ∃ y, textS B (p + 1) [] = .ok y ∧ x.2 = y.2 := by
  unfold tokenS at h
  split at h
  · cases h; cases h7
  · split at h
    · rename_i hm; have := marks_lt hm; cases h; simp only at h7; omega
    · split at h
      · obtain ⟨y, h1, h2⟩ := Sc.bind_eq_ok h; cases h2; exact ⟨y, h1, rfl⟩
      · split at h
        · obtain ⟨y, h1, h2⟩ := Sc.bind_eq_ok h; cases h2; cases h7
        · repeat' split at h
          all_goals first
            | (obtain ⟨y, h1, h2⟩ := Sc.bind_eq_ok h; cases h2; cases h7)
            | cases h
theorem token_8 {B : ByteArray} {p : Nat} {x : Nat × Nat} (hp : p ≤ B.size) (h : tokenS B p = .ok x) (h8 : x.1 = 8) : p < B.size ∧ (byteAt B p = 45 ∨ isDig (byteAt B p) = true) ∧ numberS B p = .ok x.2 := by
  unfold tokenS at h
  split at h
  · cases h; cases h8
  · rename_i hne
    split at h
    · rename_i hm; have := marks_lt hm; cases h; simp only at h8; omega
    · split at h
      · obtain ⟨y, h1, h2⟩ := Sc.bind_eq_ok h; cases h2; cases h8
      · split at h
        · rename_i h45
          obtain ⟨y, h1, h2⟩ := Sc.bind_eq_ok h; cases h2; exact ⟨by omega, h45, h1⟩
        · repeat' split at h
          all_goals first
            | (obtain ⟨y, h1, h2⟩ := Sc.bind_eq_ok h; cases h2; cases h8)
            | cases h
theorem simple_lt {c x : Nat} (h : simpleS c = some x) : x < 128 := by
  unfold simpleS at h
  repeat' split at h
  all_goals first
    | (cases h; done)
    | (cases h; omega)
theorem step_put {B : ByteArray} {i : Nat} {y : Nat × Nat} (hi : i < B.size) (h : textStep B i = .ok y) : (putN y.1).length ≤ y.2 := by
  unfold textStep at h
  split at h
  · unfold escapeS at h
    split at h
    · cases h
    · split at h
      · have h4 := putN_len y.1
        unfold pairS at h
        obtain ⟨n, _, h2⟩ := Sc.bind_eq_ok h
        split at h2
        · cases h2; omega
        · split at h2
          · cases hm : unitS B (i + 6) with
            | ok m =>
              rw [hm, pairLow] at h2
              split at h2
              · rw [← Sc.ok.inj h2] at h4 ⊢; show _ ≤ 12; omega
              · cases h2
            | no k j => rw [hm, pairLow] at h2; split at h2 <;> cases h2
          · cases h2
      · split at h
        · rename_i x hx
          cases h
          have hx := simple_lt hx
          unfold putN
          rw [if_pos hx]
          show 1 ≤ 2
          decide
        · cases h
  · unfold charS at h
    split at h
    · cases h
    · split at h
      · cases h
      · rename_i hd
        cases h
        obtain ⟨k, k1, k4, kz, hh⟩ := dec_ok hi hd
        obtain ⟨e, _, hp⟩ := dec_hit k1 k4 kz hh
        have hk2 : (decU B i).2 = k := by rw [e]
        rw [hp, hk2, List.length_take]
        omega
theorem textF_put {B : ByteArray} : ∀ f i acc x, i ≤ B.size → textF B f i acc = .ok x → (x.1.flatMap putN).length + i ≤ (acc.flatMap putN).length + x.2
  | 0, i, acc, x, _, h => by cases h
  | f + 1, i, acc, x, hi, h => by
    rw [textF] at h
    split at h
    · cases h
    · split at h
      · cases h; simp only; omega
      · split at h
        · cases h
        · obtain ⟨y, h1, h2⟩ := Sc.bind_eq_ok h
          have hs := textStep_ok (by omega) h1
          have hp := step_put (by omega) h1
          have := textF_put f _ _ x hs.2 h2
          rw [List.flatMap_append, List.length_append, List.flatMap_cons, List.flatMap_nil, List.append_nil] at this
          omega
/-- A number's text. -/
def NumOK (x : JN) : Prop := x.kind = 3 → ∃ (B : ByteArray) (i e : Nat), i < B.size ∧ (byteAt B i = 45 ∨ isDig (byteAt B i) = true) ∧ numberS B i = .ok e ∧ x.text = B.extract i e
theorem textTok_le2 {B : ByteArray} {i : Int} {t : Tok} {x : ByteArray} (hn : nextI B i = .ok t) (h : textTok B t = some x) : (x.size : Int) ≤ t.to - t.fr := by
  obtain ⟨p, y, rfl, ht, hp, _⟩ := next_inv hn
  unfold textTok at h
  split at h
  · split at h
    · rename_i hc
      have h7 : (y.1 : Int) = 7 := hc.2
      obtain ⟨z, hz, e⟩ := token_7 ht (by omega)
      simp only [Int.toNat_natCast] at h
      rw [hz] at h
      cases h
      have hs := tokenS_ok hp ht
      have h1 := textF_put _ (p + 1) [] z (by omega) hz
      have h2 := strOf_size z.1
      simp only [List.flatMap_nil, List.length_nil] at h1
      simp only
      omega
    · cases h
  · cases h
theorem textN_le {B : ByteArray} {i : Int} {t : Tok} {k : Int} (hn : nextI B i = .ok t) : ((textN B k t).size : Int) ≤ t.to - t.fr := by
  have hs := tok_shape hn
  unfold textN
  split
  · cases ht : textTok B t with
    | none => show ((0 : Nat) : Int) ≤ _; omega
    | some x => exact textTok_le2 hn ht
  · split
    · rw [ByteArray.size_extract]; omega
    · show ((0 : Nat) : Int) ≤ _; omega
theorem node_numok {B : ByteArray} {i : Int} {t : Tok} {k : Int} {o : Op} (hn : nextI B i = .ok t) (hk : kindS t.kind = some k) : NumOK (nodeS B o k t) := by
  intro h3
  have h3 : k = 3 := h3
  subst h3
  obtain ⟨p, y, rfl, ht, hp, _⟩ := next_inv hn
  have h8 : y.1 = 8 := by
    unfold kindS at hk
    simp only at hk
    repeat' split at hk
    all_goals first
      | (cases hk; done)
      | omega
  obtain ⟨h1, h2, h3⟩ := token_8 hp ht h8
  refine ⟨B, p, y.2, h1, h2, h3, ?_⟩
  show textN B 3 _ = _
  unfold textN
  rw [if_neg (by decide), if_pos rfl]
  simp only [Int.toNat_natCast]
def pend : List Op → Nat
  | [] => 0
  | o :: _ => if (o.st = 1 ∨ o.st = 3) ∧ o.obj = true then o.key.size else 0
def wt (js : List JN) : Nat := (js.map fun x => x.key.size + x.text.size).sum
theorem wt_snoc (js : List JN) (x : JN) : wt (js ++ [x]) = wt js + (x.key.size + x.text.size) := by simp [wt]
structure WI (i : Int) (s : PS) : Prop where
  w : ((wt s.js + pend s.stack : Nat) : Int) ≤ i
  st : ∀ o ∈ s.stack, o.st = 0 ∨ o.st = 1 ∨ o.st = 2 ∨ o.st = 3 ∨ o.st = 4 ∨ o.st = 5
  nm : ∀ x ∈ s.js, NumOK x
def StOK (o : Op) : Prop := o.st = 0 ∨ o.st = 1 ∨ o.st = 2 ∨ o.st = 3 ∨ o.st = 4 ∨ o.st = 5
theorem st_cons {o : Op} {r : List Op} (h1 : StOK o) (h2 : ∀ p ∈ r, StOK p) : ∀ p ∈ o :: r, StOK p := fun p hp => by
  rcases List.mem_cons.1 hp with rfl | hp
  · exact h1
  · exact h2 p hp
theorem st_aft (o : Op) : StOK (aftO o) := by
  unfold aftO StOK
  simp only
  split <;> omega
theorem st_after {r : List Op} (h : ∀ o ∈ r, StOK o) : ∀ o ∈ afterS r, StOK o := by
  cases r with
  | nil => exact h
  | cons o r => exact st_cons (st_aft o) (fun p hp => h p (by simp [hp]))
theorem pend_zero {o : Op} {r : List Op} (h1 : o.st ≠ 1) (h3 : o.st ≠ 3) : pend (o :: r) = 0 := by
  show (if (o.st = 1 ∨ o.st = 3) ∧ o.obj = true then o.key.size else 0) = 0
  rw [if_neg (by rintro ⟨h | h, _⟩; exact h1 h; exact h3 h)]
theorem pend_after (r : List Op) : pend (afterS r) = 0 := by
  cases r with
  | nil => rfl
  | cons o r =>
    refine pend_zero ?_ ?_
    all_goals (unfold aftO; simp only; split <;> decide)
theorem take_wi {B : ByteArray} {m : Bd} {i : Int} {s s' : PS} {t : Tok} (hw : WI i s) (hn : nextI B i = .ok t) (h : takeS B m s t = .ok s') : WI t.to s' := by
  have hs := tok_shape hn
  have hw0 := hw.w
  have keep : ∀ (st : List Op), (∀ o ∈ st, StOK o) → pend st = 0 → WI t.to ⟨s.js, s.ups, st⟩ := fun st h1 h2 => ⟨by simp only [h2]; omega, h1, hw.nm⟩
  unfold takeS at h
  cases hs2 : s.stack with
  | nil => rw [hs2] at h; cases h; exact ⟨by omega, hw.st, hw.nm⟩
  | cons o r =>
    rw [hs2] at h hw0
    simp only at h
    have hst : ∀ p ∈ o :: r, StOK p := by rw [← hs2]; exact hw.st
    have ho : StOK o := hst o (by simp)
    have hr : ∀ p ∈ r, StOK p := fun p hp => hst p (by simp [hp])
    have hwr : ∀ {b : PS}, (wrongS t : Sc PS) = .ok b → WI t.to b := fun h => by unfold wrongS at h; split at h <;> cases h
    have hv : (o.st = 1 ∨ o.st = 0 ∧ o.obj = false) → valueS B m s o r t = .ok s' → WI t.to s' := fun hst1 h => by
      unfold valueS at h
      split at h
      · exact hwr h
      · rename_i kk hkk
        have hnd : wt (s.js ++ [nodeS B o kk t]) = wt s.js + ((nodeS B o kk t).key.size + (nodeS B o kk t).text.size) := wt_snoc _ _
        have hkey : (nodeS B o kk t).key.size ≤ pend (o :: r) := by
          show (if o.obj then o.key else ⟨#[]⟩ : ByteArray).size ≤ if (o.st = 1 ∨ o.st = 3) ∧ o.obj = true then o.key.size else 0
          rcases hst1 with h1 | ⟨_, h2⟩
          · cases hob : o.obj with
            | true => rw [if_pos rfl, if_pos ⟨.inl h1, rfl⟩]; exact Nat.le_refl _
            | false => rw [if_neg (by simp)]; exact Nat.zero_le _
          · rw [h2]; exact Nat.zero_le _
        have htx : (((nodeS B o kk t).text.size : Nat) : Int) ≤ t.to - t.fr := textN_le hn
        have hall : ∀ x ∈ s.js ++ [nodeS B o kk t], NumOK x := fun x hx => by
          rcases List.mem_append.1 hx with hx | hx
          · exact hw.nm x hx
          · rw [List.mem_singleton.1 hx]; exact node_numok hn hkk
        have done : ∀ st : List Op, (∀ o ∈ st, StOK o) → pend st = 0 → WI t.to (addS B s o kk t st) := fun st h1 h2 => ⟨by
          show ((wt (s.js ++ [nodeS B o kk t]) + pend st : Nat) : Int) ≤ t.to
          rw [hnd, h2]; omega, h1, hall⟩
        split at h
        · cases h
        · split at h
          · cases h
            exact done _ (st_after hst) (pend_after _)
          · split at h
            · cases h
            · cases h
              exact done _ (st_cons (.inl rfl) hst) (pend_zero (by show (0 : Int) ≠ 1; decide) (by show (0 : Int) ≠ 3; decide))
    have hy : (o.st = 0 ∨ o.st = 2) → keyS B s o r t = .ok s' → WI t.to s' := fun hst1 h => by
      unfold keyS at h
      split at h
      · exact hwr h
      · split at h
        · rename_i x hx
          cases h
          have := textTok_le2 hn hx
          have hp0 : pend (o :: r) = 0 := pend_zero (by omega) (by omega)
          have hp1 : pend ({ o with st := 3, key := x } :: r) ≤ x.size := by
            unfold pend
            simp only
            split <;> omega
          exact ⟨by simp only; omega, st_cons (.inr (.inr (.inr (.inl rfl)))) hr, hw.nm⟩
        · cases h
    have hb : betweenS s o r t = .ok s' → WI t.to s' := fun h => by
      unfold betweenS at h
      split at h
      · cases h; exact keep _ (st_after hr) (pend_after _)
      · split at h
        · exact hwr h
        · cases h
          refine keep _ (st_cons ?_ hr) ?_
          · unfold StOK; simp only; split <;> omega
          · unfold pend
            simp only
            cases o.obj <;> simp
    split at h
    · split at h
      · cases h; exact ⟨by rw [hs2]; omega, hw.st, hw.nm⟩
      · exact hwr h
    · rename_i n5
      split at h
      · rename_i h3
        split at h
        · cases h
          refine ⟨?_, st_cons (.inr (.inl rfl)) hr, hw.nm⟩
          have : pend ({ o with st := 1 } :: r) ≤ pend (o :: r) := by
            show (if ((1 : Int) = 1 ∨ (1 : Int) = 3) ∧ o.obj = true then o.key.size else 0) ≤ if (o.st = 1 ∨ o.st = 3) ∧ o.obj = true then o.key.size else 0
            cases o.obj with
            | true => rw [if_pos (by simp), if_pos ⟨.inr h3, rfl⟩]; exact Nat.le_refl _
            | false => rw [if_neg (by simp)]; exact Nat.zero_le _
          simp only
          omega
        · exact hwr h
      · rename_i n3
        split at h
        · exact hb h
        · rename_i n4
          split at h
          · rename_i h0
            split at h
            · cases h; exact keep _ (st_after hr) (pend_after _)
            · split at h
              · exact hy (.inl h0) h
              · rename_i hob; exact hv (.inr ⟨h0, by simpa using hob⟩) h
          · rename_i n0
            split at h
            · rename_i h2; exact hy (.inr h2) h
            · rename_i n2
              refine hv (.inl ?_) h
              rcases ho with h | h | h | h | h | h
              · exact absurd h n0
              · exact h
              · exact absurd h n2
              · exact absurd h n3
              · exact absurd h n4
              · exact absurd h n5
theorem run_wi {B : ByteArray} {m : Bd} : ∀ f i s s', WI i s → i ≤ B.size → runF B m f i s = .ok s' → WI B.size s'
  | 0, i, s, s', hw, hi, h => by cases h; exact ⟨by have := hw.w; omega, hw.st, hw.nm⟩
  | f + 1, i, s, s', hw, hi, h => by
    rw [runF] at h
    obtain ⟨t, hn, h⟩ := Sc.bind_eq_ok h
    obtain ⟨s2, ht, h⟩ := Sc.bind_eq_ok h
    have h2 := take_wi hw hn ht
    have hs := tok_shape hn
    split at h
    · cases h; exact ⟨by have := h2.w; omega, h2.st, h2.nm⟩
    · exact run_wi f _ s2 s' h2 hs.2.2.2.1 h
theorem parse_wt {B : ByteArray} {m : Bd} {s : PS} (h : parseS B m = .ok s) : wt s.js ≤ B.size ∧ ∀ x ∈ s.js, NumOK x := by
  unfold parseS at h
  split at h
  · cases h
  · have := run_wi _ 0 ps0 s ⟨by decide, fun o ho => by simp [ps0] at ho; subst ho; exact .inr (.inl rfl), fun x hx => by simp [ps0] at hx⟩ (by omega) h
    exact ⟨by have := this.w; omega, this.nm⟩
/-- The form's size, by what was read. -/
def gW (js : List JN) (k : Nat) : Nat := 6 * (keyA js k).size + 6 * (textA js k).text.size + 15
theorem sumW_flat (g : Nat → Nat) (h : Nat → List Nat) : ∀ l : List Nat, ((l.flatMap h).map g).sum = (l.map fun k => ((h k).map g).sum).sum
  | [] => rfl
  | x :: l => by rw [List.flatMap_cons, List.map_append, List.sum_append, sumW_flat g h l, List.map_cons, List.sum_cons]
theorem formF_size2 {js : List JN} {ups : List Nat} (hw : WfUps ups) : ∀ (f i : Nat), ups.length - i ≤ f → i < ups.length → (formF js ups f i).size + 6 * (keyA js i).size + 4 ≤ ((pre ups f i).map (gW js)).sum
  | 0, i, hf, hi => by omega
  | f + 1, i, hf, hi => by
    have ih : ∀ k ∈ kids ups i, (formF js ups f k).size + 6 * (keyA js k).size + 4 ≤ ((pre ups f k).map (gW js)).sum := fun k hk => by
      have h1 := kids_gt hw hk
      have h2 := (mem_kids.1 hk).2.1
      exact formF_size2 hw f k (by omega) h2
    have hsum := sum_le (kids ups i) ih
    rw [← sumW_flat] at hsum
    rw [show pre ups (f + 1) i = i :: (kids ups i).flatMap (pre ups f) from rfl, List.map_cons, List.sum_cons]
    have small : ∀ n, n ≤ 6 * (textA js i).text.size + 11 → n + 6 * (keyA js i).size + 4 ≤ gW js i + (((kids ups i).flatMap (pre ups f)).map (gW js)).sum := fun n hn => by unfold gW; omega
    rw [formF]
    split
    · exact small _ (by show 4 ≤ _; omega)
    · split
      · exact small _ (by show 5 ≤ _; omega)
      · split
        · exact small _ (by show 4 ≤ _; omega)
        · split
          · exact small _ (by omega)
          · split
            · exact small _ (by have := quoteB_le (textA js i).text; omega)
            · split
              · have h1 := objB_size ((membersS js (kids ups i)).map fun k => (keyA js k, formF js ups f k))
                rw [List.map_map] at h1
                have h2 : ((membersS js (kids ups i)).map ((fun p : KV => 6 * p.1.size + p.2.size + 4) ∘ fun k => (keyA js k, formF js ups f k))).sum ≤ ((kids ups i).map fun k => (formF js ups f k).size + 6 * (keyA js k).size + 4).sum :=
                  Nat.le_trans (sum_le (h := fun k => (formF js ups f k).size + 6 * (keyA js k).size + 4) _ (fun k _ => by
                    show 6 * (keyA js k).size + (formF js ups f k).size + 4 ≤ _
                    omega)) (sum_filter _ _ _)
                have hg : gW js i = 6 * (keyA js i).size + 6 * (textA js i).text.size + 15 := rfl
                omega
              · have h1 := lstB_size ((kids ups i).map (formF js ups f))
                rw [List.map_map] at h1
                have h2 : ((kids ups i).map ((fun x : ByteArray => x.size + 1) ∘ formF js ups f)).sum ≤ ((kids ups i).map fun k => (formF js ups f k).size + 6 * (keyA js k).size + 4).sum := sum_le _ (fun k _ => by
                  show (formF js ups f k).size + 1 ≤ _
                  omega)
                have hg : gW js i = 6 * (keyA js i).size + 6 * (textA js i).text.size + 15 := rfl
                omega
theorem sum_sub {g : Nat → Nat} : ∀ {l l' : List Nat}, l.Nodup → (∀ x ∈ l, x ∈ l') → (l.map g).sum ≤ (l'.map g).sum
  | [], l', _, _ => Nat.zero_le _
  | x :: t, l', hn, hs => by
    rw [List.nodup_cons] at hn
    have hp := List.perm_cons_erase (hs x (by simp))
    rw [sum_perm (hp.map g), List.map_cons, List.map_cons, List.sum_cons, List.sum_cons]
    have := sum_sub (g := g) (l := t) (l' := l'.erase x) hn.2 (fun y hy => by
      have hne : y ≠ x := fun e => hn.1 (e ▸ hy)
      exact (List.mem_erase_of_ne hne).2 (hs y (by simp [hy])))
    omega
theorem sum_all (js : List JN) : ((List.range js.length).map (gW js)).sum = 6 * wt js + 15 * js.length := by
  have e : (List.range js.length).map (gW js) = js.map fun x => 6 * x.key.size + 6 * x.text.size + 15 := by
    apply List.ext_getElem
    · simp
    · intro i h1 h2
      have hi : i < js.length := by simpa using h2
      simp only [List.getElem_map, List.getElem_range]
      unfold gW keyA textA
      rw [List.getElem?_eq_getElem hi]
      rfl
  rw [e]
  unfold wt
  have key : ∀ l : List JN, (l.map fun x => 6 * x.key.size + 6 * x.text.size + 15).sum = 6 * (l.map fun x => x.key.size + x.text.size).sum + 15 * l.length := fun l => by
    induction l with
    | nil => rfl
    | cons x l ih => simp only [List.map_cons, List.sum_cons, List.length_cons]; omega
  exact key js
end
section
open Go.RowKit
theorem members_all {js : List JN} {K : List Nat} (hs : K.Pairwise (· < ·)) (hd : ∀ (i j k k' : Nat), K[i]? = some k → K[j]? = some k' → keyA js k = keyA js k' → i = j) : membersS js K = K := by
  refine List.filter_eq_self.2 (fun k hk => ?_)
  obtain ⟨i, hi⟩ := List.getElem?_of_mem hk
  rw [isLast_iff hs hi]
  have : anyK js (K.drop (i + 1)) (keyA js k) = false := by
    rw [Bool.eq_false_iff]
    intro h
    obtain ⟨k', hk', e⟩ := List.any_eq_true.1 h
    obtain ⟨j, hj⟩ := List.getElem?_of_mem hk'
    rw [List.getElem?_drop] at hj
    have := hd _ _ _ _ hj hi (of_decide_eq_true e)
    omega
  rw [this]; rfl
theorem nodup_inj {α : Type} {l : List α} {i j : Nat} {x : α} (hn : l.Nodup) (h1 : l[i]? = some x) (h2 : l[j]? = some x) : i = j := by
  obtain ⟨a1, e1⟩ := List.getElem?_eq_some_iff.1 h1
  obtain ⟨a2, e2⟩ := List.getElem?_eq_some_iff.1 h2
  rcases Nat.lt_trichotomy i j with h | h | h
  · exact absurd (e1.trans e2.symm) (List.pairwise_iff_getElem.1 hn i j a1 a2 h)
  · exact h
  · exact absurd (e2.trans e1.symm) (List.pairwise_iff_getElem.1 hn j i a2 a1 h)
theorem rv_parse {φ : List JN → List Nat → Nat → Prop} {T : ByteArray} {c d : Nat} {m : Bd} (h : RV φ T c d) (hb : (T.size : Int) ≤ m.bytes) (hn : (c : Int) ≤ m.nodes) (hd : (d : Int) ≤ m.deep) :
    ∃ s, parseS T m = .ok s ∧ φ s.js s.ups 0 ∧ 0 < s.js.length ∧ s.js.length ≤ c ∧ s.ups.length = s.js.length := by
  obtain ⟨nj, nu, g1, g2, g3, g4, g5, g6, g7, g8⟩ := h T m 0 [] [] ⟨-1, false, 1, ⟨#[]⟩⟩ [] (at_self T) (fun h => by omega) (.inl rfl) rfl (.inl rfl) (by simpa using hn) (by simpa using hd)
  have he : nextI T ((T.size : Nat) : Int) = .ok ⟨0, T.size, T.size⟩ := by
    rw [nextI_at (Nat.le_refl _) (fun h => by omega)]
    unfold tokenS
    rw [if_pos rfl]; rfl
  refine ⟨⟨nj, nu, [aftO ⟨-1, false, 1, ⟨#[]⟩⟩]⟩, ?_, ?_, g2, g3, g1.symm⟩
  · unfold parseS
    rw [if_neg (by omega)]
    rw [Nat.zero_add] at g4
    show runS T m ((0 : Nat) : Int) ⟨[], [], ⟨-1, false, 1, ⟨#[]⟩⟩ :: []⟩ = _
    rw [g4]
    exact d_end rfl he rfl
  · refine g8 nj nu g1.symm ⟨fun k hk => ?_, fun k hk => ?_⟩ (fun k u h0 hk hor => ?_)
    · rw [show ([] : List JN).length + k = k from Nat.zero_add k]
    · rw [show ([] : List JN).length + k = k from Nat.zero_add k]
    · have := (List.getElem?_eq_some_iff.1 hk).1
      simp only [List.length_nil] at hor
      omega
theorem wt_mem : ∀ {js : List JN} {x : JN}, x ∈ js → x.key.size + x.text.size ≤ wt js
  | y :: l, x, h => by
    have e : wt (y :: l) = (y.key.size + y.text.size) + wt l := by simp [wt]
    rw [e]
    rcases List.mem_cons.1 h with rfl | h
    · omega
    · have := wt_mem h
      omega
theorem parse_nodes2 {B : ByteArray} {m : Bd} {s : PS} (h : parseS B m = .ok s) : ∀ x ∈ s.js, NodeOK B.size x := fun x hx => by
  have h1 := parse_nodes h x hx
  have h2 := wt_mem hx
  have h3 := (parse_wt h).1
  exact ⟨h1.key, h1.text, h1.lo, h1.hi, by omega, by omega⟩
/-- An object of texts. -/
def itT (p : KV) : It := ⟨p.1, quoteB p.2, fun js _ b => (textA js b).kind = 4 ∧ (textA js b).text = p.2, 1⟩
theorem texts_again {l : List KV} (hr : ∀ p ∈ l, RightB p.1 ∧ RightB p.2) (hi : ∀ a ∈ l, ∀ b ∈ l, a.1 = b.1 → a = b) (hn : l.Nodup) (hl : l.length ≤ 4000) (hz : (objB (l.map fun p => (p.1, quoteB p.2))).size ≤ 1000000) :
    ∃ s, parseS (objB (l.map fun p => (p.1, quoteB p.2))) ⟨1048576, 64, 5000⟩ = .ok s ∧ 0 < s.js.length ∧ (textA s.js 0).kind = 6 ∧ s.js.length ≤ 4001 ∧
      ∀ p ∈ l, ∃ k : Nat, k < s.js.length ∧ lastK s.js (kids s.ups 0) p.1 = k ∧ anyK s.js (kids s.ups 0) p.1 = true ∧ (textA s.js k).kind = 4 ∧ (textA s.js k).text = p.2 := by
  obtain ⟨h, hh⟩ : ∃ h : KV → KV, h = fun p => (p.1, quoteB p.2) := ⟨_, rfl⟩
  rw [← hh] at hz ⊢
  generalize hks : l.mergeSort (fun a b => kvLe (h a) (h b)) = ks
  have hperm : ks.Perm l := by rw [← hks]; exact List.mergeSort_perm _ _
  have hsort : (l.map h).mergeSort kvLe = ks.map h := by
    rw [← hks]
    exact (List.map_mergeSort (r := fun a b => kvLe (h a) (h b)) (s := kvLe) (f := h) (l := l) (fun a _ b _ => rfl)).symm
  have hT : objB (l.map h) = ⟨#[if true then 123 else 91]⟩ ++ J ((ks.map itT).map (It.text true)) ++ ⟨#[closeC true]⟩ := by
    unfold objB
    rw [hsort, List.map_map, List.map_map, hh]
    rfl
  have hc : sumC (ks.map itT) = l.length := by
    rw [← hperm.length_eq]
    unfold sumC
    rw [List.map_map]
    clear hT hsort hperm hks
    induction ks with
    | nil => rfl
    | cons x ks ih => rw [List.map_cons, List.sum_cons, ih, List.length_cons]; show 1 + _ = _; omega
  have hv := rv_in true 0 (ks.map itT) (fun y hy => by
    obtain ⟨p, hp, rfl⟩ := List.mem_map.1 hy
    have := hr p (hperm.mem_iff.1 hp)
    exact ⟨rv_text this.2, fun _ => this.1⟩)
  rw [← hT] at hv
  obtain ⟨s, p1, ⟨q1, q2, q3⟩, p3, p4, p5⟩ := rv_parse (m := ⟨1048576, 64, 5000⟩) hv (by show ((objB (l.map h)).size : Int) ≤ 1048576; omega) (by show ((1 + sumC (ks.map itT) : Nat) : Int) ≤ 5000; omega) (by decide)
  refine ⟨s, p1, p3, q1, by omega, fun p hp => ?_⟩
  rw [List.length_map] at q2
  obtain ⟨j, hj⟩ := List.getElem?_of_mem (hperm.mem_iff.2 hp)
  have hjl := (List.getElem?_eq_some_iff.1 hj).1
  obtain ⟨k, hk⟩ := get_ex (kids s.ups 0) j (by omega)
  have hjk := q3 j (itT p) k (by rw [List.getElem?_map, hj]; rfl) hk
  have hkey : keyA s.js k = p.1 := hjk.2
  have hmem := mem_kids.1 (List.mem_of_getElem? hk)
  have hkn : ks.Nodup := (hperm.nodup_iff).2 hn
  have hall : membersS s.js (kids s.ups 0) = kids s.ups 0 := by
    refine members_all (kids_sorted _ _) (fun a b k1 k2 h1 h2 he => ?_)
    have l1 := (List.getElem?_eq_some_iff.1 h1).1
    have l2 := (List.getElem?_eq_some_iff.1 h2).1
    obtain ⟨x, hx⟩ := get_ex ks a (by omega)
    obtain ⟨y, hy⟩ := get_ex ks b (by omega)
    have e1 : keyA s.js k1 = x.1 := (q3 a (itT x) k1 (by rw [List.getElem?_map, hx]; rfl) h1).2
    have e2 : keyA s.js k2 = y.1 := (q3 b (itT y) k2 (by rw [List.getElem?_map, hy]; rfl) h2).2
    rw [e1, e2] at he
    have := hi x (hperm.mem_iff.1 (List.mem_of_getElem? hx)) y (hperm.mem_iff.1 (List.mem_of_getElem? hy)) he
    subst this
    exact nodup_inj hkn hx hy
  have hin : k ∈ membersS s.js (kids s.ups 0) := by rw [hall]; exact List.mem_of_getElem? hk
  have hlast := (List.mem_filter.1 hin).2
  unfold isLast at hlast
  rw [hkey] at hlast
  exact ⟨k, by omega, beq_iff_eq.1 hlast, List.any_eq_true.2 ⟨k, List.mem_of_getElem? hk, decide_eq_true hkey⟩, hjk.1.1, hjk.1.2⟩
end
end Go.Proofs.YtheoaijheijojaaGreatDoor
