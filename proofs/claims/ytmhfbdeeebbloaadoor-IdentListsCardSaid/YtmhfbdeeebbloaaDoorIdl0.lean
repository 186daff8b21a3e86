/- Rows in order, each once: the plain law. Nothing of the program. -/
import Derived.Lib.Bytealg
namespace Go.Proofs.YtmhfbdeeebbloaaDoor
/-- Bytes ahead of bytes. -/
def cB (a b : List UInt8) : Bool := decide (Go.Lib.compareBytes a b < 0)
theorem u8_lt {a b : UInt8} : a < b ↔ a.toNat < b.toNat := UInt8.lt_iff_toNat_lt
theorem u8_eq {a b : UInt8} : a = b ↔ a.toNat = b.toNat := ⟨fun h => by rw [h], fun h => UInt8.toNat_inj.1 h⟩
theorem cB_cons (a b : UInt8) (as bs : List UInt8) : cB (a :: as) (b :: bs) = true ↔ a < b ∨ a = b ∧ cB as bs = true := by
  unfold cB
  rw [Go.Lib.compareBytes]
  by_cases h1 : a < b
  · simp [h1]
  · rw [if_neg h1]
    by_cases h2 : b < a
    · rw [if_pos h2]
      have : ¬ a = b := fun e => by subst e; exact h1 h2
      simp [h1, this]
    · rw [if_neg h2]
      have : a = b := u8_eq.2 (by rw [u8_lt] at h1 h2; omega)
      simp [this]
theorem cB_irrefl : ∀ a : List UInt8, cB a a = false
  | [] => rfl
  | a :: as => by
    rw [Bool.eq_false_iff]
    intro h
    rcases (cB_cons _ _ _ _).1 h with h | ⟨_, h⟩
    · rw [u8_lt] at h; omega
    · rw [cB_irrefl as] at h; cases h
theorem cB_trans : ∀ a b c : List UInt8, cB a b = true → cB b c = true → cB a c = true
  | [], [], _, h, _ => by cases h
  | [], b :: bs, [], _, h => by simp [cB, Go.Lib.compareBytes] at h
  | [], b :: bs, c :: cs, _, _ => rfl
  | a :: as, [], _, h, _ => by simp [cB, Go.Lib.compareBytes] at h
  | a :: as, b :: bs, [], _, h => by simp [cB, Go.Lib.compareBytes] at h
  | a :: as, b :: bs, c :: cs, h1, h2 => by
    rw [cB_cons] at h1 h2 ⊢
    rcases h1 with h1 | ⟨rfl, h1⟩
    · rcases h2 with h2 | ⟨rfl, h2⟩
      · left; rw [u8_lt] at *; omega
      · exact .inl h1
    · rcases h2 with h2 | ⟨rfl, h2⟩
      · exact .inl h2
      · exact .inr ⟨rfl, cB_trans as bs cs h1 h2⟩
theorem cB_total : ∀ a b : List UInt8, cB a b = false → cB b a = false → a = b
  | [], [], _, _ => rfl
  | [], b :: bs, h, _ => by simp [cB, Go.Lib.compareBytes] at h
  | a :: as, [], _, h => by simp [cB, Go.Lib.compareBytes] at h
  | a :: as, b :: bs, h1, h2 => by
    rw [Bool.eq_false_iff, Ne, cB_cons] at h1 h2
    have e : a = b := u8_eq.2 (by
      have h3 : ¬ a < b := fun h => h1 (.inl h)
      have h4 : ¬ b < a := fun h => h2 (.inl h)
      rw [u8_lt] at h3 h4; omega)
    subst e
    have := cB_total as bs (by rw [Bool.eq_false_iff]; exact fun h => h1 (.inr ⟨rfl, h⟩)) (by rw [Bool.eq_false_iff]; exact fun h => h2 (.inr ⟨rfl, h⟩))
    rw [this]
/-- The order of strings. -/
theorem cB_lt : ∀ a b : List UInt8, cB a b = true ↔ a < b
  | [], [] => by simp [cB, Go.Lib.compareBytes]
  | [], b :: bs => by simp [cB, Go.Lib.compareBytes]
  | a :: as, [] => by simp [cB, Go.Lib.compareBytes]
  | a :: as, b :: bs => by rw [cB_cons, List.cons_lt_cons_iff, cB_lt as bs]
/-- The document's: one more, at its place, if it is not there. -/
def insU {α : Type} [DecidableEq α] (lt : α → α → Bool) (out : List α) (x : α) : List α := if x ∈ out then out else out.takeWhile (fun y => lt y x) ++ x :: out.dropWhile (fun y => lt y x)
def refL {α : Type} [DecidableEq α] (lt : α → α → Bool) (l : List α) : List α := l.foldl (insU lt) []
/-- The program's: of equal neighbours one. -/
def compL {α : Type} [DecidableEq α] : List α → List α
  | [] => []
  | x :: l => match l with
    | [] => [x]
    | y :: _ => if x = y then compL l else x :: compL l
structure StrictOrd {α : Type} (lt : α → α → Bool) : Prop where
  irrefl : ∀ x, lt x x = false
  trans : ∀ x y z, lt x y = true → lt y z = true → lt x z = true
  total : ∀ x y, lt x y = false → lt y x = false → x = y
theorem StrictOrd.asymm {α : Type} {lt : α → α → Bool} (O : StrictOrd lt) {x y : α} (h : lt x y = true) : lt y x = false := by
  rw [Bool.eq_false_iff]
  intro h2
  have := O.trans x y x h h2
  rw [O.irrefl] at this
  cases this
theorem takeWhile_all {α : Type} {p : α → Bool} : ∀ (l : List α) (y : α), y ∈ l.takeWhile p → p y = true
  | [], _, h => by simp at h
  | a :: l, y, h => by
    rw [List.takeWhile_cons] at h
    split at h
    · rcases List.mem_cons.1 h with rfl | h
      · assumption
      · exact takeWhile_all l y h
    · simp at h
theorem insU_mem {α : Type} [DecidableEq α] {lt : α → α → Bool} (out : List α) (x y : α) : y ∈ insU lt out x ↔ y ∈ out ∨ y = x := by
  unfold insU
  split
  · rename_i hx
    constructor
    · exact .inl
    · rintro (h | rfl)
      · exact h
      · exact hx
  · rw [List.mem_append, List.mem_cons]
    have := List.takeWhile_append_dropWhile (p := fun y => lt y x) (l := out)
    constructor
    · rintro (h | rfl | h)
      · left; rw [← this]; exact List.mem_append_left _ h
      · exact .inr rfl
      · left; rw [← this]; exact List.mem_append_right _ h
    · rintro (h | rfl)
      · rw [← this] at h
        rcases List.mem_append.1 h with h | h
        · exact .inl h
        · exact .inr (.inr h)
      · exact .inr (.inl rfl)
theorem drop_head_ge {α : Type} {lt : α → α → Bool} (O : StrictOrd lt) {x : α} : ∀ (l : List α), l.Pairwise (fun a b => lt a b = true) → x ∉ l → ∀ y ∈ l.dropWhile (fun y => lt y x), lt x y = true
  | [], _, _, y, h => by simp at h
  | a :: l, hp, hx, y, h => by
    rw [List.dropWhile_cons] at h
    split at h
    · exact drop_head_ge O l (List.pairwise_cons.1 hp).2 (fun e => hx (List.mem_cons_of_mem _ e)) y h
    · rename_i ha
      have hxa : lt x a = true := by
        cases hc : lt x a with
        | true => rfl
        | false => exact absurd (O.total x a hc (Bool.eq_false_iff.2 ha)) (fun e => hx (by rw [e]; simp))
      rcases List.mem_cons.1 h with rfl | h
      · exact hxa
      · exact O.trans x a y hxa ((List.pairwise_cons.1 hp).1 y h)
theorem insU_sorted {α : Type} [DecidableEq α] {lt : α → α → Bool} (O : StrictOrd lt) (out : List α) (x : α) (hp : out.Pairwise (fun a b => lt a b = true)) : (insU lt out x).Pairwise (fun a b => lt a b = true) := by
  unfold insU
  split
  · exact hp
  · rename_i hx
    have e := List.takeWhile_append_dropWhile (p := fun y => lt y x) (l := out)
    have hd := drop_head_ge O out hp hx
    rw [← e] at hp
    obtain ⟨p1, p2, p3⟩ := List.pairwise_append.1 hp
    refine List.pairwise_append.2 ⟨p1, List.pairwise_cons.2 ⟨hd, p2⟩, fun a ha b hb => ?_⟩
    have hax := takeWhile_all (p := fun y => lt y x) out a ha
    rcases List.mem_cons.1 hb with rfl | hb
    · exact hax
    · exact p3 a ha b hb
theorem refL_facts {α : Type} [DecidableEq α] {lt : α → α → Bool} (O : StrictOrd lt) (l : List α) : ∀ out : List α, out.Pairwise (fun a b => lt a b = true) → (l.foldl (insU lt) out).Pairwise (fun a b => lt a b = true) ∧ ∀ y, y ∈ l.foldl (insU lt) out ↔ y ∈ out ∨ y ∈ l := by
  induction l with
  | nil => intro out h; exact ⟨h, fun y => by simp⟩
  | cons x l ih =>
    intro out h
    obtain ⟨h1, h2⟩ := ih (insU lt out x) (insU_sorted O out x h)
    refine ⟨h1, fun y => ?_⟩
    rw [List.foldl_cons, h2 y, insU_mem, List.mem_cons]
    constructor
    · rintro ((h | h) | h)
      · exact .inl h
      · exact .inr (.inl h)
      · exact .inr (.inr h)
    · rintro (h | h | h)
      · exact .inl (.inl h)
      · exact .inl (.inr h)
      · exact .inr h
theorem compL_mem {α : Type} [DecidableEq α] : ∀ (l : List α) (y : α), y ∈ compL l ↔ y ∈ l
  | [], y => by simp [compL]
  | [x], y => by simp [compL]
  | x :: z :: l, y => by
    have ih := compL_mem (z :: l) y
    rw [compL]
    split
    · rename_i e
      rw [ih, e]
      simp
    · rw [List.mem_cons, ih, List.mem_cons (a := y) (b := x)]
theorem compL_head {α : Type} [DecidableEq α] (x : α) (l : List α) : ∃ r, compL (x :: l) = x :: r := by
  induction l generalizing x with
  | nil => exact ⟨[], rfl⟩
  | cons z l ih =>
    rw [compL]
    by_cases e : x = z
    · rw [if_pos e, e]; exact ih z
    · rw [if_neg e]; exact ⟨_, rfl⟩
theorem compL_sorted {α : Type} [DecidableEq α] {lt : α → α → Bool} (O : StrictOrd lt) : ∀ l : List α, l.Pairwise (fun a b => lt b a = false) → (compL l).Pairwise (fun a b => lt a b = true)
  | [], _ => by simp [compL]
  | [x], _ => by simp [compL]
  | x :: z :: l, h => by
    obtain ⟨h1, h2⟩ := List.pairwise_cons.1 h
    have ih := compL_sorted O (z :: l) h2
    rw [compL]
    split
    · exact ih
    · rename_i e
      refine List.pairwise_cons.2 ⟨fun y hy => ?_, ih⟩
      have hxz : lt x z = true := by
        cases hc : lt x z with
        | true => rfl
        | false => exact absurd (O.total x z hc (h1 z (by simp))) e
      obtain ⟨r, hr⟩ := compL_head z l
      rw [hr] at ih hy
      rcases List.mem_cons.1 hy with rfl | hy
      · exact hxz
      · exact O.trans x z y hxz ((List.pairwise_cons.1 ih).1 y hy)
/-- Two rows in strict order with the same members are one. -/
theorem strict_unique {α : Type} {lt : α → α → Bool} (O : StrictOrd lt) : ∀ a b : List α, a.Pairwise (fun x y => lt x y = true) → b.Pairwise (fun x y => lt x y = true) → (∀ y, y ∈ a ↔ y ∈ b) → a = b
  | [], [], _, _, _ => rfl
  | [], y :: b, _, _, h => by have := (h y).2 (by simp); simp at this
  | x :: a, [], _, _, h => by have := (h x).1 (by simp); simp at this
  | x :: a, y :: b, ha, hb, h => by
    obtain ⟨a1, a2⟩ := List.pairwise_cons.1 ha
    obtain ⟨b1, b2⟩ := List.pairwise_cons.1 hb
    have exy : x = y := by
      rcases List.mem_cons.1 ((h x).1 (by simp)) with e | hx
      · exact e
      · rcases List.mem_cons.1 ((h y).2 (by simp)) with e | hy
        · exact e.symm
        · have h1 := b1 x hx
          have h2 := a1 y hy
          rw [O.asymm h1] at h2; cases h2
    subst exy
    have : a = b := strict_unique O a b a2 b2 (fun z => by
      constructor
      · intro hz
        rcases List.mem_cons.1 ((h z).1 (List.mem_cons_of_mem _ hz)) with rfl | h2
        · have := a1 z hz; rw [O.irrefl] at this; cases this
        · exact h2
      · intro hz
        rcases List.mem_cons.1 ((h z).2 (List.mem_cons_of_mem _ hz)) with rfl | h2
        · have := b1 z hz; rw [O.irrefl] at this; cases this
        · exact h2)
    rw [this]
/-- The program's row is the document's. -/
theorem rows_same {α : Type} [DecidableEq α] {lt : α → α → Bool} (O : StrictOrd lt) (l s : List α) (hs : s.Pairwise (fun a b => lt b a = false)) (hm : ∀ y, y ∈ s ↔ y ∈ l) : compL s = refL lt l := by
  obtain ⟨r1, r2⟩ := refL_facts O l [] List.Pairwise.nil
  refine strict_unique O _ _ (compL_sorted O s hs) r1 (fun y => ?_)
  rw [compL_mem, hm y]
  show _ ↔ y ∈ l.foldl (insU lt) []
  rw [r2 y]
  simp
end Go.Proofs.YtmhfbdeeebbloaaDoor
