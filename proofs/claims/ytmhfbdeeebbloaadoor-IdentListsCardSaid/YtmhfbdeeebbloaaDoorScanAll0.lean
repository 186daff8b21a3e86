/- All tokens of a text: the plain function. Nothing of the program. -/
import Derived.Test.YtmhfbdeeebbloaaDoorScan0
namespace Go.Proofs.YtmhfbdeeebbloaaDoor
open Go.RowKit
theorem nextS_ok {B : ByteArray} {i : Nat} {t : Tok} (hi : i ≤ B.size) (h : nextS B i = .ok t) : ∃ k f e : Nat, t = ⟨k, f, e⟩ ∧ i ≤ f ∧ f ≤ e ∧ e ≤ B.size ∧ (k ≠ 0 → f < e) := by
  obtain ⟨x, h1, h2⟩ := Sc.bind_eq_ok h
  have hs := skip_le isBlank B i hi
  have hg := skip_ge isBlank B i
  have := tokenS_ok hs h1
  cases h2
  refine ⟨x.1, _, x.2, rfl, hg, ?_, ?_, fun hk => ?_⟩ <;> omega
/-- All tokens from a place on. -/
def allF (B : ByteArray) : Nat → Nat → Sc (List Tok)
  | 0, _ => .no 0 0
  | f + 1, i => (nextS B i).bind fun t => if t.kind = 0 then .ok [t] else (allF B f t.to.toNat).bind fun l => .ok (t :: l)
def allS (B : ByteArray) (i : Nat) : Sc (List Tok) := allF B (B.size - i + 1) i
theorem allF_fuel (B : ByteArray) : ∀ n f g i, B.size - i = n → i ≤ B.size → n < f → n < g → allF B f i = allF B g i := by
  intro n
  induction n using Nat.strongRecOn with
  | ind n ih =>
    intro f g i hn hi hf hg
    cases f with
    | zero => omega
    | succ f =>
      cases g with
      | zero => omega
      | succ g =>
        rw [allF, allF]
        cases hs : nextS B i with
        | no k j => rfl
        | ok t =>
          obtain ⟨k, a, e, rfl, h1, h2, h3, h4⟩ := nextS_ok hi hs
          simp only [Sc.bind_ok]
          split
          · rfl
          · rename_i hk
            have := h4 (by omega)
            rw [Int.toNat_natCast, ih (B.size - e) (by omega) f g e rfl (by omega) (by omega) (by omega)]
theorem allS_step {B : ByteArray} {i : Nat} (hi : i ≤ B.size) : allS B i = (nextS B i).bind fun t => if t.kind = 0 then .ok [t] else (allS B t.to.toNat).bind fun l => .ok (t :: l) := by
  have e0 : allS B i = allF B (B.size - i + 1) i := rfl
  rw [e0, allF]
  cases hs : nextS B i with
  | no k j => rfl
  | ok t =>
    obtain ⟨k, a, e, rfl, h1, h2, h3, h4⟩ := nextS_ok hi hs
    simp only [Sc.bind_ok]
    split
    · rfl
    · rename_i hk
      have := h4 (by omega)
      unfold allS
      rw [Int.toNat_natCast, allF_fuel B (B.size - e) (B.size - i) (B.size - e + 1) e rfl (by omega) (by omega) (by omega)]
/-- What has been found, and what is still to come. -/
def allRest (A : List Tok) (r : Sc (List Tok)) : Sc (List Tok) := r.bind fun l => .ok (A ++ l)
theorem allRest_nil (r : Sc (List Tok)) : allRest [] r = r := by cases r <;> rfl
theorem allRest_no (A : List Tok) (k : Nat) (i : Int) : allRest A (.no k i) = .no k i := rfl
theorem allRest_ok (A l : List Tok) : allRest A (.ok l) = .ok (A ++ l) := rfl
theorem allRest_cons (A : List Tok) (t : Tok) (r : Sc (List Tok)) : allRest A (r.bind fun l => .ok (t :: l)) = allRest (A ++ [t]) r := by
  cases r with
  | ok l => simp [allRest]
  | no k i => rfl
def tokCells (t : Tok) : List Value := [.int .i64 t.kind, .int .i64 t.fr, .int .i64 t.to]
def tokD (t : Tok) : List Dat := [.int .i64 t.kind, .int .i64 t.fr, .int .i64 t.to]
def toksD (l : List Tok) : Dat := .list 3 (l.flatMap tokD)
theorem toks_rds {S : Nat → Prop} {w : World} : ∀ l : List Tok, Rds S w (l.flatMap tokCells) (l.flatMap tokD)
  | [] => Rds.nil
  | t :: l => by
    rw [List.flatMap_cons, List.flatMap_cons]
    exact Rds.append (.cons (.int _ _) (.cons (.int _ _) (.cons (.int _ _) .nil))) (toks_rds l)
end Go.Proofs.YtmhfbdeeebbloaaDoor
