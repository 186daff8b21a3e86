/- Further items of ZLib0s. -/
import Derived.Test.YtheoaijheijojaaGreatDoorZLib0s
import Derived.WalkKit
import Derived.Lib.Hide
import Derived.Deep.QuietTactic
import Derived.BigQuiet
namespace Go.Proofs.YtheoaijheijojaaGreatDoor
section
section
open Go.RowKit

section
variable {S : Nat → Prop} {w : World} {v : Value}
end

theorem Rd.oneCell {S : Nat → Prop} {w : World} {v : Value} {d : Dat} (h : Rd S w v d) : v.oneCell' = true := by cases h <;> rfl
/-- 'append' of a slice that reads as data. -/
theorem wpList_appD {P : Program} (w : World) {ops : Array Oper} {rest : List Oper} {o : Oper} {a : Act} {Q : Exit → Act → World → Prop} (hgd : o.guard = none) (s x : Operand) (t : TypeId)
    (ho : o.op = .call { callee := .builtin .append, args := #[s, x], argTypes := #[t, t] })
    (base : Nat) {e : TypeId} {z : Value} {size bytes : Nat} (T : ElemTy P t e size bytes z)
    (v : Value) (n : Nat) (xs : List Value) (hs : a.eval s = v) (hown : w.ownsRow base e size v n xs)
    (u : Value) (hx : a.eval x = u) {S : Nat → Prop} (ds : List Dat) (m : Nat) (hr : Rd S w u (.list size ds)) (hm : ds.length = m * size)
    (h63 : n + m ≤ maxLen) (hbytes : (n + m) * bytes ≤ 140737488355328) (hbase : base ≤ w.heap.size)
    (hK : ∀ v' w' ys, w'.ownsRow base e size v' (n + m) (xs ++ ys) → Rds S w ys ds → w.grownBy w' v.ownBlock → wpList P ops Q rest (a.put o.dst v') w') : wpList P ops Q (o :: rest) a w := by
  obtain ⟨ao, m', c, rfl, hl, hac, _, hc⟩ := hr.list_inv
  obtain rfl : m' = m := Nat.eq_of_mul_eq_mul_right T.h0 (hl.symm.trans hm)
  have hf : ∃ f : Nat → Value, 0 < m' → ∃ b off, ao = some ⟨b, off, none⟩ ∧ S b ∧ ∀ j (hj : j < ds.length), w.cell? ⟨b, off + j, none⟩ = some (f j) ∧ Rd S w (f j) ds[j] := by
    by_cases h0 : 0 < m'
    · obtain ⟨b, off, rfl, hS, hc⟩ := hc h0
      refine ⟨fun j => (w.cell? ⟨b, off + j, none⟩).getD undef, fun _ => ⟨b, off, rfl, hS, fun j hj => ?_⟩⟩
      obtain ⟨y, hy, hr⟩ := hc j hj
      simp only [hy, Option.getD_some]
      exact ⟨trivial, hr⟩
    · exact ⟨fun _ => undef, fun h => absurd h h0⟩
  obtain ⟨f, hf⟩ := hf
  have hpos : 0 < ds.length → 0 < m' := fun h => Nat.pos_of_ne_zero (fun e => by simp [e] at hl; simp [hl] at h)
  refine wpList_app w hgd s x t ho base T v n xs hs hown ao m' c ((List.range ds.length).map f) hx (by simpa using hl) hac (fun h0 => ?_) (fun y hy => ?_) h63 hbytes hbase (fun v' w' a1 a2 => hK v' w' _ a1 ⟨by simp, fun j y d hy hd => ?_⟩ a2)
  · obtain ⟨b, off, e, _, hc⟩ := hf (hpos (by simpa using h0))
    refine ⟨b, off, e, fun j y hy => ?_⟩
    obtain ⟨hj, he⟩ := List.getElem?_eq_some_iff.1 hy
    simp at hj he
    subst he
    exact (hc j hj).1
  · simp at hy
    obtain ⟨j, hj, rfl⟩ := hy
    obtain ⟨b, off, e, _, hc⟩ := hf (hpos (by omega))
    exact (hc j hj).2.oneCell
  · obtain ⟨hj, he⟩ := List.getElem?_eq_some_iff.1 hy
    simp at hj he
    subst he
    obtain ⟨b, off, e, _, hc⟩ := hf (hpos (by omega))
    have := (hc j hj).2
    rw [List.getElem?_eq_getElem hj] at hd
    cases hd
    exact this

end
section
open Go.RowKit
end
end
end Go.Proofs.YtheoaijheijojaaGreatDoor
