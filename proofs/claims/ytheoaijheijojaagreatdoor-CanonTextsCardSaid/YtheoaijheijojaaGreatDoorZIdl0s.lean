/- Idl0, AppAt0 in one text (a claim holds at most 60 files). -/
import Derived.Lib.Bytealg
import Derived.Test.YtheoaijheijojaaGreatDoorZLib0s
import Derived.Maps.AppendAt
import Derived.Deep.AppendLies
namespace Go.Proofs.YtheoaijheijojaaGreatDoor
section
/-- Bytes ahead of bytes. -/
def cB (a b : List UInt8) : Bool := decide (Go.Lib.compareBytes a b < 0)
theorem u8_lt {a b : UInt8} : a < b ↔ a.toNat < b.toNat := UInt8.lt_iff_toNat_lt
theorem u8_eq {a b : UInt8} : a = b ↔ a.toNat = b.toNat := ⟨fun h => by rw [h], fun h => UInt8.toNat_inj.1 h⟩
theorem cB_cons (a b : UInt8) (as bs : List UInt8) : cB (a :: as) (b :: bs) = true ↔ a < b ∨ a = b ∧ cB as bs = true := by
  unfold cB
  rw [Go.Lib.compareBytes]
  by_cases h1 : a < b
  · simp [h1]
  · rw [if_neg h1]
    by_cases h2 : b < a
    · rw [if_pos h2]
      have : ¬ a = b := fun e => by subst e; exact h1 h2
      simp [h1, this]
    · rw [if_neg h2]
      have : a = b := u8_eq.2 (by rw [u8_lt] at h1 h2; omega)
      simp [this]
theorem cB_irrefl : ∀ a : List UInt8, cB a a = false
  | [] => rfl
  | a :: as => by
    rw [Bool.eq_false_iff]
    intro h
    rcases (cB_cons _ _ _ _).1 h with h | ⟨_, h⟩
    · rw [u8_lt] at h; omega
    · rw [cB_irrefl as] at h; cases h
theorem cB_trans : ∀ a b c : List UInt8, cB a b = true → cB b c = true → cB a c = true
  | [], [], _, h, _ => by cases h
  | [], b :: bs, [], _, h => by simp [cB, Go.Lib.compareBytes] at h
  | [], b :: bs, c :: cs, _, _ => rfl
  | a :: as, [], _, h, _ => by simp [cB, Go.Lib.compareBytes] at h
  | a :: as, b :: bs, [], _, h => by simp [cB, Go.Lib.compareBytes] at h
  | a :: as, b :: bs, c :: cs, h1, h2 => by
    rw [cB_cons] at h1 h2 ⊢
    rcases h1 with h1 | ⟨rfl, h1⟩
    · rcases h2 with h2 | ⟨rfl, h2⟩
      · left; rw [u8_lt] at *; omega
      · exact .inl h1
    · rcases h2 with h2 | ⟨rfl, h2⟩
      · exact .inl h2
      · exact .inr ⟨rfl, cB_trans as bs cs h1 h2⟩
theorem cB_total : ∀ a b : List UInt8, cB a b = false → cB b a = false → a = b
  | [], [], _, _ => rfl
  | [], b :: bs, h, _ => by simp [cB, Go.Lib.compareBytes] at h
  | a :: as, [], _, h => by simp [cB, Go.Lib.compareBytes] at h
  | a :: as, b :: bs, h1, h2 => by
    rw [Bool.eq_false_iff, Ne, cB_cons] at h1 h2
    have e : a = b := u8_eq.2 (by
      have h3 : ¬ a < b := fun h => h1 (.inl h)
      have h4 : ¬ b < a := fun h => h2 (.inl h)
      rw [u8_lt] at h3 h4; omega)
    subst e
    have := cB_total as bs (by rw [Bool.eq_false_iff]; exact fun h => h1 (.inr ⟨rfl, h⟩)) (by rw [Bool.eq_false_iff]; exact fun h => h2 (.inr ⟨rfl, h⟩))
    rw [this]
end
section
open Go.RowKit
theorem wpList_appAt {P : Program} (w : World) {ops : Array Oper} {rest : List Oper} {o : Oper} {a : Act} {Q : Exit → Act → World → Prop} (hgd : o.guard = none) (s x : Operand) (t : TypeId)
    (ho : o.op = .call { callee := .builtin .append, args := #[s, x], argTypes := #[t, t] })
    (base : Nat) {e : TypeId} {z : Value} {size bytes : Nat} (T : ElemTy P t e size bytes z)
    (v : Value) (n : Nat) (xs : List Value) (hs : a.eval s = v) (hown : w.ownsRow base e size v n xs)
    (ad : Addr) (m c : Nat) (news : List Value) (hx : a.eval x = .slice (some ad) m c) (hl : news.length = m * size)
    (hnews : ∀ (j : Nat) u, news[j]? = some u → w.cell? (ad.add j) = some u) (h1 : ∀ u ∈ news, u.oneCell' = true)
    (h63 : n + m ≤ maxLen) (hbytes : (n + m) * bytes ≤ 140737488355328) (hbase : base ≤ w.heap.size)
    (hK : ∀ v' w', w'.ownsRow base e size v' (n + m) (xs ++ news) → w.grownBy w' v.ownBlock → (v'.ownBlock = v.ownBlock ∨ v'.ownBlock = some w.heap.size) → wpList P ops Q rest (a.put o.dst v') w') : wpList P ops Q (o :: rest) a w := by
  obtain ⟨i, hi, hz, hsz, hby⟩ := info_parts T.hi
  exact wpList_append_own_at w hgd s x t ho base e i z size bytes T.ht hi hz hsz hby T.hz T.h0 v n xs hs hown ad m c news hx hl hnews h1 h63 hbytes hbase (fun v' w' a1 a2 _ a4 => hK v' w' a1 a2 a4)
end
end Go.Proofs.YtheoaijheijojaaGreatDoor
