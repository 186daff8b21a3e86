/- A number's decimal digits, as the law ScanNumbers makes them. -/
import Derived.Test.YtmdalkjhlhkloaaDoorScan9
import Derived.Test.YtmdalkjhlhkloaaDoorScanNum
namespace Go.Proofs.YtmdalkjhlhkloaaDoor
open Go.RowKit
def NtPost (w : World) (e : Ending) (w' : World) : Prop := ∃ T : ByteArray, e = .returned (.string T) ∧ NumText T ∧ T.size ≤ 10 ∧ Below w.heap.size w w'
def oneB (c : Nat) : ByteArray := ⟨#[UInt8.ofNat c]⟩
theorem oneB_size (c : Nat) : (oneB c).size = 1 := rfl
theorem oneB_at (c : Nat) (h : c < 256) : byteAt (oneB c) 0 = c := by
  show (UInt8.ofNat c).toNat = c
  simp; omega
def NtRel (w : World) (n s : Value) (wr : World) : Prop := ∃ (m : Nat) (D : ByteArray), n = .int .u32 m ∧ s = .string D ∧ m < 4294967296 ∧ D.size ≤ 9 ∧ m < 10 ^ (10 - D.size) ∧ (m ≠ 0 ∨ D.size = 0) ∧ (∀ i, i < D.size → isDig (byteAt D i) = true) ∧ Below w.heap.size w wr
theorem nt_dig {m : Nat} {D : ByteArray} (h : ∀ i, i < D.size → isDig (byteAt D i) = true) : ∀ i, i < (oneB (48 + m % 10) ++ D).size → isDig (byteAt (oneB (48 + m % 10) ++ D) i) = true := by
  intro i hi
  by_cases h0 : i = 0
  · subst h0
    rw [byteAt_pre _ _ 0 (by rw [oneB_size]; omega), oneB_at _ (by omega)]
    simp [isDig]; omega
  · have e : i = (oneB (48 + m % 10)).size + (i - 1) := by rw [oneB_size]; omega
    rw [e, byteAt_app]
    exact h _ (by rw [ByteArray.size_append, oneB_size] at hi; omega)
theorem pow_step {m k : Nat} (h : m < 10 ^ (10 - k)) (hk : k ≤ 9) : m / 10 < 10 ^ (10 - (1 + k)) := by
  have e : 10 - k = (10 - (1 + k)) + 1 := by omega
  rw [e, Nat.pow_succ] at h
  exact Nat.div_lt_of_lt_mul (by rw [Nat.mul_comm]; exact h)
set_option maxRecDepth 100000 in
set_option maxHeartbeats 8000000 in
theorem digitsOf_any (n : Nat) (w : World) (hn : n < 4294967296) : Calls Tryd.prog 25 #[.int .u32 n] w (NtPost w) := by
  have HN := Lib.hid hn
  clear hn
  go_enter Tryd.func25, Tryd.ntmps25
  go_wp2_with fail
  go_loopw [0, 3] (NtRel w) (fun n _ _ => (intOf n).toNat)
  case atStart => exact ⟨n, ⟨#[]⟩, rfl, rfl, HN.out, by decide, Nat.lt_of_lt_of_le HN.out (by decide), .inr rfl, (fun i hi => absurd hi (Nat.not_lt_zero _)), Below.refl _ _⟩
  case round =>
    obtain ⟨m, D, rfl, rfl, hm, hD, hp, h0, hd, hb⟩ := hrel
    have hdig := nt_dig (m := m) hd
    have q1 : (0 : Int) ≤ (m : Int) := Int.natCast_nonneg _
    have q3 : m % 10 < 10 := Nat.mod_lt _ (by decide)
    have HM := Lib.hid hm
    clear hm
    have HB := Lib.hid hb; have HD := Lib.hid hdig; have HP := Lib.hid hp; have H0 := Lib.hid h0
    clear hb hd hdig hp h0
    have cv := bytes_back (wr.alloc (.cells #[.int .u8 (48 + (m : Int) % 10)] 5)) wr.heap.size 0 1 1 (oneB (48 + m % 10)) rfl (fun j hj => by
      obtain rfl : j = 0 := by omega
      rw [oneB_at _ (by omega)]
      simp)
    obtain ⟨S1, hS1⟩ : ∃ S1, oneB (48 + m % 10) = S1 := ⟨_, rfl⟩
    rw [hS1] at cv
    have HS1 := Lib.hid hS1
    have hs1 : S1.size ≤ 1 := by rw [← hS1]; exact Nat.le_refl 1
    clear hS1
    have HMI : Hid (((m / 10 : Nat) : Int) = (m : Int) / 10 % 4294967296) := Lib.hid (by have := HM.out; omega)
    by_cases hz : m / 10 = 0
    · have t1 : ((m : Int) / 10 % 4294967296 == 0) = true := beq_iff_eq.2 (by rw [← HMI.out]; omega)
      have HX : NtPost w (.returned (.string (S1 ++ D))) (wr.alloc (.cells #[.int .u8 (48 + (m : Int) % 10)] 5)) := by
        rw [← HS1.out]
        refine ⟨_, rfl, ⟨by rw [ByteArray.size_append, oneB_size]; omega, HD.out, ?_⟩, by rw [ByteArray.size_append, oneB_size]; omega, ext_alloc HB.out _⟩
        rcases H0.out with h0 | h0
        · right
          rw [byteAt_pre _ _ 0 (by rw [oneB_size]; omega), oneB_at _ (by omega)]
          omega
        · left
          rw [ByteArray.size_append, oneB_size, h0]
      have HX := Lib.hid HX
      clear hz
      go_wp2
      go_ret
      exact HX.out
    · have t1 : ((m : Int) / 10 % 4294967296 == 0) = false := beq_eq_false_iff_ne.2 (by rw [← HMI.out]; omega)
      have hlt : m / 10 < m := Nat.div_lt_self (by omega) (by decide)
      have hp2 := pow_step HP.out hD
      have hD9 : D.size ≤ 8 := by
        by_cases h9 : D.size = 9
        · rw [h9] at hp2
          have : m / 10 < 1 := by simpa using hp2
          omega
        · omega
      have R : NtRel w (.int .u32 ((m : Int) / 10 % 4294967296)) (.string (S1 ++ D)) (wr.alloc (.cells #[.int .u8 (48 + (m : Int) % 10)] 5)) := by
        rw [← HS1.out]
        exact ⟨m / 10, _, by rw [HMI.out], rfl, by have := HM.out; omega, by rw [ByteArray.size_append, oneB_size]; omega, by rw [ByteArray.size_append, oneB_size]; exact hp2, .inl hz, HD.out, ext_alloc HB.out _⟩
      have HR := Lib.hid R
      have HLT : Hid ((((m : Int) / 10 % 4294967296).toNat) < m) := Lib.hid (by rw [← HMI.out, Int.toNat_natCast]; exact hlt)
      clear R hz hlt hp2
      go_wp2
      refine ⟨?_, by have := HLT.out; simpa [intOf] using this⟩
      have R := HR.out
      first | exact R | ((repeat apply Exists.intro); exact ⟨R, rfl⟩)
end Go.Proofs.YtmdalkjhlhkloaaDoor
