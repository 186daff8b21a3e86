/- Texts put together. -/
import Derived.Test.YtbeodjipdpcaiaaGreatDoorYHlw0f
import Derived.Test.YtbeodjipdpcaiaaGreatDoorYHsw4s
import Derived.Test.YtbeodjipdpcaiaaGreatDoorYFow1s
set_option maxRecDepth 100000
set_option maxHeartbeats 8000000
namespace Go.Proofs.YtbeodjipdpcaiaaGreatDoor
section
open Go.RowKit
theorem rtextOf_any (k : Int) (t : ByteArray) (w : World) (ht : t.size ≤ 1000000) : Calls Tryz.prog 20 #[.agg #[.int .i64 k, .string t]] w fun e w' => e = .returned (.string (hostT k t)) ∧ Below w.heap.size w w' := by
 have HB := hid (ext_alloc (Below.refl w.heap.size w) (.cells #[.int .i64 k, .string t] 24))
 by_cases h : k = 3
 · have t1 : (k == 3) = true := by rw [h]; rfl
   obtain ⟨A, hA⟩ : ∃ A, (⟨#[91]⟩ : ByteArray) ++ t = A := ⟨_, rfl⟩
   obtain ⟨B, hB⟩ : ∃ B, A ++ (⟨#[93]⟩ : ByteArray) = B := ⟨_, rfl⟩
   have hAz : A.size ≤ 1000001 := by
    rw [← hA, ByteArray.size_append]
    have e1 : (⟨#[91]⟩ : ByteArray).size = 1 := rfl
    omega
   have hT : hostT k t = B := by unfold hostT; rw [if_pos h, hA, hB]
   rw [hT]
   clear h hT
   go_enter Tryz.func20, Tryz.ntmps20
   go_wp2
   go_ret
   exact ⟨rfl, HB.out⟩
 · have t1 : (k == 3) = false := bneI.2 h
   have hT : hostT k t = t := by unfold hostT; rw [if_neg h]
   rw [hT]
   clear h hT
   go_enter Tryz.func20, Tryz.ntmps20
   go_wp2
   go_ret
   exact ⟨rfl, HB.out⟩
theorem rsmall_any (c : Nat) (w : World) : Calls Tryz.prog 124 #[.int .i64 c] w fun e w' => e = .returned (.bool (lcN c)) ∧ w' = w := by
 have hall : (0 ≤ c ∧ c ≤ 44) ∨ (45 ≤ c ∧ c ≤ 45) ∨ (46 ≤ c ∧ c ≤ 47) ∨ (48 ≤ c ∧ c ≤ 57) ∨ (58 ≤ c ∧ c ≤ 96) ∨ (97 ≤ c ∧ c ≤ 122) ∨ (123 ≤ c) := by omega
 rcases hall with h | h | h | h | h | h | h
 · have hr : lcN c = false := by unfold lcN; exact dcF (by omega)
   rw [hr]
   have f0 : decide ((97 : Int) ≤ (c : Int)) = false := dcF (by omega)
   have f0' : decide (97 ≤ c) = false := dcF (by omega)
   have f1 : decide ((c : Int) ≤ 122) = true := dcT (by omega)
   have f1' : decide (c ≤ 122) = true := dcT (by omega)
   have f2 : decide ((48 : Int) ≤ (c : Int)) = false := dcF (by omega)
   have f2' : decide (48 ≤ c) = false := dcF (by omega)
   have f3 : decide ((c : Int) ≤ 57) = true := dcT (by omega)
   have f3' : decide (c ≤ 57) = true := dcT (by omega)
   have f4 : ((c : Int) == 45) = false := bneI.2 (by omega)
   clear hr h
   go_enter Tryz.func124, Tryz.ntmps124
   go_wp2
   go_ret
   exact ⟨rfl, rfl⟩
 · have hr : lcN c = true := by unfold lcN; exact dcT (by omega)
   rw [hr]
   have f0 : decide ((97 : Int) ≤ (c : Int)) = false := dcF (by omega)
   have f0' : decide (97 ≤ c) = false := dcF (by omega)
   have f1 : decide ((c : Int) ≤ 122) = true := dcT (by omega)
   have f1' : decide (c ≤ 122) = true := dcT (by omega)
   have f2 : decide ((48 : Int) ≤ (c : Int)) = false := dcF (by omega)
   have f2' : decide (48 ≤ c) = false := dcF (by omega)
   have f3 : decide ((c : Int) ≤ 57) = true := dcT (by omega)
   have f3' : decide (c ≤ 57) = true := dcT (by omega)
   have f4 : ((c : Int) == 45) = true := beq_iff_eq.2 (by omega)
   clear hr h
   go_enter Tryz.func124, Tryz.ntmps124
   go_wp2
   go_ret
   exact ⟨rfl, rfl⟩
 · have hr : lcN c = false := by unfold lcN; exact dcF (by omega)
   rw [hr]
   have f0 : decide ((97 : Int) ≤ (c : Int)) = false := dcF (by omega)
   have f0' : decide (97 ≤ c) = false := dcF (by omega)
   have f1 : decide ((c : Int) ≤ 122) = true := dcT (by omega)
   have f1' : decide (c ≤ 122) = true := dcT (by omega)
   have f2 : decide ((48 : Int) ≤ (c : Int)) = false := dcF (by omega)
   have f2' : decide (48 ≤ c) = false := dcF (by omega)
   have f3 : decide ((c : Int) ≤ 57) = true := dcT (by omega)
   have f3' : decide (c ≤ 57) = true := dcT (by omega)
   have f4 : ((c : Int) == 45) = false := bneI.2 (by omega)
   clear hr h
   go_enter Tryz.func124, Tryz.ntmps124
   go_wp2
   go_ret
   exact ⟨rfl, rfl⟩
 · have hr : lcN c = true := by unfold lcN; exact dcT (by omega)
   rw [hr]
   have f0 : decide ((97 : Int) ≤ (c : Int)) = false := dcF (by omega)
   have f0' : decide (97 ≤ c) = false := dcF (by omega)
   have f1 : decide ((c : Int) ≤ 122) = true := dcT (by omega)
   have f1' : decide (c ≤ 122) = true := dcT (by omega)
   have f2 : decide ((48 : Int) ≤ (c : Int)) = true := dcT (by omega)
   have f2' : decide (48 ≤ c) = true := dcT (by omega)
   have f3 : decide ((c : Int) ≤ 57) = true := dcT (by omega)
   have f3' : decide (c ≤ 57) = true := dcT (by omega)
   have f4 : ((c : Int) == 45) = false := bneI.2 (by omega)
   clear hr h
   go_enter Tryz.func124, Tryz.ntmps124
   go_wp2
   go_ret
   exact ⟨rfl, rfl⟩
 · have hr : lcN c = false := by unfold lcN; exact dcF (by omega)
   rw [hr]
   have f0 : decide ((97 : Int) ≤ (c : Int)) = false := dcF (by omega)
   have f0' : decide (97 ≤ c) = false := dcF (by omega)
   have f1 : decide ((c : Int) ≤ 122) = true := dcT (by omega)
   have f1' : decide (c ≤ 122) = true := dcT (by omega)
   have f2 : decide ((48 : Int) ≤ (c : Int)) = true := dcT (by omega)
   have f2' : decide (48 ≤ c) = true := dcT (by omega)
   have f3 : decide ((c : Int) ≤ 57) = false := dcF (by omega)
   have f3' : decide (c ≤ 57) = false := dcF (by omega)
   have f4 : ((c : Int) == 45) = false := bneI.2 (by omega)
   clear hr h
   go_enter Tryz.func124, Tryz.ntmps124
   go_wp2
   go_ret
   exact ⟨rfl, rfl⟩
 · have hr : lcN c = true := by unfold lcN; exact dcT (by omega)
   rw [hr]
   have f0 : decide ((97 : Int) ≤ (c : Int)) = true := dcT (by omega)
   have f0' : decide (97 ≤ c) = true := dcT (by omega)
   have f1 : decide ((c : Int) ≤ 122) = true := dcT (by omega)
   have f1' : decide (c ≤ 122) = true := dcT (by omega)
   have f2 : decide ((48 : Int) ≤ (c : Int)) = true := dcT (by omega)
   have f2' : decide (48 ≤ c) = true := dcT (by omega)
   have f3 : decide ((c : Int) ≤ 57) = false := dcF (by omega)
   have f3' : decide (c ≤ 57) = false := dcF (by omega)
   have f4 : ((c : Int) == 45) = false := bneI.2 (by omega)
   clear hr h
   go_enter Tryz.func124, Tryz.ntmps124
   go_wp2
   go_ret
   exact ⟨rfl, rfl⟩
 · have hr : lcN c = false := by unfold lcN; exact dcF (by omega)
   rw [hr]
   have f0 : decide ((97 : Int) ≤ (c : Int)) = true := dcT (by omega)
   have f0' : decide (97 ≤ c) = true := dcT (by omega)
   have f1 : decide ((c : Int) ≤ 122) = false := dcF (by omega)
   have f1' : decide (c ≤ 122) = false := dcF (by omega)
   have f2 : decide ((48 : Int) ≤ (c : Int)) = true := dcT (by omega)
   have f2' : decide (48 ≤ c) = true := dcT (by omega)
   have f3 : decide ((c : Int) ≤ 57) = false := dcF (by omega)
   have f3' : decide (c ≤ 57) = false := dcF (by omega)
   have f4 : ((c : Int) == 45) = false := bneI.2 (by omega)
   clear hr h
   go_enter Tryz.func124, Tryz.ntmps124
   go_wp2
   go_ret
   exact ⟨rfl, rfl⟩
theorem rchar_any (c : Nat) (w : World) : Calls Tryz.prog 191 #[.int .i64 c] w fun e w' => e = .returned (.bool (charN c)) ∧ w' = w := by
 have hall : (0 ≤ c ∧ c ≤ 222) ∨ (223 ≤ c ∧ c ≤ 246) ∨ (247 ≤ c ∧ c ≤ 247) ∨ (248 ≤ c ∧ c ≤ 8191) ∨ (8192 ≤ c ∧ c ≤ 11263) ∨ (11264 ≤ c ∧ c ≤ 12287) ∨ (12288 ≤ c ∧ c ≤ 12292) ∨ (12293 ≤ c ∧ c ≤ 55295) ∨ (55296 ≤ c ∧ c ≤ 63743) ∨ (63744 ≤ c ∧ c ≤ 64975) ∨ (64976 ≤ c ∧ c ≤ 65007) ∨ (65008 ≤ c ∧ c ≤ 65023) ∨ (65024 ≤ c ∧ c ≤ 65535) ∨ (65536 ≤ c ∧ c ≤ 262143) ∨ (262144 ≤ c) := by omega
 rcases hall with h | h | h | h | h | h | h | h | h | h | h | h | h | h | h
 · have hr : charN c = false := by unfold charN; exact dcF (by omega)
   rw [hr]
   have f0 : decide ((223 : Int) ≤ (c : Int)) = false := dcF (by omega)
   have f0' : decide (223 ≤ c) = false := dcF (by omega)
   have f1 : decide ((c : Int) ≤ 12287) = true := dcT (by omega)
   have f1' : decide (c ≤ 12287) = true := dcT (by omega)
   have f2 : ((c : Int) != 247) = true := by simp <;> omega
   have f3 : decide ((c : Int) < 8192) = true := dcT (by omega)
   have f3' : decide (c < 8192) = true := dcT (by omega)
   have f4 : decide ((11263 : Int) < (c : Int)) = false := dcF (by omega)
   have f4' : decide (11263 < c) = false := dcF (by omega)
   have f5 : decide ((12293 : Int) ≤ (c : Int)) = false := dcF (by omega)
   have f5' : decide (12293 ≤ c) = false := dcF (by omega)
   have f6 : decide ((c : Int) ≤ 55295) = true := dcT (by omega)
   have f6' : decide (c ≤ 55295) = true := dcT (by omega)
   have f7 : decide ((63744 : Int) ≤ (c : Int)) = false := dcF (by omega)
   have f7' : decide (63744 ≤ c) = false := dcF (by omega)
   have f8 : decide ((c : Int) ≤ 65023) = true := dcT (by omega)
   have f8' : decide (c ≤ 65023) = true := dcT (by omega)
   have f9 : decide ((c : Int) < 64976) = true := dcT (by omega)
   have f9' : decide (c < 64976) = true := dcT (by omega)
   have f10 : decide ((65007 : Int) < (c : Int)) = false := dcF (by omega)
   have f10' : decide (65007 < c) = false := dcF (by omega)
   have f11 : decide ((65536 : Int) ≤ (c : Int)) = false := dcF (by omega)
   have f11' : decide (65536 ≤ c) = false := dcF (by omega)
   have f12 : decide ((c : Int) ≤ 262143) = true := dcT (by omega)
   have f12' : decide (c ≤ 262143) = true := dcT (by omega)
   clear hr h
   go_enter Tryz.func191, Tryz.ntmps191
   go_wp2
   go_ret
   exact ⟨rfl, rfl⟩
 · have hr : charN c = true := by unfold charN; exact dcT (by omega)
   rw [hr]
   have f0 : decide ((223 : Int) ≤ (c : Int)) = true := dcT (by omega)
   have f0' : decide (223 ≤ c) = true := dcT (by omega)
   have f1 : decide ((c : Int) ≤ 12287) = true := dcT (by omega)
   have f1' : decide (c ≤ 12287) = true := dcT (by omega)
   have f2 : ((c : Int) != 247) = true := by simp <;> omega
   have f3 : decide ((c : Int) < 8192) = true := dcT (by omega)
   have f3' : decide (c < 8192) = true := dcT (by omega)
   have f4 : decide ((11263 : Int) < (c : Int)) = false := dcF (by omega)
   have f4' : decide (11263 < c) = false := dcF (by omega)
   have f5 : decide ((12293 : Int) ≤ (c : Int)) = false := dcF (by omega)
   have f5' : decide (12293 ≤ c) = false := dcF (by omega)
   have f6 : decide ((c : Int) ≤ 55295) = true := dcT (by omega)
   have f6' : decide (c ≤ 55295) = true := dcT (by omega)
   have f7 : decide ((63744 : Int) ≤ (c : Int)) = false := dcF (by omega)
   have f7' : decide (63744 ≤ c) = false := dcF (by omega)
   have f8 : decide ((c : Int) ≤ 65023) = true := dcT (by omega)
   have f8' : decide (c ≤ 65023) = true := dcT (by omega)
   have f9 : decide ((c : Int) < 64976) = true := dcT (by omega)
   have f9' : decide (c < 64976) = true := dcT (by omega)
   have f10 : decide ((65007 : Int) < (c : Int)) = false := dcF (by omega)
   have f10' : decide (65007 < c) = false := dcF (by omega)
   have f11 : decide ((65536 : Int) ≤ (c : Int)) = false := dcF (by omega)
   have f11' : decide (65536 ≤ c) = false := dcF (by omega)
   have f12 : decide ((c : Int) ≤ 262143) = true := dcT (by omega)
   have f12' : decide (c ≤ 262143) = true := dcT (by omega)
   clear hr h
   go_enter Tryz.func191, Tryz.ntmps191
   go_wp2
   go_ret
   exact ⟨rfl, rfl⟩
 · have hr : charN c = false := by unfold charN; exact dcF (by omega)
   rw [hr]
   have f0 : decide ((223 : Int) ≤ (c : Int)) = true := dcT (by omega)
   have f0' : decide (223 ≤ c) = true := dcT (by omega)
   have f1 : decide ((c : Int) ≤ 12287) = true := dcT (by omega)
   have f1' : decide (c ≤ 12287) = true := dcT (by omega)
   have f2 : ((c : Int) != 247) = false := by simp <;> omega
   have f3 : decide ((c : Int) < 8192) = true := dcT (by omega)
   have f3' : decide (c < 8192) = true := dcT (by omega)
   have f4 : decide ((11263 : Int) < (c : Int)) = false := dcF (by omega)
   have f4' : decide (11263 < c) = false := dcF (by omega)
   have f5 : decide ((12293 : Int) ≤ (c : Int)) = false := dcF (by omega)
   have f5' : decide (12293 ≤ c) = false := dcF (by omega)
   have f6 : decide ((c : Int) ≤ 55295) = true := dcT (by omega)
   have f6' : decide (c ≤ 55295) = true := dcT (by omega)
   have f7 : decide ((63744 : Int) ≤ (c : Int)) = false := dcF (by omega)
   have f7' : decide (63744 ≤ c) = false := dcF (by omega)
   have f8 : decide ((c : Int) ≤ 65023) = true := dcT (by omega)
   have f8' : decide (c ≤ 65023) = true := dcT (by omega)
   have f9 : decide ((c : Int) < 64976) = true := dcT (by omega)
   have f9' : decide (c < 64976) = true := dcT (by omega)
   have f10 : decide ((65007 : Int) < (c : Int)) = false := dcF (by omega)
   have f10' : decide (65007 < c) = false := dcF (by omega)
   have f11 : decide ((65536 : Int) ≤ (c : Int)) = false := dcF (by omega)
   have f11' : decide (65536 ≤ c) = false := dcF (by omega)
   have f12 : decide ((c : Int) ≤ 262143) = true := dcT (by omega)
   have f12' : decide (c ≤ 262143) = true := dcT (by omega)
   clear hr h
   go_enter Tryz.func191, Tryz.ntmps191
   go_wp2
   go_ret
   exact ⟨rfl, rfl⟩
 · have hr : charN c = true := by unfold charN; exact dcT (by omega)
   rw [hr]
   have f0 : decide ((223 : Int) ≤ (c : Int)) = true := dcT (by omega)
   have f0' : decide (223 ≤ c) = true := dcT (by omega)
   have f1 : decide ((c : Int) ≤ 12287) = true := dcT (by omega)
   have f1' : decide (c ≤ 12287) = true := dcT (by omega)
   have f2 : ((c : Int) != 247) = true := by simp <;> omega
   have f3 : decide ((c : Int) < 8192) = true := dcT (by omega)
   have f3' : decide (c < 8192) = true := dcT (by omega)
   have f4 : decide ((11263 : Int) < (c : Int)) = false := dcF (by omega)
   have f4' : decide (11263 < c) = false := dcF (by omega)
   have f5 : decide ((12293 : Int) ≤ (c : Int)) = false := dcF (by omega)
   have f5' : decide (12293 ≤ c) = false := dcF (by omega)
   have f6 : decide ((c : Int) ≤ 55295) = true := dcT (by omega)
   have f6' : decide (c ≤ 55295) = true := dcT (by omega)
   have f7 : decide ((63744 : Int) ≤ (c : Int)) = false := dcF (by omega)
   have f7' : decide (63744 ≤ c) = false := dcF (by omega)
   have f8 : decide ((c : Int) ≤ 65023) = true := dcT (by omega)
   have f8' : decide (c ≤ 65023) = true := dcT (by omega)
   have f9 : decide ((c : Int) < 64976) = true := dcT (by omega)
   have f9' : decide (c < 64976) = true := dcT (by omega)
   have f10 : decide ((65007 : Int) < (c : Int)) = false := dcF (by omega)
   have f10' : decide (65007 < c) = false := dcF (by omega)
   have f11 : decide ((65536 : Int) ≤ (c : Int)) = false := dcF (by omega)
   have f11' : decide (65536 ≤ c) = false := dcF (by omega)
   have f12 : decide ((c : Int) ≤ 262143) = true := dcT (by omega)
   have f12' : decide (c ≤ 262143) = true := dcT (by omega)
   clear hr h
   go_enter Tryz.func191, Tryz.ntmps191
   go_wp2
   go_ret
   exact ⟨rfl, rfl⟩
 · have hr : charN c = false := by unfold charN; exact dcF (by omega)
   rw [hr]
   have f0 : decide ((223 : Int) ≤ (c : Int)) = true := dcT (by omega)
   have f0' : decide (223 ≤ c) = true := dcT (by omega)
   have f1 : decide ((c : Int) ≤ 12287) = true := dcT (by omega)
   have f1' : decide (c ≤ 12287) = true := dcT (by omega)
   have f2 : ((c : Int) != 247) = true := by simp <;> omega
   have f3 : decide ((c : Int) < 8192) = false := dcF (by omega)
   have f3' : decide (c < 8192) = false := dcF (by omega)
   have f4 : decide ((11263 : Int) < (c : Int)) = false := dcF (by omega)
   have f4' : decide (11263 < c) = false := dcF (by omega)
   have f5 : decide ((12293 : Int) ≤ (c : Int)) = false := dcF (by omega)
   have f5' : decide (12293 ≤ c) = false := dcF (by omega)
   have f6 : decide ((c : Int) ≤ 55295) = true := dcT (by omega)
   have f6' : decide (c ≤ 55295) = true := dcT (by omega)
   have f7 : decide ((63744 : Int) ≤ (c : Int)) = false := dcF (by omega)
   have f7' : decide (63744 ≤ c) = false := dcF (by omega)
   have f8 : decide ((c : Int) ≤ 65023) = true := dcT (by omega)
   have f8' : decide (c ≤ 65023) = true := dcT (by omega)
   have f9 : decide ((c : Int) < 64976) = true := dcT (by omega)
   have f9' : decide (c < 64976) = true := dcT (by omega)
   have f10 : decide ((65007 : Int) < (c : Int)) = false := dcF (by omega)
   have f10' : decide (65007 < c) = false := dcF (by omega)
   have f11 : decide ((65536 : Int) ≤ (c : Int)) = false := dcF (by omega)
   have f11' : decide (65536 ≤ c) = false := dcF (by omega)
   have f12 : decide ((c : Int) ≤ 262143) = true := dcT (by omega)
   have f12' : decide (c ≤ 262143) = true := dcT (by omega)
   clear hr h
   go_enter Tryz.func191, Tryz.ntmps191
   go_wp2
   go_ret
   exact ⟨rfl, rfl⟩
 · have hr : charN c = true := by unfold charN; exact dcT (by omega)
   rw [hr]
   have f0 : decide ((223 : Int) ≤ (c : Int)) = true := dcT (by omega)
   have f0' : decide (223 ≤ c) = true := dcT (by omega)
   have f1 : decide ((c : Int) ≤ 12287) = true := dcT (by omega)
   have f1' : decide (c ≤ 12287) = true := dcT (by omega)
   have f2 : ((c : Int) != 247) = true := by simp <;> omega
   have f3 : decide ((c : Int) < 8192) = false := dcF (by omega)
   have f3' : decide (c < 8192) = false := dcF (by omega)
   have f4 : decide ((11263 : Int) < (c : Int)) = true := dcT (by omega)
   have f4' : decide (11263 < c) = true := dcT (by omega)
   have f5 : decide ((12293 : Int) ≤ (c : Int)) = false := dcF (by omega)
   have f5' : decide (12293 ≤ c) = false := dcF (by omega)
   have f6 : decide ((c : Int) ≤ 55295) = true := dcT (by omega)
   have f6' : decide (c ≤ 55295) = true := dcT (by omega)
   have f7 : decide ((63744 : Int) ≤ (c : Int)) = false := dcF (by omega)
   have f7' : decide (63744 ≤ c) = false := dcF (by omega)
   have f8 : decide ((c : Int) ≤ 65023) = true := dcT (by omega)
   have f8' : decide (c ≤ 65023) = true := dcT (by omega)
   have f9 : decide ((c : Int) < 64976) = true := dcT (by omega)
   have f9' : decide (c < 64976) = true := dcT (by omega)
   have f10 : decide ((65007 : Int) < (c : Int)) = false := dcF (by omega)
   have f10' : decide (65007 < c) = false := dcF (by omega)
   have f11 : decide ((65536 : Int) ≤ (c : Int)) = false := dcF (by omega)
   have f11' : decide (65536 ≤ c) = false := dcF (by omega)
   have f12 : decide ((c : Int) ≤ 262143) = true := dcT (by omega)
   have f12' : decide (c ≤ 262143) = true := dcT (by omega)
   clear hr h
   go_enter Tryz.func191, Tryz.ntmps191
   go_wp2
   go_ret
   exact ⟨rfl, rfl⟩
 · have hr : charN c = false := by unfold charN; exact dcF (by omega)
   rw [hr]
   have f0 : decide ((223 : Int) ≤ (c : Int)) = true := dcT (by omega)
   have f0' : decide (223 ≤ c) = true := dcT (by omega)
   have f1 : decide ((c : Int) ≤ 12287) = false := dcF (by omega)
   have f1' : decide (c ≤ 12287) = false := dcF (by omega)
   have f2 : ((c : Int) != 247) = true := by simp <;> omega
   have f3 : decide ((c : Int) < 8192) = false := dcF (by omega)
   have f3' : decide (c < 8192) = false := dcF (by omega)
   have f4 : decide ((11263 : Int) < (c : Int)) = true := dcT (by omega)
   have f4' : decide (11263 < c) = true := dcT (by omega)
   have f5 : decide ((12293 : Int) ≤ (c : Int)) = false := dcF (by omega)
   have f5' : decide (12293 ≤ c) = false := dcF (by omega)
   have f6 : decide ((c : Int) ≤ 55295) = true := dcT (by omega)
   have f6' : decide (c ≤ 55295) = true := dcT (by omega)
   have f7 : decide ((63744 : Int) ≤ (c : Int)) = false := dcF (by omega)
   have f7' : decide (63744 ≤ c) = false := dcF (by omega)
   have f8 : decide ((c : Int) ≤ 65023) = true := dcT (by omega)
   have f8' : decide (c ≤ 65023) = true := dcT (by omega)
   have f9 : decide ((c : Int) < 64976) = true := dcT (by omega)
   have f9' : decide (c < 64976) = true := dcT (by omega)
   have f10 : decide ((65007 : Int) < (c : Int)) = false := dcF (by omega)
   have f10' : decide (65007 < c) = false := dcF (by omega)
   have f11 : decide ((65536 : Int) ≤ (c : Int)) = false := dcF (by omega)
   have f11' : decide (65536 ≤ c) = false := dcF (by omega)
   have f12 : decide ((c : Int) ≤ 262143) = true := dcT (by omega)
   have f12' : decide (c ≤ 262143) = true := dcT (by omega)
   clear hr h
   go_enter Tryz.func191, Tryz.ntmps191
   go_wp2
   go_ret
   exact ⟨rfl, rfl⟩
 · have hr : charN c = true := by unfold charN; exact dcT (by omega)
   rw [hr]
   have f0 : decide ((223 : Int) ≤ (c : Int)) = true := dcT (by omega)
   have f0' : decide (223 ≤ c) = true := dcT (by omega)
   have f1 : decide ((c : Int) ≤ 12287) = false := dcF (by omega)
   have f1' : decide (c ≤ 12287) = false := dcF (by omega)
   have f2 : ((c : Int) != 247) = true := by simp <;> omega
   have f3 : decide ((c : Int) < 8192) = false := dcF (by omega)
   have f3' : decide (c < 8192) = false := dcF (by omega)
   have f4 : decide ((11263 : Int) < (c : Int)) = true := dcT (by omega)
   have f4' : decide (11263 < c) = true := dcT (by omega)
   have f5 : decide ((12293 : Int) ≤ (c : Int)) = true := dcT (by omega)
   have f5' : decide (12293 ≤ c) = true := dcT (by omega)
   have f6 : decide ((c : Int) ≤ 55295) = true := dcT (by omega)
   have f6' : decide (c ≤ 55295) = true := dcT (by omega)
   have f7 : decide ((63744 : Int) ≤ (c : Int)) = false := dcF (by omega)
   have f7' : decide (63744 ≤ c) = false := dcF (by omega)
   have f8 : decide ((c : Int) ≤ 65023) = true := dcT (by omega)
   have f8' : decide (c ≤ 65023) = true := dcT (by omega)
   have f9 : decide ((c : Int) < 64976) = true := dcT (by omega)
   have f9' : decide (c < 64976) = true := dcT (by omega)
   have f10 : decide ((65007 : Int) < (c : Int)) = false := dcF (by omega)
   have f10' : decide (65007 < c) = false := dcF (by omega)
   have f11 : decide ((65536 : Int) ≤ (c : Int)) = false := dcF (by omega)
   have f11' : decide (65536 ≤ c) = false := dcF (by omega)
   have f12 : decide ((c : Int) ≤ 262143) = true := dcT (by omega)
   have f12' : decide (c ≤ 262143) = true := dcT (by omega)
   clear hr h
   go_enter Tryz.func191, Tryz.ntmps191
   go_wp2
   go_ret
   exact ⟨rfl, rfl⟩
 · have hr : charN c = false := by unfold charN; exact dcF (by omega)
   rw [hr]
   have f0 : decide ((223 : Int) ≤ (c : Int)) = true := dcT (by omega)
   have f0' : decide (223 ≤ c) = true := dcT (by omega)
   have f1 : decide ((c : Int) ≤ 12287) = false := dcF (by omega)
   have f1' : decide (c ≤ 12287) = false := dcF (by omega)
   have f2 : ((c : Int) != 247) = true := by simp <;> omega
   have f3 : decide ((c : Int) < 8192) = false := dcF (by omega)
   have f3' : decide (c < 8192) = false := dcF (by omega)
   have f4 : decide ((11263 : Int) < (c : Int)) = true := dcT (by omega)
   have f4' : decide (11263 < c) = true := dcT (by omega)
   have f5 : decide ((12293 : Int) ≤ (c : Int)) = true := dcT (by omega)
   have f5' : decide (12293 ≤ c) = true := dcT (by omega)
   have f6 : decide ((c : Int) ≤ 55295) = false := dcF (by omega)
   have f6' : decide (c ≤ 55295) = false := dcF (by omega)
   have f7 : decide ((63744 : Int) ≤ (c : Int)) = false := dcF (by omega)
   have f7' : decide (63744 ≤ c) = false := dcF (by omega)
   have f8 : decide ((c : Int) ≤ 65023) = true := dcT (by omega)
   have f8' : decide (c ≤ 65023) = true := dcT (by omega)
   have f9 : decide ((c : Int) < 64976) = true := dcT (by omega)
   have f9' : decide (c < 64976) = true := dcT (by omega)
   have f10 : decide ((65007 : Int) < (c : Int)) = false := dcF (by omega)
   have f10' : decide (65007 < c) = false := dcF (by omega)
   have f11 : decide ((65536 : Int) ≤ (c : Int)) = false := dcF (by omega)
   have f11' : decide (65536 ≤ c) = false := dcF (by omega)
   have f12 : decide ((c : Int) ≤ 262143) = true := dcT (by omega)
   have f12' : decide (c ≤ 262143) = true := dcT (by omega)
   clear hr h
   go_enter Tryz.func191, Tryz.ntmps191
   go_wp2
   go_ret
   exact ⟨rfl, rfl⟩
 · have hr : charN c = true := by unfold charN; exact dcT (by omega)
   rw [hr]
   have f0 : decide ((223 : Int) ≤ (c : Int)) = true := dcT (by omega)
   have f0' : decide (223 ≤ c) = true := dcT (by omega)
   have f1 : decide ((c : Int) ≤ 12287) = false := dcF (by omega)
   have f1' : decide (c ≤ 12287) = false := dcF (by omega)
   have f2 : ((c : Int) != 247) = true := by simp <;> omega
   have f3 : decide ((c : Int) < 8192) = false := dcF (by omega)
   have f3' : decide (c < 8192) = false := dcF (by omega)
   have f4 : decide ((11263 : Int) < (c : Int)) = true := dcT (by omega)
   have f4' : decide (11263 < c) = true := dcT (by omega)
   have f5 : decide ((12293 : Int) ≤ (c : Int)) = true := dcT (by omega)
   have f5' : decide (12293 ≤ c) = true := dcT (by omega)
   have f6 : decide ((c : Int) ≤ 55295) = false := dcF (by omega)
   have f6' : decide (c ≤ 55295) = false := dcF (by omega)
   have f7 : decide ((63744 : Int) ≤ (c : Int)) = true := dcT (by omega)
   have f7' : decide (63744 ≤ c) = true := dcT (by omega)
   have f8 : decide ((c : Int) ≤ 65023) = true := dcT (by omega)
   have f8' : decide (c ≤ 65023) = true := dcT (by omega)
   have f9 : decide ((c : Int) < 64976) = true := dcT (by omega)
   have f9' : decide (c < 64976) = true := dcT (by omega)
   have f10 : decide ((65007 : Int) < (c : Int)) = false := dcF (by omega)
   have f10' : decide (65007 < c) = false := dcF (by omega)
   have f11 : decide ((65536 : Int) ≤ (c : Int)) = false := dcF (by omega)
   have f11' : decide (65536 ≤ c) = false := dcF (by omega)
   have f12 : decide ((c : Int) ≤ 262143) = true := dcT (by omega)
   have f12' : decide (c ≤ 262143) = true := dcT (by omega)
   clear hr h
   go_enter Tryz.func191, Tryz.ntmps191
   go_wp2
   go_ret
   exact ⟨rfl, rfl⟩
 · have hr : charN c = false := by unfold charN; exact dcF (by omega)
   rw [hr]
   have f0 : decide ((223 : Int) ≤ (c : Int)) = true := dcT (by omega)
   have f0' : decide (223 ≤ c) = true := dcT (by omega)
   have f1 : decide ((c : Int) ≤ 12287) = false := dcF (by omega)
   have f1' : decide (c ≤ 12287) = false := dcF (by omega)
   have f2 : ((c : Int) != 247) = true := by simp <;> omega
   have f3 : decide ((c : Int) < 8192) = false := dcF (by omega)
   have f3' : decide (c < 8192) = false := dcF (by omega)
   have f4 : decide ((11263 : Int) < (c : Int)) = true := dcT (by omega)
   have f4' : decide (11263 < c) = true := dcT (by omega)
   have f5 : decide ((12293 : Int) ≤ (c : Int)) = true := dcT (by omega)
   have f5' : decide (12293 ≤ c) = true := dcT (by omega)
   have f6 : decide ((c : Int) ≤ 55295) = false := dcF (by omega)
   have f6' : decide (c ≤ 55295) = false := dcF (by omega)
   have f7 : decide ((63744 : Int) ≤ (c : Int)) = true := dcT (by omega)
   have f7' : decide (63744 ≤ c) = true := dcT (by omega)
   have f8 : decide ((c : Int) ≤ 65023) = true := dcT (by omega)
   have f8' : decide (c ≤ 65023) = true := dcT (by omega)
   have f9 : decide ((c : Int) < 64976) = false := dcF (by omega)
   have f9' : decide (c < 64976) = false := dcF (by omega)
   have f10 : decide ((65007 : Int) < (c : Int)) = false := dcF (by omega)
   have f10' : decide (65007 < c) = false := dcF (by omega)
   have f11 : decide ((65536 : Int) ≤ (c : Int)) = false := dcF (by omega)
   have f11' : decide (65536 ≤ c) = false := dcF (by omega)
   have f12 : decide ((c : Int) ≤ 262143) = true := dcT (by omega)
   have f12' : decide (c ≤ 262143) = true := dcT (by omega)
   clear hr h
   go_enter Tryz.func191, Tryz.ntmps191
   go_wp2
   go_ret
   exact ⟨rfl, rfl⟩
 · have hr : charN c = true := by unfold charN; exact dcT (by omega)
   rw [hr]
   have f0 : decide ((223 : Int) ≤ (c : Int)) = true := dcT (by omega)
   have f0' : decide (223 ≤ c) = true := dcT (by omega)
   have f1 : decide ((c : Int) ≤ 12287) = false := dcF (by omega)
   have f1' : decide (c ≤ 12287) = false := dcF (by omega)
   have f2 : ((c : Int) != 247) = true := by simp <;> omega
   have f3 : decide ((c : Int) < 8192) = false := dcF (by omega)
   have f3' : decide (c < 8192) = false := dcF (by omega)
   have f4 : decide ((11263 : Int) < (c : Int)) = true := dcT (by omega)
   have f4' : decide (11263 < c) = true := dcT (by omega)
   have f5 : decide ((12293 : Int) ≤ (c : Int)) = true := dcT (by omega)
   have f5' : decide (12293 ≤ c) = true := dcT (by omega)
   have f6 : decide ((c : Int) ≤ 55295) = false := dcF (by omega)
   have f6' : decide (c ≤ 55295) = false := dcF (by omega)
   have f7 : decide ((63744 : Int) ≤ (c : Int)) = true := dcT (by omega)
   have f7' : decide (63744 ≤ c) = true := dcT (by omega)
   have f8 : decide ((c : Int) ≤ 65023) = true := dcT (by omega)
   have f8' : decide (c ≤ 65023) = true := dcT (by omega)
   have f9 : decide ((c : Int) < 64976) = false := dcF (by omega)
   have f9' : decide (c < 64976) = false := dcF (by omega)
   have f10 : decide ((65007 : Int) < (c : Int)) = true := dcT (by omega)
   have f10' : decide (65007 < c) = true := dcT (by omega)
   have f11 : decide ((65536 : Int) ≤ (c : Int)) = false := dcF (by omega)
   have f11' : decide (65536 ≤ c) = false := dcF (by omega)
   have f12 : decide ((c : Int) ≤ 262143) = true := dcT (by omega)
   have f12' : decide (c ≤ 262143) = true := dcT (by omega)
   clear hr h
   go_enter Tryz.func191, Tryz.ntmps191
   go_wp2
   go_ret
   exact ⟨rfl, rfl⟩
 · have hr : charN c = false := by unfold charN; exact dcF (by omega)
   rw [hr]
   have f0 : decide ((223 : Int) ≤ (c : Int)) = true := dcT (by omega)
   have f0' : decide (223 ≤ c) = true := dcT (by omega)
   have f1 : decide ((c : Int) ≤ 12287) = false := dcF (by omega)
   have f1' : decide (c ≤ 12287) = false := dcF (by omega)
   have f2 : ((c : Int) != 247) = true := by simp <;> omega
   have f3 : decide ((c : Int) < 8192) = false := dcF (by omega)
   have f3' : decide (c < 8192) = false := dcF (by omega)
   have f4 : decide ((11263 : Int) < (c : Int)) = true := dcT (by omega)
   have f4' : decide (11263 < c) = true := dcT (by omega)
   have f5 : decide ((12293 : Int) ≤ (c : Int)) = true := dcT (by omega)
   have f5' : decide (12293 ≤ c) = true := dcT (by omega)
   have f6 : decide ((c : Int) ≤ 55295) = false := dcF (by omega)
   have f6' : decide (c ≤ 55295) = false := dcF (by omega)
   have f7 : decide ((63744 : Int) ≤ (c : Int)) = true := dcT (by omega)
   have f7' : decide (63744 ≤ c) = true := dcT (by omega)
   have f8 : decide ((c : Int) ≤ 65023) = false := dcF (by omega)
   have f8' : decide (c ≤ 65023) = false := dcF (by omega)
   have f9 : decide ((c : Int) < 64976) = false := dcF (by omega)
   have f9' : decide (c < 64976) = false := dcF (by omega)
   have f10 : decide ((65007 : Int) < (c : Int)) = true := dcT (by omega)
   have f10' : decide (65007 < c) = true := dcT (by omega)
   have f11 : decide ((65536 : Int) ≤ (c : Int)) = false := dcF (by omega)
   have f11' : decide (65536 ≤ c) = false := dcF (by omega)
   have f12 : decide ((c : Int) ≤ 262143) = true := dcT (by omega)
   have f12' : decide (c ≤ 262143) = true := dcT (by omega)
   clear hr h
   go_enter Tryz.func191, Tryz.ntmps191
   go_wp2
   go_ret
   exact ⟨rfl, rfl⟩
 · have hr0 : charN c = decide (c % 65536 < 65534) := by unfold charN; exact decide_eq_decide.2 (by omega)
   rw [hr0]
   have f0 : decide ((223 : Int) ≤ (c : Int)) = true := dcT (by omega)
   have f0' : decide (223 ≤ c) = true := dcT (by omega)
   have f1 : decide ((c : Int) ≤ 12287) = false := dcF (by omega)
   have f1' : decide (c ≤ 12287) = false := dcF (by omega)
   have f2 : ((c : Int) != 247) = true := by simp <;> omega
   have f3 : decide ((c : Int) < 8192) = false := dcF (by omega)
   have f3' : decide (c < 8192) = false := dcF (by omega)
   have f4 : decide ((11263 : Int) < (c : Int)) = true := dcT (by omega)
   have f4' : decide (11263 < c) = true := dcT (by omega)
   have f5 : decide ((12293 : Int) ≤ (c : Int)) = true := dcT (by omega)
   have f5' : decide (12293 ≤ c) = true := dcT (by omega)
   have f6 : decide ((c : Int) ≤ 55295) = false := dcF (by omega)
   have f6' : decide (c ≤ 55295) = false := dcF (by omega)
   have f7 : decide ((63744 : Int) ≤ (c : Int)) = true := dcT (by omega)
   have f7' : decide (63744 ≤ c) = true := dcT (by omega)
   have f8 : decide ((c : Int) ≤ 65023) = false := dcF (by omega)
   have f8' : decide (c ≤ 65023) = false := dcF (by omega)
   have f9 : decide ((c : Int) < 64976) = false := dcF (by omega)
   have f9' : decide (c < 64976) = false := dcF (by omega)
   have f10 : decide ((65007 : Int) < (c : Int)) = true := dcT (by omega)
   have f10' : decide (65007 < c) = true := dcT (by omega)
   have f11 : decide ((65536 : Int) ≤ (c : Int)) = true := dcT (by omega)
   have f11' : decide (65536 ≤ c) = true := dcT (by omega)
   have f12 : decide ((c : Int) ≤ 262143) = true := dcT (by omega)
   have f12' : decide (c ≤ 262143) = true := dcT (by omega)
   obtain ⟨r, hr⟩ : ∃ r, c % 65536 = r := ⟨_, rfl⟩
   have hm : Int.tmod (c : Int) 65536 = (r : Nat) := by rw [Int.tmod_eq_emod_of_nonneg (by omega), ← hr]; rfl
   have hrl : r < 65536 := by omega
   have hrw : IntKind.i64.wrap (r : Int) = r := i64n _ (by omega)
   rw [hr]
   clear hr h hr0
   by_cases h1 : r = 65534
   · have g1 : ((r : Int) != 65534) = false := by simp <;> omega
     rw [dcF (by omega)]
     clear h1 hrl
     go_enter Tryz.func191, Tryz.ntmps191
     go_wp2
     go_ret
     exact ⟨rfl, rfl⟩
   · have g1 : ((r : Int) != 65534) = true := by simp <;> omega
     by_cases h2 : r = 65535
     · have g2 : ((r : Int) != 65535) = false := by simp <;> omega
       rw [dcF (by omega)]
       clear h1 h2 hrl
       go_enter Tryz.func191, Tryz.ntmps191
       go_wp2
       go_ret
       exact ⟨rfl, rfl⟩
     · have g2 : ((r : Int) != 65535) = true := by simp <;> omega
       rw [dcT (by omega)]
       clear h1 h2 hrl
       go_enter Tryz.func191, Tryz.ntmps191
       go_wp2
       go_ret
       exact ⟨rfl, rfl⟩
 · have hr : charN c = false := by unfold charN; exact dcF (by omega)
   rw [hr]
   have f0 : decide ((223 : Int) ≤ (c : Int)) = true := dcT (by omega)
   have f0' : decide (223 ≤ c) = true := dcT (by omega)
   have f1 : decide ((c : Int) ≤ 12287) = false := dcF (by omega)
   have f1' : decide (c ≤ 12287) = false := dcF (by omega)
   have f2 : ((c : Int) != 247) = true := by simp <;> omega
   have f3 : decide ((c : Int) < 8192) = false := dcF (by omega)
   have f3' : decide (c < 8192) = false := dcF (by omega)
   have f4 : decide ((11263 : Int) < (c : Int)) = true := dcT (by omega)
   have f4' : decide (11263 < c) = true := dcT (by omega)
   have f5 : decide ((12293 : Int) ≤ (c : Int)) = true := dcT (by omega)
   have f5' : decide (12293 ≤ c) = true := dcT (by omega)
   have f6 : decide ((c : Int) ≤ 55295) = false := dcF (by omega)
   have f6' : decide (c ≤ 55295) = false := dcF (by omega)
   have f7 : decide ((63744 : Int) ≤ (c : Int)) = true := dcT (by omega)
   have f7' : decide (63744 ≤ c) = true := dcT (by omega)
   have f8 : decide ((c : Int) ≤ 65023) = false := dcF (by omega)
   have f8' : decide (c ≤ 65023) = false := dcF (by omega)
   have f9 : decide ((c : Int) < 64976) = false := dcF (by omega)
   have f9' : decide (c < 64976) = false := dcF (by omega)
   have f10 : decide ((65007 : Int) < (c : Int)) = true := dcT (by omega)
   have f10' : decide (65007 < c) = true := dcT (by omega)
   have f11 : decide ((65536 : Int) ≤ (c : Int)) = true := dcT (by omega)
   have f11' : decide (65536 ≤ c) = true := dcT (by omega)
   have f12 : decide ((c : Int) ≤ 262143) = false := dcF (by omega)
   have f12' : decide (c ≤ 262143) = false := dcF (by omega)
   clear hr h
   go_enter Tryz.func191, Tryz.ntmps191
   go_wp2
   go_ret
   exact ⟨rfl, rfl⟩
end
section
open Go.RowKit
def RfPost (w : World) (R : Sc (List (List Nat))) (e : Ending) (w' : World) : Prop := Below w.heap.size w w' ∧ match R with
 | .ok ps => ∃ v, e = .returned (.tuple #[v, .int .i64 0, .int .i64 0]) ∧ w'.ownsRow w.heap.size 9 1 v ps.length (strV (ps.map bytesL))
 | .no k i => e = .returned (.tuple #[.slice none 0 0, .int .i64 k, .int .i64 i])
def RfRel (m most : Nat) (s : ByteArray) (R : Sc (List (List Nat))) (w : World) (lv cv iv : Value) (wr : World) : Prop := ∃ (j : Nat) (cur : List Nat) (acc : List (List Nat)), iv = .int .i64 j ∧ cv = .string (bytesL cur) ∧ cur.length ≤ j ∧ j ≤ s.size ∧ acc.length ≤ j ∧ acc.length < most ∧ wr.ownsRow w.heap.size 9 1 lv acc.length (strV (acc.map bytesL)) ∧ Below w.heap.size w wr ∧ fldF m most ((bytesN s).drop j) j cur acc = R
theorem rfields_any (s : ByteArray) (m most : Nat) (w : World) (hs : s.size ≤ 1000000) (hm : m < 256) (h1 : 1 ≤ most) (hmo : most ≤ 1000000) : Calls Tryz.prog 59 #[.string s, .int .u8 m, .int .i64 most] w (RfPost w (fieldsL m most (bytesN s))) := by
 obtain ⟨R, hR⟩ : ∃ R, fieldsL m most (bytesN s) = R := ⟨_, rfl⟩
 rw [hR]
 obtain ⟨W1, hW1⟩ : ∃ W, w.alloc (.cells #[] 9) = W := ⟨_, rfl⟩
 have hb1 : Below w.heap.size w W1 := by rw [← hW1]; exact ext_alloc (Below.refl _ _) _
 have ho1 : W1.ownsRow w.heap.size 9 1 (.slice (some ⟨w.heap.size, 0, none⟩) 0 0) 0 (strV (([] : List (List Nat)).map bytesL)) := ⟨rfl, .inr ⟨w.heap.size, 0, #[], rfl, Nat.le_refl _, by rw [← hW1]; exact heap_alloc_new w _, Nat.le_refl _, Nat.zero_le _, rfl, rfl⟩⟩
 have HR0 : Hid (RfRel m most s R w (.slice (some ⟨w.heap.size, 0, none⟩) 0 0) (.string ⟨#[]⟩) (.int .i64 0) W1) := hid ⟨0, [], [], rfl, rfl, Nat.le_refl _, Nat.zero_le _, Nat.le_refl _, h1, ho1, hb1, by rw [← hR]; rfl⟩
 have t0 : decide ((most : Int) < 1) = false := dcF (by omega)
 clear hR hb1 ho1
 go_enter Tryz.func59, Tryz.ntmps59
 go_wp2_with fail
 go_loopw [9, 10, 11] (RfRel m most s R w) (fun _ _ i _ => s.size - (intOf i).toNat)
 case atStart => exact HR0.out
 case round =>
  obtain ⟨j, cur, acc, rfl, rfl, hcj, hj, hA, hAm, ho, hb, hr⟩ := hrel
  obtain ⟨ao, lcap, rfl, _⟩ := aown_form ho
  have HO := hid ho; have HB := hid hb
  have hzW := hb.size
  by_cases hlt : j < s.size
  · obtain ⟨t1, t1'⟩ := ltT j s.size hlt
    have q1 := inc j (by omega)
    have hg0 : (s[j]'hlt).toNat = byteAt s j := (byteAt_get s j hlt).symm
    have hone : s.extract j (j + 1) = bytesL [byteAt s j] := by
     rw [extract_bytesL, bytesN_getD hlt]
     rw [show j + 1 - j = 1 by omega]; rfl
    rw [bytesN_getD hlt, fldF] at hr
    obtain ⟨P, hP⟩ : ∃ P, bytesL cur = P := ⟨_, rfl⟩
    have hPz : P.size ≤ 1000000 := by rw [← hP, bytesL_size]; omega
    have HP := hid hP
    rw [hP]
    obtain ⟨c, hcc⟩ : ∃ c, byteAt s j = c := ⟨_, rfl⟩
    rw [hcc] at hg0 hone hr
    clear hcc
    by_cases hc : c = m
    · subst hc
      rw [if_pos rfl] at hr
      have t2 : ((c : Int) != (c : Int)) = false := by simp
      have HRR := hid hr
      have hzA : acc.length + 1 ≤ 1000000 := by omega
      clear ho hb hr hone hP
      go_wp2_with (at_builtin; refine wpList_app1 wr #[.string P] 9 rfl _ _ 63 rfl w.heap.size elStr8 _ _ _ rfl HO.out rfl rfl ?c1 ?c2 ?c3 ?c4 ?_)
      case c1 => first | rfl | (intro u hu; simp at hu; subst hu; rfl)
      case c2 => unfold maxLen; omega
      case c3 => omega
      case c4 => exact HB.out.size
      intro v2 w2 ho2 hg2
      have hb2 : Below w.heap.size w w2 := (ext_alloc HB.out _).grown hg2 (ext_alloc HB.out _).size (fun k hk => (HO.out.lt k hk).1)
      have e2 : strV (acc.map bytesL) ++ (#[Value.string P] : Array Value).toList = strV ((acc ++ [cur]).map bytesL) := by
       rw [← HP.out]; simp [strV]
      rw [e2] at ho2
      have hl2 : acc.length + 1 = (acc ++ [cur]).length := by simp
      rw [hl2] at ho2
      obtain ⟨a2, c2, rfl, _⟩ := aown_form ho2
      rw [← hl2]
      by_cases hmo2 : most ≤ acc.length + 1
      · rw [if_pos hmo2] at HRR
        have t5 : (((acc.length + 1 : Nat) : Int) == (most : Int)) = true := beq_iff_eq.2 (by omega)
        have t5' : ((acc.length : Int) + 1 == (most : Int)) = true := beq_iff_eq.2 (by omega)
        have HF := hid hb2
        clear ho2 hg2 hb2 e2 hl2 hmo2
        go_wp2
        rw [← HRR.out]
        refine bodyPost_ret (v := .tuple #[.slice none 0 0, .int .i64 15, .int .i64 j]) (by simp [results, Tryz.results59, go_sem]) rfl ⟨HF.out, rfl⟩
      · rw [if_neg hmo2] at HRR
        have t5 : (((acc.length + 1 : Nat) : Int) == (most : Int)) = false := bneI.2 (by omega)
        have t5' : ((acc.length : Int) + 1 == (most : Int)) = false := bneI.2 (by omega)
        have R' : RfRel c most s R w (.slice a2 (acc.length + 1) c2) (.string ⟨#[]⟩) (.int .i64 ((j : Int) + 1)) w2 := ⟨j + 1, [], acc ++ [cur], by go_num, rfl, Nat.zero_le _, hlt, by simp; omega, by simp; omega, by
         rw [← hl2] at ho2 ⊢; exact ho2, hb2, HRR.out⟩
        have HRL := hid R'
        clear R' ho2 hg2 hb2 e2 hl2 hmo2
        go_wp2
        refine ⟨?_, by simp [intOf]; omega⟩
        first | exact HRL.out | ((repeat apply Exists.intro); exact ⟨HRL.out, rfl⟩)
    · rw [if_neg hc] at hr
      have t2 : ((c : Int) != (m : Int)) = true := by simp; omega
      obtain ⟨U, hU⟩ : ∃ U, bytesL [c] = U := ⟨_, rfl⟩
      rw [hU] at hone
      have sl : ∀ W, (Instr.slice 9 (.string s) (some (.int .i64 (j : Int))) (some (.int .i64 ((j : Int) + 1))) none).run Tryz.prog W = .ok (.string U) W := sl_both s j (j + 1) (by omega) (by omega) U hone
      have hUz : U.size ≤ 1 := by rw [← hU]; exact Nat.le_of_eq (bytesL_size [c])
      obtain ⟨V, hV⟩ : ∃ V, P ++ U = V := ⟨_, rfl⟩
      have hVe : V = bytesL (cur ++ [c]) := by
       rw [← hV, ← hP, ← hU]
       apply toList_inj
       rw [ByteArray.toList_eq, ByteArray.toList_eq]
       simp [bytesL, ByteArray.data_append]
      have R' : RfRel m most s R w (.slice ao acc.length lcap) (.string V) (.int .i64 ((j : Int) + 1)) wr := ⟨j + 1, cur ++ [c], acc, by go_num, by rw [hVe], by simp; omega, hlt, by omega, hAm, HO.out, HB.out, hr⟩
      have HRL := hid R'
      clear R' ho hb hr hone hU hVe hP
      go_wp2
      refine ⟨?_, by simp [intOf]; omega⟩
      first | exact HRL.out | ((repeat apply Exists.intro); exact ⟨HRL.out, rfl⟩)
  · obtain ⟨t1, t1'⟩ := ltF j s.size hlt
    obtain rfl : j = s.size := by omega
    rw [bytesN_end (Nat.le_refl _), fldF] at hr
    have HRR := hid hr
    obtain ⟨P, hP⟩ : ∃ P, bytesL cur = P := ⟨_, rfl⟩
    have HP := hid hP
    rw [hP]
    have hzA : acc.length + 1 ≤ 1000001 := by omega
    clear ho hb hr hlt hP
    go_wp2_with (at_builtin; refine wpList_app1 wr #[.string P] 9 rfl _ _ 63 rfl w.heap.size elStr8 _ _ _ rfl HO.out rfl rfl ?c1 ?c2 ?c3 ?c4 ?_)
    case c1 => first | rfl | (intro u hu; simp at hu; subst hu; rfl)
    case c2 => unfold maxLen; omega
    case c3 => omega
    case c4 => exact HB.out.size
    intro v2 w2 ho2 hg2
    have hb2 : Below w.heap.size w w2 := (ext_alloc HB.out _).grown hg2 (ext_alloc HB.out _).size (fun k hk => (HO.out.lt k hk).1)
    have e2 : strV (acc.map bytesL) ++ (#[Value.string P] : Array Value).toList = strV ((acc ++ [cur]).map bytesL) := by
     rw [← HP.out]; simp [strV]
    rw [e2] at ho2
    have HF : Hid (Below w.heap.size w w2 ∧ w2.ownsRow w.heap.size 9 1 v2 (acc ++ [cur]).length (strV ((acc ++ [cur]).map bytesL))) := hid ⟨hb2, by rw [List.length_append]; exact ho2⟩
    clear ho2 hg2 hb2 e2
    go_wp2
    rw [← HRR.out]
    refine bodyPost_ret (v := .tuple #[v2, .int .i64 0, .int .i64 0]) (by simp [results, Tryz.results59, go_sem]) rfl ⟨HF.out.1, _, rfl, HF.out.2⟩
end
end Go.Proofs.YtbeodjipdpcaiaaGreatDoor
