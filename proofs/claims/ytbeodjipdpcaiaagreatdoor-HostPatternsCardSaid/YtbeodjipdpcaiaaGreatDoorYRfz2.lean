/- Texts put together. -/
import Derived.Test.YtbeodjipdpcaiaaGreatDoorYMoreR
import Derived.Test.YtbeodjipdpcaiaaGreatDoorYHxw4s
import Derived.Test.YtbeodjipdpcaiaaGreatDoorYDec0s
import Derived.Test.YtbeodjipdpcaiaaGreatDoorYRfy8f
import Derived.Test.YtbeodjipdpcaiaaGreatDoorYRfw1s
set_option maxRecDepth 100000
set_option maxHeartbeats 16000000
namespace Go.Proofs.YtbeodjipdpcaiaaGreatDoor
open Go.RowKit
def best6 (f : Nat → Nat) (j : Nat) : Nat × Nat := (List.range j).foldl (longStep (zeroP (lstF f))) (0, 0)
theorem best6_succ (f : Nat → Nat) (j : Nat) : best6 f (j + 1) = longStep (zeroP (lstF f)) (best6 f j) j := by
 unfold best6; rw [List.range_succ, List.foldl_append]; rfl
theorem best6_all (f : Nat → Nat) : best6 f 8 = longG (lstF f) := rfl
theorem best6_le (f : Nat → Nat) : ∀ j, (best6 f j).1 ≤ j ∧ (best6 f j).2 ≤ 8
 | 0 => ⟨Nat.le_refl _, Nat.zero_le _⟩
 | j + 1 => by
   obtain ⟨h1, h2⟩ := best6_le f j
   rw [best6_succ]
   unfold longStep
   split
   · refine ⟨Nat.le_succ _, ?_⟩
     have hz : ∀ l : List Bool, zrunP l ≤ l.length := fun l => by
      induction l with
      | nil => exact Nat.le_refl _
      | cons b l ih => cases b <;> simp [zrunP] <;> omega
     have := hz ((zeroP (lstF f)).drop j)
     rw [List.length_drop] at this
     have e : (zeroP (lstF f)).length = 8 := rfl
     show zrunP _ ≤ 8
     omega
   · exact ⟨by omega, h2⟩
theorem zrun_at (f : Nat → Nat) (k : Nat) (hk : k < 8) : zrunP ((zeroP (lstF f)).drop k) = if f k = 0 then zrunP ((zeroP (lstF f)).drop (k + 1)) + 1 else 0 := by
 have hg := lstF_at f k hk
 have hl : k < (zeroP (lstF f)).length := hk
 rw [List.getElem?_eq_getElem hl] at hg
 rw [List.drop_eq_getElem_cons hl]
 have hg2 : (zeroP (lstF f))[k] = decide (f k = 0) := hg
 rw [hg2]
 by_cases h : f k = 0
 · rw [dcT h, if_pos h]; rfl
 · rw [dcF h, if_neg h]; rfl
def Lg6Rel (f : Nat → Nat) (w : World) (bv sv iv : Value) (wr : World) : Prop := ∃ j : Nat, iv = .int .i64 j ∧ j ≤ 8 ∧ bv = .int .i64 ((best6 f j).1 : Nat) ∧ sv = .int .i64 ((best6 f j).2 : Nat) ∧ wr = w
def Zn6Rel (f : Nat → Nat) (j : Nat) (w : World) (nv : Value) (wr : World) : Prop := ∃ n : Nat, nv = .int .i64 n ∧ j + n ≤ 8 ∧ n + zrunP ((zeroP (lstF f)).drop (j + n)) = zrunP ((zeroP (lstF f)).drop j) ∧ wr = w
def out6 (f : Nat → Nat) (b z j : Nat) : List Nat := (List.range j).foldl (r6S (lstF f) b z) []
theorem out6_succ (f : Nat → Nat) (b z j : Nat) : out6 f b z (j + 1) = r6S (lstF f) b z (out6 f b z j) j := by
 unfold out6; rw [List.range_succ, List.foldl_append]; rfl
theorem out6_len (f : Nat → Nat) (hf : ∀ j, j < 8 → f j < 65536) (b z : Nat) : ∀ j, j ≤ 8 → (out6 f b z j).length ≤ 8 * j
 | 0, _ => Nat.le_refl _
 | j + 1, h => by
   have := out6_len f hf b z j (by omega)
   have hx := (hexN_all (hf j (by omega))).2.1
   rw [out6_succ]
   unfold r6S
   have hg : (lstF f)[j]?.getD 0 = f j := by rw [lstF_get f j (by omega)]; rfl
   rw [hg]
   split
   · split
     · rw [List.length_append]; show _ + 2 ≤ _; omega
     · omega
   · rw [List.length_append]
     split
     · rw [List.length_append]; show _ + 1 + _ ≤ _; omega
     · omega
def Tx6Rel (f : Nat → Nat) (b z : Nat) (w : World) (ov iv : Value) (wr : World) : Prop := ∃ j : Nat, iv = .int .i64 j ∧ j ≤ 8 ∧ ov = .string (bytesL (out6 f b z j)) ∧ Below w.heap.size w wr
theorem rtext12_any (f : Nat → Nat) (w : World) (hf : ∀ j, j < 8 → f j < 65536) : Calls Tryz.prog 63 #[.agg (g8C f)] w fun e w' => e = .returned (.string (bytesL (text6 (lstF f)))) ∧ Below w.heap.size w w' := by
 obtain ⟨W1, hW1⟩ : ∃ W, w.alloc (.cells (g8C f) 92) = W := ⟨_, rfl⟩
 have hb1 : Below w.heap.size w W1 := by rw [← hW1]; exact ext_alloc (Below.refl _ _) _
 have hx1 : W1.heap[w.heap.size]? = some (.cells (g8C f) 92 (0, 0)) := by rw [← hW1]; exact heap_alloc_new w _
 have HB1 := hid hb1; have HF := hid hf
 have HCE : Hid (∀ W, Below W1.heap.size W1 W → ∀ j, j < 8 → W.cell? ⟨w.heap.size, j, none⟩ = some (.int .u16 (f j : Nat))) := hid (fun W h j hj => by
  have hx := (h.block _ (heap_lt hx1)).trans hx1
  rw [Lib.cell_of_heap hx j, g8C_get f j hj])
 have hT : bytesL (out6 f (longG (lstF f)).1 (longG (lstF f)).2 8) = bytesL (text6 (lstF f)) := by
  congr 1
  exact r6_eq (lstF_len f)
 obtain ⟨T, hTT⟩ : ∃ T, bytesL (text6 (lstF f)) = T := ⟨_, rfl⟩
 rw [hTT] at hT ⊢
 have hlz := (long_zero (lstF_len f)).1
 obtain ⟨cs, hcs⟩ : ∃ cs, g8C f = cs := ⟨_, rfl⟩
 rw [hcs] at hW1 ⊢
 have HT := hid hT; have HLZ := hid hlz
 clear hb1 hx1 hcs hf hT hTT hlz
 go_enter Tryz.func63, Tryz.ntmps63
 go_wp2_with fail
 clear hW1
 go_loopw [3, 4, 5] (Lg6Rel f W1) (fun _ _ k _ => 8 - (intOf k).toNat)
 case atStart => exact ⟨0, rfl, Nat.zero_le _, rfl, rfl, rfl⟩
 case round =>
  obtain ⟨j, rfl, hj, rfl, rfl, hwr⟩ := hrel
  have hwr' := hwr.symm
  subst hwr'
  clear hwr
  obtain ⟨hl1, hl2⟩ := best6_le f j
  have HBS := hid (best6_succ f j)
  by_cases hlt : j < 8
  · have t1 : decide ((j : Int) < 8) = true := dcT (by omega)
    have t1' : decide (j < 8) = true := dcT hlt
    have q1 := inc j (by omega)
    obtain ⟨b, hb⟩ : ∃ b, (best6 f j).1 = b := ⟨_, rfl⟩
    obtain ⟨z, hz⟩ : ∃ z, (best6 f j).2 = z := ⟨_, rfl⟩
    have hbz : best6 f j = (b, z) := by rw [← hb, ← hz]
    have HST : Hid (best6 f (j + 1) = if z < zrunP ((zeroP (lstF f)).drop j) then (j, zrunP ((zeroP (lstF f)).drop j)) else (b, z)) := hid (by rw [HBS.out, hbz]; rfl)
    rw [hb] at hl1 ⊢
    rw [hz] at hl2 ⊢
    have HLT := hid hlt
    clear hb hz hbz
    go_wp2_with fail
    go_loopw [6] (Zn6Rel f j W1) (fun k _ => 8 - (intOf k).toNat)
    case atStart => exact ⟨0, rfl, by omega, by rw [Nat.add_zero, Nat.zero_add], rfl⟩
    case round =>
     obtain ⟨n, rfl, hjn, hzr, hwr⟩ := hrel
     have hwr' := hwr.symm
     subst hwr'
     clear hwr
     have q2 : IntKind.i64.wrap ((j : Int) + (n : Int)) = (j : Int) + (n : Int) := i64n _ (by omega)
     have q3 := inc n (by omega)
     have key : (∃ t0 : ((j : Int) + (n : Int) < 8), f (j + n) = 0 ∧ (n + 1) + zrunP ((zeroP (lstF f)).drop (j + (n + 1))) = zrunP ((zeroP (lstF f)).drop j)) ∨ (zrunP ((zeroP (lstF f)).drop j) = n ∧ (j + n = 8 ∨ j + n < 8 ∧ f (j + n) ≠ 0)) := by
      by_cases h8 : j + n < 8
      · rw [zrun_at f (j + n) h8] at hzr
        by_cases h0 : f (j + n) = 0
        · rw [if_pos h0] at hzr
          exact .inl ⟨by omega, h0, by rw [← hzr]; rw [show j + (n + 1) = j + n + 1 by omega]; omega⟩
        · rw [if_neg h0] at hzr
          exact .inr ⟨by omega, .inr ⟨h8, h0⟩⟩
      · have e : (zeroP (lstF f)).drop (j + n) = [] := List.drop_eq_nil_of_le (by show 8 ≤ _; omega)
        rw [e] at hzr
        exact .inr ⟨by simp [zrunP] at hzr; omega, .inl (by omega)⟩
     have HJN := hid hjn
     clear hzr
     have tail : zrunP ((zeroP (lstF f)).drop j) = n → (decide ((z : Int) < (n : Int)) = true ∧ decide (z < n) = true ∧ Hid (Lg6Rel f W1 (.int .i64 (j : Int)) (.int .i64 (n : Int)) (.int .i64 ((j : Int) + 1)) W1)) ∨ (decide ((z : Int) < (n : Int)) = false ∧ decide (z < n) = false ∧ Hid (Lg6Rel f W1 (.int .i64 (b : Int)) (.int .i64 (z : Int)) (.int .i64 ((j : Int) + 1)) W1)) := fun h => by
      have hst := HST.out
      rw [h] at hst
      by_cases hzn : z < n
      · rw [if_pos hzn] at hst
        exact .inl ⟨dcT (by omega), dcT hzn, hid ⟨j + 1, by go_num, HLT.out, by rw [hst], by rw [hst], rfl⟩⟩
      · rw [if_neg hzn] at hst
        exact .inr ⟨dcF (by omega), dcF hzn, hid ⟨j + 1, by go_num, HLT.out, by rw [hst], by rw [hst], rfl⟩⟩
     rcases key with ⟨h8, h0, hzr⟩ | ⟨hzr, hex⟩
     · obtain ⟨k, hk⟩ : ∃ k, j + n = k := ⟨_, rfl⟩
       have hk8 : k < 8 := by omega
       have q2' : IntKind.i64.wrap ((j : Int) + (n : Int)) = (k : Int) := q2.trans (by omega)
       have t2 : decide ((k : Int) < 8) = true := dcT (by omega)
       have t2' : decide (k < 8) = true := dcT hk8
       have c0 := HCE.out W1 (Below.refl _ _) k hk8
       rw [hk] at h0
       rw [h0] at c0
       have HRL : Hid (Zn6Rel f j W1 (.int .i64 ((n : Int) + 1)) W1) := hid ⟨n + 1, by go_num, by omega, hzr, rfl⟩
       have hn8 : n < 8 := by omega
       clear q2 hk h0 hzr tail h8
       go_wp2
       refine ⟨?_, by simp [intOf]; omega⟩
       first | exact HRL.out | ((repeat apply Exists.intro); exact ⟨HRL.out, rfl⟩)
     · have ht := tail hzr
       clear hzr tail
       rcases hex with h8 | ⟨h8, h0⟩
       · have q2' : IntKind.i64.wrap ((j : Int) + (n : Int)) = 8 := q2.trans (by omega)
         have t2 : decide ((8 : Int) < 8) = false := rfl
         clear q2 h8
         rcases ht with ⟨t3, t3', HRL⟩ | ⟨t3, t3', HRL⟩
         all_goals
          go_wp2
          refine ⟨?_, by have := HLT.out; simp [intOf]; omega⟩
          first | exact HRL.out | ((repeat apply Exists.intro); exact ⟨HRL.out, rfl⟩)
       · obtain ⟨k, hk⟩ : ∃ k, j + n = k := ⟨_, rfl⟩
         have hk8 : k < 8 := by omega
         have q2' : IntKind.i64.wrap ((j : Int) + (n : Int)) = (k : Int) := q2.trans (by omega)
         have t2 : decide ((k : Int) < 8) = true := dcT (by omega)
         have t2' : decide (k < 8) = true := dcT hk8
         have c0 := HCE.out W1 (Below.refl _ _) k hk8
         rw [hk] at h0
         obtain ⟨x, hx⟩ : ∃ x, f k = x := ⟨_, rfl⟩
         rw [hx] at c0 h0
         have t4 : ((x : Int) == 0) = false := bneI.2 (by omega)
         have t4' : (x = 0) = False := eq_false h0
         clear q2 hk h0 h8 hx
         rcases ht with ⟨t3, t3', HRL⟩ | ⟨t3, t3', HRL⟩
         all_goals
          go_wp2
          refine ⟨?_, by have := HLT.out; simp [intOf]; omega⟩
          first | exact HRL.out | ((repeat apply Exists.intro); exact ⟨HRL.out, rfl⟩)
  · have t1 : decide ((j : Int) < 8) = false := dcF (by omega)
    have t1' : decide (j < 8) = false := dcF hlt
    obtain rfl : j = 8 := by omega
    rw [best6_all]
    have hlz := HLZ.out
    obtain ⟨b, hb⟩ : ∃ b, (longG (lstF f)).1 = b := ⟨_, rfl⟩
    obtain ⟨z, hz⟩ : ∃ z, (longG (lstF f)).2 = z := ⟨_, rfl⟩
    rw [hb, hz] at hlz
    rw [hb, hz] at HT ⊢
    clear hb hz hlt hl1 hl2 HBS HLZ hj
    go_wp2_with fail
    clear t1 t1'
    go_loopw [7, 8] (Tx6Rel f b z W1) (fun _ k _ => 8 - (intOf k).toNat)
    case atStart => exact ⟨0, rfl, Nat.zero_le _, rfl, Below.refl _ _⟩
    case round =>
     obtain ⟨j, rfl, hj, rfl, hbw⟩ := hrel
     have HB := hid hbw
     clear hbw
     have hol := out6_len f HF.out b z j hj
     by_cases hlt : j < 8
     · have t1 : decide ((j : Int) < 8) = true := dcT (by omega)
       have t1' : decide (j < 8) = true := dcT hlt
       have q1 := inc j (by omega)
       have q2 : IntKind.i64.wrap ((b : Int) + (z : Int)) = (b : Int) + (z : Int) := i64n _ (by omega)
       have c0 := HCE.out wr HB.out j hlt
       have hst := out6_succ f b z j
       unfold r6S at hst
       have hg : (lstF f)[j]?.getD 0 = f j := by rw [lstF_get f j hlt]; rfl
       rw [hg] at hst
       have hfj := HF.out j hlt
       have hlen := (hexN_all hfj).2.1
       obtain ⟨x, hx⟩ : ∃ x, f j = x := ⟨_, rfl⟩
       rw [hx] at c0 hst hfj hlen
       obtain ⟨O, hO⟩ : ∃ O, bytesL (out6 f b z j) = O := ⟨_, rfl⟩
       have hOz : O.size ≤ 100 := by rw [← hO, bytesL_size]; omega
       have HRL : Hid (∀ S, bytesL (out6 f b z (j + 1)) = S → ∀ W, Below W1.heap.size W1 W → Tx6Rel f b z W1 (.string S) (.int .i64 ((j : Int) + 1)) W) := hid (fun S hS W h => ⟨j + 1, by go_num, hlt, by rw [hS], h⟩)
       have HLT := hid hlt
       rw [hO]
       have hcase : ((2 ≤ z ∧ j = b ∧ b ≤ j ∧ j < b + z) ∧ bytesL (out6 f b z (j + 1)) = O ++ ⟨#[58, 58]⟩) ∨
           ((2 ≤ z ∧ j ≠ b ∧ b ≤ j ∧ j < b + z) ∧ bytesL (out6 f b z (j + 1)) = O) ∨
           ((¬ 2 ≤ z ∨ (2 ≤ z ∧ j ≠ b ∧ ¬ b ≤ j) ∨ (2 ≤ z ∧ j ≠ b ∧ b ≤ j ∧ ¬ j < b + z)) ∧
             ((0 < j ∧ (z < 2 ∨ ¬ z < 2 ∧ j ≠ b + z) ∧ bytesL (out6 f b z (j + 1)) = O ++ ⟨#[58]⟩ ++ bytesL (hexN x)) ∨
               (¬ 0 < j ∧ bytesL (out6 f b z (j + 1)) = O ++ bytesL (hexN x)) ∨
               (0 < j ∧ ¬ z < 2 ∧ j = b + z ∧ bytesL (out6 f b z (j + 1)) = O ++ bytesL (hexN x)))) := by
        by_cases hin : 2 ≤ z ∧ b ≤ j ∧ j < b + z
        · rw [if_pos hin] at hst
          by_cases he : j = b
          · rw [if_pos he] at hst
            exact .inl ⟨⟨hin.1, he, hin.2⟩, by rw [hst, bytesL_append, hO]; rfl⟩
          · rw [if_neg he] at hst
            exact .inr (.inl ⟨⟨hin.1, he, hin.2⟩, by rw [hst, hO]⟩)
        · rw [if_neg hin] at hst
          refine .inr (.inr ⟨by omega, ?_⟩)
          by_cases hj0 : 0 < j
          · by_cases h2 : z < 2
            · rw [if_pos ⟨hj0, .inl h2⟩] at hst
              exact .inl ⟨hj0, .inl h2, by rw [hst, bytesL_append, bytesL_append, hO]; rfl⟩
            · by_cases he : j = b + z
              · rw [if_neg (fun h => h.2.elim h2 (fun e => e he))] at hst
                exact .inr (.inr ⟨hj0, h2, he, by rw [hst, bytesL_append, hO]⟩)
              · rw [if_pos ⟨hj0, .inr he⟩] at hst
                exact .inl ⟨hj0, .inr ⟨h2, he⟩, by rw [hst, bytesL_append, bytesL_append, hO]; rfl⟩
          · rw [if_neg (fun h => hj0 h.1)] at hst
            exact .inr (.inl ⟨hj0, by rw [hst, bytesL_append, hO]⟩)
       have WR := hid (rwritten16_any x wr hfj)
       have hbz : (hexB6 x).size ≤ 4 := by unfold hexB6; rw [hexS6_size]; exact lenH_le hfj
       have LW := fun W => rlower_any (hexB6 x) W (by omega)
       rw [hexB_low hfj] at LW
       have hDz : (bytesL (hexN x)).size ≤ 4 := by rw [bytesL_size]; exact hlen
       obtain ⟨D, hD⟩ : ∃ D, bytesL (hexN x) = D := ⟨_, rfl⟩
       rw [hD] at LW hDz hcase
       have LW := hid LW
       have qx : IntKind.u64.wrap (x : Int) = (x : Int) := IntWalk.u64_in _ (by omega)
       clear hst hg hx hO hol hlen hbz hD hj
       rcases hcase with ⟨⟨e1, e2, e3, e4⟩, hS⟩ | ⟨⟨e1, e2, e3, e4⟩, hS⟩ | ⟨hc, hS⟩
       · have HR1 := hid (HRL.out _ hS wr HB.out)
         have u1 : decide ((2 : Int) ≤ (z : Int)) = true := dcT (by omega)
         have u1' : decide (2 ≤ z) = true := dcT (by omega)
         have u2 : ((j : Int) == (b : Int)) = true := beq_iff_eq.2 (by omega)
         have u2' : (j = b) = True := eq_true (by omega)
         have u3 : decide ((b : Int) ≤ (j : Int)) = true := dcT (by omega)
         have u3' : decide (b ≤ j) = true := dcT (by omega)
         have u4 : decide ((j : Int) < (b : Int) + (z : Int)) = true := dcT (by omega)
         have u4' : decide (j < b + z) = true := dcT (by omega)
         clear HRL hS e1 e2 e3 e4
         go_wp2
         refine ⟨?_, by have := HLT.out; simp [intOf]; omega⟩
         first | exact HR1.out | ((repeat apply Exists.intro); exact ⟨HR1.out, rfl⟩)
       · have HR1 := hid (HRL.out _ hS wr HB.out)
         have u1 : decide ((2 : Int) ≤ (z : Int)) = true := dcT (by omega)
         have u1' : decide (2 ≤ z) = true := dcT (by omega)
         have u2 : ((j : Int) == (b : Int)) = false := bneI.2 (by omega)
         have u2' : (j = b) = False := eq_false (by omega)
         have u3 : decide ((b : Int) ≤ (j : Int)) = true := dcT (by omega)
         have u3' : decide (b ≤ j) = true := dcT (by omega)
         have u4 : decide ((j : Int) < (b : Int) + (z : Int)) = true := dcT (by omega)
         have u4' : decide (j < b + z) = true := dcT (by omega)
         clear HRL hS e1 e2 e3 e4
         go_wp2
         refine ⟨?_, by have := HLT.out; simp [intOf]; omega⟩
         first | exact HR1.out | ((repeat apply Exists.intro); exact ⟨HR1.out, rfl⟩)
       · rcases hc with e1 | ⟨e1, e2, e3⟩ | ⟨e1, e2, e3, e4⟩
         · have u1 : decide ((2 : Int) ≤ (z : Int)) = false := dcF (by omega)
           have u1' : decide (2 ≤ z) = false := dcF (by omega)
           clear e1
           rcases hS with ⟨e5, e6 | ⟨e6, e7⟩, hS⟩ | ⟨e5, hS⟩ | ⟨e5, e6, e7, hS⟩
           · have v1 : decide ((0 : Int) < (j : Int)) = true := dcT (by omega)
             have v1' : decide (0 < j) = true := dcT (by omega)
             have v2 : decide ((z : Int) < 2) = true := dcT (by omega)
             have v2' : decide (z < 2) = true := dcT (by omega)
             clear e5 e6
             have HR1 := hid (HRL.out _ hS)
             clear HRL hS
             go_wp2_with fail
             refine WR.out.mono ?_
             rintro e w3 ⟨rfl, hb3⟩
             have HB3 := hid (xT HB.out hb3)
             clear hb3
             go_wp2_with fail
             refine (LW.out _).mono ?_
             rintro e w4 ⟨rfl, hb4⟩
             have HR2 := hid (HR1.out _ (xT HB3.out hb4))
             clear hb4
             go_wp2
             refine ⟨?_, by have := HLT.out; simp [intOf]; omega⟩
             first | exact HR2.out | ((repeat apply Exists.intro); exact ⟨HR2.out, rfl⟩)
           · have v1 : decide ((0 : Int) < (j : Int)) = true := dcT (by omega)
             have v1' : decide (0 < j) = true := dcT (by omega)
             have v2 : decide ((z : Int) < 2) = false := dcF (by omega)
             have v2' : decide (z < 2) = false := dcF (by omega)
             have v3 : ((j : Int) == (b : Int) + (z : Int)) = false := bneI.2 (by omega)
             have v3' : (j = b + z) = False := eq_false (by omega)
             clear e5 e6 e7
             have HR1 := hid (HRL.out _ hS)
             clear HRL hS
             go_wp2_with fail
             refine WR.out.mono ?_
             rintro e w3 ⟨rfl, hb3⟩
             have HB3 := hid (xT HB.out hb3)
             clear hb3
             go_wp2_with fail
             refine (LW.out _).mono ?_
             rintro e w4 ⟨rfl, hb4⟩
             have HR2 := hid (HR1.out _ (xT HB3.out hb4))
             clear hb4
             go_wp2
             refine ⟨?_, by have := HLT.out; simp [intOf]; omega⟩
             first | exact HR2.out | ((repeat apply Exists.intro); exact ⟨HR2.out, rfl⟩)
           · have v1 : decide ((0 : Int) < (j : Int)) = false := dcF (by omega)
             have v1' : decide (0 < j) = false := dcF (by omega)
             clear e5
             have HR1 := hid (HRL.out _ hS)
             clear HRL hS
             go_wp2_with fail
             refine WR.out.mono ?_
             rintro e w3 ⟨rfl, hb3⟩
             have HB3 := hid (xT HB.out hb3)
             clear hb3
             go_wp2_with fail
             refine (LW.out _).mono ?_
             rintro e w4 ⟨rfl, hb4⟩
             have HR2 := hid (HR1.out _ (xT HB3.out hb4))
             clear hb4
             go_wp2
             refine ⟨?_, by have := HLT.out; simp [intOf]; omega⟩
             first | exact HR2.out | ((repeat apply Exists.intro); exact ⟨HR2.out, rfl⟩)
           · have v1 : decide ((0 : Int) < (j : Int)) = true := dcT (by omega)
             have v1' : decide (0 < j) = true := dcT (by omega)
             have v2 : decide ((z : Int) < 2) = false := dcF (by omega)
             have v2' : decide (z < 2) = false := dcF (by omega)
             have v3 : ((j : Int) == (b : Int) + (z : Int)) = true := beq_iff_eq.2 (by omega)
             have v3' : (j = b + z) = True := eq_true (by omega)
             clear e5 e6 e7
             have HR1 := hid (HRL.out _ hS)
             clear HRL hS
             go_wp2_with fail
             refine WR.out.mono ?_
             rintro e w3 ⟨rfl, hb3⟩
             have HB3 := hid (xT HB.out hb3)
             clear hb3
             go_wp2_with fail
             refine (LW.out _).mono ?_
             rintro e w4 ⟨rfl, hb4⟩
             have HR2 := hid (HR1.out _ (xT HB3.out hb4))
             clear hb4
             go_wp2
             refine ⟨?_, by have := HLT.out; simp [intOf]; omega⟩
             first | exact HR2.out | ((repeat apply Exists.intro); exact ⟨HR2.out, rfl⟩)
         · have u1 : decide ((2 : Int) ≤ (z : Int)) = true := dcT (by omega)
           have u1' : decide (2 ≤ z) = true := dcT (by omega)
           have u2 : ((j : Int) == (b : Int)) = false := bneI.2 (by omega)
           have u2' : (j = b) = False := eq_false (by omega)
           have u3 : decide ((b : Int) ≤ (j : Int)) = false := dcF (by omega)
           have u3' : decide (b ≤ j) = false := dcF (by omega)
           clear e1 e2 e3
           rcases hS with ⟨e5, e6 | ⟨e6, e7⟩, hS⟩ | ⟨e5, hS⟩ | ⟨e5, e6, e7, hS⟩
           · have v1 : decide ((0 : Int) < (j : Int)) = true := dcT (by omega)
             have v1' : decide (0 < j) = true := dcT (by omega)
             have v2 : decide ((z : Int) < 2) = true := dcT (by omega)
             have v2' : decide (z < 2) = true := dcT (by omega)
             clear e5 e6
             have HR1 := hid (HRL.out _ hS)
             clear HRL hS
             go_wp2_with fail
             refine WR.out.mono ?_
             rintro e w3 ⟨rfl, hb3⟩
             have HB3 := hid (xT HB.out hb3)
             clear hb3
             go_wp2_with fail
             refine (LW.out _).mono ?_
             rintro e w4 ⟨rfl, hb4⟩
             have HR2 := hid (HR1.out _ (xT HB3.out hb4))
             clear hb4
             go_wp2
             refine ⟨?_, by have := HLT.out; simp [intOf]; omega⟩
             first | exact HR2.out | ((repeat apply Exists.intro); exact ⟨HR2.out, rfl⟩)
           · have v1 : decide ((0 : Int) < (j : Int)) = true := dcT (by omega)
             have v1' : decide (0 < j) = true := dcT (by omega)
             have v2 : decide ((z : Int) < 2) = false := dcF (by omega)
             have v2' : decide (z < 2) = false := dcF (by omega)
             have v3 : ((j : Int) == (b : Int) + (z : Int)) = false := bneI.2 (by omega)
             have v3' : (j = b + z) = False := eq_false (by omega)
             clear e5 e6 e7
             have HR1 := hid (HRL.out _ hS)
             clear HRL hS
             go_wp2_with fail
             refine WR.out.mono ?_
             rintro e w3 ⟨rfl, hb3⟩
             have HB3 := hid (xT HB.out hb3)
             clear hb3
             go_wp2_with fail
             refine (LW.out _).mono ?_
             rintro e w4 ⟨rfl, hb4⟩
             have HR2 := hid (HR1.out _ (xT HB3.out hb4))
             clear hb4
             go_wp2
             refine ⟨?_, by have := HLT.out; simp [intOf]; omega⟩
             first | exact HR2.out | ((repeat apply Exists.intro); exact ⟨HR2.out, rfl⟩)
           · have v1 : decide ((0 : Int) < (j : Int)) = false := dcF (by omega)
             have v1' : decide (0 < j) = false := dcF (by omega)
             clear e5
             have HR1 := hid (HRL.out _ hS)
             clear HRL hS
             go_wp2_with fail
             refine WR.out.mono ?_
             rintro e w3 ⟨rfl, hb3⟩
             have HB3 := hid (xT HB.out hb3)
             clear hb3
             go_wp2_with fail
             refine (LW.out _).mono ?_
             rintro e w4 ⟨rfl, hb4⟩
             have HR2 := hid (HR1.out _ (xT HB3.out hb4))
             clear hb4
             go_wp2
             refine ⟨?_, by have := HLT.out; simp [intOf]; omega⟩
             first | exact HR2.out | ((repeat apply Exists.intro); exact ⟨HR2.out, rfl⟩)
           · have v1 : decide ((0 : Int) < (j : Int)) = true := dcT (by omega)
             have v1' : decide (0 < j) = true := dcT (by omega)
             have v2 : decide ((z : Int) < 2) = false := dcF (by omega)
             have v2' : decide (z < 2) = false := dcF (by omega)
             have v3 : ((j : Int) == (b : Int) + (z : Int)) = true := beq_iff_eq.2 (by omega)
             have v3' : (j = b + z) = True := eq_true (by omega)
             clear e5 e6 e7
             have HR1 := hid (HRL.out _ hS)
             clear HRL hS
             go_wp2_with fail
             refine WR.out.mono ?_
             rintro e w3 ⟨rfl, hb3⟩
             have HB3 := hid (xT HB.out hb3)
             clear hb3
             go_wp2_with fail
             refine (LW.out _).mono ?_
             rintro e w4 ⟨rfl, hb4⟩
             have HR2 := hid (HR1.out _ (xT HB3.out hb4))
             clear hb4
             go_wp2
             refine ⟨?_, by have := HLT.out; simp [intOf]; omega⟩
             first | exact HR2.out | ((repeat apply Exists.intro); exact ⟨HR2.out, rfl⟩)
         · have u1 : decide ((2 : Int) ≤ (z : Int)) = true := dcT (by omega)
           have u1' : decide (2 ≤ z) = true := dcT (by omega)
           have u2 : ((j : Int) == (b : Int)) = false := bneI.2 (by omega)
           have u2' : (j = b) = False := eq_false (by omega)
           have u3 : decide ((b : Int) ≤ (j : Int)) = true := dcT (by omega)
           have u3' : decide (b ≤ j) = true := dcT (by omega)
           have u4 : decide ((j : Int) < (b : Int) + (z : Int)) = false := dcF (by omega)
           have u4' : decide (j < b + z) = false := dcF (by omega)
           clear e1 e2 e3 e4
           rcases hS with ⟨e5, e6 | ⟨e6, e7⟩, hS⟩ | ⟨e5, hS⟩ | ⟨e5, e6, e7, hS⟩
           · have v1 : decide ((0 : Int) < (j : Int)) = true := dcT (by omega)
             have v1' : decide (0 < j) = true := dcT (by omega)
             have v2 : decide ((z : Int) < 2) = true := dcT (by omega)
             have v2' : decide (z < 2) = true := dcT (by omega)
             clear e5 e6
             have HR1 := hid (HRL.out _ hS)
             clear HRL hS
             go_wp2_with fail
             refine WR.out.mono ?_
             rintro e w3 ⟨rfl, hb3⟩
             have HB3 := hid (xT HB.out hb3)
             clear hb3
             go_wp2_with fail
             refine (LW.out _).mono ?_
             rintro e w4 ⟨rfl, hb4⟩
             have HR2 := hid (HR1.out _ (xT HB3.out hb4))
             clear hb4
             go_wp2
             refine ⟨?_, by have := HLT.out; simp [intOf]; omega⟩
             first | exact HR2.out | ((repeat apply Exists.intro); exact ⟨HR2.out, rfl⟩)
           · have v1 : decide ((0 : Int) < (j : Int)) = true := dcT (by omega)
             have v1' : decide (0 < j) = true := dcT (by omega)
             have v2 : decide ((z : Int) < 2) = false := dcF (by omega)
             have v2' : decide (z < 2) = false := dcF (by omega)
             have v3 : ((j : Int) == (b : Int) + (z : Int)) = false := bneI.2 (by omega)
             have v3' : (j = b + z) = False := eq_false (by omega)
             clear e5 e6 e7
             have HR1 := hid (HRL.out _ hS)
             clear HRL hS
             go_wp2_with fail
             refine WR.out.mono ?_
             rintro e w3 ⟨rfl, hb3⟩
             have HB3 := hid (xT HB.out hb3)
             clear hb3
             go_wp2_with fail
             refine (LW.out _).mono ?_
             rintro e w4 ⟨rfl, hb4⟩
             have HR2 := hid (HR1.out _ (xT HB3.out hb4))
             clear hb4
             go_wp2
             refine ⟨?_, by have := HLT.out; simp [intOf]; omega⟩
             first | exact HR2.out | ((repeat apply Exists.intro); exact ⟨HR2.out, rfl⟩)
           · have v1 : decide ((0 : Int) < (j : Int)) = false := dcF (by omega)
             have v1' : decide (0 < j) = false := dcF (by omega)
             clear e5
             have HR1 := hid (HRL.out _ hS)
             clear HRL hS
             go_wp2_with fail
             refine WR.out.mono ?_
             rintro e w3 ⟨rfl, hb3⟩
             have HB3 := hid (xT HB.out hb3)
             clear hb3
             go_wp2_with fail
             refine (LW.out _).mono ?_
             rintro e w4 ⟨rfl, hb4⟩
             have HR2 := hid (HR1.out _ (xT HB3.out hb4))
             clear hb4
             go_wp2
             refine ⟨?_, by have := HLT.out; simp [intOf]; omega⟩
             first | exact HR2.out | ((repeat apply Exists.intro); exact ⟨HR2.out, rfl⟩)
           · have v1 : decide ((0 : Int) < (j : Int)) = true := dcT (by omega)
             have v1' : decide (0 < j) = true := dcT (by omega)
             have v2 : decide ((z : Int) < 2) = false := dcF (by omega)
             have v2' : decide (z < 2) = false := dcF (by omega)
             have v3 : ((j : Int) == (b : Int) + (z : Int)) = true := beq_iff_eq.2 (by omega)
             have v3' : (j = b + z) = True := eq_true (by omega)
             clear e5 e6 e7
             have HR1 := hid (HRL.out _ hS)
             clear HRL hS
             go_wp2_with fail
             refine WR.out.mono ?_
             rintro e w3 ⟨rfl, hb3⟩
             have HB3 := hid (xT HB.out hb3)
             clear hb3
             go_wp2_with fail
             refine (LW.out _).mono ?_
             rintro e w4 ⟨rfl, hb4⟩
             have HR2 := hid (HR1.out _ (xT HB3.out hb4))
             clear hb4
             go_wp2
             refine ⟨?_, by have := HLT.out; simp [intOf]; omega⟩
             first | exact HR2.out | ((repeat apply Exists.intro); exact ⟨HR2.out, rfl⟩)
     · have t1 : decide ((j : Int) < 8) = false := dcF (by omega)
       have t1' : decide (j < 8) = false := dcF hlt
       obtain rfl : j = 8 := by omega
       rw [HT.out]
       have HFN := hid (xT HB1.out HB.out)
       clear hol hlt hj
       go_wp2
       go_ret
       exact ⟨rfl, HFN.out⟩
end Go.Proofs.YtbeodjipdpcaiaaGreatDoor
