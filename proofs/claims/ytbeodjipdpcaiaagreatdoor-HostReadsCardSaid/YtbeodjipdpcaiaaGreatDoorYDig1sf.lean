/- Texts put together. -/
import Derived.Test.YtbeodjipdpcaiaaGreatDoorYMoreR
import Derived.Test.YtbeodjipdpcaiaaGreatDoorYFold0sf
import Derived.Test.YtbeodjipdpcaiaaGreatDoorYErrs1s
import Derived.Test.YtbeodjipdpcaiaaGreatDoorYQuw5s
import Derived.Test.YtbeodjipdpcaiaaGreatDoorYDec2f
import Derived.Test.YtbeodjipdpcaiaaGreatDoorYFow1s
import Derived.BigQuiet
set_option maxRecDepth 100000
set_option maxHeartbeats 4000000
namespace Go.Proofs.YtbeodjipdpcaiaaGreatDoor
open Go.RowKit
def smallN (c : Nat) : Nat := if 65 ≤ c ∧ c ≤ 90 then c + 32 else c
theorem rsmall02_any (c : Nat) (hc : c < 256) (w : World) : Calls Tryz.prog 155 #[.int .u8 c] w fun e w' => e = .returned (.int .u8 (smallN c)) ∧ w = w' := by
 by_cases h1 : 65 ≤ c
 · have t1 : decide (65 ≤ c) = true := dcT h1
   have t1' : decide ((65 : Int) ≤ (c : Int)) = true := dcT (by omega)
   by_cases h2 : c ≤ 90
   · have t2 : decide (c ≤ 90) = true := dcT h2
     have t2' : decide ((c : Int) ≤ 90) = true := dcT (by omega)
     have HE : Hid (((smallN c : Nat) : Int) = (c : Int) + 32) := hid (by unfold smallN; rw [if_pos ⟨h1, h2⟩]; rfl)
     have q1 : IntKind.u8.wrap ((c : Int) + 32) = (c : Int) + 32 := IntWalk.u8_in _ (by omega)
     have hz : c + 32 < 256 := by omega
     go_enter Tryz.func155, Tryz.ntmps155
     go_wp2
     go_ret
     exact ⟨by rw [HE.out]; first | rfl | (congr 2; omega), rfl⟩
   · have t2 : decide (c ≤ 90) = false := dcF h2
     have t2' : decide ((c : Int) ≤ 90) = false := dcF (by omega)
     have HE : Hid (smallN c = c) := hid (by unfold smallN; rw [if_neg (by omega)])
     clear h1 h2
     go_enter Tryz.func155, Tryz.ntmps155
     go_wp2
     go_ret
     exact ⟨by rw [HE.out]; rfl, rfl⟩
 · have t1 : decide (65 ≤ c) = false := dcF h1
   have t1' : decide ((65 : Int) ≤ (c : Int)) = false := dcF (by omega)
   have HE : Hid (smallN c = c) := hid (by unfold smallN; rw [if_neg (by omega)])
   clear h1
   go_enter Tryz.func155, Tryz.ntmps155
   go_wp2
   go_ret
   exact ⟨by rw [HE.out]; rfl, rfl⟩
def hexL : List Nat := [48, 49, 50, 51, 52, 53, 54, 55, 56, 57, 97, 98, 99, 100, 101, 102]
theorem dig_hit : ∀ c : Fin 256, ∀ j : Fin 16, hexL[j.val]? = some (smallN c.val) → digV c.val = j.val := by decide +kernel
theorem dig_none : ∀ c : Fin 256, (∀ j : Fin 16, hexL[j.val]? ≠ some (smallN c.val)) → digV c.val = 99 := by decide +kernel
def RdgRel (c : Nat) (w : World) (i : Value) (wr : World) : Prop := ∃ j n : Nat, i = .int .i64 j ∧ j ≤ 16 ∧ (∀ m, m < j → hexL[m]? ≠ some (smallN c)) ∧ wr = w.drewN n
theorem rdigit_any (c : Nat) (hc : c < 256) (w : World) : Calls Tryz.prog 195 #[.int .u8 c] w fun e w' => e = .returned (.int .u64 (digV c)) ∧ ∃ n, w' = w.drewN n := by
 have HS := hid (fun W => rsmall02_any c hc W)
 have HC := hid hc
 obtain ⟨s, hs⟩ : ∃ s, smallN c = s := ⟨_, rfl⟩
 have HSS := hid hs
 rw [hs] at HS
 obtain ⟨S, hS⟩ : ∃ S : ByteArray, (⟨#[48, 49, 50, 51, 52, 53, 54, 55, 56, 57, 97, 98, 99, 100, 101, 102]⟩ : ByteArray) = S := ⟨_, rfl⟩
 have hsz : S.size = 16 := by rw [← hS]; rfl
 have HB : Hid (∀ j (h : j < S.size), hexL[j]? = some (S[j]'h).toNat) := hid (by
  subst hS
  intro j h
  have h' : j < 16 := h
  revert h
  have hj : j = 0 ∨ j = 1 ∨ j = 2 ∨ j = 3 ∨ j = 4 ∨ j = 5 ∨ j = 6 ∨ j = 7 ∨ j = 8 ∨ j = 9 ∨ j = 10 ∨ j = 11 ∨ j = 12 ∨ j = 13 ∨ j = 14 ∨ j = 15 := by omega
  rcases hj with rfl | rfl | rfl | rfl | rfl | rfl | rfl | rfl | rfl | rfl | rfl | rfl | rfl | rfl | rfl | rfl <;> exact fun _ => rfl)
 have HSZ := hid hsz
 clear hc hs hsz
 go_enter Tryz.func195, Tryz.ntmps195
 rw [hS]
 clear hS
 go_wp2_with fail
 go_loopw [4] (RdgRel c w) (fun i _ => 16 - (intOf i).toNat)
 case atStart => exact ⟨0, 0, rfl, by decide, fun m h => by omega, rfl⟩
 case round =>
  obtain ⟨j, nq, rfl, hj, hn, hw⟩ := hrel
  have HN := hid hn
  have HW : Hid (∀ m, wr.drewN m = w.drewN (nq + m)) := hid (fun m => by rw [hw, World.drewN_drewN])
  have HW0 := hid hw
  clear hn hw
  by_cases hlt : j < 16
  · have hjs : j < S.size := by rw [HSZ.out]; exact hlt
    have hb := HB.out j hjs
    have t1 : decide (j < S.size) = true := dcT hjs
    by_cases he : (S[j]'hjs).toNat = s
    · have t2 : (((S[j]'hjs).toNat : Int) == (s : Int)) = true := beq_iff_eq.2 (by omega)
      have t3 : ((S[j]'hjs).toNat == s) = true := beq_iff_eq.2 he
      have HD : Hid (digV c = j) := hid (dig_hit ⟨c, HC.out⟩ ⟨j, hlt⟩ (by show hexL[j]? = some (smallN c); rw [hb, he, HSS.out]))
      clear hb he
      go_wp2
      go_quiet ((go_at_call 155; exact quiet_eq (HS.out _)))
      go_wp2
      go_ret
      exact ⟨by rw [HD.out]; rfl, _, HW.out _⟩
    · have t2 : (((S[j]'hjs).toNat : Int) == (s : Int)) = false := bneI.2 (by omega)
      have t3 : ((S[j]'hjs).toNat == s) = false := bneI.2 he
      have R : ∀ n, RdgRel c w (.int .i64 (j + 1)) (wr.drewN n) := fun n => ⟨j + 1, nq + n, by go_num, by omega, fun m hm => by
       by_cases e : m = j
       · subst e; rw [hb]; intro h; exact he (by rw [← HSS.out]; exact Option.some.inj h)
       · exact HN.out m (by omega), HW.out n⟩
      have HR := hid R
      clear hb he R
      go_wp2
      go_quiet ((go_at_call 155; exact quiet_eq (HS.out _)))
      go_wp2
      refine ⟨?_, by simp [intOf] <;> omega⟩
      have R := HR.out
      first | exact R _ | ((repeat apply Exists.intro); exact ⟨R _, rfl⟩)
  · have hjs : ¬ j < S.size := by rw [HSZ.out]; exact hlt
    have t1 : decide (j < S.size) = false := dcF hjs
    have HD : Hid (digV c = 99) := hid (dig_none ⟨c, HC.out⟩ (fun m => HN.out m.val (by omega)))
    go_wp2
    go_ret
    exact ⟨by rw [HD.out]; rfl, nq, HW0.out⟩
end Go.Proofs.YtbeodjipdpcaiaaGreatDoor
namespace Go.Proofs.YtbeodjipdpcaiaaGreatDoor
open Go.RowKit
def RqtRel (n : Nat) (w : World) (ov iv : Value) (wr : World) : Prop := ∃ j : Nat, iv = .int .i64 j ∧ j ≤ 4 ∧ ov = .string (bytesL (joinN 46 ((quadP n).take j))) ∧ Below w.heap.size w wr
theorem rtext11_any (n : Nat) (w : World) : Calls Tryz.prog 69 #[.agg (v4C n)] w fun e w' => e = .returned (.string (bytesL (quadL n))) ∧ Below w.heap.size w w' := by
 obtain ⟨T, hT⟩ : ∃ T, bytesL (quadL n) = T := ⟨_, rfl⟩
 rw [hT]
 have HT : Hid (bytesL (joinN 46 (quadP n)) = T) := hid hT
 clear hT
 obtain ⟨W1, hW1⟩ : ∃ W, w.alloc (.cells #[.int .u8 (octQ n 0 : Nat), .int .u8 (octQ n 1 : Nat), .int .u8 (octQ n 2 : Nat), .int .u8 (octQ n 3 : Nat)] 79) = W := ⟨_, rfl⟩
 have hb1 : Below w.heap.size w W1 := by rw [← hW1]; exact ext_alloc (Below.refl _ _) _
 have hx1 : W1.heap[w.heap.size]? = some (.cells (v4C n) 79 (0, 0)) := by rw [← hW1]; exact heap_alloc_new w _
 have HB1 := hid hb1
 have HCE : Hid (∀ W, Below W1.heap.size W1 W → ∀ j, j < 4 → W.cell? ⟨w.heap.size, j, none⟩ = some (.int .u8 (octQ n j : Nat))) := hid (fun W h j hj => by
  have hx := (h.block _ (heap_lt hx1)).trans hx1
  rw [Lib.cell_of_heap hx j]
  match j, hj with
  | 0, _ => rfl
  | 1, _ => rfl
  | 2, _ => rfl
  | 3, _ => rfl)
 clear hb1 hx1
 unfold v4C
 go_enter Tryz.func69, Tryz.ntmps69
 go_wp2_with fail
 clear hW1
 go_loopw [3, 4] (RqtRel n W1) (fun _ k _ => 4 - (intOf k).toNat)
 case atStart => exact ⟨0, rfl, Nat.zero_le _, rfl, Below.refl _ _⟩
 case round =>
  obtain ⟨j, rfl, hj, rfl, hb⟩ := hrel
  have HB := hid hb
  clear hb
  have hJ : (joinN 46 ((quadP n).take j)).length ≤ 100 := by
   have := join_small 46 3 (ps := (quadP n).take j) (fun t ht => by
    obtain ⟨i, rfl⟩ := quadP_mem (List.mem_of_mem_take ht)
    exact (dec_oct n i).2.1)
   have h2 : ((quadP n).take j).length ≤ 4 := by rw [List.length_take]; omega
   omega
  by_cases hlt : j < 4
  · have t1 : decide ((j : Int) < 4) = true := dcT (by omega)
    have t1' : decide (j < 4) = true := dcT hlt
    have q1 := inc j (by omega)
    have c0 := HCE.out wr HB.out j hlt
    have hx := octQ_lt n j
    have WR := rwritten10_any (octQ n j) wr (by omega)
    have hD : decB (octQ n j) = bytesL (decN (octQ n j)) := (bytesL_bytesN _).symm
    have hDz : (decB (octQ n j)).size ≤ 3 := by have := (dec_oct n j).2.1; unfold decN at this; rw [bytesN_len] at this; exact this
    have hg := quadP_get n j hlt
    have htk : (quadP n).take (j + 1) = (quadP n).take j ++ [decN (octQ n j)] := by rw [List.take_add_one, hg]; rfl
    have hst : bytesL (joinN 46 ((quadP n).take (j + 1))) = if 0 < j then bytesL (joinN 46 ((quadP n).take j)) ++ ⟨#[46]⟩ ++ decB (octQ n j) else bytesL (joinN 46 ((quadP n).take j)) ++ decB (octQ n j) := by
     rw [htk]
     by_cases hj0 : 0 < j
     · have hne : (quadP n).take j ≠ [] := fun e => by
         have := congrArg List.length e
         rw [List.length_take] at this
         simp [quadP] at this; omega
       rw [if_pos hj0, joinN_snoc 46 _ _ hne, bytesL_append, bytesL_append, hD]; rfl
     · obtain rfl : j = 0 := by omega
       rw [if_neg hj0, List.take_zero, List.nil_append, joinN, joinN, hD, ← bytesL_append, List.nil_append]
    obtain ⟨O, hO⟩ : ∃ O, bytesL (joinN 46 ((quadP n).take j)) = O := ⟨_, rfl⟩
    have hOz : O.size ≤ 100 := by rw [← hO, bytesL_size]; exact hJ
    obtain ⟨x, hxx⟩ : ∃ x, octQ n j = x := ⟨_, rfl⟩
    rw [hxx] at c0 hx WR hDz hst
    obtain ⟨D, hDD⟩ : ∃ D, decB x = D := ⟨_, rfl⟩
    rw [hDD] at WR hDz hst
    rw [hO] at hst ⊢
    have HRL : Hid (∀ S, bytesL (joinN 46 ((quadP n).take (j + 1))) = S → ∀ W, Below W1.heap.size W1 W → RqtRel n W1 (.string S) (.int .i64 ((j : Int) + 1)) W) := hid (fun S hS W h => ⟨j + 1, by go_num, hlt, by rw [hS], h⟩)
    have WR := hid WR
    have HLT := hid hlt
    clear hJ hD hg htk hO hxx hDD
    by_cases hj0 : 0 < j
    · have t2 : decide ((0 : Int) < (j : Int)) = true := dcT (by omega)
      have t2' : decide (0 < j) = true := dcT hj0
      rw [if_pos hj0] at hst
      have HR1 := hid (HRL.out _ hst)
      clear HRL hst hj0
      go_wp2_with fail
      refine WR.out.mono ?_
      rintro e w2 ⟨rfl, hb2⟩
      have HR2 := hid (HR1.out _ (xT HB.out hb2))
      clear hb2
      go_wp2
      refine ⟨?_, by have := HLT.out; simp [intOf]; omega⟩
      first | exact HR2.out | ((repeat apply Exists.intro); exact ⟨HR2.out, rfl⟩)
    · have t2 : decide ((0 : Int) < (j : Int)) = false := dcF (by omega)
      have t2' : decide (0 < j) = false := dcF hj0
      rw [if_neg hj0] at hst
      have HR1 := hid (HRL.out _ hst)
      clear HRL hst hj0
      go_wp2_with fail
      refine WR.out.mono ?_
      rintro e w2 ⟨rfl, hb2⟩
      have HR2 := hid (HR1.out _ (xT HB.out hb2))
      clear hb2
      go_wp2
      refine ⟨?_, by have := HLT.out; simp [intOf]; omega⟩
      first | exact HR2.out | ((repeat apply Exists.intro); exact ⟨HR2.out, rfl⟩)
  · have t1 : decide ((j : Int) < 4) = false := dcF (by omega)
    have t1' : decide (j < 4) = false := dcF hlt
    obtain rfl : j = 4 := by omega
    have he : (quadP n).take 4 = quadP n := List.take_of_length_le (by simp [quadP])
    rw [he, HT.out]
    clear he hJ hlt
    go_wp2
    go_ret
    exact ⟨rfl, xT HB1.out HB.out⟩
end Go.Proofs.YtbeodjipdpcaiaaGreatDoor
namespace Go.Proofs.YtbeodjipdpcaiaaGreatDoor
open Go.RowKit
theorem rbase_any (s : ByteArray) (w : World) : Calls Tryz.prog 136 #[.string s] w fun e w' => e = .returned (.tuple #[.int .u64 ((baseL (bytesN s)).1 : Nat), .int .i64 ((baseL (bytesN s)).2 : Nat)]) ∧ w' = w := by
 have HX := hid (rhexed_any s w)
 obtain ⟨r, hr⟩ : ∃ r, baseL (bytesN s) = r := ⟨_, rfl⟩
 rw [hr]
 have gt : ∀ i, i < s.size → (bytesN s)[i]?.getD 0 = byteAt s i := fun i hi => by rw [bytesN_get hi]; rfl
 unfold baseL at hr
 rw [bytesN_len] at hr
 cases hh : hexedL (bytesN s) with
 | true =>
   rw [hh] at HX hr
   obtain rfl : r = (16, 2) := hr.symm
   clear hr gt hh
   go_enter Tryz.func136, Tryz.ntmps136
   go_wp2_with fail
   refine HX.out.mono ?_
   rintro e w1 ⟨rfl, hw⟩
   have hw' := hw.symm
   subst hw'
   clear hw
   go_wp2
   go_ret2
   exact ⟨rfl, rfl⟩
 | false =>
   rw [hh] at HX hr
   rw [if_neg (by decide)] at hr
   by_cases h1 : 1 < s.size
   · have t1 : decide ((1 : Int) < (s.size : Int)) = true := dcT (by omega)
     have u0 : 0 < s.size := by omega
     have g0 := (byteAt_get s 0 u0).symm
     rw [gt 0 u0] at hr
     obtain ⟨x0, hx0⟩ : ∃ x, byteAt s 0 = x := ⟨_, rfl⟩
     rw [hx0] at g0 hr
     clear hx0 gt hh
     by_cases h48 : x0 = 48
     · subst h48
       rw [if_pos ⟨h1, rfl⟩] at hr
       obtain rfl : r = (8, 1) := hr.symm
       clear hr
       go_enter Tryz.func136, Tryz.ntmps136
       go_wp2_with fail
       refine HX.out.mono ?_
       rintro e w1 ⟨rfl, hw⟩
       have hw' := hw.symm
       subst hw'
       clear hw
       go_wp2
       go_ret2
       exact ⟨rfl, rfl⟩
     · have t2 : ((x0 : Int) == 48) = false := by simp; omega
       have t2' : (x0 = 48) = False := by simp [h48]
       rw [if_neg (fun h => h48 h.2)] at hr
       obtain rfl : r = (10, 0) := hr.symm
       clear hr h48
       go_enter Tryz.func136, Tryz.ntmps136
       go_wp2_with fail
       refine HX.out.mono ?_
       rintro e w1 ⟨rfl, hw⟩
       have hw' := hw.symm
       subst hw'
       clear hw
       go_wp2
       go_ret2
       exact ⟨rfl, rfl⟩
   · have t1 : decide ((1 : Int) < (s.size : Int)) = false := dcF (by omega)
     rw [if_neg (fun h => h1 h.1)] at hr
     obtain rfl : r = (10, 0) := hr.symm
     clear hr h1 gt hh
     go_enter Tryz.func136, Tryz.ntmps136
     go_wp2_with fail
     refine HX.out.mono ?_
     rintro e w1 ⟨rfl, hw⟩
     have hw' := hw.symm
     subst hw'
     clear hw
     go_wp2
     go_ret2
     exact ⟨rfl, rfl⟩
end Go.Proofs.YtbeodjipdpcaiaaGreatDoor
namespace Go.Proofs.YtbeodjipdpcaiaaGreatDoor
open Go.RowKit
theorem came_nil (a : Int) (w : World) (hG : Glob w) : Calls Tryz.prog 24 #[.nilIface, .int .i64 0, .int .i64 a, .int .i64 0] w fun e w' => e = .returned (.bool true) ∧ Below w.heap.size w w' := by
 have KI := hid (kind_any .nilIface [] w hG (by simp only [errD]; exact .nilI))
 clear hG
 go_enter Tryz.func24, Tryz.ntmps24
 go_wp2_with fail
 refine KI.out.mono ?_
 rintro e w2 ⟨rfl, hb2⟩
 have HB := hid hb2
 clear hb2
 unfold kindI
 go_wp2
 go_ret
 exact ⟨rfl, HB.out⟩
theorem came_err (b off : Nat) (c : List (Int × Int)) (f : Int) (w : World) (hG : Glob w) (h : Er w (.iface 119 (.pointer (some ⟨b, off, none⟩))) c) (hf : f = 0 ∨ isKind c f = true) : Calls Tryz.prog 24 #[.iface 119 (.pointer (some ⟨b, off, none⟩)), .int .i64 (kindI c), .int .i64 (atI c), .int .i64 f] w fun e w' => e = .returned (.bool true) ∧ Below w.heap.size w w' := by
 have KI := hid (kind_any _ c w hG h)
 have AT := hid (fun W (hb : Below w.heap.size w W) => at_any _ c W (hG.ext hb) (h.ext hb))
 have HS := hid (fun W (hb : Below w.heap.size w W) => has_any _ f c W (h.ext hb))
 obtain ⟨k, hk⟩ : ∃ k, kindI c = k := ⟨_, rfl⟩
 obtain ⟨a, ha⟩ : ∃ k, atI c = k := ⟨_, rfl⟩
 rw [hk] at KI ⊢
 rw [ha] at AT ⊢
 have e1 : (k == k) = true := by simp
 have e2 : (a == a) = true := by simp
 clear hk ha h hG
 rcases hf with rfl | hf
 · clear HS
   go_enter Tryz.func24, Tryz.ntmps24
   go_wp2_with fail
   refine KI.out.mono ?_
   rintro e w2 ⟨rfl, hb2⟩
   have A2 := hid (AT.out w2 hb2)
   have HB := hid hb2
   clear hb2
   go_wp2_with fail
   refine A2.out.mono ?_
   rintro e w3 ⟨rfl, hb3⟩
   have HB3 := hid (xT HB.out hb3)
   clear hb3
   go_wp2
   go_ret
   exact ⟨rfl, HB3.out⟩
 · rw [hf] at HS
   clear hf
   by_cases h0 : f = 0
   · subst h0
     clear HS
     go_enter Tryz.func24, Tryz.ntmps24
     go_wp2_with fail
     refine KI.out.mono ?_
     rintro e w2 ⟨rfl, hb2⟩
     have A2 := hid (AT.out w2 hb2)
     have HB := hid hb2
     clear hb2
     go_wp2_with fail
     refine A2.out.mono ?_
     rintro e w3 ⟨rfl, hb3⟩
     have HB3 := hid (xT HB.out hb3)
     clear hb3
     go_wp2
     go_ret
     exact ⟨rfl, HB3.out⟩
   · have t0 : (f == 0) = false := bneI.2 h0
     have t0' : (f = 0) = False := eq_false h0
     clear h0
     go_enter Tryz.func24, Tryz.ntmps24
     go_wp2_with fail
     refine KI.out.mono ?_
     rintro e w2 ⟨rfl, hb2⟩
     have A2 := hid (AT.out w2 hb2)
     have HB := hid hb2
     clear hb2
     go_wp2_with fail
     refine A2.out.mono ?_
     rintro e w3 ⟨rfl, hb3⟩
     have hb13 := xT HB.out hb3
     have H3 := hid (HS.out w3 hb13)
     have HB3 := hid hb13
     clear hb3 hb13
     go_wp2_with fail
     refine H3.out.mono ?_
     rintro e w4 ⟨rfl, hw⟩
     have hw' := hw
     subst hw'
     clear hw
     go_wp2
     go_ret
     exact ⟨rfl, HB3.out⟩
end Go.Proofs.YtbeodjipdpcaiaaGreatDoor
namespace Go.Proofs.YtbeodjipdpcaiaaGreatDoor
open Go.RowKit
def BhRel (l : List Nat) (c : Nat) (k : Value) : Prop := ∃ j : Nat, k = .int .i64 j ∧ j ≤ l.length ∧ ∀ (m x : Nat), m < j → l[m]? = some x → x ≠ c
theorem bhas_any (s : ByteArray) (l : List Nat) (hl : s.data.toList.map (·.toNat) = l) (c : Nat) (hs : s.size ≤ 1000000) (w : World) :
    Calls Tryz.prog 137 #[.string s, .int .u8 c] w fun e w' => e = .returned (.bool (l.contains c)) ∧ w = w' := by
 have hsl : s.size = l.length := by rw [← hl]; simp
 have HL := hid hl; have HSL := hid hsl
 clear hl hsl
 go_enter Tryz.func137, Tryz.ntmps137
 go_wp2_with fail
 go_loop [5] (BhRel l c) (fun k => s.size - (intOf k).toNat)
 case atStart => exact ⟨0, rfl, Nat.zero_le _, fun m x h => by omega⟩
 case round =>
  obtain ⟨j, rfl, hj, hn⟩ := hrel
  by_cases hlt : j < l.length
  · have hjs : j < s.size := by rw [HSL.out]; exact hlt
    have hlj : l[j]? = some (s[j]'hjs).toNat := by
     have hjd : j < s.data.size := hjs
     rw [← HL.out, List.getElem?_map, Array.getElem?_toList, Array.getElem?_eq_getElem hjd]; rfl
    by_cases hb : (s[j]'hjs).toNat = c
    · have t2 : (((s[j]'hjs).toNat : Int) == (c : Int)) = true := beq_iff_eq.2 (by omega)
      have t3 : ((s[j]'hjs).toNat == c) = true := beq_iff_eq.2 hb
      have hc : l.contains c = true := by
       have := List.mem_of_getElem? hlj
       rw [hb] at this
       simpa using this
      have HC := hid hc
      clear hn hlj hb hc
      go_wp2
      go_ret
      refine ⟨?_, rfl⟩
      rw [← List.contains_eq_mem, HC.out]
      rfl
    · have t2 : (((s[j]'hjs).toNat : Int) == (c : Int)) = false := bneI.2 (by omega)
      have t3 : ((s[j]'hjs).toNat == c) = false := bneI.2 hb
      have R : BhRel l c (.int .i64 (j + 1)) := ⟨j + 1, by go_num, by omega, fun m x hm hx => by
       by_cases e : m = j
       · subst e; rw [hlj] at hx; cases hx; exact hb
       · exact hn m x (by omega) hx⟩
      have HR := hid R
      clear hn hlj hb R
      go_wp2
      refine ⟨?_, by simp [intOf] <;> omega⟩
      first | exact HR.out | ((repeat apply Exists.intro); exact ⟨HR.out, rfl⟩)
  · have hjs : ¬ j < s.size := by rw [HSL.out]; exact hlt
    have hc : l.contains c = false := by
     cases h : l.contains c with
     | false => rfl
     | true =>
       obtain ⟨m, hm⟩ := List.getElem?_of_mem (by simpa using h : c ∈ l)
       exact absurd rfl (hn m c (by have := (List.getElem?_eq_some_iff.1 hm).1; omega) hm)
    have HC := hid hc
    clear hn hc
    go_wp2
    go_ret
    refine ⟨?_, rfl⟩
    rw [← List.contains_eq_mem, HC.out]
    rfl
def RalRel (s : ByteArray) (l : List Nat) (w : World) (iv : Value) (wr : World) : Prop := ∃ j : Nat, iv = .int .i64 j ∧ j ≤ s.size ∧ (∀ i, i < j → l.contains (byteAt s i) = true) ∧ wr = w
theorem rall_any (s S : ByteArray) (l : List Nat) (hl : S.data.toList.map (·.toNat) = l) (w : World) (hs : s.size ≤ 1000000) (hS : S.size ≤ 1000000) : Calls Tryz.prog 135 #[.string s, .string S] w fun e w' => e = .returned (.bool ((bytesN s).all fun c => l.contains c)) ∧ w' = w := by
 obtain ⟨r, hr⟩ : ∃ r, ((bytesN s).all fun c => l.contains c) = r := ⟨_, rfl⟩
 rw [hr]
 have HR := hid hr
 have HH := hid (fun c W => bhas_any S l hl c hS W)
 clear hr
 go_enter Tryz.func135, Tryz.ntmps135
 go_wp2_with fail
 go_loopw [5] (RalRel s l w) (fun k _ => s.size - (intOf k).toNat)
 case atStart => exact ⟨0, rfl, Nat.zero_le _, fun i hi => by omega, rfl⟩
 case round =>
  obtain ⟨j, rfl, hj, hok, hwr⟩ := hrel
  subst hwr
  have HOK := hid hok
  clear hok
  by_cases hlt : j < s.size
  · obtain ⟨t1, t1'⟩ := ltT j s.size hlt
    have q1 := inc j (by omega)
    have hgb := byteAt_get s j hlt
    obtain ⟨x, hx⟩ : ∃ x, byteAt s j = x := ⟨_, rfl⟩
    rw [hx] at hgb
    have hgx := hgb.symm
    have HXX := hid hx
    have HC := HH.out x wr
    clear hx hgb
    cases hc : l.contains x with
    | true =>
      rw [hc] at HC
      have HC := hid HC
      have HRL : Hid (RalRel s l wr (.int .i64 ((j : Int) + 1)) wr) := hid ⟨j + 1, by go_num, hlt, fun i hi => by
       by_cases e : i = j
       · subst e; rw [HXX.out]; exact hc
       · exact HOK.out i (by omega), rfl⟩
      clear hc
      go_wp2_with fail
      refine HC.out.mono ?_
      rintro e w3 ⟨rfl, rfl⟩
      go_wp2
      refine ⟨?_, by simp [intOf] <;> omega⟩
      first | exact HRL.out | ((repeat apply Exists.intro); exact ⟨HRL.out, rfl⟩)
    | false =>
      rw [hc] at HC
      have HC := hid HC
      have hrf : r = false := by
       rw [← HR.out, List.all_eq_false]
       exact ⟨x, List.mem_of_getElem? (i := j) (by rw [bytesN_get hlt, HXX.out]), by rw [hc]; decide⟩
      subst hrf
      clear hc
      go_wp2_with fail
      refine HC.out.mono ?_
      rintro e w3 ⟨rfl, rfl⟩
      go_wp2
      go_ret
      exact ⟨rfl, rfl⟩
  · obtain ⟨t1, t1'⟩ := ltF j s.size hlt
    have hrt : r = true := by
     rw [← HR.out, List.all_eq_true]
     intro c hc
     obtain ⟨i, hi, rfl⟩ := List.mem_iff_getElem.1 hc
     rw [bytesN_len] at hi
     have := HOK.out i (by omega)
     have e : (bytesN s)[i]'(by rw [bytesN_len]; exact hi) = byteAt s i := by
      have h2 := bytesN_get hi
      rw [List.getElem?_eq_getElem (by rw [bytesN_len]; exact hi)] at h2
      exact Option.some.inj h2
     rw [e]; exact this
    subst hrt
    clear hlt
    go_wp2
    go_ret
    exact ⟨rfl, rfl⟩
end Go.Proofs.YtbeodjipdpcaiaaGreatDoor
