/- Texts put together. -/
import Derived.Test.YtbeodjipdpcaiaaGreatDoorYLbw8s
import Derived.Test.YtbeodjipdpcaiaaGreatDoorYDec0s
import Derived.Test.YtbeodjipdpcaiaaGreatDoorYPct1s
set_option maxRecDepth 100000
set_option maxHeartbeats 4000000
namespace Go.Proofs.YtbeodjipdpcaiaaGreatDoor
section
open Go.RowKit
theorem qcut_any (s : ByteArray) (w : World) (hs : s.size ≤ 1000000) : Calls Tryz.prog 105 #[.string s] w fun e w' => e = .returned (.string (bytesL (trimL (bytesN s)))) ∧ w' = w := by
 by_cases h1 : 1 < s.size
 · have u1 : decide ((1 : Int) < (s.size : Int)) = true := dcT (by omega)
   have u1' : decide (1 < s.size) = true := dcT h1
   have TK := hid (fun W => trim_k s h1 hs W)
   obtain ⟨T, hT⟩ : ∃ T, bytesL (trimL (bytesN s)) = T := ⟨_, rfl⟩
   rw [hT] at TK ⊢
   clear h1 hT hs
   go_enter Tryz.func105, Tryz.ntmps105
   go_wp2_with fail
   refine (TK.out _).mono ?_
   rintro e w0 ⟨rfl, hw0⟩
   have hw0' := hw0.symm
   subst hw0'
   clear hw0
   go_wp2
   go_ret
   exact ⟨rfl, rfl⟩
 · have u1 : decide ((1 : Int) < (s.size : Int)) = false := dcF (by omega)
   have u1' : decide (1 < s.size) = false := dcF h1
   rw [trimL_short h1]
   clear h1 hs
   go_enter Tryz.func105, Tryz.ntmps105
   go_wp2
   go_ret
   exact ⟨rfl, rfl⟩
theorem or_x : ∀ c : Fin 256, ((bits .or .u8 (c.val : Int) 32) == 120) = decide (c.val = 120 ∨ c.val = 88) := by decide +kernel
theorem hexedL_eq (s : ByteArray) : hexedL (bytesN s) = decide (1 < s.size ∧ byteAt s 0 = 48 ∧ (byteAt s 1 = 120 ∨ byteAt s 1 = 88)) := by
 unfold hexedL
 rw [bytesN_len, ← byteAt_bytesN, ← byteAt_bytesN]
def hexedR (b : List Nat) : ByteArray := if hexedL b = true then bytesL (b.drop 2) else ⟨#[]⟩
theorem hexed_any (s : ByteArray) (w : World) (hs : s.size ≤ 1000000) : Calls Tryz.prog 107 #[.string s] w fun e w' => e = .returned (.tuple #[.string (hexedR (bytesN s)), .bool (hexedL (bytesN s))]) ∧ w' = w := by
 have hno : hexedL (bytesN s) = false → hexedR (bytesN s) = ⟨#[]⟩ := fun h => by unfold hexedR; rw [if_neg (by rw [h]; decide)]
 have heq := hexedL_eq s
 by_cases h1 : 1 < s.size
 · have u1 : decide ((1 : Int) < (s.size : Int)) = true := dcT (by omega)
   have u1' : decide (1 < s.size) = true := dcT h1
   have h0 : 0 < s.size := Nat.lt_of_succ_lt h1
   have u0' : decide (0 < s.size) = true := dcT h0
   have hg0 : (s[0]'h0).toNat = byteAt s 0 := (byteAt_get s 0 h0).symm
   have hg1 : (s[1]'h1).toNat = byteAt s 1 := (byteAt_get s 1 h1).symm
   have hx1 := byteAt_lt s 1
   have hsl : s.extract 2 s.size = bytesL ((bytesN s).drop 2) := by
    rw [extract_bytesL, List.take_of_length_le (by rw [List.length_drop, bytesN_len]; exact Nat.le_refl _)]
   have sl : ∀ W, (Instr.slice 9 (.string s) (some (.int .i64 2)) none none).run Tryz.prog W = .ok (.string (bytesL ((bytesN s).drop 2))) W := fun W => sl_from s 2 h1 _ hsl W
   obtain ⟨x0, hx0⟩ : ∃ x, byteAt s 0 = x := ⟨_, rfl⟩
   obtain ⟨x1, hxx1⟩ : ∃ x, byteAt s 1 = x := ⟨_, rfl⟩
   rw [hx0] at hg0 heq
   rw [hxx1] at hg1 heq hx1
   have ho := or_x ⟨x1, hx1⟩
   by_cases h48 : x0 = 48
   · have t2 : ((x0 : Int) == 48) = true := by rw [h48]; rfl
     by_cases h120 : x1 = 120 ∨ x1 = 88
     · rw [dcT h120] at ho
       have hoo : (bits .or .u8 (x1 : Int) 32 == 120) = true := ho
       clear ho
       have hh : hexedL (bytesN s) = true := by rw [heq, dcT ⟨h1, h48, h120⟩]
       have hr : hexedR (bytesN s) = bytesL ((bytesN s).drop 2) := by unfold hexedR; rw [if_pos hh]
       rw [hh, hr]
       obtain ⟨R, hR⟩ : ∃ R, bytesL ((bytesN s).drop 2) = R := ⟨_, rfl⟩
       rw [hR] at sl ⊢
       clear hh hr hR heq hno h48 h120 hx0 hxx1 hx1 hsl hs
       go_enter Tryz.func107, Tryz.ntmps107
       go_wp2
       go_ret2
       exact ⟨rfl, rfl⟩
     · rw [dcF h120] at ho
       have hoo : (bits .or .u8 (x1 : Int) 32 == 120) = false := ho
       clear ho
       have hh : hexedL (bytesN s) = false := by rw [heq, dcF (fun h => h120 h.2.2)]
       rw [hno hh, hh]
       clear hh heq hno h48 h120 hx0 hxx1 hx1 hsl hs sl
       go_enter Tryz.func107, Tryz.ntmps107
       go_wp2
       go_ret2
       exact ⟨rfl, rfl⟩
   · have t2 : ((x0 : Int) == 48) = false := bneI.2 (by omega)
     have hh : hexedL (bytesN s) = false := by rw [heq, dcF (fun h => h48 h.2.1)]
     rw [hno hh, hh]
     clear ho
     clear hh heq hno h48 hx0 hxx1 hx1 hsl hs sl
     go_enter Tryz.func107, Tryz.ntmps107
     go_wp2
     go_ret2
     exact ⟨rfl, rfl⟩
 · have u1 : decide ((1 : Int) < (s.size : Int)) = false := dcF (by omega)
   have u1' : decide (1 < s.size) = false := dcF h1
   have hh : hexedL (bytesN s) = false := by rw [heq, dcF (fun h => h1 h.1)]
   rw [hno hh, hh]
   clear hh heq hno h1 hs
   go_enter Tryz.func107, Tryz.ntmps107
   go_wp2
   go_ret2
   exact ⟨rfl, rfl⟩
end
section
open Go.RowKit
theorem lastIdx_at {s : ByteArray} {k : Nat} (hk : k < s.size) : ((s.data[k]!).toNat : Int) = (byteAt s k : Int) := by
 have h' : k < s.data.size := hk
 unfold byteAt; rw [Array.getElem?_eq_getElem h', getElem!_pos s.data k h']; rfl
theorem lastP_ix (s : ByteArray) : ∃ k : Nat, Go.Lib.lastIndexByte s 46 + 1 = k ∧ k ≤ s.size ∧ lastP (bytesN s) = (bytesN s).drop k := by
 unfold Go.Lib.lastIndexByte
 rcases Go.Lib.lastIdx_spec s 46 s.size with ⟨h1, h2⟩ | ⟨i, hi, h1, h2, h3⟩
 · refine ⟨0, by rw [h1]; rfl, Nat.zero_le _, ?_⟩
   unfold lastP
   rw [splitN_none (fun c hc e => by
    obtain ⟨j, hj, rfl⟩ := List.getElem_of_mem hc
    rw [bytesN_len] at hj
    have hg := bytesN_get hj
    rw [List.getElem?_eq_getElem (by rw [bytesN_len]; exact hj)] at hg
    rw [Option.some.inj hg] at e
    refine h2 j hj ?_
    rw [lastIdx_at hj, e]; rfl)]
   rfl
 · refine ⟨i + 1, by rw [h1]; rfl, hi, ?_⟩
   have hd := bytesN_drop hi
   have hb : byteAt s i = 46 := by rw [lastIdx_at hi] at h2; omega
   have e0 : bytesN s = (bytesN s).take i ++ 46 :: (bytesN s).drop (i + 1) := by
    conv => lhs; rw [← List.take_append_drop i (bytesN s)]
    rw [hd, hb]
   unfold lastP
   conv => lhs; rw [e0]
   rw [splitN_append, splitN_none (l := (bytesN s).drop (i + 1)) (fun c hc e => by
    obtain ⟨j, hj, rfl⟩ := List.getElem_of_mem hc
    rw [List.length_drop, bytesN_len] at hj
    rw [List.getElem_drop] at e
    have hg := bytesN_get (show i + 1 + j < s.size by omega)
    rw [List.getElem?_eq_getElem (by rw [bytesN_len]; omega)] at hg
    rw [Option.some.inj hg] at e
    refine h3 (i + 1 + j) (by omega) (by omega) ?_
    rw [lastIdx_at (by omega), e]; rfl)]
   simp
def hexC : ByteArray := ⟨#[48, 49, 50, 51, 52, 53, 54, 55, 56, 57, 97, 98, 99, 100, 101, 102, 65, 66, 67, 68, 69, 70]⟩
def octC : ByteArray := ⟨#[48, 49, 50, 51, 52, 53, 54, 55]⟩
def decC : ByteArray := ⟨#[48, 49, 50, 51, 52, 53, 54, 55, 56, 57]⟩
theorem hexC_tab : ∀ c : Fin 256, (bytesN hexC).contains c.val = hexD c.val := by decide +kernel
theorem decC_tab : ∀ c : Fin 256, (bytesN decC).contains c.val = decD c.val := by decide +kernel
theorem numeric_any (s : ByteArray) (w : World) (hs : s.size ≤ 1000000) : Calls Tryz.prog 50 #[.string s] w fun e w' => e = .returned (.bool (numericL (bytesN s))) ∧ Below w.heap.size w w' := by
 have CT := qcut_any s w hs
 have hbT := trimL_byte (bytesN_lt s)
 have hbN := bytesN_bytesL hbT
 have hz : (bytesL (trimL (bytesN s))).size ≤ 1000000 := by
  have := trimL_len (bytesN s)
  rw [bytesL_size]; rw [bytesN_len] at this; omega
 unfold numericL
 obtain ⟨T, hT⟩ : ∃ T, bytesL (trimL (bytesN s)) = T := ⟨_, rfl⟩
 rw [hT] at CT hz hbN
 rw [← hbN] at hbT ⊢
 obtain ⟨k, hk, hkz, hlp⟩ := lastP_ix T
 have LI := hid (fun W => Tryz.strings_LastIndexByte T 46 (by omega) W)
 obtain ⟨li, hli⟩ : ∃ li, Go.Lib.lastIndexByte T 46 = li := ⟨_, rfl⟩
 rw [hli] at LI hk
 have q1 : IntKind.i64.wrap (li + 1) = (k : Int) := by rw [hk]; exact i64n _ (by omega)
 have hsl : T.extract k T.size = bytesL ((bytesN T).drop k) := by
  rw [extract_bytesL, List.take_of_length_le (by rw [List.length_drop, bytesN_len]; exact Nat.le_refl _)]
 have sl := sl_from T k hkz _ hsl
 have hbp : ByteL (lastP (bytesN T)) := by rw [hlp]; exact hbT.drop _
 rw [← hlp] at sl
 obtain ⟨p, hp⟩ : ∃ p, lastP (bytesN T) = p := ⟨_, rfl⟩
 rw [hp] at sl hbp ⊢
 have hpl : p.length ≤ 1000000 := by rw [← hp, hlp, List.length_drop, bytesN_len]; omega
 have hpn := bytesN_bytesL hbp
 have HX := fun W => hexed_any (bytesL p) W (by rw [bytesL_size]; exact hpl)
 rw [hpn] at HX
 obtain ⟨P, hP⟩ : ∃ P, bytesL p = P := ⟨_, rfl⟩
 rw [hP] at sl HX hpn
 have CT := hid CT
 have HPN := hid hpn
 have hPz : P.size ≤ 1000000 := by rw [← hP, bytesL_size]; exact hpl
 cases hh : hexedL p with
 | true =>
   have hr : hexedR p = bytesL (p.drop 2) := by unfold hexedR; rw [if_pos hh]
   have hn : numericP p = (p.drop 2).all hexD := by unfold numericP; rw [if_pos hh]
   have hrn := bytesN_bytesL (hbp.drop 2)
   have AL := allOf_any (bytesL (p.drop 2)) hexC hexD (fun c hc => hexC_tab ⟨c, hc⟩)
   rw [hrn] at AL
   have hrz : (bytesL (p.drop 2)).size ≤ 1000000 := by rw [bytesL_size, List.length_drop]; omega
   rw [hh, hr] at HX
   rw [hn]
   obtain ⟨R, hR⟩ : ∃ R, bytesL (p.drop 2) = R := ⟨_, rfl⟩
   obtain ⟨tb, htb⟩ : ∃ tb, (p.drop 2).all hexD = tb := ⟨_, rfl⟩
   rw [hR] at HX AL hrz
   rw [htb] at AL ⊢
   have HX := hid HX
   have AL := hid (fun W => AL W hrz)
   clear hr hn hrn hrz hR htb hh hpn hPz hP hpl hp hbp hlp hsl hkz hk hli hT hbT hbN hz hs
   go_enter Tryz.func50, Tryz.ntmps50
   go_wp2_with fail
   refine CT.out.mono ?_
   rintro e w1 ⟨rfl, hw1⟩
   have hw1' := hw1.symm
   subst hw1'
   clear hw1
   go_wp2_with fail
   refine (LI.out _).mono ?_
   rintro e w2 ⟨rfl, hw2⟩
   have hw2' := hw2.symm
   subst hw2'
   clear hw2
   go_wp2_with fail
   refine (HX.out _).mono ?_
   rintro e w3 ⟨rfl, hw3⟩
   have hw3' := hw3.symm
   subst hw3'
   clear hw3
   go_wp2_with fail
   refine (AL.out _).mono ?_
   rintro e w4 ⟨rfl, hb4⟩
   have HB := hid hb4
   clear hb4
   go_wp2
   go_ret
   exact ⟨rfl, HB.out⟩
 | false =>
   have hn : numericP p = (decide (p ≠ []) && p.all decD) := by unfold numericP; rw [if_neg (by rw [hh]; decide)]
   have AL := allOf_any P decC decD (fun c hc => decC_tab ⟨c, hc⟩)
   rw [hpn] at AL
   rw [hh] at HX
   rw [hn]
   obtain ⟨R, hR⟩ : ∃ R, hexedR p = R := ⟨_, rfl⟩
   obtain ⟨tb, htb⟩ : ∃ tb, p.all decD = tb := ⟨_, rfl⟩
   rw [hR] at HX
   rw [htb] at AL ⊢
   have HX := hid HX
   have AL := hid (fun W => AL W hPz)
   by_cases hp0 : p = []
   · have hP0 : P = ⟨#[]⟩ := by rw [← hP, hp0]; rfl
     have t1 : (P.toList != []) = false := by rw [hP0]; rw [show (⟨#[]⟩ : ByteArray).toList = [] by rw [ByteArray.toList_eq]]; rfl
     have t1' : (P.toList == []) = true := by rw [hP0]; rw [show (⟨#[]⟩ : ByteArray).toList = [] by rw [ByteArray.toList_eq]]; rfl
     rw [dcF (fun h => h hp0), Bool.false_and]
     clear hn hR htb hh hpn hPz hP hpl hp hbp hlp hsl hkz hk hli hT hbT hbN hz hs hP0 hp0
     go_enter Tryz.func50, Tryz.ntmps50
     go_wp2_with fail
     refine CT.out.mono ?_
     rintro e w1 ⟨rfl, hw1⟩
     have hw1' := hw1.symm
     subst hw1'
     clear hw1
     go_wp2_with fail
     refine (LI.out _).mono ?_
     rintro e w2 ⟨rfl, hw2⟩
     have hw2' := hw2.symm
     subst hw2'
     clear hw2
     go_wp2_with fail
     refine (HX.out _).mono ?_
     rintro e w3 ⟨rfl, hw3⟩
     have hw3' := hw3.symm
     subst hw3'
     clear hw3
     go_wp2
     go_ret
     exact ⟨rfl, Below.refl _ _⟩
   · have hP0 : P ≠ ⟨#[]⟩ := fun e => hp0 (by rw [← hpn, e]; rfl)
     have t1' : (P.toList == []) = false := by
      have h := beqS_f hP0
      rw [show (⟨#[]⟩ : ByteArray).toList = [] by rw [ByteArray.toList_eq]] at h
      exact h
     have t1 : (P.toList != []) = true := by unfold bne; rw [t1']; rfl
     rw [dcT hp0, Bool.true_and]
     clear hn hR htb hh hpn hPz hP hpl hp hbp hlp hsl hkz hk hli hT hbT hbN hz hs hP0 hp0
     go_enter Tryz.func50, Tryz.ntmps50
     go_wp2_with fail
     refine CT.out.mono ?_
     rintro e w1 ⟨rfl, hw1⟩
     have hw1' := hw1.symm
     subst hw1'
     clear hw1
     go_wp2_with fail
     refine (LI.out _).mono ?_
     rintro e w2 ⟨rfl, hw2⟩
     have hw2' := hw2.symm
     subst hw2'
     clear hw2
     go_wp2_with fail
     refine (HX.out _).mono ?_
     rintro e w3 ⟨rfl, hw3⟩
     have hw3' := hw3.symm
     subst hw3'
     clear hw3
     go_wp2_with fail
     refine (AL.out _).mono ?_
     rintro e w4 ⟨rfl, hb4⟩
     have HB := hid hb4
     clear hb4
     go_wp2
     go_ret
     exact ⟨rfl, HB.out⟩
end
end Go.Proofs.YtbeodjipdpcaiaaGreatDoor
