/- Texts put together. -/
import Derived.Test.YtbeodjipdpcaiaaGreatDoorYCut0s
import Derived.Test.YtbeodjipdpcaiaaGreatDoorYDec0s
import Derived.Test.YtbeodjipdpcaiaaGreatDoorYPct1s
set_option maxRecDepth 100000
set_option maxHeartbeats 4000000
namespace Go.Proofs.YtbeodjipdpcaiaaGreatDoor
section
open Go.RowKit
def hostT (k : Int) (t : ByteArray) : ByteArray := if k = 3 then (⟨#[91]⟩ : ByteArray) ++ t ++ (⟨#[93]⟩ : ByteArray) else t
theorem hostT_bytes (k : Nat) (t : List Nat) : hostT k (bytesL t) = bytesL (textH k t) := by
 unfold hostT textH
 by_cases h : k = 3
 · subst h
   rw [if_pos (show ((3 : Nat) : Int) = 3 from rfl)]
   apply toList_inj
   rw [ByteArray.toList_eq, ByteArray.toList_eq]
   simp [bytesL, ByteArray.data_append]
 · rw [if_neg h, if_neg (by omega)]
theorem htextOf_any (k : Int) (t : ByteArray) (w : World) (ht : t.size ≤ 1000000) : Calls Tryz.prog 19 #[.agg #[.int .i64 k, .string t]] w fun e w' => e = .returned (.string (hostT k t)) ∧ Below w.heap.size w w' := by
 have HB := hid (ext_alloc (Below.refl w.heap.size w) (.cells #[.int .i64 k, .string t] 24))
 by_cases h : k = 3
 · have t1 : (k == 3) = true := by rw [h]; rfl
   obtain ⟨A, hA⟩ : ∃ A, (⟨#[91]⟩ : ByteArray) ++ t = A := ⟨_, rfl⟩
   obtain ⟨B, hB⟩ : ∃ B, A ++ (⟨#[93]⟩ : ByteArray) = B := ⟨_, rfl⟩
   have hAz : A.size ≤ 1000001 := by
    rw [← hA, ByteArray.size_append]
    have e1 : (⟨#[91]⟩ : ByteArray).size = 1 := rfl
    omega
   have hT : hostT k t = B := by unfold hostT; rw [if_pos h, hA, hB]
   rw [hT]
   clear h hT
   go_enter Tryz.func19, Tryz.ntmps19
   go_wp2
   go_ret
   exact ⟨rfl, HB.out⟩
 · have t1 : (k == 3) = false := bneI.2 h
   have hT : hostT k t = t := by unfold hostT; rw [if_neg h]
   rw [hT]
   clear h hT
   go_enter Tryz.func19, Tryz.ntmps19
   go_wp2
   go_ret
   exact ⟨rfl, HB.out⟩
theorem hwr_any (at_ : Int) (u : Value) (c : List (Int × Int)) (w : World) (h : Er w u c) : Calls Tryz.prog 47 #[.int .i64 at_, u] w fun e w' => ∃ b, e = .returned (.iface 119 (.pointer (some ⟨b, 0, none⟩))) ∧ Er w' (.iface 119 (.pointer (some ⟨b, 0, none⟩))) ((22, at_) :: c) ∧ Below w.heap.size w w' := by
 have WR := hid (wrap_any 22 at_ u c w h)
 have HF := hid (Rd.fault (k := 22) (a := at_) h)
 have HB := hid (ext_alloc (Below.refl w.heap.size w) (.cells #[.int .i64 22, .int .i64 at_, u] 123))
 have h2 : u = .nilIface ∨ ∃ v, u = .iface 119 v := by
  cases c with
  | nil => exact .inl (Er.of_nil h)
  | cons x r => obtain ⟨b, off, u2, e, _⟩ := fault_inv (k := x.1) (a := x.2) h; exact .inr ⟨_, e⟩
 clear h
 rcases h2 with rfl | ⟨v, rfl⟩
 · go_enter Tryz.func47, Tryz.ntmps47
   go_wp2_with fail
   refine WR.out.mono ?_
   rintro e w1 ⟨rfl, rfl⟩
   go_wp2
   go_ret
   exact ⟨_, rfl, HF.out, HB.out⟩
 · go_enter Tryz.func47, Tryz.ntmps47
   go_wp2_with fail
   refine WR.out.mono ?_
   rintro e w1 ⟨rfl, rfl⟩
   go_wp2
   go_ret
   exact ⟨_, rfl, HF.out, HB.out⟩
theorem hplace_any (u : Value) (k a : Int) (r : List (Int × Int)) (w : World) (hg : Glob w) (h : Er w u ((k, a) :: r)) : Calls Tryz.prog 48 #[u] w fun e w' => e = .returned (.int .i64 a) ∧ Below w.heap.size w w' := by
 obtain ⟨b, off, u2, rfl, hS, c0, c1, c2, h2⟩ := fault_inv h
 have A := hid (as_box ⟨b, off, none⟩ w hg)
 have hS' : b < w.heap.size := hS
 clear h hg hS h2
 go_enter Tryz.func48, Tryz.ntmps48
 go_wp2_with fail
 refine A.out.mono ?_
 rintro e w1 ⟨rfl, hc, hz, hb⟩
 rw [← bcell1 hb hS'] at c1
 have HB := hid hb; clear hb
 go_wp2
 go_ret
 exact ⟨rfl, HB.out⟩
theorem ho_info : (Tryz.prog.info? 24).map (·.size) = some 2 := by kernel_rfl
def hostC (k : Int) (t : ByteArray) : Array Value := #[.int .i64 k, .string t]
theorem ho_load (k : Int) (t : ByteArray) (b : Nat) (w : World) (h : w.heap[b]? = some (.cells (hostC k t) 24 (0, 0))) : (loadVar 24 ⟨b, 0, none⟩).run Tryz.prog w = .ok (.agg (hostC k t)) w :=
 run_loadVar_row _ _ 24 24 _ (0, 0) _ h Tryz.underlying24 rfl ho_info
theorem ho_store (k k2 : Int) (t t2 : ByteArray) (b : Nat) (w : World) (h : w.heap[b]? = some (.cells (hostC k2 t2) 24 (0, 0))) : (storeVar 24 ⟨b, 0, none⟩ (.agg (hostC k t))).run Tryz.prog w = .ok () (w.setRow b (hostC k t)) :=
 run_storeVar_row (P := Tryz.prog) w b 24 24 (hostC k2 t2) (hostC k t) h ho_info rfl (by
  rw [Array.all_eq_true_iff_forall_mem]
  intro v hv
  simp only [hostC, List.mem_toArray, List.mem_cons, List.not_mem_nil, or_false] at hv
  rcases hv with rfl | rfl <;> rfl)
def HcPost (w : World) (r : HR) (e : Ending) (w' : World) : Prop := Below w.heap.size w w' ∧ match r with
 | .ok k t => e = .returned (.tuple #[.agg #[.int .i64 k, .string (bytesL t)], .nilIface])
 | .er l => ∃ u, e = .returned (.tuple #[.agg #[.int .i64 0, .string ⟨#[]⟩], u]) ∧ Er w' u l
theorem suffix_one (m : UInt8) (i : List UInt8) (x : UInt8) : Go.Lib.hasSuffix (i ++ [x]) [m] = decide (x = m) := by
 unfold Go.Lib.hasSuffix List.isSuffixOf
 simp only [List.reverse_append, List.reverse_cons, List.reverse_nil, List.nil_append, List.singleton_append, List.isPrefixOf, Bool.and_true]
 by_cases h : x = m
 · subst h; simp
 · rw [dcF h]; exact bneI.2 (fun e => h e.symm)
theorem cut_bracket (s : ByteArray) : (lastN (bytesN s) = 93 ∧ Go.Lib.hasSuffix s.data.toList [93] = true ∧ (⟨(Go.Lib.trimSuffix s.data.toList [93]).toArray⟩ : ByteArray) = bytesL ((bytesN s).take ((bytesN s).length - 1))) ∨ (lastN (bytesN s) ≠ 93 ∧ Go.Lib.hasSuffix s.data.toList [93] = false) := by
 have e : bytesN s = s.data.toList.map (·.toNat) := rfl
 rw [e]
 generalize s.data.toList = l
 rcases List.eq_nil_or_concat l with rfl | ⟨i, x, rfl⟩
 · exact .inr ⟨by decide, rfl⟩
 · rw [List.concat_eq_append, suffix_one, List.map_append, List.map_cons, List.map_nil, lastN_snoc, list_bytesL]
   by_cases hx : x = 93
   · subst hx
     refine .inl ⟨rfl, rfl, ?_⟩
     unfold Go.Lib.trimSuffix
     rw [suffix_one, if_pos (by decide)]
     simp
   · exact .inr ⟨fun h => hx (UInt8.toNat.inj h), dcF hx⟩
end
section
open Go.RowKit
structure ResCell (w W1 : World) (Q : Ending → World → Prop) (r : HR) : Prop where
 no : ∀ (l : List (Int × Int)) W u, r = .er l → Below W1.heap.size W1 W → Er W u l → (storeVar 24 ⟨w.heap.size, 0, none⟩ (.agg #[.int .i64 0, .string ⟨#[]⟩])).run Tryz.prog W = .ok () W ∧ (loadVar 24 ⟨w.heap.size, 0, none⟩).run Tryz.prog W = .ok (.agg #[.int .i64 0, .string ⟨#[]⟩]) W ∧ Q (.returned (.tuple #[.agg #[.int .i64 0, .string ⟨#[]⟩], u])) W
 ok : ∀ (k : Nat) (t : List Nat) (T : ByteArray) W, r = .ok k t → bytesL t = T → Below W1.heap.size W1 W → (storeVar 24 ⟨w.heap.size, 0, none⟩ (.agg #[.int .i64 k, .string T])).run Tryz.prog W = .ok () (W.setRow w.heap.size #[.int .i64 k, .string T]) ∧ (loadVar 24 ⟨w.heap.size, 0, none⟩).run Tryz.prog (W.setRow w.heap.size #[.int .i64 k, .string T]) = .ok (.agg #[.int .i64 k, .string T]) (W.setRow w.heap.size #[.int .i64 k, .string T]) ∧ Q (.returned (.tuple #[.agg #[.int .i64 k, .string T], .nilIface])) (W.setRow w.heap.size #[.int .i64 k, .string T])
theorem resCell {w W1 : World} {Q : Ending → World → Prop} {r : HR} (hW1 : w.alloc (.cells #[.int .i64 0, .string ⟨#[]⟩] 24) = W1) (hQ : HcPost w r = Q) : ResCell w W1 Q r ∧ Below w.heap.size w W1 := by
 have hb1 : Below w.heap.size w W1 := by rw [← hW1]; exact ext_alloc (Below.refl _ _) _
 have hx1 : W1.heap[w.heap.size]? = some (.cells (hostC 0 ⟨#[]⟩) 24 (0, 0)) := by rw [← hW1]; exact heap_alloc_new w _
 have hX1 := heap_lt hx1
 refine ⟨⟨fun l W u hr hW hE => ?_, fun k t T W hr hT hW => ?_⟩, hb1⟩
 · have h0 : W.heap[w.heap.size]? = some (.cells (hostC 0 ⟨#[]⟩) 24 (0, 0)) := by rw [hW.block _ hX1]; exact hx1
   have hs := ho_store 0 0 ⟨#[]⟩ ⟨#[]⟩ _ W h0
   rw [row_same h0] at hs
   refine ⟨hs, ho_load 0 ⟨#[]⟩ _ W h0, ?_⟩
   rw [← hQ, hr]
   exact ⟨xT hb1 hW, u, rfl, hE⟩
 · have h0 : W.heap[w.heap.size]? = some (.cells (hostC 0 ⟨#[]⟩) 24 (0, 0)) := by rw [hW.block _ hX1]; exact hx1
   refine ⟨ho_store k 0 T ⟨#[]⟩ _ W h0, ho_load k T _ _ (setRow_heap h0), ?_⟩
   rw [← hQ, hr]
   exact ⟨setRow_below (xT hb1 hW) (Nat.le_refl _), by subst hT; rfl⟩
theorem fault_form {w : World} {u : Value} {c : List (Int × Int)} (h : Er w u c) (hc : c ≠ []) : ∃ b off, u = .iface 119 (.pointer (some ⟨b, off, none⟩)) := by
 cases c with
 | nil => exact absurd rfl hc
 | cons x r => obtain ⟨b, off, u2, e, _⟩ := fault_inv (k := x.1) (a := x.2) h; exact ⟨b, off, e⟩
theorem literal_open (s : ByteArray) (w : World) (hs : s.size ≤ 1000000) (h0 : 0 < s.size) (hl : lastN ((bytesN s).drop 1) ≠ 93) : Calls Tryz.prog 45 #[.string s] w (HcPost w (.er [(22, 0)])) := by
 obtain ⟨Q, hQ⟩ : ∃ Q, HcPost w (.er [(22, 0)]) = Q := ⟨_, rfl⟩
 rw [hQ]
 obtain ⟨W1, hW1⟩ : ∃ W, w.alloc (.cells #[.int .i64 0, .string ⟨#[]⟩] 24) = W := ⟨_, rfl⟩
 obtain ⟨rc, hb1⟩ := resCell hW1 hQ
 have RC := hid rc; have HB1 := hid hb1
 clear rc hb1 hQ
 have hsl : s.extract 1 s.size = bytesL ((bytesN s).drop 1) := extract_drop s 1
 have sl : ∀ W, (Instr.slice 9 (.string s) (some (.int .i64 1)) none none).run Tryz.prog W = .ok (.string (bytesL ((bytesN s).drop 1))) W := fun W => sl_from s 1 h0 _ hsl W
 have hbn := bytesN_bytesL ((bytesN_lt s).drop 1)
 obtain ⟨T, hT⟩ : ∃ T, bytesL ((bytesN s).drop 1) = T := ⟨_, rfl⟩
 rw [hT] at sl hbn
 have CS := fun W => Tryz.strings_CutSuffix T ⟨#[93]⟩ W (by have : T.size ≤ 1000000 := (by rw [← hT, bytesL_size, List.length_drop, bytesN_len]; omega); omega)
 rw [show ((⟨#[93]⟩ : ByteArray).data.toList) = [93] from rfl] at CS
 rcases cut_bracket T with ⟨h1, _, _⟩ | ⟨_, h2⟩
 · rw [hbn] at h1; exact absurd h1 hl
 · rw [h2] at CS
   obtain ⟨D, hD⟩ : ∃ D, (⟨(Go.Lib.trimSuffix T.data.toList [93]).toArray⟩ : ByteArray) = D := ⟨_, rfl⟩
   rw [hD] at CS
   have CSH := hid CS
   clear CS hD h2 hT hbn hsl hl hs
   go_enter Tryz.func45, Tryz.ntmps45
   go_wp2_with fail
   clear hW1
   refine (CSH.out _).mono ?_
   rintro e w1 ⟨rfl, hw1⟩
   have hw1' := hw1.symm
   subst hw1'
   clear hw1
   go_wp2_with fail
   go_at_call 44
   refine (fail_any _ _ _).mono ?_
   rintro e w3 ⟨rfl, rfl⟩
   have hE := failed_er (failed_of (w := W1) (w0 := W1) (k := 22) (i := 0) (Below.refl _ _) rfl)
   obtain ⟨hst, hld, hF⟩ := RC.out.no _ (W1.alloc (.cells #[.int .i64 22, .int .i64 0, .nilIface] 123)) _ rfl hE.2 hE.1
   have HF := hid hF
   clear hE hF
   go_wp2_with ((with_reducible show wpList _ _ _ (_ :: _) _ _); refine st_arr 24 w.heap.size _ hst _ _ rfl rfl rfl rfl ?_)
   (try simp only [Exit.inBlock, Exit.then])
   exact bodyPost_ret (by simp [results, Tryz.results45, asAddr, Result.andThen, hld]) rfl HF.out
theorem literal_shut (s : ByteArray) (w : World) (hs : s.size ≤ 1000000) (h0 : 0 < s.size) (hl : lastN ((bytesN s).drop 1) = 93) (hM : MaxT w) (hG : Glob w) : Calls Tryz.prog 45 #[.string s] w (HcPost w (match parse6 (((bytesN s).drop 1).take (((bytesN s).drop 1).length - 1)) with
    | none => .er [(22, 0), (11, 0)]
    | some g => .ok 3 (text6 g))) := by
 have hsl : s.extract 1 s.size = bytesL ((bytesN s).drop 1) := extract_drop s 1
 have sl : ∀ W, (Instr.slice 9 (.string s) (some (.int .i64 1)) none none).run Tryz.prog W = .ok (.string (bytesL ((bytesN s).drop 1))) W := fun W => sl_from s 1 h0 _ hsl W
 have hbn := bytesN_bytesL ((bytesN_lt s).drop 1)
 obtain ⟨T, hT⟩ : ∃ T, bytesL ((bytesN s).drop 1) = T := ⟨_, rfl⟩
 rw [hT] at sl hbn
 rw [← hbn] at hl ⊢
 have hTz : T.size ≤ 1000000 := by rw [← hT, bytesL_size, List.length_drop, bytesN_len]; omega
 have CS := fun W => Tryz.strings_CutSuffix T ⟨#[93]⟩ W (by omega)
 rw [show ((⟨#[93]⟩ : ByteArray).data.toList) = [93] from rfl] at CS
 rcases cut_bracket T with ⟨_, h2, h3⟩ | ⟨h1, _⟩
 · rw [h2, h3] at CS
   have hIb := bytesN_bytesL ((bytesN_lt T).take ((bytesN T).length - 1))
   have HP := fun W hM hG => hparse_any (bytesL ((bytesN T).take ((bytesN T).length - 1))) W (by rw [bytesL_size, List.length_take, bytesN_len]; omega) hM hG
   rw [hIb] at HP
   have hsm := fun g (h : parse6 ((bytesN T).take ((bytesN T).length - 1)) = some g) => parse6_ok h
   obtain ⟨I, hI⟩ : ∃ I, bytesL ((bytesN T).take ((bytesN T).length - 1)) = I := ⟨_, rfl⟩
   rw [hI] at CS HP
   obtain ⟨P, hP⟩ : ∃ P, parse6 ((bytesN T).take ((bytesN T).length - 1)) = P := ⟨_, rfl⟩
   rw [hP] at HP hsm ⊢
   have CSH := hid CS
   have HPH := hid HP
   clear CS HP h2 h3 hIb hI hP hT hbn hsl hl hs hTz
   cases P with
   | none =>
     obtain ⟨Q, hQ⟩ : ∃ Q, HcPost w (.er [(22, 0), (11, 0)]) = Q := ⟨_, rfl⟩
     show Calls _ _ _ _ (HcPost w (.er [(22, 0), (11, 0)]))
     rw [hQ]
     obtain ⟨W1, hW1⟩ : ∃ W, w.alloc (.cells #[.int .i64 0, .string ⟨#[]⟩] 24) = W := ⟨_, rfl⟩
     obtain ⟨rc, hb1⟩ := resCell hW1 hQ
     have RC := hid rc; have HB1 := hid hb1
     clear rc hb1 hQ
     have HM := hid hM; have HG := hid hG
     clear hM hG hsm
     go_enter Tryz.func45, Tryz.ntmps45
     go_wp2_with fail
     clear hW1
     refine (CSH.out _).mono ?_
     rintro e w1 ⟨rfl, hw1⟩
     have hw1' := hw1.symm
     subst hw1'
     clear hw1
     have HP1 := hid (HPH.out W1 (HM.out.ext HB1.out) (HG.out.ext HB1.out))
     go_wp2_with fail
     refine HP1.out.mono ?_
     rintro e w2 ⟨hb2, u, rfl, hE⟩
     obtain ⟨b, off, u2, rfl, _⟩ := fault_inv hE
     obtain ⟨w3, hW3⟩ : ∃ W, w2.alloc (.cells #[.int .u8 0, .int .u8 0, .int .u8 0, .int .u8 0, .int .u8 0, .int .u8 0, .int .u8 0, .int .u8 0, .int .u8 0, .int .u8 0, .int .u8 0, .int .u8 0, .int .u8 0, .int .u8 0, .int .u8 0, .int .u8 0] 125) = W := ⟨_, rfl⟩
     have hb3 : Below w2.heap.size w2 w3 := by rw [← hW3]; exact ext_alloc (Below.refl _ _) _
     have hx3 : w3.heap[w2.heap.size]? = some (.cells zero16 125 (0, 0)) := by rw [← hW3]; exact heap_alloc_new w2 _
     have hst6 := v6_store zero16 zero16 rfl zero16_one rfl _ w3 hx3
     rw [row_same hx3] at hst6
     have HWR := hid (hwr_any 0 _ _ w3 (hE.ext hb3))
     have HB3 := hid (xT hb2 hb3)
     clear hb2 hE hb3 hx3
     go_wp2_with ((with_reducible show wpList _ _ _ (_ :: _) _ _); refine st_arr 125 w2.heap.size _ hst6 _ _ rfl rfl rfl rfl ?_)
     clear hW3 hst6
     refine HWR.out.mono ?_
     rintro e w5 ⟨b5, rfl, hE5, hb5⟩
     obtain ⟨hst, hld, hF⟩ := RC.out.no _ w5 _ rfl (xT HB3.out hb5) hE5
     have HF := hid hF
     clear hE5 hb5 hF
     go_wp2_with ((with_reducible show wpList _ _ _ (_ :: _) _ _); refine st_arr 24 w.heap.size _ hst _ _ rfl rfl rfl rfl ?_)
     (try simp only [Exit.inBlock, Exit.then])
     exact bodyPost_ret (by simp [results, Tryz.results45, asAddr, Result.andThen, hld]) rfl HF.out
   | some g =>
     obtain ⟨hg8, hgs⟩ := hsm g rfl
     obtain ⟨Q, hQ⟩ : ∃ Q, HcPost w (.ok 3 (text6 g)) = Q := ⟨_, rfl⟩
     show Calls _ _ _ _ (HcPost w (.ok 3 (text6 g)))
     rw [hQ]
     obtain ⟨W1, hW1⟩ : ∃ W, w.alloc (.cells #[.int .i64 0, .string ⟨#[]⟩] 24) = W := ⟨_, rfl⟩
     obtain ⟨rc, hb1⟩ := resCell hW1 hQ
     have RC := hid rc; have HB1 := hid hb1
     clear rc hb1 hQ
     have HM := hid hM; have HG := hid hG
     have TX := hid (fun W => htext_any (fOf g) W (fun j _ => fOf_lt hgs j))
     rw [lstF_fOf hg8] at TX
     obtain ⟨X, hX⟩ : ∃ X, bytesL (text6 g) = X := ⟨_, rfl⟩
     rw [hX] at TX
     have HXX := hid hX
     have hv1 := v6C_one (fOf g)
     have hvz : (v6C (fOf g)).size = 16 := rfl
     have HP2 : Hid (∀ W, MaxT W → Glob W → Calls Tryz.prog 97 #[.string I] W fun e w' => Below W.heap.size W w' ∧ e = .returned (.tuple #[.agg (v6C (fOf g)), .nilIface])) := hid (fun W h1 h2 => HPH.out W h1 h2)
     obtain ⟨vs, hvs⟩ : ∃ vs, v6C (fOf g) = vs := ⟨_, rfl⟩
     rw [hvs] at TX hv1 hvz HP2
     have HV1 := hid hv1; have HVZ := hid hvz
     clear hM hG hsm hg8 hgs hX hv1 hvz hvs HPH
     go_enter Tryz.func45, Tryz.ntmps45
     go_wp2_with fail
     clear hW1
     refine (CSH.out _).mono ?_
     rintro e w1 ⟨rfl, hw1⟩
     have hw1' := hw1.symm
     subst hw1'
     clear hw1
     have HP1 := hid (HP2.out W1 (HM.out.ext HB1.out) (HG.out.ext HB1.out))
     go_wp2_with fail
     refine HP1.out.mono ?_
     rintro e w2 ⟨hb2, rfl⟩
     obtain ⟨w3, hW3⟩ : ∃ W, w2.alloc (.cells #[.int .u8 0, .int .u8 0, .int .u8 0, .int .u8 0, .int .u8 0, .int .u8 0, .int .u8 0, .int .u8 0, .int .u8 0, .int .u8 0, .int .u8 0, .int .u8 0, .int .u8 0, .int .u8 0, .int .u8 0, .int .u8 0] 125) = W := ⟨_, rfl⟩
     have hb3 : Below w2.heap.size w2 w3 := by rw [← hW3]; exact ext_alloc (Below.refl _ _) _
     have hx3 : w3.heap[w2.heap.size]? = some (.cells zero16 125 (0, 0)) := by rw [← hW3]; exact heap_alloc_new w2 _
     have hst6 := v6_store vs zero16 HVZ.out HV1.out rfl _ w3 hx3
     have hx4 := setRow_heap (c := vs) hx3
     have hb4 : Below w2.heap.size w2 (w3.setRow w2.heap.size vs) := setRow_below hb3 (Nat.le_refl _)
     obtain ⟨w4, hW4⟩ : ∃ W, w3.setRow w2.heap.size vs = W := ⟨_, rfl⟩
     rw [hW4] at hst6 hx4 hb4
     have hld6 := v6_load vs HVZ.out _ w4 hx4
     have HB4 := hid (xT hb2 hb4)
     clear hb2 hb3 hx3 hb4 hx4 hW4
     go_wp2_with ((with_reducible show wpList _ _ _ (_ :: _) _ _); first | (refine st_arr 125 w2.heap.size _ hst6 _ _ rfl rfl rfl rfl ?_) | (refine ld_arr 125 w2.heap.size _ hld6 _ rfl rfl rfl ?_))
     clear hW3 hst6 hld6
     refine (TX.out _).mono ?_
     rintro e w5 ⟨rfl, hb5⟩
     obtain ⟨hst, hld, hF⟩ := RC.out.ok 3 _ X w5 rfl HXX.out (xT HB4.out hb5)
     have hst : (storeVar 24 ⟨w.heap.size, 0, none⟩ (.agg #[.int .i64 3, .string X])).run Tryz.prog w5 = .ok () (w5.setRow w.heap.size #[.int .i64 3, .string X]) := hst
     have hld : (loadVar 24 ⟨w.heap.size, 0, none⟩).run Tryz.prog (w5.setRow w.heap.size #[.int .i64 3, .string X]) = .ok (.agg #[.int .i64 3, .string X]) (w5.setRow w.heap.size #[.int .i64 3, .string X]) := hld
     have HF := hid hF
     clear hb5 hF
     go_wp2_with ((with_reducible show wpList _ _ _ (_ :: _) _ _); refine st_arr 24 w.heap.size _ hst _ _ rfl rfl rfl rfl ?_)
     (try simp only [Exit.inBlock, Exit.then])
     exact bodyPost_ret (by simp [results, Tryz.results45, asAddr, Result.andThen, hld]) rfl HF.out
 · exact absurd hl h1
theorem hliteral_any (s : ByteArray) (w : World) (hs : s.size ≤ 1000000) (h0 : 0 < s.size) (hM : MaxT w) (hG : Glob w) : Calls Tryz.prog 45 #[.string s] w (HcPost w (literalL ((bytesN s).drop 1))) := by
 unfold literalL
 by_cases h : lastN ((bytesN s).drop 1) = 93
 · rw [if_pos h]; exact literal_shut s w hs h0 h hM hG
 · rw [if_neg h]; exact literal_open s w hs h0 h
end
section
open Go.RowKit
structure HEnv (w : World) : Prop where
 max : MaxT w
 glob : Glob w
 utf : Utf8T w
 allow : AllowT w
theorem HEnv.ext {w w' : World} (h : HEnv w) (hb : Below w.heap.size w w') : HEnv w' := ⟨h.max.ext hb, h.glob.ext hb, h.utf.ext hb, h.allow.ext hb⟩
theorem canon_empty (w : World) : Calls Tryz.prog 15 #[.string ⟨#[]⟩] w (HcPost w (.er [(10, 0)])) := by
 obtain ⟨Q, hQ⟩ : ∃ Q, HcPost w (.er [(10, 0)]) = Q := ⟨_, rfl⟩
 show Calls _ _ _ _ (HcPost w (.er [(10, 0)]))
 rw [hQ]
 obtain ⟨W1, hW1⟩ : ∃ W, w.alloc (.cells #[.int .i64 0, .string ⟨#[]⟩] 24) = W := ⟨_, rfl⟩
 obtain ⟨rc, hb1⟩ := resCell hW1 hQ
 have RC := hid rc; have HB1 := hid hb1
 clear rc hb1 hQ
 have t0 : ((⟨#[]⟩ : ByteArray).toList == []) = true := by rw [ByteArray.toList_eq]; rfl
 have hE := failed_er (failed_of (w := W1) (w0 := W1) (k := 10) (i := 0) (Below.refl _ _) rfl)
 obtain ⟨hst, hld, hF⟩ := RC.out.no _ (W1.alloc (.cells #[.int .i64 10, .int .i64 0, .nilIface] 123)) _ rfl hE.2 hE.1
 have HF := hid hF
 clear hE hF
 go_enter Tryz.func15, Tryz.ntmps15
 go_wp2_with fail
 clear hW1
 go_at_call 44
 refine (fail_any _ _ _).mono ?_
 rintro e w3 ⟨rfl, rfl⟩
 go_wp2_with ((with_reducible show wpList _ _ _ (_ :: _) _ _); refine st_arr 24 w.heap.size _ hst _ _ rfl rfl rfl rfl ?_)
 (try simp only [Exit.inBlock, Exit.then])
 exact bodyPost_ret (by simp [results, Tryz.results15, asAddr, Result.andThen, hld]) rfl HF.out
theorem canon_lit (s : ByteArray) (w : World) (hs : s.size ≤ 1000000) (hpos : 0 < s.size) (h91 : byteAt s 0 = 91) (hEn : HEnv w) : Calls Tryz.prog 15 #[.string s] w (HcPost w (literalL ((bytesN s).drop 1))) := by
 have h0 : s ≠ ⟨#[]⟩ := fun e => by rw [e] at hpos; exact absurd hpos (by decide)
 have t0 : (s.toList == []) = false := by
  have h := beqS_f h0
  rw [show (⟨#[]⟩ : ByteArray).toList = [] by rw [ByteArray.toList_eq]] at h
  exact h
 have u0' : decide (0 < s.size) = true := dcT hpos
 have hg0 : (s[0]'hpos).toNat = 91 := ((byteAt_get s 0 hpos).symm).trans h91
 have t91 : ((91 : Int) == 91) = true := rfl
 have LT := hid (fun W h => hliteral_any s W hs hpos h.max h.glob : ∀ W, HEnv W → _)
 obtain ⟨r, hr⟩ : ∃ r, literalL ((bytesN s).drop 1) = r := ⟨_, rfl⟩
 rw [hr] at LT ⊢
 obtain ⟨Q, hQ⟩ : ∃ Q, HcPost w r = Q := ⟨_, rfl⟩
 rw [hQ]
 obtain ⟨W1, hW1⟩ : ∃ W, w.alloc (.cells #[.int .i64 0, .string ⟨#[]⟩] 24) = W := ⟨_, rfl⟩
 obtain ⟨rc, hb1⟩ := resCell hW1 hQ
 have RC := hid rc; have HB1 := hid hb1
 have LT1 := hid (LT.out W1 (hEn.ext hb1))
 clear rc hb1 hQ hr h0 hs h91 hEn LT
 cases r with
 | er l =>
   go_enter Tryz.func15, Tryz.ntmps15
   go_wp2_with fail
   clear hW1
   refine LT1.out.mono ?_
   rintro e w2 ⟨hb2, u, rfl, hE⟩
   obtain ⟨hst, hld, hF⟩ := RC.out.no _ w2 _ rfl hb2 hE
   have HF := hid hF
   have hfo : u = .nilIface ∨ ∃ v, u = .iface 119 v := by
    cases l with
    | nil => exact .inl (Er.of_nil hE)
    | cons x r => obtain ⟨b, off, u2, e, _⟩ := fault_inv (k := x.1) (a := x.2) hE; exact .inr ⟨_, e⟩
   clear hE hb2 hF
   rcases hfo with rfl | ⟨v, rfl⟩
   · go_wp2_with ((with_reducible show wpList _ _ _ (_ :: _) _ _); refine st_arr 24 w.heap.size _ hst _ _ rfl rfl rfl rfl ?_)
     (try simp only [Exit.inBlock, Exit.then])
     exact bodyPost_ret (by simp [results, Tryz.results15, asAddr, Result.andThen, hld]) rfl HF.out
   · go_wp2_with ((with_reducible show wpList _ _ _ (_ :: _) _ _); refine st_arr 24 w.heap.size _ hst _ _ rfl rfl rfl rfl ?_)
     (try simp only [Exit.inBlock, Exit.then])
     exact bodyPost_ret (by simp [results, Tryz.results15, asAddr, Result.andThen, hld]) rfl HF.out
 | ok k t =>
   obtain ⟨T, hT⟩ : ∃ T, bytesL t = T := ⟨_, rfl⟩
   have LT2 : Hid (Calls Tryz.prog 45 #[.string s] W1 fun e w' => Below W1.heap.size W1 w' ∧ e = .returned (.tuple #[.agg #[.int .i64 k, .string T], .nilIface])) := hid (by rw [← hT]; exact LT1.out)
   have HT := hid hT
   clear hT LT1
   go_enter Tryz.func15, Tryz.ntmps15
   go_wp2_with fail
   clear hW1
   refine LT2.out.mono ?_
   rintro e w2 ⟨hb2, rfl⟩
   obtain ⟨hst, hld, hF⟩ := RC.out.ok k t T w2 rfl HT.out hb2
   have HF := hid hF
   clear hb2 hF
   go_wp2_with ((with_reducible show wpList _ _ _ (_ :: _) _ _); refine st_arr 24 w.heap.size _ hst _ _ rfl rfl rfl rfl ?_)
   (try simp only [Exit.inBlock, Exit.then])
   exact bodyPost_ret (by simp [results, Tryz.results15, asAddr, Result.andThen, hld]) rfl HF.out
theorem canon_pct (s : ByteArray) (w : World) (hs : s.size ≤ 1000000) (h0 : s ≠ ⟨#[]⟩) (h91 : byteAt s 0 ≠ 91) (hEn : HEnv w) {k : Nat} {p : Int} (hp : pctL (bytesN s) = .no k p) : Calls Tryz.prog 15 #[.string s] w (HcPost w (.er [(22, p), (k, p)])) := by
 have t0 : (s.toList == []) = false := by
  have h := beqS_f h0
  rw [show (⟨#[]⟩ : ByteArray).toList = [] by rw [ByteArray.toList_eq]] at h
  exact h
 have hpos : 0 < s.size := Nat.pos_of_ne_zero (fun e => h0 (size_zero (by omega)))
 have u0' : decide (0 < s.size) = true := dcT hpos
 have hg0 : (s[0]'hpos).toNat = byteAt s 0 := (byteAt_get s 0 hpos).symm
 obtain ⟨x0, hx0⟩ : ∃ x, byteAt s 0 = x := ⟨_, rfl⟩
 rw [hx0] at hg0 h91
 have t91 : ((x0 : Int) == 91) = false := bneI.2 (by omega)
 have PD := fun W => pctdec_any s W hs
 rw [hp] at PD
 have PDH := hid PD
 obtain ⟨Q, hQ⟩ : ∃ Q, HcPost w (.er [(22, p), ((k : Int), p)]) = Q := ⟨_, rfl⟩
 show Calls _ _ _ _ (HcPost w (.er [(22, p), ((k : Int), p)]))
 rw [hQ]
 obtain ⟨W1, hW1⟩ : ∃ W, w.alloc (.cells #[.int .i64 0, .string ⟨#[]⟩] 24) = W := ⟨_, rfl⟩
 obtain ⟨rc, hb1⟩ := resCell hW1 hQ
 have RC := hid rc; have HB1 := hid hb1
 clear rc hb1 hQ
 have HEN := hid (hEn.ext HB1.out)
 clear PD hp hx0 h0 h91 hs hEn
 go_enter Tryz.func15, Tryz.ntmps15
 go_wp2_with fail
 clear hW1
 refine (PDH.out _).mono ?_
 rintro e w2 ⟨hb2, u, rfl, hE⟩
 have PL := hid (hplace_any _ _ _ _ w2 (HEN.out.ext hb2).glob hE)
 have HE := hid hE; have HB2 := hid hb2
 obtain ⟨b, off, u2, rfl, _⟩ := fault_inv hE
 clear hE hb2
 go_wp2_with fail
 refine PL.out.mono ?_
 rintro e w3 ⟨rfl, hb3⟩
 have HWR := hid (hwr_any p _ _ w3 (HE.out.ext hb3))
 have HB3 := hid (xT HB2.out hb3)
 clear hb3
 go_wp2_with fail
 refine HWR.out.mono ?_
 rintro e w5 ⟨b5, rfl, hE5, hb5⟩
 obtain ⟨hst, hld, hF⟩ := RC.out.no _ w5 _ rfl (xT HB3.out hb5) hE5
 have HF := hid hF
 clear hE5 hb5 hF
 go_wp2_with ((with_reducible show wpList _ _ _ (_ :: _) _ _); refine st_arr 24 w.heap.size _ hst _ _ rfl rfl rfl rfl ?_)
 (try simp only [Exit.inBlock, Exit.then])
 exact bodyPost_ret (by simp [results, Tryz.results15, asAddr, Result.andThen, hld]) rfl HF.out
theorem nameL_len {b n : List Nat} (h : nameL b = .ok n) : n.length ≤ 253 := by
 unfold nameL at h
 split at h
 · cases h
 · split at h
   · cases h
   · unfold nameJ at h
     split at h
     · cases h
     · split at h
       · cases h
       · rw [← Sc.ok.inj h]; omega
theorem nameL_byte {b n : List Nat} (h : nameL b = .ok n) : ByteL n := fun c hc => by
 obtain ⟨ts, hts⟩ := name_ok h
 have := (name_bytes hts c hc).2.2.2.2
 omega
theorem byV_nat (B : ByteArray) : byV B = (bytesN B).map fun n : Nat => Value.int .u8 n := by
 unfold bytesN
 rw [List.map_map]
 rfl
theorem pctF_len : ∀ (f : Nat) (l : List Nat) (i : Nat) (acc r : List (Nat × Bool)), pctF f l i acc = .ok r → r.length ≤ acc.length + l.length
 | 0, l, i, acc, r, h => by rw [pctF] at h; rw [← Sc.ok.inj h]; omega
 | f + 1, [], i, acc, r, h => by rw [pctF] at h; rw [← Sc.ok.inj h]; omega
 | f + 1, c :: l, i, acc, r, h => by
   rw [pctF] at h
   split at h
   · split at h
     · cases h
     · have := pctF_len f _ _ _ _ h
       rw [List.length_append, List.length_drop] at this
       simp only [List.length_cons, List.length_nil] at this ⊢
       omega
   · have := pctF_len f _ _ _ _ h
     rw [List.length_append] at this
     simp only [List.length_cons, List.length_nil] at this ⊢
     omega
theorem pct_len {b : List Nat} {r : List (Nat × Bool)} (h : pctL b = .ok r) : r.length ≤ b.length := by
 have := pctF_len _ _ _ _ _ h
 simpa using this
theorem canon_noname (s : ByteArray) (w : World) (hs : s.size ≤ 1000000) (h0 : s ≠ ⟨#[]⟩) (h91 : byteAt s 0 ≠ 91) (hEn : HEnv w) {ev : List (Nat × Bool)} (hp : pctL (bytesN s) = .ok ev) {k : Nat} {p : Int} (hn : nameL (plainL ev) = .no k p) : Calls Tryz.prog 15 #[.string s] w (HcPost w (.er [(22, 0), (k, p)])) := by
 have t0 : (s.toList == []) = false := by
  have h := beqS_f h0
  rw [show (⟨#[]⟩ : ByteArray).toList = [] by rw [ByteArray.toList_eq]] at h
  exact h
 have hpos : 0 < s.size := Nat.pos_of_ne_zero (fun e => h0 (size_zero (by omega)))
 have u0' : decide (0 < s.size) = true := dcT hpos
 have hg0 : (s[0]'hpos).toNat = byteAt s 0 := (byteAt_get s 0 hpos).symm
 obtain ⟨x0, hx0⟩ : ∃ x, byteAt s 0 = x := ⟨_, rfl⟩
 rw [hx0] at hg0 h91
 have t91 : ((x0 : Int) == 91) = false := bneI.2 (by omega)
 have PD := fun W => pctdec_any s W hs
 rw [hp] at PD
 have PDH := hid PD
 have hpz := pct_len hp
 rw [bytesN_len] at hpz
 have hpb := pctF_byte _ _ _ _ _ (bytesN_lt s) (fun x hx => by cases hx) hp
 have hBN : bytesN (bytesL (plainL ev)) = plainL ev := bytesN_bytesL (fun c hc => by
  obtain ⟨x, hx, rfl⟩ := List.mem_map.1 hc
  exact hpb x hx)
 have hBz : (bytesL (plainL ev)).size ≤ 1000000 := by rw [bytesL_size]; unfold plainL; rw [List.length_map]; omega
 have NM := fun W (h : HEnv W) => lname_any (bytesL (plainL ev)) W hBz h.utf h.allow h.glob
 rw [hBN, hn] at NM
 have hrdB : ∀ W (v : Value) base, W.ownsRow base 5 1 v ev.length (ev.map fun x => Value.int .u8 x.1) → Rd (Own W) W v (bytesDB (bytesL (plainL ev))) := fun W v base ho => by
  rw [bytesDB_eq]
  have e : (ev.map fun x => Value.int .u8 (x.1 : Nat)) = byV (bytesL (plainL ev)) := by
   rw [byV_nat, hBN]; unfold plainL; rw [List.map_map]; rfl
  have ho := ho
  rw [e] at ho
  have hl : ev.length = (bytesL (plainL ev)).size := by rw [bytesL_size]; unfold plainL; rw [List.length_map]
  rw [hl] at ho
  exact rd_owned ho (byV_rds _) (fun g hg => (ho.lt g hg).2)
 have HRD := hid hrdB
 obtain ⟨B, hB⟩ : ∃ B, bytesL (plainL ev) = B := ⟨_, rfl⟩
 rw [hB] at NM HRD
 have NMH := hid NM
 obtain ⟨Q, hQ⟩ : ∃ Q, HcPost w (.er [(22, 0), ((k : Int), p)]) = Q := ⟨_, rfl⟩
 show Calls _ _ _ _ (HcPost w (.er [(22, 0), ((k : Int), p)]))
 rw [hQ]
 obtain ⟨W1, hW1⟩ : ∃ W, w.alloc (.cells #[.int .i64 0, .string ⟨#[]⟩] 24) = W := ⟨_, rfl⟩
 obtain ⟨rc, hb1⟩ := resCell hW1 hQ
 have RC := hid rc; have HB1 := hid hb1
 clear rc hb1 hQ
 have HEN := hid (hEn.ext HB1.out)
 clear PD hp hx0 h0 h91 hs hEn hpz hpb hBN hBz NM hrdB hB hn
 go_enter Tryz.func15, Tryz.ntmps15
 go_wp2_with fail
 clear hW1
 refine (PDH.out _).mono ?_
 rintro e w2 ⟨hb2, v, rfl, ho⟩
 have hrd := HRD.out w2 v _ ho
 have cv := conv_rd hrd
 have HB2 := hid hb2
 have NM2 := hid (NMH.out w2 (HEN.out.ext hb2))
 clear ho hb2 hrd
 go_wp2_with fail
 refine NM2.out.mono ?_
 rintro e w3 ⟨hb3, u, rfl, hE⟩
 obtain ⟨b, off, u2, rfl, _⟩ := fault_inv hE
 have HWR := hid (hwr_any 0 _ _ w3 hE)
 have HB3 := hid (xT HB2.out hb3)
 clear hE hb3
 go_wp2_with fail
 refine HWR.out.mono ?_
 rintro e w5 ⟨b5, rfl, hE5, hb5⟩
 obtain ⟨hst, hld, hF⟩ := RC.out.no _ w5 _ rfl (xT HB3.out hb5) hE5
 have HF := hid hF
 clear hE5 hb5 hF
 go_wp2_with ((with_reducible show wpList _ _ _ (_ :: _) _ _); refine st_arr 24 w.heap.size _ hst _ _ rfl rfl rfl rfl ?_)
 (try simp only [Exit.inBlock, Exit.then])
 exact bodyPost_ret (by simp [results, Tryz.results15, asAddr, Result.andThen, hld]) rfl HF.out
theorem canon_name1 (s : ByteArray) (w : World) (hs : s.size ≤ 1000000) (h0 : s ≠ ⟨#[]⟩) (h91 : byteAt s 0 ≠ 91) (hEn : HEnv w) {ev : List (Nat × Bool)} (hp : pctL (bytesN s) = .ok ev) {n : List Nat} (hn : nameL (plainL ev) = .ok n) (hnum : numericL n = false) : Calls Tryz.prog 15 #[.string s] w (HcPost w (.ok 1 n)) := by
 have t0 : (s.toList == []) = false := by
  have h := beqS_f h0
  rw [show (⟨#[]⟩ : ByteArray).toList = [] by rw [ByteArray.toList_eq]] at h
  exact h
 have hpos : 0 < s.size := Nat.pos_of_ne_zero (fun e => h0 (size_zero (by omega)))
 have u0' : decide (0 < s.size) = true := dcT hpos
 have hg0 : (s[0]'hpos).toNat = byteAt s 0 := (byteAt_get s 0 hpos).symm
 obtain ⟨x0, hx0⟩ : ∃ x, byteAt s 0 = x := ⟨_, rfl⟩
 rw [hx0] at hg0 h91
 have t91 : ((x0 : Int) == 91) = false := bneI.2 (by omega)
 have PD := fun W => pctdec_any s W hs
 rw [hp] at PD
 have PDH := hid PD
 have hpz := pct_len hp
 rw [bytesN_len] at hpz
 have hpb := pctF_byte _ _ _ _ _ (bytesN_lt s) (fun x hx => by cases hx) hp
 have hBN : bytesN (bytesL (plainL ev)) = plainL ev := bytesN_bytesL (fun c hc => by
  obtain ⟨x, hx, rfl⟩ := List.mem_map.1 hc
  exact hpb x hx)
 have hBz : (bytesL (plainL ev)).size ≤ 1000000 := by rw [bytesL_size]; unfold plainL; rw [List.length_map]; omega
 have NM := fun W (h : HEnv W) => lname_any (bytesL (plainL ev)) W hBz h.utf h.allow h.glob
 rw [hBN, hn] at NM
 have hrdB : ∀ W (v : Value) base, W.ownsRow base 5 1 v ev.length (ev.map fun x => Value.int .u8 x.1) → Rd (Own W) W v (bytesDB (bytesL (plainL ev))) := fun W v base ho => by
  rw [bytesDB_eq]
  have e : (ev.map fun x => Value.int .u8 (x.1 : Nat)) = byV (bytesL (plainL ev)) := by
   rw [byV_nat, hBN]; unfold plainL; rw [List.map_map]; rfl
  have ho := ho
  rw [e] at ho
  have hl : ev.length = (bytesL (plainL ev)).size := by rw [bytesL_size]; unfold plainL; rw [List.length_map]
  rw [hl] at ho
  exact rd_owned ho (byV_rds _) (fun g hg => (ho.lt g hg).2)
 have HRD := hid hrdB
 obtain ⟨B, hB⟩ : ∃ B, bytesL (plainL ev) = B := ⟨_, rfl⟩
 rw [hB] at NM HRD
 have NMH := hid NM
 have hnl := nameL_len hn
 have hnb : bytesN (bytesL n) = n := bytesN_bytesL (nameL_byte hn)
 have NQ := fun W => numeric_any (bytesL n) W (by rw [bytesL_size]; omega)
 rw [hnb, hnum] at NQ
 obtain ⟨N, hN⟩ : ∃ N, bytesL n = N := ⟨_, rfl⟩
 rw [hN] at NQ
 have NQH := hid NQ
 have NMS : Hid (∀ W, HEnv W → Calls Tryz.prog 49 #[.string B] W fun e w' => Below W.heap.size W w' ∧ e = .returned (.tuple #[.string N, .nilIface])) := hid (fun W h => by have := NMH.out W h; unfold AsPost at this; simp only [hN] at this; exact this)
 have HN := hid hN
 obtain ⟨Q, hQ⟩ : ∃ Q, HcPost w (.ok 1 n) = Q := ⟨_, rfl⟩
 show Calls _ _ _ _ (HcPost w (.ok 1 n))
 rw [hQ]
 obtain ⟨W1, hW1⟩ : ∃ W, w.alloc (.cells #[.int .i64 0, .string ⟨#[]⟩] 24) = W := ⟨_, rfl⟩
 obtain ⟨rc, hb1⟩ := resCell hW1 hQ
 have RC := hid rc; have HB1 := hid hb1
 clear rc hb1 hQ
 have HEN := hid (hEn.ext HB1.out)
 clear PD hp hx0 h0 h91 hs hEn hpz hpb hBN hBz NM hrdB hB hn hnl hnb NQ hN hnum NMH
 go_enter Tryz.func15, Tryz.ntmps15
 go_wp2_with fail
 clear hW1
 refine (PDH.out _).mono ?_
 rintro e w2 ⟨hb2, v, rfl, ho⟩
 have hrd := HRD.out w2 v _ ho
 have cv := conv_rd hrd
 have HB2 := hid hb2
 have NM2 := hid (NMS.out w2 (HEN.out.ext hb2))
 clear ho hb2 hrd
 go_wp2_with fail
 refine NM2.out.mono ?_
 rintro e w3 ⟨hb3, rfl⟩
 have HB3 := hid (xT HB2.out hb3)
 clear hb3 cv
 go_wp2_with fail
 refine (NQH.out _).mono ?_
 rintro e w4 ⟨rfl, hb4⟩
 obtain ⟨hst, hld, hF⟩ := RC.out.ok 1 n N w4 rfl HN.out (xT HB3.out hb4)
 have hst : (storeVar 24 ⟨w.heap.size, 0, none⟩ (.agg #[.int .i64 1, .string N])).run Tryz.prog w4 = .ok () (w4.setRow w.heap.size #[.int .i64 1, .string N]) := hst
 have hld : (loadVar 24 ⟨w.heap.size, 0, none⟩).run Tryz.prog (w4.setRow w.heap.size #[.int .i64 1, .string N]) = .ok (.agg #[.int .i64 1, .string N]) (w4.setRow w.heap.size #[.int .i64 1, .string N]) := hld
 have HF := hid hF
 clear hb4 hF
 go_wp2_with ((with_reducible show wpList _ _ _ (_ :: _) _ _); refine st_arr 24 w.heap.size _ hst _ _ rfl rfl rfl rfl ?_)
 (try simp only [Exit.inBlock, Exit.then])
 exact bodyPost_ret (by simp [results, Tryz.results15, asAddr, Result.andThen, hld]) rfl HF.out
theorem canon_noquad (s : ByteArray) (w : World) (hs : s.size ≤ 1000000) (h0 : s ≠ ⟨#[]⟩) (h91 : byteAt s 0 ≠ 91) (hEn : HEnv w) {ev : List (Nat × Bool)} (hp : pctL (bytesN s) = .ok ev) {n : List Nat} (hn : nameL (plainL ev) = .ok n) (hnum : numericL n = true) {k : Nat} {p : Int} (hq : parseQ n = .no k p) : Calls Tryz.prog 15 #[.string s] w (HcPost w (.er [(22, 0), (k, p)])) := by
 have t0 : (s.toList == []) = false := by
  have h := beqS_f h0
  rw [show (⟨#[]⟩ : ByteArray).toList = [] by rw [ByteArray.toList_eq]] at h
  exact h
 have hpos : 0 < s.size := Nat.pos_of_ne_zero (fun e => h0 (size_zero (by omega)))
 have u0' : decide (0 < s.size) = true := dcT hpos
 have hg0 : (s[0]'hpos).toNat = byteAt s 0 := (byteAt_get s 0 hpos).symm
 obtain ⟨x0, hx0⟩ : ∃ x, byteAt s 0 = x := ⟨_, rfl⟩
 rw [hx0] at hg0 h91
 have t91 : ((x0 : Int) == 91) = false := bneI.2 (by omega)
 have PD := fun W => pctdec_any s W hs
 rw [hp] at PD
 have PDH := hid PD
 have hpz := pct_len hp
 rw [bytesN_len] at hpz
 have hpb := pctF_byte _ _ _ _ _ (bytesN_lt s) (fun x hx => by cases hx) hp
 have hBN : bytesN (bytesL (plainL ev)) = plainL ev := bytesN_bytesL (fun c hc => by
  obtain ⟨x, hx, rfl⟩ := List.mem_map.1 hc
  exact hpb x hx)
 have hBz : (bytesL (plainL ev)).size ≤ 1000000 := by rw [bytesL_size]; unfold plainL; rw [List.length_map]; omega
 have NM := fun W (h : HEnv W) => lname_any (bytesL (plainL ev)) W hBz h.utf h.allow h.glob
 rw [hBN, hn] at NM
 have hrdB : ∀ W (v : Value) base, W.ownsRow base 5 1 v ev.length (ev.map fun x => Value.int .u8 x.1) → Rd (Own W) W v (bytesDB (bytesL (plainL ev))) := fun W v base ho => by
  rw [bytesDB_eq]
  have e : (ev.map fun x => Value.int .u8 (x.1 : Nat)) = byV (bytesL (plainL ev)) := by
   rw [byV_nat, hBN]; unfold plainL; rw [List.map_map]; rfl
  have ho := ho
  rw [e] at ho
  have hl : ev.length = (bytesL (plainL ev)).size := by rw [bytesL_size]; unfold plainL; rw [List.length_map]
  rw [hl] at ho
  exact rd_owned ho (byV_rds _) (fun g hg => (ho.lt g hg).2)
 have HRD := hid hrdB
 obtain ⟨B, hB⟩ : ∃ B, bytesL (plainL ev) = B := ⟨_, rfl⟩
 rw [hB] at NM HRD
 have NMH := hid NM
 have hnl := nameL_len hn
 have hnb : bytesN (bytesL n) = n := bytesN_bytesL (nameL_byte hn)
 have NQ := fun W => numeric_any (bytesL n) W (by rw [bytesL_size]; omega)
 rw [hnb, hnum] at NQ
 have QP := fun W => qparse_any (bytesL n) W (by rw [bytesL_size]; omega)
 rw [hnb, hq] at QP
 obtain ⟨N, hN⟩ : ∃ N, bytesL n = N := ⟨_, rfl⟩
 rw [hN] at NQ QP
 have NQH := hid NQ
 have NMS : Hid (∀ W, HEnv W → Calls Tryz.prog 49 #[.string B] W fun e w' => Below W.heap.size W w' ∧ e = .returned (.tuple #[.string N, .nilIface])) := hid (fun W h => by have := NMH.out W h; unfold AsPost at this; simp only [hN] at this; exact this)
 have HN := hid hN
 have QPH := hid QP
 obtain ⟨Q, hQ⟩ : ∃ Q, HcPost w (.er [(22, 0), ((k : Int), p)]) = Q := ⟨_, rfl⟩
 show Calls _ _ _ _ (HcPost w (.er [(22, 0), ((k : Int), p)]))
 rw [hQ]
 obtain ⟨W1, hW1⟩ : ∃ W, w.alloc (.cells #[.int .i64 0, .string ⟨#[]⟩] 24) = W := ⟨_, rfl⟩
 obtain ⟨rc, hb1⟩ := resCell hW1 hQ
 have RC := hid rc; have HB1 := hid hb1
 clear rc hb1 hQ
 have HEN := hid (hEn.ext HB1.out)
 clear PD hp hx0 h0 h91 hs hEn hpz hpb hBN hBz NM hrdB hB hn hnl hnb NQ hN hnum NMH hq QP
 go_enter Tryz.func15, Tryz.ntmps15
 go_wp2_with fail
 clear hW1
 refine (PDH.out _).mono ?_
 rintro e w2 ⟨hb2, v, rfl, ho⟩
 have hrd := HRD.out w2 v _ ho
 have cv := conv_rd hrd
 have HB2 := hid hb2
 have NM2 := hid (NMS.out w2 (HEN.out.ext hb2))
 clear ho hb2 hrd
 go_wp2_with fail
 refine NM2.out.mono ?_
 rintro e w3 ⟨hb3, rfl⟩
 have HB3 := hid (xT HB2.out hb3)
 clear hb3 cv
 go_wp2_with fail
 refine (NQH.out _).mono ?_
 rintro e w4 ⟨rfl, hb4⟩
 have HB4 := hid (xT HB3.out hb4)
 clear hb4
 go_wp2_with fail
 refine (QPH.out _).mono ?_
 rintro e w5 ⟨hb5, u, rfl, hE⟩
 obtain ⟨b, off, u2, rfl, _⟩ := fault_inv hE
 obtain ⟨w6, hW6⟩ : ∃ W, w5.alloc (.cells #[.int .u8 0, .int .u8 0, .int .u8 0, .int .u8 0] 79) = W := ⟨_, rfl⟩
 have hb6 : Below w5.heap.size w5 w6 := by rw [← hW6]; exact ext_alloc (Below.refl _ _) _
 have hx6 : w6.heap[w5.heap.size]? = some (.cells zero4 79 (0, 0)) := by rw [← hW6]; exact heap_alloc_new w5 _
 have hst4 := v4_store zero4 zero4 rfl zero4_one rfl _ w6 hx6
 rw [row_same hx6] at hst4
 have HWR := hid (hwr_any 0 _ _ w6 (hE.ext hb6))
 have HB6 := hid (xT (xT HB4.out hb5) hb6)
 clear hb5 hE hb6 hx6
 go_wp2_with ((with_reducible show wpList _ _ _ (_ :: _) _ _); refine st_arr 79 w5.heap.size _ hst4 _ _ rfl rfl rfl rfl ?_)
 clear hW6 hst4
 refine HWR.out.mono ?_
 rintro e w7 ⟨b7, rfl, hE7, hb7⟩
 obtain ⟨hst, hld, hF⟩ := RC.out.no _ w7 _ rfl (xT HB6.out hb7) hE7
 have HF := hid hF
 clear hE7 hb7 hF
 go_wp2_with ((with_reducible show wpList _ _ _ (_ :: _) _ _); refine st_arr 24 w.heap.size _ hst _ _ rfl rfl rfl rfl ?_)
 (try simp only [Exit.inBlock, Exit.then])
 exact bodyPost_ret (by simp [results, Tryz.results15, asAddr, Result.andThen, hld]) rfl HF.out
theorem canon_quad (s : ByteArray) (w : World) (hs : s.size ≤ 1000000) (h0 : s ≠ ⟨#[]⟩) (h91 : byteAt s 0 ≠ 91) (hEn : HEnv w) {ev : List (Nat × Bool)} (hp : pctL (bytesN s) = .ok ev) {n : List Nat} (hn : nameL (plainL ev) = .ok n) (hnum : numericL n = true) {a : Nat} (hq : parseQ n = .ok a) : Calls Tryz.prog 15 #[.string s] w (HcPost w (.ok 2 (quadL a))) := by
 have t0 : (s.toList == []) = false := by
  have h := beqS_f h0
  rw [show (⟨#[]⟩ : ByteArray).toList = [] by rw [ByteArray.toList_eq]] at h
  exact h
 have hpos : 0 < s.size := Nat.pos_of_ne_zero (fun e => h0 (size_zero (by omega)))
 have u0' : decide (0 < s.size) = true := dcT hpos
 have hg0 : (s[0]'hpos).toNat = byteAt s 0 := (byteAt_get s 0 hpos).symm
 obtain ⟨x0, hx0⟩ : ∃ x, byteAt s 0 = x := ⟨_, rfl⟩
 rw [hx0] at hg0 h91
 have t91 : ((x0 : Int) == 91) = false := bneI.2 (by omega)
 have PD := fun W => pctdec_any s W hs
 rw [hp] at PD
 have PDH := hid PD
 have hpz := pct_len hp
 rw [bytesN_len] at hpz
 have hpb := pctF_byte _ _ _ _ _ (bytesN_lt s) (fun x hx => by cases hx) hp
 have hBN : bytesN (bytesL (plainL ev)) = plainL ev := bytesN_bytesL (fun c hc => by
  obtain ⟨x, hx, rfl⟩ := List.mem_map.1 hc
  exact hpb x hx)
 have hBz : (bytesL (plainL ev)).size ≤ 1000000 := by rw [bytesL_size]; unfold plainL; rw [List.length_map]; omega
 have NM := fun W (h : HEnv W) => lname_any (bytesL (plainL ev)) W hBz h.utf h.allow h.glob
 rw [hBN, hn] at NM
 have hrdB : ∀ W (v : Value) base, W.ownsRow base 5 1 v ev.length (ev.map fun x => Value.int .u8 x.1) → Rd (Own W) W v (bytesDB (bytesL (plainL ev))) := fun W v base ho => by
  rw [bytesDB_eq]
  have e : (ev.map fun x => Value.int .u8 (x.1 : Nat)) = byV (bytesL (plainL ev)) := by
   rw [byV_nat, hBN]; unfold plainL; rw [List.map_map]; rfl
  have ho := ho
  rw [e] at ho
  have hl : ev.length = (bytesL (plainL ev)).size := by rw [bytesL_size]; unfold plainL; rw [List.length_map]
  rw [hl] at ho
  exact rd_owned ho (byV_rds _) (fun g hg => (ho.lt g hg).2)
 have HRD := hid hrdB
 obtain ⟨B, hB⟩ : ∃ B, bytesL (plainL ev) = B := ⟨_, rfl⟩
 rw [hB] at NM HRD
 have NMH := hid NM
 have hnl := nameL_len hn
 have hnb : bytesN (bytesL n) = n := bytesN_bytesL (nameL_byte hn)
 have NQ := fun W => numeric_any (bytesL n) W (by rw [bytesL_size]; omega)
 rw [hnb, hnum] at NQ
 have QP := fun W => qparse_any (bytesL n) W (by rw [bytesL_size]; omega)
 rw [hnb, hq] at QP
 obtain ⟨N, hN⟩ : ∃ N, bytesL n = N := ⟨_, rfl⟩
 rw [hN] at NQ QP
 have NQH := hid NQ
 have NMS : Hid (∀ W, HEnv W → Calls Tryz.prog 49 #[.string B] W fun e w' => Below W.heap.size W w' ∧ e = .returned (.tuple #[.string N, .nilIface])) := hid (fun W h => by have := NMH.out W h; unfold AsPost at this; simp only [hN] at this; exact this)
 have HN := hid hN
 have TX := fun W => qtext_any a W
 obtain ⟨X, hX⟩ : ∃ X, bytesL (quadL a) = X := ⟨_, rfl⟩
 rw [hX] at TX
 have HXX := hid hX
 have h4o := v4_one a
 have h4z : (v4C a).size = 4 := rfl
 have QPS : Hid (∀ W, Calls Tryz.prog 51 #[.string N] W fun e w' => Below W.heap.size W w' ∧ e = .returned (.tuple #[.agg (v4C a), .nilIface])) := hid (fun W => QP W)
 obtain ⟨vs, hvs⟩ : ∃ vs, v4C a = vs := ⟨_, rfl⟩
 rw [hvs] at TX h4o h4z QPS
 have TXH := hid TX; have H4O := hid h4o; have H4Z := hid h4z
 obtain ⟨Q, hQ⟩ : ∃ Q, HcPost w (.ok 2 (quadL a)) = Q := ⟨_, rfl⟩
 show Calls _ _ _ _ (HcPost w (.ok 2 (quadL a)))
 rw [hQ]
 obtain ⟨W1, hW1⟩ : ∃ W, w.alloc (.cells #[.int .i64 0, .string ⟨#[]⟩] 24) = W := ⟨_, rfl⟩
 obtain ⟨rc, hb1⟩ := resCell hW1 hQ
 have RC := hid rc; have HB1 := hid hb1
 clear rc hb1 hQ
 have HEN := hid (hEn.ext HB1.out)
 clear PD hp hx0 h0 h91 hs hEn hpz hpb hBN hBz NM hrdB hB hn hnl hnb NQ hN hnum NMH hq QP hX TX h4o h4z hvs
 go_enter Tryz.func15, Tryz.ntmps15
 go_wp2_with fail
 clear hW1
 refine (PDH.out _).mono ?_
 rintro e w2 ⟨hb2, v, rfl, ho⟩
 have hrd := HRD.out w2 v _ ho
 have cv := conv_rd hrd
 have HB2 := hid hb2
 have NM2 := hid (NMS.out w2 (HEN.out.ext hb2))
 clear ho hb2 hrd
 go_wp2_with fail
 refine NM2.out.mono ?_
 rintro e w3 ⟨hb3, rfl⟩
 have HB3 := hid (xT HB2.out hb3)
 clear hb3 cv
 go_wp2_with fail
 refine (NQH.out _).mono ?_
 rintro e w4 ⟨rfl, hb4⟩
 have HB4 := hid (xT HB3.out hb4)
 clear hb4
 go_wp2_with fail
 refine (QPS.out _).mono ?_
 rintro e w5 ⟨hb5, rfl⟩
 obtain ⟨w6, hW6⟩ : ∃ W, w5.alloc (.cells #[.int .u8 0, .int .u8 0, .int .u8 0, .int .u8 0] 79) = W := ⟨_, rfl⟩
 have hb6 : Below w5.heap.size w5 w6 := by rw [← hW6]; exact ext_alloc (Below.refl _ _) _
 have hx6 : w6.heap[w5.heap.size]? = some (.cells zero4 79 (0, 0)) := by rw [← hW6]; exact heap_alloc_new w5 _
 have hst4 := v4_store vs zero4 H4Z.out H4O.out rfl _ w6 hx6
 have hx7 := setRow_heap (c := vs) hx6
 have hb7 : Below w5.heap.size w5 (w6.setRow w5.heap.size vs) := setRow_below hb6 (Nat.le_refl _)
 obtain ⟨w7, hW7⟩ : ∃ W, w6.setRow w5.heap.size vs = W := ⟨_, rfl⟩
 rw [hW7] at hst4 hx7 hb7
 have hld4 := v4_load vs H4Z.out _ w7 hx7
 have HB7 := hid (xT (xT HB4.out hb5) hb7)
 clear hb5 hb6 hx6 hx7 hb7 hW7
 go_wp2_with ((with_reducible show wpList _ _ _ (_ :: _) _ _); first | (refine st_arr 79 w5.heap.size _ hst4 _ _ rfl rfl rfl rfl ?_) | (refine ld_arr 79 w5.heap.size _ hld4 _ rfl rfl rfl ?_))
 clear hW6 hst4 hld4
 refine (TXH.out _).mono ?_
 rintro e w8 ⟨rfl, hb8⟩
 obtain ⟨hst, hld, hF⟩ := RC.out.ok 2 _ X w8 rfl HXX.out (xT HB7.out hb8)
 have hst : (storeVar 24 ⟨w.heap.size, 0, none⟩ (.agg #[.int .i64 2, .string X])).run Tryz.prog w8 = .ok () (w8.setRow w.heap.size #[.int .i64 2, .string X]) := hst
 have hld : (loadVar 24 ⟨w.heap.size, 0, none⟩).run Tryz.prog (w8.setRow w.heap.size #[.int .i64 2, .string X]) = .ok (.agg #[.int .i64 2, .string X]) (w8.setRow w.heap.size #[.int .i64 2, .string X]) := hld
 have HF := hid hF
 clear hb8 hF
 go_wp2_with ((with_reducible show wpList _ _ _ (_ :: _) _ _); refine st_arr 24 w.heap.size _ hst _ _ rfl rfl rfl rfl ?_)
 (try simp only [Exit.inBlock, Exit.then])
 exact bodyPost_ret (by simp [results, Tryz.results15, asAddr, Result.andThen, hld]) rfl HF.out
theorem hcanon_any (s : ByteArray) (w : World) (hs : s.size ≤ 1000000) (hEn : HEnv w) : Calls Tryz.prog 15 #[.string s] w (HcPost w (canonL (bytesN s))) := by
 by_cases h0 : s = ⟨#[]⟩
 · subst h0; exact canon_empty w
 · have hb0 : bytesN s ≠ [] := fun e => h0 (by rw [← bytesL_bytesN s, e]; rfl)
   unfold canonL
   rw [if_neg hb0, ← byteAt_bytesN]
   by_cases h91 : byteAt s 0 = 91
   · rw [if_pos h91]
     exact canon_lit s w hs (Nat.pos_of_ne_zero (fun e => h0 (size_zero (by omega)))) h91 hEn
   · rw [if_neg h91]
     cases hp : pctL (bytesN s) with
     | no k p => exact canon_pct s w hs h0 h91 hEn hp
     | ok ev =>
       simp only
       unfold nameH
       cases hn : nameL (plainL ev) with
       | no k p => exact canon_noname s w hs h0 h91 hEn hp hn
       | ok n =>
         simp only
         cases hnum : numericL n with
         | false => exact canon_name1 s w hs h0 h91 hEn hp hn hnum
         | true =>
           cases hq : parseQ n with
           | no k p => exact canon_noquad s w hs h0 h91 hEn hp hn hnum hq
           | ok a => exact canon_quad s w hs h0 h91 hEn hp hn hnum hq
end
end Go.Proofs.YtbeodjipdpcaiaaGreatDoor
