/- A whole struct loaded in a drawn region as one step. Nothing of the program. -/
import Derived.Test.YtbeodjipdpcaiaaGreatDoorYMoreR
import Derived.Test.YtbeodjipdpcaiaaGreatDoorYDig1sf
import Derived.Test.YtbeodjipdpcaiaaGreatDoorYDec0s
import Derived.Test.YtbeodjipdpcaiaaGreatDoorYQuo3sf
import Derived.Test.YtbeodjipdpcaiaaGreatDoorYHlw0f
import Derived.Test.YtbeodjipdpcaiaaGreatDoorYDec2f
import Derived.Deep.DeepCutAuto
set_option maxRecDepth 100000
set_option maxHeartbeats 16000000
namespace Go.Proofs.YtbeodjipdpcaiaaGreatDoor
open Go.RowKit
def RnPost10 (w : World) (r : Sc Nat) (e : Ending) (w' : World) : Prop := (∃ n, w' = w.drewN n) ∧ match r with
 | .ok n => e = .returned (.tuple #[.int .u64 n, .int .i64 0, .int .i64 0])
 | .no k i => e = .returned (.tuple #[.int .u64 0, .int .i64 k, .int .i64 i])
def big64 : Nat := 18446744073709551616
end Go.Proofs.YtbeodjipdpcaiaaGreatDoor
namespace Go.Proofs.YtbeodjipdpcaiaaGreatDoor
open Go.RowKit
def RnRel16 (s : ByteArray) (w : World) (n o i : Value) (wr : World) : Prop := ∃ (j x : Nat) (ov : Bool), n = .int .u64 x ∧ o = .bool ov ∧ i = .int .i64 j ∧ j ≤ s.size ∧ (∃ k, wr = w.drewN k) ∧ (∀ m, m < j → notDigit 16 s m = false) ∧
 ((ov = false ∧ x = numVal 16 s j ∧ numVal 16 s j < big64) ∨ (ov = true ∧ x = 0 ∧ big64 ≤ numVal 16 s j))
theorem nv_mono16 {s : ByteArray} {j : Nat} (h : big64 ≤ numVal 16 s j) : big64 ≤ numVal 16 s (j + 1) := by
 have : numVal 16 s (j + 1) = numVal 16 s j * 16 + digV (byteAt s j) := rfl
 unfold big64 at *; omega
theorem rnum16_any (s : ByteArray) (most : Nat) (w : World) (hs : s.size ≤ maxLen) (hm : most < big64) :
    Calls Tryz.prog 132 #[.string s, .int .u64 16, .int .u64 most] w (RnPost10 w (numberF 16 most s)) := by
 have HC := hid (fun j W => rdigit_any (byteAt s j) (byteAt_lt s j) W)
 have HM := hid hm
 clear hm
 unfold maxLen at hs
 by_cases h0 : s.size = 0
 · have ts : ((s.size : Int) == 0) = true := beq_iff_eq.2 (by omega)
   have HR : Hid (numberF 16 most s = .no 10 0) := hid (by unfold numberF; rw [if_pos h0])
   clear h0 hs
   refine Calls.mono (R := fun e w' => e = .returned (.tuple #[.int .u64 0, .int .i64 10, .int .i64 0]) ∧ w = w') ?_ (fun e w' h => by rw [HR.out]; exact ⟨⟨0, h.2.symm⟩, h.1⟩)
   go_enter Tryz.func132, Tryz.ntmps132
   go_wp2
   refine bodyPost_ret (v := .tuple #[.int .u64 0, .int .i64 10, .int .i64 0]) (by simp [results, Tryz.results132, go_sem]) rfl ⟨rfl, rfl⟩
 · have ts : ((s.size : Int) == 0) = false := bneI.2 (by omega)
   have H0 := hid h0
   clear h0
   go_enter Tryz.func132, Tryz.ntmps132
   go_wp2_with fail
   go_loopw [9, 10, 11] (RnRel16 s w) (fun _ _ i _ => s.size - (intOf i).toNat)
   case atStart => exact ⟨0, 0, false, rfl, rfl, rfl, Nat.zero_le _, ⟨0, rfl⟩, fun m h => by omega, .inl ⟨rfl, rfl, (by decide : (0 : Nat) < 18446744073709551616)⟩⟩
   case round =>
    obtain ⟨j, x, ov, rfl, rfl, rfl, hj, hw, hnd, hor⟩ := hrel
    have HW := hid hw
    have HND := hid hnd
    clear hw hnd
    by_cases hlt : j < s.size
    · have t1 : decide (j < s.size) = true := dcT hlt
      have hb : (s[j]'hlt).toNat = byteAt s j := (byteAt_get s j hlt).symm
      have hC := HC.out j wr
      rw [← hb] at hC
      have HCC := hid hC
      have HSTEP : Hid (numVal 16 s (j + 1) = numVal 16 s j * 16 + digV (byteAt s j)) := hid rfl
      have hdle := digV_le (byteAt s j)
      rw [← hb] at hdle HSTEP
      have HNB : Hid (notDigit 16 s j = decide (16 ≤ digV (s[j]'hlt).toNat)) := hid (by unfold notDigit; rw [hb])
      have HMO := hid (nv_mono16 (s := s) (j := j))
      generalize digV (s[j]'hlt).toNat = d at *
      have HOR := hid hor
      clear hC hb hor
      go_wp2_with fail
      refine HCC.out.mono ?_
      rintro e w1 ⟨rfl, m, rfl⟩
      obtain ⟨q, hq⟩ := HW.out
      have HQ : Hid (wr.drewN m = w.drewN (q + m)) := hid (by rw [hq]; simp [World.drewN, Nat.add_assoc])
      clear hq
      by_cases hd : 16 ≤ d
      · have t2 : decide (16 ≤ d) = true := dcT hd
        have t2' : decide ((16 : Int) ≤ (d : Int)) = true := dcT (by omega)
        have HR : Hid (numberF 16 most s = .no 11 j) := hid (numberF_bad hlt (by rw [HNB.out]; exact dcT hd) HND.out)
        clear hd hdle
        go_wp2
        refine bodyPost_ret (v := .tuple #[.int .u64 0, .int .i64 11, .int .i64 j]) (by simp [results, Tryz.results132, go_sem]) rfl ?_
        rw [HR.out]
        exact ⟨⟨_, HQ.out⟩, rfl⟩
      · have t2 : decide (16 ≤ d) = false := dcF hd
        have t2' : decide ((16 : Int) ≤ (d : Int)) = false := dcF (by omega)
        have HND2 : Hid (∀ m, m < j + 1 → notDigit 16 s m = false) := hid (fun m hm => by
         rcases Nat.lt_succ_iff_lt_or_eq.1 hm with h | rfl
         · exact HND.out m h
         · rw [HNB.out]; exact dcF hd)
        have hd9 : d ≤ 15 := by omega
        clear hd hdle
        rcases HOR.out with ⟨rfl, rfl, hbig⟩ | ⟨rfl, rfl, hbig⟩
        · obtain ⟨n, hn⟩ : ∃ n, numVal 16 s j = n := ⟨_, rfl⟩
          rw [hn] at HSTEP hbig ⊢
          have HN := hid hn
          clear HOR hn
          have hs1 : (18446744073709551615 - (d : Int)).tdiv 16 = (18446744073709551615 - (d : Int)) / 16 := Int.tdiv_eq_ediv_of_nonneg (by omega)
          by_cases hov : (18446744073709551615 - (d : Int)) / 16 < (n : Int)
          · have t3 : decide ((18446744073709551615 - (d : Int)) / 16 < (n : Int)) = true := dcT hov
            have R : RnRel16 s w (.int .u64 0) (.bool true) (.int .i64 (j + 1)) (wr.drewN m) := ⟨j + 1, 0, true, rfl, rfl, by go_num, hlt, ⟨_, HQ.out⟩, HND2.out, .inr ⟨rfl, rfl, by rw [HSTEP.out]; unfold big64; omega⟩⟩
            have HR := hid R
            clear R hov hbig hs1
            go_wp2
            refine ⟨?_, by simp [intOf] <;> omega⟩
            first | exact HR.out | ((repeat apply Exists.intro); exact ⟨HR.out, rfl⟩)
          · have t3 : decide ((18446744073709551615 - (d : Int)) / 16 < (n : Int)) = false := dcF hov
            have hfit : n * 16 + d < 18446744073709551616 := by omega
            have w1 : IntKind.u64.wrap ((n : Int) * 16) = (n : Int) * 16 := IntWalk.u64_in _ (by omega)
            have R : RnRel16 s w (.int .u64 ((n : Int) * 16 + (d : Int))) (.bool false) (.int .i64 (j + 1)) (wr.drewN m) := ⟨j + 1, n * 16 + d, false, by go_num, rfl, by go_num, hlt, ⟨_, HQ.out⟩, HND2.out, .inl ⟨rfl, HSTEP.out.symm, by rw [HSTEP.out]; unfold big64; omega⟩⟩
            have HR := hid R
            clear R hov hbig hs1
            go_wp2
            refine ⟨?_, by simp [intOf] <;> omega⟩
            first | exact HR.out | ((repeat apply Exists.intro); exact ⟨HR.out, rfl⟩)
        · have t3 : decide ((18446744073709551615 - (d : Int)) / 16 < 0) = false := dcF (by omega)
          have R : RnRel16 s w (.int .u64 0) (.bool true) (.int .i64 (j + 1)) (wr.drewN m) := ⟨j + 1, 0, true, rfl, rfl, by go_num, hlt, ⟨_, HQ.out⟩, HND2.out, .inr ⟨rfl, rfl, HMO.out hbig⟩⟩
          have HR := hid R
          clear R HOR hbig
          go_wp2
          refine ⟨?_, by simp [intOf] <;> omega⟩
          first | exact HR.out | ((repeat apply Exists.intro); exact ⟨HR.out, rfl⟩)
    · obtain rfl : j = s.size := by omega
      have t1 : decide (s.size < s.size) = false := dcF hlt
      have hend := numberF_end (base := 16) (most := most) H0.out HND.out
      have hm := HM.out
      rcases hor with ⟨rfl, rfl, hbig⟩ | ⟨rfl, rfl, hbig⟩
      · obtain ⟨n, hn⟩ : ∃ n, numVal 16 s s.size = n := ⟨_, rfl⟩
        rw [hn] at hend ⊢
        clear hm hbig hn hlt
        by_cases hmo : most < n
        · obtain ⟨t2, t2'⟩ := ltT most n hmo
          rw [if_pos hmo] at hend
          have HR := hid hend
          clear hend hmo
          go_wp2
          refine bodyPost_ret (v := .tuple #[.int .u64 0, .int .i64 16, .int .i64 0]) (by simp [results, Tryz.results132, go_sem]) rfl ?_
          rw [HR.out]
          exact ⟨HW.out, rfl⟩
        · obtain ⟨t2, t2'⟩ := ltF most n hmo
          rw [if_neg hmo] at hend
          have HR := hid hend
          clear hend hmo
          go_wp2
          refine bodyPost_ret (v := .tuple #[.int .u64 n, .int .i64 0, .int .i64 0]) (by simp [results, Tryz.results132, go_sem]) rfl ?_
          rw [HR.out]
          exact ⟨HW.out, rfl⟩
      · rw [if_pos (by unfold big64 at *; omega)] at hend
        have HR := hid hend
        clear hend hm hbig hlt
        go_wp2
        refine bodyPost_ret (v := .tuple #[.int .u64 0, .int .i64 16, .int .i64 0]) (by simp [results, Tryz.results132, go_sem]) rfl ?_
        rw [HR.out]
        exact ⟨HW.out, rfl⟩
end Go.Proofs.YtbeodjipdpcaiaaGreatDoor
namespace Go.Proofs.YtbeodjipdpcaiaaGreatDoor
open Go.RowKit
def RcLPost (w : World) (r : Sc (List Nat)) (e : Ending) (w' : World) : Prop := Below w.heap.size w w' ∧ match r with
 | .ok l => ∃ v, e = .returned (.tuple #[v, .int .i64 (-1)]) ∧ w'.ownsRow w.heap.size 3 1 v l.length (intsV l)
 | .no _ i => ∃ v, e = .returned (.tuple #[v, .int .i64 i])
theorem rcharsL_any (v : Value) (B : ByteArray) (w : World) (h : Rd (Own w) w v (bytesDB B)) (hm : B.size ≤ 1000000) :
    Calls Tryz.prog 146 #[v] w (RcLPost w (charsS B 0 [])) := by
 obtain ⟨R, hR⟩ : ∃ R, charsS B 0 [] = R := ⟨_, rfl⟩
 rw [hR]
 have HR := hid hR; have H := hid h
 have R0 : CsRel B R w (.slice (some ⟨w.heap.size, 0, none⟩) 0 0) (.int .i64 0) (w.alloc (.cells #[] 3)) := by
  refine ⟨0, [], rfl, Nat.zero_le _, Nat.zero_le _, ?_, ext_alloc (Below.refl _ _) _, hR⟩
  have := World.ownsRow_lit (base := w.heap.size) (e := 3) (size := 1) w #[] 0 (Nat.le_refl _) (by decide) rfl
  simpa [intsV] using this
 have HR0 := hid R0
 obtain ⟨a, c, rfl, _, _, _⟩ := h.by_inv
 clear h hR R0
 go_enter Tryz.func146, Tryz.ntmps146
 go_wp2_with fail
 go_loopw [4, 5] (CsRel B R w) (fun _ k _ => B.size - (intOf k).toNat)
 case atStart => exact HR0.out
 case round =>
  obtain ⟨j, acc, rfl, hj, hA, ho, hb, hr⟩ := hrel
  obtain ⟨ao, cap, rfl, _⟩ := aown_form ho
  have HO := hid ho; have HB := hid hb
  by_cases hlt : j < B.size
  · obtain ⟨t1, t1'⟩ := ltT j B.size hlt
    have CN := rnext_any _ B j wr (H.out.ext hb) hm hlt
    rw [charsS_step hlt] at hr
    have hz := decU_size hlt
    by_cases hd : decU B j = (65533, 1)
    · have hn : nxN B j = (0, 0) := by unfold nxN; rw [if_pos hd]
      rw [if_pos hd] at hr
      rw [hn] at CN
      have HRR := hid hr.symm
      have HCN := hid CN
      clear ho hb hr CN hd hz hn
      go_wp2_with fail
      refine HCN.out.mono ?_
      rintro e w1 ⟨rfl, hb1⟩
      have HB1 := hid (xT HB.out hb1)
      clear hb1
      go_wp2
      go_ret2
      rw [HRR.out]
      exact ⟨ext_alloc HB1.out _, _, rfl⟩
    · have hn : nxN B j = decU B j := by unfold nxN; rw [if_neg hd]
      rw [if_neg hd] at hr
      rw [hn] at CN
      clear hn
      generalize decU B j = x at *
      obtain ⟨ch, n⟩ := x
      simp only at hr hz CN
      have HRR := hid hr
      have HCN := hid CN
      have t2 : ((n : Int) == 0) = false := bneI.2 (by omega)
      have q1 : IntKind.i64.wrap ((j : Int) + (n : Int)) = (j : Int) + (n : Int) := i64n _ (by omega)
      clear ho hb hr CN hd
      go_wp2_with fail
      refine HCN.out.mono ?_
      rintro e w1 ⟨rfl, hb1⟩
      have HO1 := hid (aown_ext HO.out (fun g hg => hb1.block g (HO.out.lt g hg).2) (Nat.le_refl _))
      have HB1 := hid (xT HB.out hb1)
      clear hb1
      go_wp2_with (at_builtin; refine wpList_app1 w1 _ _ rfl _ _ 144 rfl w.heap.size elInt _ _ _ rfl HO1.out rfl rfl ?c1 ?c2 ?c3 ?c4 ?_)
      case c1 => first | rfl | (intro u hu; simp at hu; subst hu; rfl)
      case c2 => simp [maxLen]; omega
      case c3 => omega
      case c4 => exact HB1.out.size
      intro v2 w2 ho2 hg2
      have R' : CsRel B R w v2 (.int .i64 (j + n)) w2 := by
       refine ⟨j + n, acc ++ [ch], by go_num, hz.2, by simp; omega, ?_, ?_, HRR.out⟩
       · simpa [intsV] using ho2
       · exact (ext_alloc HB1.out _).grown hg2 (ext_alloc HB1.out _).size (fun m hm => (HO1.out.lt m hm).1)
      have HRL := hid R'
      clear R' ho2 hg2
      go_wp2
      refine ⟨?_, by simp [intOf] <;> omega⟩
      first | exact HRL.out | ((repeat apply Exists.intro); exact ⟨HRL.out, rfl⟩)
  · obtain ⟨t1, t1'⟩ := ltF j B.size hlt
    rw [charsS_end hlt] at hr
    have HRR := hid hr.symm
    clear ho hb hr hlt
    go_wp2
    go_ret2
    rw [HRR.out]
    exact ⟨HB.out, _, rfl, HO.out⟩
end Go.Proofs.YtbeodjipdpcaiaaGreatDoor
namespace Go.Proofs.YtbeodjipdpcaiaaGreatDoor
open Go.RowKit
theorem quiet_ldRow {P : Program} {C : World → Prop} {a : Act} {o : Oper} {K : Act → Prop} (t : TypeId) (p : Addr) (v : Value) (hl : ∀ w, C w → (loadVar t p).run P w = .ok v w) (x : Operand) (h : o.op = .load t x) (hx : a.eval x = .pointer (some p)) (hk : K (a.put o.dst v)) : o.quiet P a C K :=
 ⟨v, fun w hw => by
  unfold Oper.quietAt
  rw [show (execOp a.eval o).run P w = .ok (.value v) w from by simp [execOp, h, hx, Instr.loadAt, Instr.sureAddr, hl w hw, Result.andThen]]
  exact ⟨rfl, rfl⟩, hk⟩
end Go.Proofs.YtbeodjipdpcaiaaGreatDoor
namespace Go.Proofs.YtbeodjipdpcaiaaGreatDoor
open Go.RowKit
theorem text_host {k : Nat} {t : List Nat} (hk : HostOk k t) : (textH k t).length ≤ 1002 ∧ ByteL (textH k t) := by
 have hl := canon_len (canon_back hk)
 refine ⟨?_, ?_⟩
 · unfold textH
   split
   · simp only [List.length_append, List.length_cons, List.length_nil]; omega
   · omega
 · intro c hc
   unfold textH at hc
   split at hc
   · simp only [List.cons_append, List.mem_cons, List.mem_append, List.not_mem_nil, or_false] at hc
     rcases hc with rfl | hc | rfl
     · decide
     · exact hl.2 c hc
     · decide
   · exact hl.2 c hc
end Go.Proofs.YtbeodjipdpcaiaaGreatDoor
namespace Go.Proofs.YtbeodjipdpcaiaaGreatDoor
open Go.RowKit
theorem lastP_free {a b : List Nat} (hb : ∀ c ∈ b, c ≠ 46) : ((splitN 46 (a ++ 46 :: b)).getLast?).getD [] = b := by
 rw [splitN_append, List.getLast?_append, splitN_none hb]; rfl
theorem lastP_all {b : List Nat} (hb : ∀ c ∈ b, c ≠ 46) : ((splitN 46 b).getLast?).getD [] = b := by
 rw [splitN_none hb]; rfl
theorem lastP_at {t : List Nat} {j : Nat} (hj : j ≤ t.length) (hn : ∀ c ∈ t.drop j, c ≠ 46) (h : j = 0 ∨ ∃ i, j = i + 1 ∧ t[i]? = some 46) : ((splitN 46 t).getLast?).getD [] = t.drop j := by
 rcases h with rfl | ⟨i, rfl, hi⟩
 · rw [List.drop_zero] at hn ⊢; exact lastP_all hn
 · have e : t = t.take i ++ 46 :: t.drop (i + 1) := by
     obtain ⟨hi1, hi2⟩ := List.getElem?_eq_some_iff.1 hi
     have h1 := List.take_append_drop i t
     rw [List.drop_eq_getElem_cons hi1, hi2] at h1
     exact h1.symm
   have h2 := lastP_free (a := t.take i) hn
   rw [← e] at h2
   exact h2
theorem hexD_has (c : Nat) (hc : c < 256) : hexD c = ([48, 49, 50, 51, 52, 53, 54, 55, 56, 57, 97, 98, 99, 100, 101, 102, 65, 66, 67, 68, 69, 70] : List Nat).contains c := by
 have key : ∀ i : Fin 256, hexD i.val = ([48, 49, 50, 51, 52, 53, 54, 55, 56, 57, 97, 98, 99, 100, 101, 102, 65, 66, 67, 68, 69, 70] : List Nat).contains i.val := by decide +kernel
 exact key ⟨c, hc⟩
theorem decD_has (c : Nat) (hc : c < 256) : decD c = ([48, 49, 50, 51, 52, 53, 54, 55, 56, 57] : List Nat).contains c := by
 have key : ∀ i : Fin 256, decD i.val = ([48, 49, 50, 51, 52, 53, 54, 55, 56, 57] : List Nat).contains i.val := by decide +kernel
 exact key ⟨c, hc⟩
theorem octD_has (c : Nat) (hc : c < 256) : octD c = ([48, 49, 50, 51, 52, 53, 54, 55] : List Nat).contains c := by
 have key : ∀ i : Fin 256, octD i.val = ([48, 49, 50, 51, 52, 53, 54, 55] : List Nat).contains i.val := by decide +kernel
 exact key ⟨c, hc⟩
theorem all_has {p : Nat → Bool} {l : List Nat} (h : ∀ c, c < 256 → p c = l.contains c) (s : ByteArray) : ((bytesN s).all fun c => l.contains c) = (bytesN s).all p := by
 rw [Bool.eq_iff_iff, List.all_eq_true, List.all_eq_true]
 constructor
 · intro k c hc; rw [h c (bytesN_lt s c hc)]; exact k c hc
 · intro k c hc; rw [← h c (bytesN_lt s c hc)]; exact k c hc
end Go.Proofs.YtbeodjipdpcaiaaGreatDoor
