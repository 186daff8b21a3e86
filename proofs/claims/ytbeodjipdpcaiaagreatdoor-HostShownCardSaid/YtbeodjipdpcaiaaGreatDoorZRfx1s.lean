
/- Rfx1, Rfx2 in one text (a claim holds at most 60 files). -/
import Derived.Test.YtbeodjipdpcaiaaGreatDoorZMoreS
import Derived.Test.YtbeodjipdpcaiaaGreatDoorZRfw8s
import Derived.Test.YtbeodjipdpcaiaaGreatDoorZLbw5s
import Derived.Test.YtbeodjipdpcaiaaGreatDoorZTxtWs
import Derived.Test.YtbeodjipdpcaiaaGreatDoorZLbwBs
import Derived.Test.YtbeodjipdpcaiaaGreatDoorZRfw1s
-- @auto
namespace Go.Proofs.YtbeodjipdpcaiaaGreatDoor
section
open Go.RowKit
def RtxRel (s : ByteArray) (w : World) (kv : Value) (wr : World) : Prop := ∃ j : Nat, kv = .int .i64 j ∧ j ≤ s.size ∧ (∀ i, i < j → lcN (byteAt s i) = true) ∧ wr = w
set_option maxRecDepth 100000 in
set_option maxHeartbeats 8000000 in
/-- ref10.Right -/
theorem rright10_any (s : ByteArray) (w : World) (hs : s.size ≤ 1000000) : Calls Tryz.prog 60 #[.string s] w fun e w' => e = .returned (.tuple #[.int .i64 ((rightL (bytesN s)).1 : Nat), .int .i64 ((rightL (bytesN s)).2 : Nat)]) ∧ Below w.heap.size w w' := by
  obtain ⟨R, hR⟩ : ∃ R, rightL (bytesN s) = R := ⟨_, rfl⟩
  rw [hR]
  obtain ⟨Q, hQ⟩ : ∃ Q : Ending → World → Prop, (fun e w' => e = .returned (.tuple #[.int .i64 (R.1 : Nat), .int .i64 (R.2 : Nat)]) ∧ Below w.heap.size w w') = Q := ⟨_, rfl⟩
  have HF : Hid (∀ (a b : Nat) W, R = (a, b) → Below w.heap.size w W → Q (.returned (.tuple #[.int .i64 (a : Nat), .int .i64 (b : Nat)])) W) := Lib.hid (fun a b W h hb => by rw [← hQ, h]; exact ⟨rfl, hb⟩)
  rw [hQ]
  clear hQ
  by_cases h0 : 0 < s.size
  · have t0 : ((s.size : Int) == 0) = false := beq_eq_false_iff_ne.2 (by omega)
    have t0' : (s.size = 0) = False := eq_false (by omega)
    by_cases h63 : 63 < s.size
    · have t1 : decide ((63 : Int) < (s.size : Int)) = true := decide_eq_true (by omega)
      have HFF := Lib.hid (HF.out 14 63 w (by
        rw [← hR]; unfold rightL
        rw [if_neg (fun e => by have := bytesN_len s; rw [e] at this; simp at this; omega), if_pos (by rw [bytesN_len]; exact h63)]) (Below.refl _ _))
      clear hR h0 h63 hs
      go_enter Tryz.func60, Tryz.ntmps60
      go_wp2
      exact HFF.out
    · have t1 : decide ((63 : Int) < (s.size : Int)) = false := decide_eq_false (by omega)
      have HR := Lib.hid hR
      clear hR
      go_enter Tryz.func60, Tryz.ntmps60
      go_wp2_with fail
      clear t1
      go_loopw [4] (RtxRel s w) (fun k _ => s.size - (intOf k).toNat)
      case atStart => exact ⟨0, rfl, Nat.zero_le _, fun i hi => by omega, rfl⟩
      case round =>
        obtain ⟨j, rfl, hj, hok, hwr⟩ := hrel
        subst hwr
        have HOK := Lib.hid hok
        clear hok
        by_cases hlt : j < s.size
        · have t1 : decide ((j : Int) < (s.size : Int)) = true := decide_eq_true (by omega)
          have t1' : decide (j < s.size) = true := decide_eq_true hlt
          have q1 : IntKind.i64.wrap ((j : Int) + 1) = (j : Int) + 1 := IntWalk.i64_in _ (by omega)
          have hgb := byteAt_get s j hlt
          have hx256 := byteAt_lt s j
          obtain ⟨x, hx⟩ : ∃ x, byteAt s j = x := ⟨_, rfl⟩
          rw [hx] at hgb hx256
          have hgx := hgb.symm
          have qx : IntKind.i64.wrap (x : Int) = (x : Int) := IntWalk.i64_in _ (by omega)
          have SM := Lib.hid (rsmall_any x wr)
          have HXX := Lib.hid hx
          clear hx hgb
          cases hl : lcN x with
          | true =>
            rw [hl] at SM
            have HRL : Hid (RtxRel s wr (.int .i64 ((j : Int) + 1)) wr) := Lib.hid ⟨j + 1, by go_num, hlt, fun i hi => by
              by_cases e : i = j
              · subst e; rw [HXX.out]; exact hl
              · exact HOK.out i (by omega), rfl⟩
            clear hl
            go_wp2_with fail
            refine SM.out.mono ?_
            rintro e w3 ⟨rfl, hw3⟩
            have hw3' := hw3.symm
            subst hw3'
            clear hw3
            go_wp2
            refine ⟨?_, by simp [intOf] <;> omega⟩
            have R1 := HRL.out
            first | exact R1 | ((repeat apply Exists.intro); exact ⟨R1, rfl⟩)
          | false =>
            rw [hl] at SM
            have HFF := Lib.hid (HF.out 11 j wr (HR.out.symm.trans (right_find hlt (by omega) (by rw [HXX.out]; exact hl) HOK.out)) (Below.refl _ _))
            clear hl
            go_wp2_with fail
            refine SM.out.mono ?_
            rintro e w3 ⟨rfl, hw3⟩
            have hw3' := hw3.symm
            subst hw3'
            clear hw3
            go_wp2
            exact HFF.out
        · have t1 : decide ((j : Int) < (s.size : Int)) = false := decide_eq_false (by omega)
          have t1' : decide (j < s.size) = false := decide_eq_false hlt
          have hrr := right_fin h0 (by omega) (fun i hi => HOK.out i (by omega))
          rw [HR.out] at hrr
          have hg0 : (s[0]'h0).toNat = byteAt s 0 := (byteAt_get s 0 h0).symm
          obtain ⟨m, hm⟩ : ∃ m, s.size - 1 = m := ⟨_, rfl⟩
          have hml : m < s.size := by omega
          have hg1 : (s[m]'hml).toNat = byteAt s m := (byteAt_get s m hml).symm
          have q1 : IntKind.i64.wrap ((s.size : Int) - 1) = (m : Int) := by rw [show (s.size : Int) - 1 = (m : Int) by omega]; exact IntWalk.i64_in _ (by omega)
          rw [hm] at hrr
          obtain ⟨x0, hx0⟩ : ∃ x, byteAt s 0 = x := ⟨_, rfl⟩
          obtain ⟨x1, hx1⟩ : ∃ x, byteAt s m = x := ⟨_, rfl⟩
          rw [hx0] at hg0 hrr
          rw [hx1] at hg1 hrr
          have CO := Lib.hid (rcoded_any s wr hs)
          have tm0 : decide (0 < s.size) = true := decide_eq_true h0
          have tm1 : decide (m < s.size) = true := decide_eq_true hml
          clear hx0 hx1 hm hlt
          by_cases h45 : x0 = 45
          · have t2 : ((x0 : Int) == 45) = true := by rw [h45]; rfl
            have HFF := Lib.hid (HF.out 24 0 wr (by rw [hrr, h45]; rfl) (Below.refl _ _))
            clear hrr
            subst h45
            go_wp2
            exact HFF.out
          · have t2 : ((x0 : Int) == 45) = false := by simp; omega
            have t2' : (x0 = 45) = False := by simp [h45]
            rw [decide_eq_true h45, Bool.true_and] at hrr
            by_cases h46 : x1 = 45
            · have t3 : ((x1 : Int) == 45) = true := by rw [h46]; rfl
              have HFF := Lib.hid (HF.out 24 0 wr (by rw [hrr, h46]; rfl) (Below.refl _ _))
              clear hrr h45
              subst h46
              go_wp2
              exact HFF.out
            · have t3 : ((x1 : Int) == 45) = false := by simp; omega
              have t3' : (x1 = 45) = False := by simp [h46]
              rw [decide_eq_true h46, Bool.true_and] at hrr
              have gt : ∀ i, i < s.size → (bytesN s)[i]?.getD 0 = byteAt s i := fun i hi => by rw [bytesN_get hi]; rfl
              have hcase : (codedN (bytesN s) = false ∧ decide ((4 : Int) ≤ (s.size : Int)) = false) ∨ ∃ (y2 y3 : Nat) (e2 : 2 < s.size) (e3 : 3 < s.size), decide ((4 : Int) ≤ (s.size : Int)) = true ∧ (s[2]'e2).toNat = y2 ∧ (s[3]'e3).toNat = y3 ∧ codedN (bytesN s) = (decide (y2 = 45) && decide (y3 = 45)) := by
                by_cases h4 : 4 ≤ s.size
                · refine .inr ⟨byteAt s 2, byteAt s 3, by omega, by omega, decide_eq_true (by omega), (byteAt_get s 2 (by omega)).symm, (byteAt_get s 3 (by omega)).symm, ?_⟩
                  unfold codedN
                  rw [gt 2 (by omega), gt 3 (by omega), bytesN_len]
                  simp [h4, Bool.decide_and]
                · refine .inl ⟨?_, decide_eq_false (by omega)⟩
                  unfold codedN
                  rw [bytesN_len]
                  simp [h4]
              clear h45 h46 gt
              rcases hcase with ⟨hco, g1⟩ | ⟨y2, y3, e2, e3, g1, g2, g3, hco⟩
              · have HFF := Lib.hid (HF.out 0 0 wr (by rw [hrr, hco]; rfl) (Below.refl _ _))
                clear hrr hco
                go_wp2
                exact HFF.out
              · by_cases h2 : y2 = 45
                · by_cases h3 : y3 = 45
                  · rw [decide_eq_true h2, decide_eq_true h3] at hco
                    have t4 : ((y2 : Int) == 45) = true := by rw [h2]; rfl
                    have t5 : ((y3 : Int) == 45) = true := by rw [h3]; rfl
                    subst h2 h3
                    cases hde : decodeN (bytesN s) with
                    | none =>
                      rw [hde] at CO
                      have HFF := Lib.hid (fun W hb => HF.out 24 0 W (by rw [hrr, hco, hde]; rfl) hb)
                      clear hrr hco hde
                      go_wp2_with fail
                      refine CO.out.mono ?_
                      rintro e w3 ⟨hb, v, rfl⟩
                      have HB := Lib.hid hb
                      clear hb
                      go_wp2
                      exact HFF.out _ HB.out
                    | some cs =>
                      rw [hde] at CO
                      have HFF := Lib.hid (fun W hb => HF.out 0 0 W (by rw [hrr, hco, hde]; rfl) hb)
                      clear hrr hco hde
                      go_wp2_with fail
                      refine CO.out.mono ?_
                      rintro e w3 ⟨hb, v, hv, rfl⟩
                      have HB := Lib.hid hb
                      clear hb hv
                      go_wp2
                      exact HFF.out _ HB.out
                  · rw [decide_eq_false h3, Bool.and_false] at hco
                    have t4 : ((y2 : Int) == 45) = true := by rw [h2]; rfl
                    have t5 : ((y3 : Int) == 45) = false := by simp; omega
                    have t5' : (y3 = 45) = False := by simp [h3]
                    have HFF := Lib.hid (HF.out 0 0 wr (by rw [hrr, hco]; rfl) (Below.refl _ _))
                    clear hrr hco h3
                    subst h2
                    go_wp2
                    exact HFF.out
                · rw [decide_eq_false h2, Bool.false_and] at hco
                  have t4 : ((y2 : Int) == 45) = false := by simp; omega
                  have t4' : (y2 = 45) = False := by simp [h2]
                  have HFF := Lib.hid (HF.out 0 0 wr (by rw [hrr, hco]; rfl) (Below.refl _ _))
                  clear hrr hco h2
                  go_wp2
                  exact HFF.out
  · have t0 : ((s.size : Int) == 0) = true := beq_iff_eq.2 (by omega)
    have t0' : (s.size = 0) = True := eq_true (by omega)
    have HFF := Lib.hid (HF.out 10 0 w (by
      rw [← hR]
      obtain rfl := size_zero h0
      rfl) (Below.refl _ _))
    clear hR h0 hs
    go_enter Tryz.func60, Tryz.ntmps60
    go_wp2
    exact HFF.out
theorem shown_dec (t : List Nat) : shownL t = match decodeN t with
    | some cs => cs.flatMap putN
    | none => t := by
  unfold shownL
  cases h : decodeN t with
  | none => split <;> rfl
  | some cs =>
    have := (coded_xn h).1
    rw [if_pos (by rw [this]; unfold codedN xnL; simp)]
end
section
open Go.RowKit
set_option maxRecDepth 100000 in
set_option maxHeartbeats 4000000 in
/-- ref10.Shown -/
theorem rshown10_any (s : ByteArray) (w : World) (hs : s.size ≤ 1000000) : Calls Tryz.prog 61 #[.string s] w fun e w' => e = .returned (.string (bytesL (shownL (bytesN s)))) ∧ Below w.heap.size w w' := by
  have CO := Lib.hid (rcoded_any s w hs)
  rw [shown_dec]
  cases hde : decodeN (bytesN s) with
  | none =>
    rw [hde] at CO
    dsimp only
    rw [bytesL_bytesN]
    clear hde hs
    go_enter Tryz.func61, Tryz.ntmps61
    go_wp2_with fail
    refine CO.out.mono ?_
    rintro e w1 ⟨hb, v, rfl⟩
    have HB := Lib.hid hb
    clear hb
    go_wp2
    go_ret
    exact ⟨rfl, HB.out⟩
  | some cs =>
    rw [hde] at CO
    dsimp only
    have har : AllRight cs := fun c hc => ok_right (List.all_eq_true.1 (coded_xn hde).2.1 c hc)
    have hcl : cs.length ≤ 1000000 := by
      have h1 := encL_len cs
      have h2 := congrArg List.length (coded_xn hde).1
      rw [List.length_append, bytesN_len] at h2
      omega
    have TX := Lib.hid (fun v W (h : Rd (Own W) W v (intsD cs)) => rtext_any v cs W h har hcl)
    obtain ⟨S, hS⟩ : ∃ S, strOf cs = S := ⟨_, rfl⟩
    have HS := Lib.hid hS
    rw [← strOf_bytesL, hS]
    clear hde hs har hcl hS
    go_enter Tryz.func61, Tryz.ntmps61
    go_wp2_with fail
    refine CO.out.mono ?_
    rintro e w1 ⟨hb, v, hv, rfl⟩
    have HB := Lib.hid hb
    have TX1 := Lib.hid (TX.out v w1 hv)
    clear hb hv
    go_wp2_with fail
    refine TX1.out.mono ?_
    rintro e w4 ⟨o, rfl, ho, hb4⟩
    have HB4 := Lib.hid (ext_trans HB.out hb4)
    have CV := conv_rd ho
    rw [HS.out] at CV
    clear hb4 ho
    go_wp2
    go_ret
    exact ⟨rfl, HB4.out⟩
theorem joinN_snoc (m : Nat) (p : List Nat) : ∀ l : List (List Nat), l ≠ [] → joinN m (l ++ [p]) = joinN m l ++ [m] ++ p
  | [], h => absurd rfl h
  | [a], _ => by simp [joinN]
  | a :: b :: l, _ => by
    have ih := joinN_snoc m p (b :: l) (by simp)
    rw [show a :: b :: l ++ [p] = a :: b :: (l ++ [p]) from rfl, joinN, show b :: (l ++ [p]) = b :: l ++ [p] from rfl, ih, joinN]
    simp
def RhRel (ps : List (List Nat)) (w : World) (ov kv : Value) (wr : World) : Prop := ∃ j : Nat, kv = .int .i64 j ∧ j ≤ ps.length ∧ ov = .string (bytesL (joinN 46 ((ps.take j).map shownP))) ∧ Below w.heap.size w wr
theorem rightL_ne {p : List Nat} (h : ¬ rightL p = (0, 0)) : (rightL p).1 ≠ 0 := fun e => h (by
  have e2 : rightL p = (0, (rightL p).2) := by rw [← e]
  have := (rightL_zero e2).2.2.2.2.2
  rw [e2, this])
set_option maxRecDepth 100000 in
set_option maxHeartbeats 8000000 in
theorem rshown13_name (t : ByteArray) (w : World) (ht : t.size ≤ 10000) : Calls Tryz.prog 22 #[.agg #[.int .i64 1, .string t]] w fun e w' => e = .returned (.string (bytesL (joinN 46 ((splitN 46 (bytesN t)).map shownP)))) ∧ Below w.heap.size w w' := by
  have FD := fun W => rfields_any t 46 1000000 W (by omega) (by decide) (by decide) (by decide)
  obtain ⟨ps, hps⟩ : ∃ ps, splitN 46 (bytesN t) = ps := ⟨_, rfl⟩
  have hcount : ps.length ≤ 10001 := by rw [← hps]; have := splitN_count 46 (bytesN t); rw [bytesN_len] at this; omega
  have hfl : fieldsL 46 1000000 (bytesN t) = .ok ps := by
    unfold fieldsL
    rw [(fldF_ok 46 1000000 (bytesN t) 0 [] [] (by simp)).1, List.nil_append, hps, if_pos (by simp; omega), List.nil_append]
  have hpl : ∀ p ∈ ps, p.length ≤ 10000 ∧ ByteL p := fun p hp => by
    rw [← hps] at hp
    refine ⟨?_, (bytesN_lt t).sub (fun c hc => (splitN_free 46 _ p hp c hc).2)⟩
    have := mem_join_len (m := 46) hp
    rw [joinN_split, bytesN_len] at this
    omega
  rw [hfl] at FD
  rw [hps]
  have hJ : ∀ j, j ≤ ps.length → (joinN 46 ((ps.take j).map shownP)).length ≤ 1000000000 := fun j hj => by
    have := join_small 46 10000 (ps := (ps.take j).map shownP) (fun q hq => by
      obtain ⟨p, hp, rfl⟩ := List.mem_map.1 hq
      exact shownP_len p 10000 (hpl p (List.mem_of_mem_take hp)).1 (by decide))
    rw [List.length_map, List.length_take] at this
    have h2 : 10001 * (min j ps.length) ≤ 10001 * 10001 := Nat.mul_le_mul_left _ (by omega)
    omega
  have HPL := Lib.hid hpl; have HJ := Lib.hid hJ
  have HSL : Hid (∀ p ∈ ps, (shownP p).length ≤ 10000) := Lib.hid (fun p hp => shownP_len p 10000 (hpl p hp).1 (by decide))
  obtain ⟨W1, hW1⟩ : ∃ W, w.alloc (.cells #[.int .i64 1, .string t] 24) = W := ⟨_, rfl⟩
  have HB1 : Hid (Below w.heap.size w W1) := Lib.hid (by rw [← hW1]; exact ext_alloc (Below.refl _ _) _)
  have hx1 : W1.heap[w.heap.size]? = some (.cells #[.int .i64 1, .string t] 24 (0, 0)) := by rw [← hW1]; exact heap_alloc_new w _
  have c0 : W1.cell? ⟨w.heap.size, 0, none⟩ = some (.int .i64 1) := by rw [cell_of_row _ _ _ _ _ _ hx1]; rfl
  have c1 : W1.cell? ⟨w.heap.size, 1, none⟩ = some (.string t) := by rw [cell_of_row _ _ _ _ _ _ hx1]; rfl
  have FD1 := Lib.hid (FD W1)
  obtain ⟨n0, hn0⟩ : ∃ n, ps.length = n := ⟨_, rfl⟩
  rw [hn0] at hcount
  have HN := Lib.hid hn0
  obtain ⟨F, hF⟩ : ∃ F, bytesL (joinN 46 (ps.map shownP)) = F := ⟨_, rfl⟩
  have HF := Lib.hid hF
  rw [hF]
  clear hps hpl FD hx1 hn0 hfl hJ hF
  go_enter Tryz.func22, Tryz.ntmps22
  go_wp2_with fail
  refine FD1.out.mono ?_
  rintro e w1 ⟨hb1, v, rfl, ho⟩
  obtain ⟨ao, cap, rfl, hao⟩ := aown_form ho
  have HO := Lib.hid ho
  have HB2 := Lib.hid (ext_trans HB1.out hb1)
  have HC : Hid (∀ j p, ps[j]? = some p → ∃ g, ao = some ⟨g, 0, none⟩ ∧ g < w1.heap.size ∧ w1.cell? ⟨g, j, none⟩ = some (.string (bytesL p))) := Lib.hid (fun j p hj => by
    have hjl := (List.getElem?_eq_some_iff.1 hj).1
    rcases hao with ⟨h0, _⟩ | ⟨g, rfl, _, hgl⟩
    · omega
    · refine ⟨g, rfl, hgl, ?_⟩
      rw [HO.out.cellAt j (by simpa using hjl)]
      unfold strV
      rw [List.getElem?_map, List.getElem?_map, hj]; rfl)
  have HR1 : Hid (RhRel ps w1 (.string ⟨#[]⟩) (.int .i64 0) w1) := Lib.hid ⟨0, rfl, Nat.zero_le _, rfl, Below.refl _ _⟩
  rw [HN.out]
  clear ho hao hb1 c0 c1 hW1
  go_wp2_with fail
  go_loopw [6, 7] (RhRel ps w1) (fun _ k _ => n0 - (intOf k).toNat)
  case atStart => exact HR1.out
  case round =>
    obtain ⟨j, rfl, hj, rfl, hb⟩ := hrel
    rw [HN.out] at hj
    have HB := Lib.hid hb
    have hJj := HJ.out j (by rw [HN.out]; exact hj)
    clear hb
    obtain ⟨O, hO⟩ : ∃ O, bytesL (joinN 46 ((ps.take j).map shownP)) = O := ⟨_, rfl⟩
    have hOz : O.size ≤ 1000000000 := by rw [← hO, bytesL_size]; exact hJj
    have HOO := Lib.hid hO
    rw [hO]
    clear hO hJj
    by_cases hlt : j < n0
    · have t1 : decide ((j : Int) < (n0 : Int)) = true := decide_eq_true (by omega)
      have t1' : decide (j < n0) = true := decide_eq_true hlt
      have q1 : IntKind.i64.wrap ((j : Int) + 1) = (j : Int) + 1 := IntWalk.i64_in _ (by omega)
      obtain ⟨p, hp⟩ := get_ex ps j (by rw [HN.out]; exact hlt)
      have hpm := List.mem_of_getElem? hp
      have hpl := HPL.out p hpm
      have hsl := HSL.out p hpm
      obtain ⟨g, rfl, hgl, hc⟩ := HC.out j p hp
      have c0 : wr.cell? ⟨g, j, none⟩ = some (.string (bytesL p)) := (bcell1 HB.out hgl _).trans hc
      have hbp : bytesN (bytesL p) = p := bytesN_bytesL hpl.2
      have RT := rright10_any (bytesL p) wr (by rw [bytesL_size]; omega)
      have SH := fun W => rshown10_any (bytesL p) W (by rw [bytesL_size]; omega)
      rw [hbp] at RT SH
      obtain ⟨Z, hZ⟩ : ∃ Z, bytesL (shownP p) = Z := ⟨_, rfl⟩
      have hZz : Z.size ≤ 10000 := by rw [← hZ, bytesL_size]; exact hsl
      have HST : Hid (∀ W, Below w1.heap.size w1 W → RhRel ps w1 (.string (if 0 < j then O ++ ⟨#[46]⟩ ++ Z else O ++ Z)) (.int .i64 ((j : Int) + 1)) W) := Lib.hid (fun W hW => by
        refine ⟨j + 1, by go_num, by rw [HN.out]; exact hlt, ?_, hW⟩
        congr 1
        rw [List.take_add_one, hp, Option.toList_some, List.map_append, List.map_singleton]
        by_cases hj0 : 0 < j
        · have hne : (ps.take j).map shownP ≠ [] := fun e => by
            have := congrArg List.length e
            rw [List.length_map, List.length_take, HN.out] at this
            simp at this; omega
          rw [if_pos hj0, joinN_snoc 46 _ _ hne, bytesL_append, bytesL_append, HOO.out, hZ]; rfl
        · obtain rfl : j = 0 := by omega
          rw [if_neg hj0]
          have h0 := HOO.out
          rw [List.take_zero, List.map_nil, joinN] at h0
          rw [List.take_zero, List.map_nil, List.nil_append, joinN, ← h0, ← hZ, ← bytesL_append, List.nil_append])
      obtain ⟨B, hB⟩ : ∃ B, bytesL p = B := ⟨_, rfl⟩
      rw [hB] at RT SH c0
      have hBz : B.size ≤ 10000 := by rw [← hB, bytesL_size]; exact hpl.1
      have RT := Lib.hid RT; have SH := Lib.hid SH
      have HLT := Lib.hid hlt
      by_cases hz : rightL p = (0, 0)
      · have hsp : shownP p = shownL p := by unfold shownP; rw [if_pos hz]
        rw [hz] at RT
        rw [← hsp, hZ] at SH
        by_cases hj0 : 0 < j
        · have t2 : decide ((0 : Int) < (j : Int)) = true := decide_eq_true (by omega)
          have t2' : decide (0 < j) = true := decide_eq_true hj0
          have HS2 := Lib.hid (fun W h => HST.out W h)
          rw [if_pos hj0] at HS2
          clear HST hp hpm hpl hsl hc hbp hZ hB hz hsp hlt
          go_wp2_with fail
          refine RT.out.mono ?_
          rintro e w2 ⟨rfl, hb2⟩
          have HB3 := Lib.hid (ext_trans HB.out hb2)
          have c2 : w2.cell? ⟨g, j, none⟩ = some (.string B) := (bcell1 hb2 (Nat.lt_of_lt_of_le hgl HB.out.size) _).trans c0
          clear hb2 c0
          go_wp2_with fail
          refine (SH.out _).mono ?_
          rintro e w3 ⟨rfl, hb3⟩
          have HRL := Lib.hid (HS2.out _ (ext_trans HB3.out hb3))
          clear hb3
          go_wp2
          refine ⟨?_, by have := HLT.out; simp [intOf]; omega⟩
          have R1 := HRL.out
          first | exact R1 | ((repeat apply Exists.intro); exact ⟨R1, rfl⟩)
        · have t2 : decide ((0 : Int) < (j : Int)) = false := decide_eq_false (by omega)
          have t2' : decide (0 < j) = false := decide_eq_false hj0
          have HS2 := Lib.hid (fun W h => HST.out W h)
          rw [if_neg hj0] at HS2
          clear HST hp hpm hpl hsl hc hbp hZ hB hz hsp hlt
          go_wp2_with fail
          refine RT.out.mono ?_
          rintro e w2 ⟨rfl, hb2⟩
          have HB3 := Lib.hid (ext_trans HB.out hb2)
          have c2 : w2.cell? ⟨g, j, none⟩ = some (.string B) := (bcell1 hb2 (Nat.lt_of_lt_of_le hgl HB.out.size) _).trans c0
          clear hb2 c0
          go_wp2_with fail
          refine (SH.out _).mono ?_
          rintro e w3 ⟨rfl, hb3⟩
          have HRL := Lib.hid (HS2.out _ (ext_trans HB3.out hb3))
          clear hb3
          go_wp2
          refine ⟨?_, by have := HLT.out; simp [intOf]; omega⟩
          have R1 := HRL.out
          first | exact R1 | ((repeat apply Exists.intro); exact ⟨R1, rfl⟩)
      · have hsp : shownP p = p := by unfold shownP; rw [if_neg hz]
        have hZB : B = Z := by rw [← hB, ← hZ, hsp]
        subst hZB
        have hrn := rightL_ne hz
        obtain ⟨r, hr⟩ : ∃ r, rightL p = r := ⟨_, rfl⟩
        rw [hr] at RT hrn
        obtain ⟨ra, rb⟩ := r
        dsimp only at hrn
        have t3 : ((ra : Int) == 0) = false := beq_eq_false_iff_ne.2 (by omega)
        have t3' : (ra = 0) = False := eq_false hrn
        by_cases hj0 : 0 < j
        · have t2 : decide ((0 : Int) < (j : Int)) = true := decide_eq_true (by omega)
          have t2' : decide (0 < j) = true := decide_eq_true hj0
          have HS2 := Lib.hid (fun W h => HST.out W h)
          rw [if_pos hj0] at HS2
          clear HST hp hpm hpl hsl hc hbp hZ hB hz hsp hlt hr hrn
          go_wp2_with fail
          refine RT.out.mono ?_
          rintro e w2 ⟨rfl, hb2⟩
          have HRL := Lib.hid (HS2.out _ (ext_trans HB.out hb2))
          have c2 : w2.cell? ⟨g, j, none⟩ = some (.string B) := (bcell1 hb2 (Nat.lt_of_lt_of_le hgl HB.out.size) _).trans c0
          clear hb2 c0
          go_wp2
          refine ⟨?_, by have := HLT.out; simp [intOf]; omega⟩
          have R1 := HRL.out
          first | exact R1 | ((repeat apply Exists.intro); exact ⟨R1, rfl⟩)
        · have t2 : decide ((0 : Int) < (j : Int)) = false := decide_eq_false (by omega)
          have t2' : decide (0 < j) = false := decide_eq_false hj0
          have HS2 := Lib.hid (fun W h => HST.out W h)
          rw [if_neg hj0] at HS2
          clear HST hp hpm hpl hsl hc hbp hZ hB hz hsp hlt hr hrn
          go_wp2_with fail
          refine RT.out.mono ?_
          rintro e w2 ⟨rfl, hb2⟩
          have HRL := Lib.hid (HS2.out _ (ext_trans HB.out hb2))
          have c2 : w2.cell? ⟨g, j, none⟩ = some (.string B) := (bcell1 hb2 (Nat.lt_of_lt_of_le hgl HB.out.size) _).trans c0
          clear hb2 c0
          go_wp2
          refine ⟨?_, by have := HLT.out; simp [intOf]; omega⟩
          have R1 := HRL.out
          first | exact R1 | ((repeat apply Exists.intro); exact ⟨R1, rfl⟩)
    · have t1 : decide ((j : Int) < (n0 : Int)) = false := decide_eq_false (by omega)
      have t1' : decide (j < n0) = false := decide_eq_false hlt
      have HOF : Hid (O = F) := Lib.hid (by rw [← HOO.out, ← HF.out, List.take_of_length_le (by rw [HN.out]; omega)])
      have HBB := Lib.hid (ext_trans HB2.out HB.out)
      clear hlt hj
      go_wp2
      go_ret
      exact ⟨by rw [← HOF.out]; rfl, HBB.out⟩
set_option maxRecDepth 100000 in
set_option maxHeartbeats 4000000 in
theorem rshown13_other (k : Int) (t : ByteArray) (w : World) (ht : t.size ≤ 10000) (hk : k ≠ 1) : Calls Tryz.prog 22 #[.agg #[.int .i64 k, .string t]] w fun e w' => e = .returned (.string (hostT k t)) ∧ Below w.heap.size w w' := by
  have t1 : (k == 1) = false := beq_eq_false_iff_ne.2 hk
  have HTX := Lib.hid (fun W => rtextOf_any k t W (by omega))
  obtain ⟨W1, hW1⟩ : ∃ W, w.alloc (.cells #[.int .i64 k, .string t] 24) = W := ⟨_, rfl⟩
  have HB1 : Hid (Below w.heap.size w W1) := Lib.hid (by rw [← hW1]; exact ext_alloc (Below.refl _ _) _)
  have hx1 : W1.heap[w.heap.size]? = some (.cells #[.int .i64 k, .string t] 24 (0, 0)) := by rw [← hW1]; exact heap_alloc_new w _
  have c0 : W1.cell? ⟨w.heap.size, 0, none⟩ = some (.int .i64 k) := by rw [cell_of_row _ _ _ _ _ _ hx1]; rfl
  have l1 : (loadVar 24 ⟨w.heap.size, 0, none⟩).run Tryz.prog W1 = .ok (.agg #[.int .i64 k, .string t]) W1 := ho_load k t _ W1 hx1
  obtain ⟨R, hR⟩ : ∃ R, hostT k t = R := ⟨_, rfl⟩
  rw [hR] at HTX ⊢
  clear hx1 hk hR
  go_enter Tryz.func22, Tryz.ntmps22
  go_wp2_with ((with_reducible show wpList _ _ _ (_ :: _) _ _); refine ld_arr 24 w.heap.size _ l1 _ rfl rfl rfl ?_)
  refine (HTX.out _).mono ?_
  rintro e w2 ⟨rfl, hb2⟩
  have HF := Lib.hid (ext_trans HB1.out hb2)
  clear hb2 c0 l1 hW1
  go_wp2
  go_ret
  exact ⟨rfl, HF.out⟩
/-- ref13.Shown -/
theorem rshown13_any (k : Int) (t : ByteArray) (w : World) (ht : t.size ≤ 10000) : Calls Tryz.prog 22 #[.agg #[.int .i64 k, .string t]] w fun e w' => e = .returned (.string (shownB k t)) ∧ Below w.heap.size w w' := by
  unfold shownB
  by_cases hk : k = 1
  · subst hk
    rw [if_pos rfl]
    exact rshown13_name t w ht
  · rw [if_neg hk]
    exact rshown13_other k t w ht hk
end
end Go.Proofs.YtbeodjipdpcaiaaGreatDoor
