
/- LbwB, Hsw6 in one text (a claim holds at most 60 files). -/
import Derived.Test.YtbeodjipdpcaiaaGreatDoorZMoreS
import Derived.Test.YtbeodjipdpcaiaaGreatDoorZLbw8s
import Derived.Test.YtbeodjipdpcaiaaGreatDoorZMx0s
import Derived.Test.YtbeodjipdpcaiaaGreatDoorZHsw1s
import Derived.Lib.SmallJoins
-- @auto
namespace Go.Proofs.YtbeodjipdpcaiaaGreatDoor
section
open Go.RowKit
def ShPost (w : World) (t : List Nat) (e : Ending) (w' : World) : Prop := Below w.heap.size w w' ∧ if rightL t = (0, 0) then e = .returned (.tuple #[.string (bytesL (shownL t)), .nilIface]) else ∃ u k p, e = .returned (.tuple #[.string ⟨#[]⟩, u]) ∧ Er w' u [(k, p)]
set_option maxRecDepth 100000 in
set_option maxHeartbeats 4000000 in
/-- label.Shown -/
theorem lshown_any (s : ByteArray) (w : World) (hs : s.size ≤ 1000000) (hA : AllowT w) : Calls Tryz.prog 57 #[.string s] w (ShPost w (bytesN s)) := by
  have RT := Lib.hid (lright_any s w hA)
  have CO := Lib.hid (fun W => coded_any s W hs)
  have DE := Lib.hid (fun W h => ldecode_any s W hs h)
  have HA := Lib.hid hA
  obtain ⟨Q, hQ⟩ : ∃ Q, ShPost w (bytesN s) = Q := ⟨_, rfl⟩
  rw [hQ]
  have HQ := Lib.hid hQ
  obtain ⟨k, p, hr⟩ : ∃ k p, rightL (bytesN s) = (k, p) := ⟨_, _, rfl⟩
  rw [hr] at RT
  have HR := Lib.hid hr
  clear hQ hA
  cases k with
  | succ k =>
    clear hr CO DE
    go_enter Tryz.func57, Tryz.ntmps57
    go_wp2_with fail
    refine RT.out.mono ?_
    rintro e w1 ⟨hb1, hp⟩
    rw [if_neg (Nat.succ_ne_zero k)] at hp
    obtain ⟨u, rfl, hE⟩ := hp
    obtain ⟨b, off, u2, rfl, _⟩ := fault_inv hE
    have HB := Lib.hid hb1; have HE := Lib.hid hE
    clear hE hb1
    go_wp2
    rw [← HQ.out]
    refine ⟨HB.out, ?_⟩
    rw [if_neg (by rw [HR.out]; intro e; cases e)]
    exact ⟨_, _, _, rfl, HE.out⟩
  | zero =>
    have hz := rightL_zero hr
    obtain rfl := hz.2.2.2.2.2
    have hyes : ∀ W T, Below w.heap.size w W → bytesL (shownL (bytesN s)) = T → Q (.returned (.tuple #[.string T, .nilIface])) W := fun W T hW hT => by
      rw [← HQ.out]
      refine ⟨hW, ?_⟩
      rw [if_pos HR.out, hT]
    have HY := Lib.hid hyes
    clear hyes
    cases hco : codedN (bytesN s) with
    | false =>
      rw [hco] at CO
      have HE := Lib.hid (show bytesL (shownL (bytesN s)) = s by unfold shownL; rw [if_neg (by rw [hco]; decide), bytesL_bytesN])
      clear hr hz hco DE
      go_enter Tryz.func57, Tryz.ntmps57
      go_wp2_with fail
      refine RT.out.mono ?_
      rintro e w1 ⟨hb1, rfl⟩
      have HB := Lib.hid hb1
      clear hb1
      go_wp2_with fail
      refine (CO.out _).mono ?_
      rintro e w2 ⟨rfl, hw2⟩
      have hw2' := hw2.symm
      subst hw2'
      clear hw2
      go_wp2
      exact HY.out _ _ HB.out HE.out
    | true =>
      rw [hco] at CO
      have hds := hz.2.2.2.2.1 hco
      cases hde : decodeN (bytesN s) with
      | none => rw [hde] at hds; cases hds
      | some cs =>
        rw [hde] at DE
        obtain ⟨hx1, hx2, _, _⟩ := coded_xn hde
        have har : AllRight cs := fun c hc => ok_right (List.all_eq_true.1 hx2 c hc)
        have hcl : cs.length ≤ 1000000 := by
          have h1 := encL_len cs
          have h2 := congrArg List.length hx1
          rw [List.length_append, bytesN_len] at h2
          omega
        have HE := Lib.hid (show bytesL (shownL (bytesN s)) = strOf cs by unfold shownL; rw [if_pos hco, hde]; rfl)
        have TX := Lib.hid (fun v W (h : Rd (Own W) W v (intsD cs)) => utext_any v cs W h har hcl)
        clear hr hz hco hds hde hx1 hx2 har hcl
        go_enter Tryz.func57, Tryz.ntmps57
        go_wp2_with fail
        refine RT.out.mono ?_
        rintro e w1 ⟨hb1, rfl⟩
        have HB := Lib.hid hb1
        have DE1 := Lib.hid (DE.out w1 (HA.out.ext hb1))
        clear hb1
        go_wp2_with fail
        refine (CO.out _).mono ?_
        rintro e w2 ⟨rfl, hw2⟩
        have hw2' := hw2.symm
        subst hw2'
        clear hw2
        go_wp2_with fail
        refine DE1.out.mono ?_
        rintro e w3 ⟨hb3, v, rfl, hv⟩
        have HB3 := Lib.hid (ext_trans HB.out hb3)
        have TX3 := Lib.hid (TX.out v w3 hv)
        clear hb3 hv
        go_wp2_with fail
        refine TX3.out.mono ?_
        rintro e w4 ⟨o, rfl, ho, hb4⟩
        have HB4 := Lib.hid (ext_trans HB3.out hb4)
        have CV := conv_rd ho
        clear hb4 ho
        go_wp2
        exact HY.out _ _ HB4.out HE.out
/-- label.Labels -/
theorem labels_any (s : ByteArray) (w : World) (hM : MaxT w) (hs : s.size ≤ 1000000) :
    Calls Tryz.prog 56 #[.string s] w fun e w' => ∃ v, e = .returned v ∧ w'.ownsRow w.heap.size 9 1 v (splitN 46 (bytesN s)).length (strV ((splitN 46 (bytesN s)).map bytesL)) ∧ Below w.heap.size w w' := by
  have K := splitP_any 46 s w hM hs
  rw [show (46 : UInt8).toNat = 46 from rfl] at K
  obtain ⟨ps, hps⟩ : ∃ ps, splitN 46 (bytesN s) = ps := ⟨_, rfl⟩
  rw [hps] at K ⊢
  have K := Lib.hid K
  clear hps
  go_enter Tryz.func56, Tryz.ntmps56
  go_wp2_with fail
  refine K.out.mono ?_
  rintro e w1 ⟨v, rfl, ho, hb⟩
  have HO := Lib.hid ho; have HB := Lib.hid hb
  clear ho hb
  go_wp2
  go_ret
  exact ⟨_, rfl, HO.out, HB.out⟩
end
section
open Go.RowKit
def shownB (k : Int) (t : ByteArray) : ByteArray := if k = 1 then bytesL (joinN 46 ((splitN 46 (bytesN t)).map shownP)) else hostT k t
theorem splitN_count (m : Nat) : ∀ l : List Nat, (splitN m l).length ≤ l.length + 1
  | [] => by simp [splitN]
  | c :: l => by
    have ih := splitN_count m l
    rw [splitN]
    by_cases h : c = m
    · rw [if_pos h]; simp; omega
    · rw [if_neg h]
      cases hs : splitN m l with
      | nil => simp
      | cons a r => rw [hs] at ih; simp at ih ⊢; omega
theorem shownP_len (p : List Nat) (n : Nat) (hp : p.length ≤ n) (hn : 1024 ≤ n) : (shownP p).length ≤ n := by
  unfold shownP
  split
  · unfold shownL
    split
    · split
      · rename_i cs hcs
        unfold decodeN at hcs
        split at hcs
        · split at hcs
          · rename_i r hr
            split at hcs
            · obtain rfl := Option.some.inj hcs
              have h1 := (pdecS_ok hr).2
              have h2 := (flat_le r).2
              omega
            · cases hcs
          · cases hcs
        · cases hcs
      · exact hp
    · exact hp
  · exact hp
def SwRel (ps : List (List Nat)) (w : World) (g cap : Nat) (kv : Value) (wr : World) : Prop := ∃ (j : Nat) (acc : List (List Nat)), kv = .int .i64 j ∧ j ≤ ps.length ∧ acc = (ps.take j).map shownP ∧ wr.ownsRow w.heap.size 9 1 (.slice (some ⟨g, 0, none⟩) ps.length cap) ps.length (strV ((acc ++ ps.drop j).map bytesL)) ∧ Below w.heap.size w wr
theorem take_shown {ps : List (List Nat)} {j : Nat} {p : List Nat} (hj : j < ps.length) (hp : ps[j] = p) : (ps.take j).map shownP ++ [shownP p] = (ps.take (j + 1)).map shownP := by
  rw [List.take_succ_eq_append_getElem hj, hp, List.map_append]; rfl
set_option maxRecDepth 100000 in
set_option maxHeartbeats 4000000 in
theorem hshown_other (k : Int) (t : ByteArray) (w : World) (ht : t.size ≤ 10000) (hk : k ≠ 1) : Calls Tryz.prog 21 #[.agg #[.int .i64 k, .string t]] w fun e w' => e = .returned (.string (hostT k t)) ∧ Below w.heap.size w w' := by
  have t1 : (k == 1) = false := beq_eq_false_iff_ne.2 hk
  have HTX := Lib.hid (fun W => htextOf_any k t W (by omega))
  obtain ⟨W1, hW1⟩ : ∃ W, w.alloc (.cells #[.int .i64 k, .string t] 24) = W := ⟨_, rfl⟩
  have HB1 : Hid (Below w.heap.size w W1) := Lib.hid (by rw [← hW1]; exact ext_alloc (Below.refl _ _) _)
  have hx1 : W1.heap[w.heap.size]? = some (.cells #[.int .i64 k, .string t] 24 (0, 0)) := by rw [← hW1]; exact heap_alloc_new w _
  have c0 : W1.cell? ⟨w.heap.size, 0, none⟩ = some (.int .i64 k) := by rw [cell_of_row _ _ _ _ _ _ hx1]; rfl
  have l1 : (loadVar 24 ⟨w.heap.size, 0, none⟩).run Tryz.prog W1 = .ok (.agg #[.int .i64 k, .string t]) W1 := ho_load k t _ W1 hx1
  obtain ⟨R, hR⟩ : ∃ R, hostT k t = R := ⟨_, rfl⟩
  rw [hR] at HTX ⊢
  clear hx1 hk hR
  go_enter Tryz.func21, Tryz.ntmps21
  go_wp2_with ((with_reducible show wpList _ _ _ (_ :: _) _ _); refine ld_arr 24 w.heap.size _ l1 _ rfl rfl rfl ?_)
  refine (HTX.out _).mono ?_
  rintro e w2 ⟨rfl, hb2⟩
  have HF := Lib.hid (ext_trans HB1.out hb2)
  clear hb2 c0 l1 hW1
  go_wp2
  go_ret
  exact ⟨rfl, HF.out⟩
set_option maxRecDepth 100000 in
set_option maxHeartbeats 8000000 in
theorem hshown_name (t : ByteArray) (w : World) (ht : t.size ≤ 10000) (hE : HEnv w) : Calls Tryz.prog 21 #[.agg #[.int .i64 1, .string t]] w fun e w' => e = .returned (.string (bytesL (joinN 46 ((splitN 46 (bytesN t)).map shownP)))) ∧ Below w.heap.size w w' := by
  have LB := fun W h => labels_any t W h (by omega)
  obtain ⟨ps, hps⟩ : ∃ ps, splitN 46 (bytesN t) = ps := ⟨_, rfl⟩
  have hcount : ps.length ≤ 10001 := by rw [← hps]; have := splitN_count 46 (bytesN t); rw [bytesN_len] at this; omega
  have hpos : 0 < ps.length := by rw [← hps]; exact List.length_pos_iff.2 (splitN_ne 46 _)
  have hpl : ∀ p ∈ ps, p.length ≤ 10000 ∧ ByteL p := fun p hp => by
    rw [← hps] at hp
    refine ⟨?_, (bytesN_lt t).sub (fun c hc => (splitN_free 46 _ p hp c hc).2)⟩
    have := mem_join_len (m := 46) hp
    rw [joinN_split, bytesN_len] at this
    omega
  rw [hps] at LB ⊢
  have hJ : (joinN 46 (ps.map shownP)).length ≤ 1000000000 := by
    have := join_small 46 10000 (ps := ps.map shownP) (fun q hq => by
      obtain ⟨p, hp, rfl⟩ := List.mem_map.1 hq
      exact shownP_len p 10000 (hpl p hp).1 (by decide))
    rw [List.length_map] at this
    have h2 : 10001 * ps.length ≤ 10001 * 10001 := Nat.mul_le_mul_left _ hcount
    omega
  have HPL := Lib.hid hpl
  have JN := Lib.hid (fun W v h => joinP_any 46 ⟨#[46]⟩ rfl W w.heap.size v (ps.map shownP) h (by rw [List.length_map]; omega) hJ)
  have HLB := Lib.hid LB; have HE := Lib.hid hE
  obtain ⟨W1, hW1⟩ : ∃ W, w.alloc (.cells #[.int .i64 1, .string t] 24) = W := ⟨_, rfl⟩
  have HB1 : Hid (Below w.heap.size w W1) := Lib.hid (by rw [← hW1]; exact ext_alloc (Below.refl _ _) _)
  have hx1 : W1.heap[w.heap.size]? = some (.cells #[.int .i64 1, .string t] 24 (0, 0)) := by rw [← hW1]; exact heap_alloc_new w _
  have c0 : W1.cell? ⟨w.heap.size, 0, none⟩ = some (.int .i64 1) := by rw [cell_of_row _ _ _ _ _ _ hx1]; rfl
  have c1 : W1.cell? ⟨w.heap.size, 1, none⟩ = some (.string t) := by rw [cell_of_row _ _ _ _ _ _ hx1]; rfl
  have LB1 := Lib.hid (HLB.out W1 (HE.out.max.ext HB1.out))
  obtain ⟨n0, hn0⟩ : ∃ n, ps.length = n := ⟨_, rfl⟩
  rw [hn0] at hcount hpos
  have HN := Lib.hid hn0
  clear hps hpl LB hJ hE hx1 hn0 HLB
  go_enter Tryz.func21, Tryz.ntmps21
  go_wp2_with fail
  refine LB1.out.mono ?_
  rintro e w1 ⟨v, rfl, ho, hb1⟩
  obtain ⟨ao, cap, rfl, hao⟩ := aown_form ho
  obtain ⟨g, rfl, hwg, hgl⟩ : ∃ g, ao = some ⟨g, 0, none⟩ ∧ W1.heap.size ≤ g ∧ g < w1.heap.size := by
    rcases hao with ⟨h0, _⟩ | h
    · rw [HN.out] at h0; omega
    · exact h
  have ho' := Go.Joins.ownsRow_le ho HB1.out.size
  have hbw := ext_trans HB1.out hb1
  have hwg' : w.heap.size ≤ g := Nat.le_trans HB1.out.size hwg
  have HR1 : Hid (SwRel ps w g cap (.int .i64 0) w1) := Lib.hid ⟨0, [], rfl, Nat.zero_le _, rfl, ho', hbw⟩
  rw [HN.out]
  clear ho hao ho' hbw hwg c0 c1 hW1
  go_wp2_with fail
  go_loopw [18] (SwRel ps w g cap) (fun k _ => n0 - (intOf k).toNat)
  case atStart => exact HR1.out
  case round =>
    obtain ⟨j, acc, rfl, hj, hacc, ho, hb⟩ := hrel
    rw [HN.out] at hj
    have HO := Lib.hid ho; have HB := Lib.hid hb; have HAC := Lib.hid hacc
    have HAL : Hid (acc.length = j) := Lib.hid (by rw [hacc, List.length_map, List.length_take, HN.out]; omega)
    have hglr : g < wr.heap.size := (ho.lt g rfl).2
    clear ho hb hacc
    by_cases hlt : j < n0
    · have t1 : decide ((j : Int) < (n0 : Int)) = true := decide_eq_true (by omega)
      have t1' : decide (j < n0) = true := decide_eq_true hlt
      have q1 : IntKind.i64.wrap ((j : Int) + 1) = (j : Int) + 1 := IntWalk.i64_in _ (by omega)
      have hjp : j < ps.length := by rw [HN.out]; exact hlt
      obtain ⟨p, hp⟩ : ∃ p, ps[j] = p := ⟨_, rfl⟩
      have hpm : p ∈ ps := by rw [← hp]; exact List.getElem_mem hjp
      have hpl := HPL.out p hpm
      have hdr : ps.drop j = p :: ps.drop (j + 1) := by rw [List.drop_eq_getElem_cons hjp, hp]
      have hts := take_shown hjp hp
      rw [← HAC.out] at hts
      have c0 : wr.cell? ⟨g, j, none⟩ = some (.string (bytesL p)) := by
        rw [HO.out.cellAt j (by simpa using hjp)]
        unfold strV
        rw [List.getElem?_map, List.getElem?_map, List.getElem?_append_right (by rw [HAL.out]; exact Nat.le_refl _), HAL.out, Nat.sub_self, hdr]
        rfl
      have hbp : bytesN (bytesL p) = p := bytesN_bytesL hpl.2
      have SH := lshown_any (bytesL p) wr (by rw [bytesL_size]; omega) (HE.out.allow.ext HB.out)
      rw [hbp] at SH
      have HFZ : Hid (wr.frozen? ⟨g, j, none⟩ = false) := Lib.hid (HO.out.frozenAt j)
      have HST := Lib.hid (fun t (W : World) (h : W.ownsRow w.heap.size 9 1 (.slice (some ⟨g, 0, none⟩) ps.length cap) ps.length (strV ((acc ++ ps.drop j).map bytesL))) hb => LnRel.step (t := t) hjp HAL.out h hb)
      obtain ⟨B, hB⟩ : ∃ B, bytesL p = B := ⟨_, rfl⟩
      rw [hB] at SH c0
      have SH := Lib.hid SH
      by_cases hz : rightL p = (0, 0)
      · have hsp : shownP p = shownL p := by unfold shownP; rw [if_pos hz]
        rw [hsp] at hts
        have HTS := Lib.hid hts
        have SH2 : Hid (Calls Tryz.prog 57 #[.string B] wr fun e w' => Below wr.heap.size wr w' ∧ e = .returned (.tuple #[.string (bytesL (shownL p)), .nilIface])) := Lib.hid (SH.out.mono fun e w' h => ⟨h.1, by have := h.2; rw [if_pos hz] at this; exact this⟩)
        obtain ⟨Y, hY⟩ : ∃ Y, bytesL (shownL p) = Y := ⟨_, rfl⟩
        rw [hY] at SH2
        have HY := Lib.hid hY
        clear hp hpm hdr hbp hB hjp hz hsp hts SH hpl hY
        go_wp2_with fail
        refine SH2.out.mono ?_
        rintro e w2 ⟨hb2, rfl⟩
        have c2 : w2.cell? ⟨g, j, none⟩ = some (.string B) := (bcell1 hb2 hglr _).trans c0
        have f2 : w2.frozen? ⟨g, j, none⟩ = false := (bfrozen1 hb2 hglr _).trans HFZ.out
        have hso := HST.out (shownL p) w2 (aown_ext HO.out (fun k hk => by
          simp [Value.ownBlock] at hk
          subst hk
          exact hb2.block g hglr) (Nat.le_refl _)) (ext_trans HB.out hb2)
        rw [HY.out] at hso
        have HRL : Hid (SwRel ps w g cap (.int .i64 ((j : Int) + 1)) (w2.setCell ⟨g, j, none⟩ (.string Y))) := Lib.hid ⟨j + 1, acc ++ [shownL p], by go_num, by rw [HN.out]; exact hlt, HTS.out, hso.1, hso.2⟩
        clear hb2 hso c0
        go_wp2
        refine ⟨?_, by simp [intOf] <;> omega⟩
        have R1 := HRL.out
        first | exact R1 | ((repeat apply Exists.intro); exact ⟨R1, rfl⟩)
      · have hsp : shownP p = p := by unfold shownP; rw [if_neg hz]
        rw [hsp] at hts
        have hsame : acc ++ ps.drop j = acc ++ [p] ++ ps.drop (j + 1) := by rw [hdr]; simp
        have HTS := Lib.hid hts; have HSM := Lib.hid hsame
        have SH2 : Hid (Calls Tryz.prog 57 #[.string B] wr fun e w' => Below wr.heap.size wr w' ∧ ∃ u k p, e = .returned (.tuple #[.string ⟨#[]⟩, u]) ∧ Er w' u [(k, p)]) := Lib.hid (SH.out.mono fun e w' h => ⟨h.1, by have := h.2; rw [if_neg hz] at this; exact this⟩)
        clear hp hpm hdr hbp hB hjp hz hsp hts hsame SH hpl
        go_wp2_with fail
        refine SH2.out.mono ?_
        rintro e w2 ⟨hb2, u, k2, p2, rfl, hE2⟩
        obtain ⟨b, off, u2, rfl, _⟩ := fault_inv hE2
        have hso : w2.ownsRow w.heap.size 9 1 (.slice (some ⟨g, 0, none⟩) ps.length cap) ps.length (strV ((acc ++ ps.drop j).map bytesL)) := aown_ext HO.out (fun k hk => by
          simp [Value.ownBlock] at hk
          subst hk
          exact hb2.block g hglr) (Nat.le_refl _)
        rw [HSM.out] at hso
        have HRL : Hid (SwRel ps w g cap (.int .i64 ((j : Int) + 1)) w2) := Lib.hid ⟨j + 1, acc ++ [p], by go_num, by rw [HN.out]; exact hlt, HTS.out, hso, ext_trans HB.out hb2⟩
        clear hb2 hso c0 hE2
        go_wp2
        refine ⟨?_, by simp [intOf] <;> omega⟩
        have R1 := HRL.out
        first | exact R1 | ((repeat apply Exists.intro); exact ⟨R1, rfl⟩)
    · have t1 : decide ((j : Int) < (n0 : Int)) = false := decide_eq_false (by omega)
      have t1' : decide (j < n0) = false := decide_eq_false hlt
      have hjn : j = ps.length := by rw [HN.out]; omega
      have ho := HO.out
      rw [HAC.out, hjn, List.take_length, List.drop_length, List.append_nil] at ho
      have hoB : wr.ownsRow w.heap.size 9 1 (.slice (some ⟨g, 0, none⟩) n0 cap) (ps.map shownP).length (strV ((ps.map shownP).map bytesL)) := by
        rw [List.length_map, ← HN.out]; exact ho
      have JN2 := Lib.hid (JN.out wr _ hoB)
      clear ho hoB hjn hlt hj
      go_wp2_with fail
      refine JN2.out.mono ?_
      rintro e w3 ⟨rfl, hb3⟩
      have HF := Lib.hid (ext_trans HB.out hb3)
      clear hb3
      go_wp2
      go_ret
      exact ⟨rfl, HF.out⟩
/-- host.Shown -/
theorem hshown_any (k : Int) (t : ByteArray) (w : World) (ht : t.size ≤ 10000) (hE : HEnv w) : Calls Tryz.prog 21 #[.agg #[.int .i64 k, .string t]] w fun e w' => e = .returned (.string (shownB k t)) ∧ Below w.heap.size w w' := by
  unfold shownB
  by_cases hk : k = 1
  · subst hk
    rw [if_pos rfl]
    exact hshown_name t w ht hE
  · rw [if_neg hk]
    exact hshown_other k t w ht hk
end
end Go.Proofs.YtbeodjipdpcaiaaGreatDoor
