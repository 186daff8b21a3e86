/- Texts put together. -/
import Derived.Test.YtcaiibkgajhohaaGreatDoorYLib0s
import Derived.Test.YtcaiibkgajhohaaGreatDoorYErrs1s
import Derived.Test.YtcaiibkgajhohaaGreatDoorYScan1s
import Derived.Laws.IdiomStrings
import Derived.BigQuiet
namespace Go.Proofs.YtcaiibkgajhohaaGreatDoor
section
open Go.RowKit
def digV (c : Nat) : Nat := if 48 ≤ c ∧ c ≤ 57 then c - 48 else if 97 ≤ c ∧ c ≤ 102 then c - 87 else if 65 ≤ c ∧ c ≤ 70 then c - 55 else 99
theorem digV_le (c : Nat) : digV c ≤ 99 := by
 unfold digV; split
 · omega
 · split
   · omega
   · split <;> omega
/-- The number of the first j bytes. -/
def numVal (base : Nat) (s : ByteArray) : Nat → Nat
 | 0 => 0
 | j + 1 => numVal base s j * base + digV (byteAt s j)
def notDigit (base : Nat) (s : ByteArray) (i : Nat) : Bool := decide (base ≤ digV (byteAt s i))
def numberF (base most : Nat) (s : ByteArray) : Sc Nat := if s.size = 0 then .no 10 0 else match (List.range s.size).find? (notDigit base s) with
 | some i => .no 11 i
 | none => if most < numVal base s s.size then .no 16 0 else .ok (numVal base s s.size)
theorem numberF_bad {base most : Nat} {s : ByteArray} {j : Nat} (hj : j < s.size) (hb : notDigit base s j = true) (h : ∀ m, m < j → notDigit base s m = false) : numberF base most s = .no 11 j := by
 have : (List.range s.size).find? (notDigit base s) = some j := by
  rw [List.find?_range_eq_some]
  exact ⟨hb, List.mem_range.2 hj, fun m hm => by simp [h m hm]⟩
 unfold numberF
 rw [if_neg (by omega), this]
theorem numberF_end {base most : Nat} {s : ByteArray} (h0 : s.size ≠ 0) (h : ∀ m, m < s.size → notDigit base s m = false) : numberF base most s = if most < numVal base s s.size then .no 16 0 else .ok (numVal base s s.size) := by
 have : (List.range s.size).find? (notDigit base s) = none := by
  rw [List.find?_range_eq_none]
  exact fun m hm => by simp [h m hm]
 unfold numberF
 rw [if_neg h0, this]
/-- A step, by halves: what stands above 64 bits is told. -/
theorem num_step {n base d : Nat} (_hn : n < 18446744073709551616) (_hb : base < 18446744073709551616) (hd : d < 18446744073709551616) :
    (0 < n * base / 18446744073709551616 + (n * base % 18446744073709551616 + d) / 18446744073709551616 ↔ 18446744073709551616 ≤ n * base + d) ∧
    (n * base + d < 18446744073709551616 → (n * base % 18446744073709551616 + d) % 18446744073709551616 = n * base + d) := by
 generalize n * base = x
 constructor <;> omega
theorem numVal_mono (base : Nat) (s : ByteArray) (hb : 1 ≤ base) (j : Nat) : numVal base s j ≤ numVal base s (j + 1) := by
 have : numVal base s (j + 1) = numVal base s j * base + digV (byteAt s j) := rfl
 have h2 : numVal base s j * 1 ≤ numVal base s j * base := Nat.mul_le_mul_left _ hb
 omega
end
section
open Go.RowKit
theorem u64_eq {a b : Int} (h : a = b) : Ending.returned (.int .u64 a) = .returned (.int .u64 b) := by rw [h]
set_option maxHeartbeats 4000000 in
theorem value_any (c : Nat) (hc : c < 256) (w : World) : Calls Tryz.prog 199 #[.int .u8 c] w fun e w' => e = .returned (.int .u64 (digV c)) ∧ w = w' := by
 have hd : digV c = digV c := rfl
 conv at hd => rhs; unfold digV
 by_cases h1 : 48 ≤ c ∧ c ≤ 57
 · rw [if_pos h1] at hd
   have HD := Lib.hid hd
   have t1 : decide ((48 : Int) ≤ (c : Int)) = true := decide_eq_true (by omega)
   have t2 : decide ((c : Int) ≤ 57) = true := decide_eq_true (by omega)
   have q1 : (48 : Int) ≤ c := by omega
   have q2 : (c : Int) ≤ 57 := by omega
   clear hd h1
   go_enter Tryz.func199, Tryz.ntmps199
   go_wp2
   go_ret
   exact ⟨u64_eq (by rw [HD.out]; omega), rfl⟩
 · rw [if_neg h1] at hd
   by_cases h2 : 97 ≤ c ∧ c ≤ 102
   · rw [if_pos h2] at hd
     have HD := Lib.hid hd
     have t1 : decide ((48 : Int) ≤ (c : Int)) = true := decide_eq_true (by omega)
     have t2 : decide ((c : Int) ≤ 57) = false := decide_eq_false (by omega)
     have t3 : decide ((97 : Int) ≤ (c : Int)) = true := decide_eq_true (by omega)
     have t4 : decide ((c : Int) ≤ 102) = true := decide_eq_true (by omega)
     have q1 : (97 : Int) ≤ c := by omega
     have q2 : (c : Int) ≤ 102 := by omega
     clear hd h1 h2
     go_enter Tryz.func199, Tryz.ntmps199
     go_wp2
     go_ret
     exact ⟨u64_eq (by rw [HD.out]; omega), rfl⟩
   · rw [if_neg h2] at hd
     by_cases h3 : 65 ≤ c ∧ c ≤ 70
     · rw [if_pos h3] at hd
       have HD := Lib.hid hd
       have t1 : decide ((48 : Int) ≤ (c : Int)) = true := decide_eq_true (by omega)
       have t2 : decide ((c : Int) ≤ 57) = false := decide_eq_false (by omega)
       have t3 : decide ((97 : Int) ≤ (c : Int)) = false := decide_eq_false (by omega)
       have t5 : decide ((65 : Int) ≤ (c : Int)) = true := decide_eq_true (by omega)
       have t6 : decide ((c : Int) ≤ 70) = true := decide_eq_true (by omega)
       have q1 : (65 : Int) ≤ c := by omega
       have q2 : (c : Int) ≤ 70 := by omega
       clear hd h1 h2 h3
       go_enter Tryz.func199, Tryz.ntmps199
       go_wp2
       go_ret
       exact ⟨u64_eq (by rw [HD.out]; omega), rfl⟩
     · rw [if_neg h3] at hd
       have HD := Lib.hid hd
       have q : (decide ((48 : Int) ≤ (c : Int)) = false ∨ decide ((48 : Int) ≤ (c : Int)) = true ∧ decide ((c : Int) ≤ 57) = false) := by
        by_cases h : 48 ≤ c
        · exact .inr ⟨decide_eq_true (by omega), decide_eq_false (by omega)⟩
        · exact .inl (decide_eq_false (by omega))
       have q' : (decide ((97 : Int) ≤ (c : Int)) = false ∨ decide ((97 : Int) ≤ (c : Int)) = true ∧ decide ((c : Int) ≤ 102) = false) := by
        by_cases h : 97 ≤ c
        · exact .inr ⟨decide_eq_true (by omega), decide_eq_false (by omega)⟩
        · exact .inl (decide_eq_false (by omega))
       have q2 : (decide ((65 : Int) ≤ (c : Int)) = false ∨ decide ((65 : Int) ≤ (c : Int)) = true ∧ decide ((c : Int) ≤ 70) = false) := by
        by_cases h : 65 ≤ c
        · exact .inr ⟨decide_eq_true (by omega), decide_eq_false (by omega)⟩
        · exact .inl (decide_eq_false (by omega))
       clear hd h1 h2 h3
       rcases q with q | ⟨q, p⟩
       all_goals rcases q' with q' | ⟨q', p'⟩
       all_goals rcases q2 with q2 | ⟨q2, p2⟩
       all_goals
        go_enter Tryz.func199, Tryz.ntmps199
        go_wp2
        go_ret
        exact ⟨u64_eq (by rw [HD.out]; rfl), rfl⟩
/-- What '[]byte(s)' lays. -/
theorem bytes_of_string (s : ByteArray) (w : World) : ∃ (W0 : World) (cap : Nat), (convert 9 22 (.string s)).run Tryz.prog w = .ok (.slice (some ⟨w.heap.size, 0, none⟩) s.size cap) W0 ∧ s.size ≤ cap ∧ Below w.heap.size w W0 ∧ w.heap.size < W0.heap.size ∧
    ∀ i, i < s.size → W0.cell? ⟨w.heap.size, i, none⟩ = some (.int .u8 (byteAt s i)) := by
 have hcv := run_bytes_of_string (P := Tryz.prog) w 9 22 5 s Tryz.underlying9 Tryz.underlying22 Tryz.underlying5
 refine ⟨_, _, hcv, ?_, ⟨rfl, rfl, rfl, by simp, fun k hk => Below.heap_alloc w.drew _ k hk⟩, by simp, fun i hi => ?_⟩
 · exact grownCap_ge _ _ _ _
 · have hi' : i < s.data.size := hi
   have := bytesRow_at s (grownCap w s.size 0 5) i hi'
   rw [byteAt, Array.getElem?_eq_getElem hi']
   have hx : (w.drew.alloc (.cells (bytesRow s (grownCap w s.size 0 5)) 5 ((bytesRow s (grownCap w s.size 0 5)).size, (bytesRow s (grownCap w s.size 0 5)).size + 1))).heap[w.heap.size]? = some (.cells (bytesRow s (grownCap w s.size 0 5)) 5 ((bytesRow s (grownCap w s.size 0 5)).size, (bytesRow s (grownCap w s.size 0 5)).size + 1)) := heap_alloc_new w.drew _
   rw [cell_of_row _ w.heap.size i _ _ _ hx]
   simpa using this
theorem str_ne {s : ByteArray} (h : s.size ≠ 0) : s.toList.isEmpty = false := by
 rw [ByteArray.toList_eq]
 cases hd : s.data.toList with
 | nil => exact absurd (by show s.data.size = 0; rw [← Array.length_toList, hd]; rfl) h
 | cons a l => rfl
theorem empty_of {s : ByteArray} (h : s.size = 0) : s = ⟨#[]⟩ := by
 cases s with
 | mk d => rw [Array.eq_empty_of_size_eq_zero h]
def two64 : Nat := 18446744073709551616
/-- A number, or a fault. -/
def ScU (w : World) (r : Sc Nat) (e : Ending) (w' : World) : Prop := match r with
 | .ok n => e = .returned (.tuple #[.int .u64 n, .nilIface]) ∧ Below w.heap.size w w'
 | .no k i => ∃ u, e = .returned (.tuple #[.int .u64 0, .iface 85 (.pointer (some u))]) ∧ Failed w k i (.iface 85 (.pointer (some u))) w'
def NmRel (base : Nat) (s : ByteArray) (W : World) (n o i : Value) (wr : World) : Prop := wr = W ∧ ∃ (j N : Nat) (ov : Bool), i = .int .i64 j ∧ j ≤ s.size ∧ n = .int .u64 N ∧ o = .bool ov ∧ N < two64 ∧ ov = decide (two64 ≤ numVal base s j) ∧ (ov = false → N = numVal base s j) ∧ ∀ m, m < j → notDigit base s m = false
/-- A round's numbers. -/
theorem num_round {base : Nat} {s : ByteArray} {j N : Nat} (hb1 : 1 ≤ base) (hb : base ≤ 16) (hN : N < two64) :
    ∃ H L C S2 : Nat, N * base / 18446744073709551616 = H ∧ N * base % 18446744073709551616 = L ∧ (L + digV (byteAt s j) + 0) / 18446744073709551616 = C ∧ (L + digV (byteAt s j) + 0) % 18446744073709551616 = S2 ∧ H ≤ 16 ∧ C ≤ 1 ∧ S2 < two64 ∧ L < two64 ∧
     (N = numVal base s j → (decide (0 < H + C) = decide (two64 ≤ numVal base s (j + 1)) ∧ (¬ 0 < H + C → S2 = numVal base s (j + 1)))) := by
 unfold two64 at *
 have hd := digV_le (byteAt s j)
 refine ⟨_, _, _, _, rfl, rfl, rfl, rfl, ?_, by omega, by omega, by omega, ?_⟩
 · have : N * base ≤ N * 16 := Nat.mul_le_mul_left _ hb
   generalize N * base = x at *
   omega
 · intro hN
   have st := num_step (n := N) (base := base) (d := digV (byteAt s j)) (by omega) (by omega) (by omega)
   have e : numVal base s (j + 1) = N * base + digV (byteAt s j) := by rw [hN]; rfl
   rw [e, Nat.add_zero]
   refine ⟨?_, fun h => st.2 (by have := st.1; omega)⟩
   rw [Bool.eq_iff_iff, decide_eq_true_eq, decide_eq_true_eq]; exact st.1
theorem two_mono {base : Nat} {s : ByteArray} {j : Nat} (hb1 : 1 ≤ base) (h : true = decide (two64 ≤ numVal base s j)) : true = decide (two64 ≤ numVal base s (j + 1)) := by
 have h1 := of_decide_eq_true h.symm
 have := numVal_mono base s hb1 j
 exact (decide_eq_true (by omega)).symm
theorem run_add (L D S2 C : Nat) (w : World) (eC : (L + D + 0) / 18446744073709551616 = C) (eS : (L + D + 0) % 18446744073709551616 = S2) :
    (callFunc 201 #[.int .u64 L, .int .u64 D, .int .u64 0]).run Tryz.prog w = .ok (.value (.tuple #[.int .u64 S2, .int .u64 C])) w := by
 rw [← eC, ← eS]; exact Any7.bits_Add64 Tryz.lays7_25 L D 0 (by decide) w
set_option maxRecDepth 100000 in
set_option maxHeartbeats 8000000 in
theorem numberF_any (s : ByteArray) (base most : Nat) (w : World) (hs : s.size ≤ 1100000) (hb1 : 1 ≤ base) (hb : base ≤ 16) (hm : most < two64) :
    Calls Tryz.prog 194 #[.string s, .int .u64 base, .int .u64 most] w (ScU w (numberF base most s)) := by
 by_cases h0 : s.size = 0
 · have e := empty_of h0
   subst e
   have hF : numberF base most ⟨#[]⟩ = .no 10 0 := rfl
   have HF := Lib.hid hF
   clear hF hm h0 hs
   go_enter Tryz.func194, Tryz.ntmps194
   go_wp2_with fail
   refine (fails 10 0 w).mono ?_
   rintro e w1 ⟨u, rfl, hf⟩
   obtain ⟨p, rfl⟩ := hf.form
   have HX := Lib.hid hf; clear hf
   go_wp2
   go_ret2
   rw [HF.out]
   exact ⟨_, rfl, HX.out⟩
 · have hne := str_ne h0
   obtain ⟨W0, cap, hcv, hcap, hb0, hz0, hcell⟩ := bytes_of_string s w
   have HC := Lib.hid hcell; have HB := Lib.hid hb0; have HM := Lib.hid hm
   clear hcell hb0 hm
   go_enter Tryz.func194, Tryz.ntmps194
   go_wp2_with fail
   go_loopw [6, 8, 22] (NmRel base s W0) (fun _ _ i _ => s.size - (intOf i).toNat)
   case atStart => exact ⟨rfl, 0, 0, false, rfl, Nat.zero_le _, rfl, rfl, by decide, by rfl, fun _ => rfl, fun m h => by omega⟩
   case round =>
    obtain ⟨rfl, j, N, ov, rfl, hj, rfl, rfl, hN, hov, hNv, hn⟩ := hrel
    clear hcv
    by_cases hlt : j < s.size
    · have x0 := HC.out j hlt
      have hc := byteAt_lt s j
      have V := Lib.hid (value_any (byteAt s j) hc wr)
      have hdl := digV_le (byteAt s j)
      cases hbad : notDigit base s j with
      | true =>
        have E := Lib.hid (numberF_bad (most := most) hlt hbad hn)
        have t : decide (base ≤ digV (byteAt s j)) = true := hbad
        clear hn hbad hov hNv hN
        go_wp2_with fail
        refine V.out.mono ?_
        rintro e w1 ⟨rfl, rfl⟩
        go_wp2_with fail
        refine (fails 11 j wr).mono ?_
        rintro e w1 ⟨u, rfl, hf⟩
        obtain ⟨p, rfl⟩ := hf.form
        have HX := Lib.hid (hf.after HB.out); clear hf
        go_wp2
        go_ret2
        rw [E.out]
        exact ⟨_, rfl, HX.out⟩
      | false =>
        have t : decide (base ≤ digV (byteAt s j)) = false := hbad
        obtain ⟨H, L, C, S2, eH, eL, eC, eS, bH, bC, bS, bL, hstep⟩ := num_round (s := s) (j := j) hb1 hb hN
        have M := Tryz.bits_Mul64 N base (by unfold two64 at hN; exact hN) (by omega) wr
        rw [eH, eL] at M
        have A := run_add L (digV (byteAt s j)) S2 C wr eC eS
        have hn' : ∀ m, m < j + 1 → notDigit base s m = false := fun m hm => by
         by_cases e : m = j
         · subst e; exact hbad
         · exact hn m (by omega)
        have HM64 := Lib.hid M; have HN' := Lib.hid hn'; have HST := Lib.hid hstep; have HBS := Lib.hid bS; have HOV := Lib.hid hov; have HNV := Lib.hid hNv
        generalize digV (byteAt s j) = D at *
        clear M hn' hstep bS hov hNv hn hbad eH eL eC eS bL hN
        cases ov with
        | true =>
          have R : NmRel base s wr (.int .u64 S2) (.bool true) (.int .i64 (j + 1)) wr := ⟨rfl, j + 1, S2, true, by go_num, by omega, rfl, rfl, HBS.out, two_mono hb1 HOV.out, nofun, HN'.out⟩
          have HR := Lib.hid R; clear R
          go_wp2_with fail
          refine V.out.mono ?_
          rintro e w1 ⟨rfl, rfl⟩
          go_wp2_with fail
          refine HM64.out.mono ?_
          rintro e w1 ⟨rfl, rfl⟩
          go_wp2
          refine ⟨?_, by simp [intOf]; omega⟩
          have R := HR.out
          first | exact R | ((repeat apply Exists.intro); exact ⟨R, rfl⟩)
        | false =>
          have h2 := HST.out (HNV.out rfl)
          by_cases hg : 0 < H + C
          · have tg : decide ((0 : Int) < (H : Int) + (C : Int)) = true := decide_eq_true (by omega)
            have R : NmRel base s wr (.int .u64 S2) (.bool true) (.int .i64 (j + 1)) wr := ⟨rfl, j + 1, S2, true, by go_num, by omega, rfl, rfl, HBS.out, by rw [← h2.1]; exact (decide_eq_true hg).symm, nofun, HN'.out⟩
            have HR := Lib.hid R; clear R h2
            go_wp2_with fail
            refine V.out.mono ?_
            rintro e w1 ⟨rfl, rfl⟩
            go_wp2_with fail
            refine HM64.out.mono ?_
            rintro e w1 ⟨rfl, rfl⟩
            go_wp2
            refine ⟨?_, by simp [intOf]; omega⟩
            have R := HR.out
            first | exact R | ((repeat apply Exists.intro); exact ⟨R, rfl⟩)
          · have tg : decide ((0 : Int) < (H : Int) + (C : Int)) = false := decide_eq_false (by omega)
            have R : NmRel base s wr (.int .u64 S2) (.bool false) (.int .i64 (j + 1)) wr := ⟨rfl, j + 1, S2, false, by go_num, by omega, rfl, rfl, HBS.out, by rw [← h2.1]; exact (decide_eq_false hg).symm, fun _ => h2.2 hg, HN'.out⟩
            have HR := Lib.hid R; clear R h2
            go_wp2_with fail
            refine V.out.mono ?_
            rintro e w1 ⟨rfl, rfl⟩
            go_wp2_with fail
            refine HM64.out.mono ?_
            rintro e w1 ⟨rfl, rfl⟩
            go_wp2
            refine ⟨?_, by simp [intOf]; omega⟩
            have R := HR.out
            first | exact R | ((repeat apply Exists.intro); exact ⟨R, rfl⟩)
    · obtain rfl : j = s.size := by omega
      have E := numberF_end (most := most) h0 hn
      have HM2 := HM.out
      cases ov with
      | true =>
        have h2 : two64 ≤ numVal base s s.size := of_decide_eq_true hov.symm
        rw [if_pos (by omega)] at E
        have HE := Lib.hid E
        clear E hn hov hNv hN h2 HM2
        go_wp2_with fail
        refine (fails 16 0 wr).mono ?_
        rintro e w1 ⟨u, rfl, hf⟩
        obtain ⟨p, rfl⟩ := hf.form
        have HX := Lib.hid (hf.after HB.out); clear hf
        go_wp2
        go_ret2
        rw [HE.out]
        exact ⟨_, rfl, HX.out⟩
      | false =>
        have e := hNv rfl
        by_cases hmo : most < N
        · rw [if_pos (by omega)] at E
          have HE := Lib.hid E
          have t2 : decide (most < N) = true := decide_eq_true hmo
          clear E hn hov hNv hN e HM2
          go_wp2_with fail
          refine (fails 16 0 wr).mono ?_
          rintro e w1 ⟨u, rfl, hf⟩
          obtain ⟨p, rfl⟩ := hf.form
          have HX := Lib.hid (hf.after HB.out); clear hf
          go_wp2
          go_ret2
          rw [HE.out]
          exact ⟨_, rfl, HX.out⟩
        · rw [if_neg (by omega), ← e] at E
          have HE := Lib.hid E
          have t2 : decide (most < N) = false := decide_eq_false hmo
          clear E hn hov hNv hN e HM2
          go_wp2
          go_ret2
          rw [HE.out]
          exact ⟨rfl, HB.out⟩
theorem hex_any (s : ByteArray) (most : Nat) (w : World) (hs : s.size ≤ 1100000) (hm : most < two64) :
    Calls Tryz.prog 191 #[.string s, .int .u64 most] w (ScU w (numberF 16 most s)) := by
 have C := Lib.hid (numberF_any s 16 most w hs (by decide) (by decide) hm)
 clear hm
 go_enter Tryz.func191, Tryz.ntmps191
 go_wp2_with fail
 refine C.out.mono ?_
 intro e w1 hsc
 cases hr : numberF 16 most s with
 | ok n =>
   rw [hr] at hsc
   obtain ⟨rfl, hb⟩ := hsc
   have HB := Lib.hid hb; have HR := Lib.hid hr; clear hb hr
   go_wp2
   go_ret2
   rw [HR.out]
   exact ⟨rfl, HB.out⟩
 | no k i =>
   rw [hr] at hsc
   obtain ⟨u, rfl, hf⟩ := hsc
   have HF := Lib.hid hf; have HR := Lib.hid hr; clear hf hr
   go_wp2
   go_ret2
   rw [HR.out]
   exact ⟨_, rfl, HF.out⟩
end
end Go.Proofs.YtcaiibkgajhohaaGreatDoor
