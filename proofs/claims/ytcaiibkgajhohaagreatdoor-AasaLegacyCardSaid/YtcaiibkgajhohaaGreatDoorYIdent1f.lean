/- Texts put together. -/
import Derived.Test.YtcaiibkgajhohaaGreatDoorYErrs1s
import Derived.Test.YtcaiibkgajhohaaGreatDoorYLib0s
import Derived.Laws.IdiomStrings
import Derived.BigQuiet
namespace Go.Proofs.YtcaiibkgajhohaaGreatDoor
open Go.RowKit
/-- What a test of a place and a byte does. -/
structure Fits (k : FuncId) (f : Nat → Nat → Bool) : Prop where
 enters : ∀ args w, (callFunc k args).run Tryz.prog w = .ok (.enter k args) w
 calls : ∀ (i c : Nat) w, i ≤ 1100000 → c < 256 → Calls Tryz.prog k #[.int .i64 i, .int .u8 c] w fun e w' => e = .returned (.bool (f i c)) ∧ w = w'
def badAt (s : ByteArray) (most : Nat) (f : Nat → Nat → Bool) (i : Nat) : Bool := decide (most ≤ i) || !f i (byteAt s i)
def readR (s : ByteArray) (most : Nat) (f : Nat → Nat → Bool) (whole : Bool) : List (Int × Int) := match (List.range s.size).find? (badAt s most f) with
 | some i => [(if most ≤ i then 14 else 11, (i : Int))]
 | none => if whole then [] else [(10, (s.size : Int))]
theorem readR_bad {s : ByteArray} {most : Nat} {f : Nat → Nat → Bool} {whole : Bool} {j : Nat} (hj : j < s.size) (hb : badAt s most f j = true) (h : ∀ m, m < j → badAt s most f m = false) : readR s most f whole = [(if most ≤ j then 14 else 11, (j : Int))] := by
 have : (List.range s.size).find? (badAt s most f) = some j := by
  rw [List.find?_range_eq_some]
  exact ⟨hb, List.mem_range.2 hj, fun m hm => by simp [h m hm]⟩
 simp [readR, this]
theorem readR_end {s : ByteArray} {most : Nat} {f : Nat → Nat → Bool} {whole : Bool} (h : ∀ m, m < s.size → badAt s most f m = false) : readR s most f whole = if whole then [] else [(10, (s.size : Int))] := by
 have : (List.range s.size).find? (badAt s most f) = none := by
  rw [List.find?_range_eq_none]
  exact fun m hm => by simp [h m hm]
 simp [readR, this]
def RdRel (s : ByteArray) (most : Nat) (f : Nat → Nat → Bool) (W : World) (i : Value) (wr : World) : Prop := wr = W ∧ ∃ j : Nat, i = .int .i64 j ∧ j ≤ s.size ∧ ∀ m, m < j → badAt s most f m = false
set_option maxRecDepth 100000 in
set_option maxHeartbeats 8000000 in
theorem read_any (k : FuncId) (f : Nat → Nat → Bool) (hf : Fits k f) (s : ByteArray) (most : Nat) (whole : Bool) (w : World) (hs : s.size ≤ 1100000) (_hm : most ≤ 1100000) :
    Calls Tryz.prog 177 #[.string s, .int .i64 most, .func (.func k) #[] #[], .bool whole] w fun e w' => ∃ v, e = .returned v ∧ Rd (Fresh w w') w' v (errD 85 (readR s most f whole)) ∧ Below w.heap.size w w' := by
 have hcv := run_bytes_of_string (P := Tryz.prog) w 9 22 5 s Tryz.underlying9 Tryz.underlying22 Tryz.underlying5
 generalize hcap : grownCap w s.size 0 5 = cap at hcv
 obtain ⟨W0, hW0⟩ : ∃ W, w.drew.alloc (.cells (bytesRow s cap) 5 ((bytesRow s cap).size, (bytesRow s cap).size + 1)) = W := ⟨_, rfl⟩
 rw [hW0] at hcv
 have hb0 : Below w.heap.size w W0 := by rw [← hW0]; exact ⟨rfl, rfl, rfl, by simp, fun k hk => Below.heap_alloc w.drew _ k hk⟩
 have hcell : ∀ i, i < s.size → W0.cell? ⟨w.heap.size, i, none⟩ = some (.int .u8 (byteAt s i)) := fun i hi => by
  have hi' : i < s.data.size := hi
  have := bytesRow_at s cap i hi'
  rw [← hW0, byteAt, Array.getElem?_eq_getElem hi']
  have hx : (w.drew.alloc (.cells (bytesRow s cap) 5 ((bytesRow s cap).size, (bytesRow s cap).size + 1))).heap[w.heap.size]? = some (.cells (bytesRow s cap) 5 ((bytesRow s cap).size, (bytesRow s cap).size + 1)) := heap_alloc_new w.drew _
  rw [cell_of_row _ w.heap.size i _ _ _ hx]
  simpa using this
 have hz0 : w.heap.size < W0.heap.size := by rw [← hW0]; simp
 have HC := Lib.hid hcell; have HB := Lib.hid hb0
 have hen := hf.enters
 clear hcell hb0 hW0 hcap
 go_enter Tryz.func177, Tryz.ntmps177
 go_wp2_with fail
 go_loopw [14] (RdRel s most f W0) (fun i _ => s.size - (intOf i).toNat)
 case atStart => exact ⟨rfl, 0, rfl, Nat.zero_le _, fun m h => by omega⟩
 case round =>
  obtain ⟨rfl, j, rfl, hj, hn⟩ := hrel
  clear hcv
  by_cases hlt : j < s.size
  · have x0 := HC.out j hlt
    have hc := byteAt_lt s j
    by_cases hmost : most ≤ j
    · have E := Lib.hid (readR_bad (whole := whole) hlt (by simp [badAt, hmost]) hn)
      have t : decide ((most : Int) ≤ (j : Int)) = true := decide_eq_true (by omega)
      clear hn
      go_wp2_with fail
      refine (fail_any 14 j _).mono ?_
      rintro e w1 ⟨rfl, hw1⟩
      have r := Rd.failedF 14 (j : Int) wr
      rw [← hw1] at r
      have hb : Below w.heap.size w w1 := by rw [hw1]; exact ext_alloc HB.out _
      have r := r.wide (S' := Fresh w w1) (fun b e => ⟨by have := HB.out.size; omega, by rw [hw1]; simp; omega⟩)
      have HR := Lib.hid r; have HB1 := Lib.hid hb
      clear r hb hw1
      go_wp2
      go_ret
      exact ⟨_, rfl, by rw [E.out, if_pos hmost]; exact HR.out, HB1.out⟩
    · have t : decide ((most : Int) ≤ (j : Int)) = false := decide_eq_false (by omega)
      have HN := Lib.hid hn; clear hn
      go_wp2_with fail
      refine (hf.calls j (byteAt s j) _ (by omega) hc).mono ?_
      rintro e w1 ⟨rfl, rfl⟩
      cases hfx : f j (byteAt s j) with
      | true =>
        have R : RdRel s most f wr (.int .i64 (j + 1)) wr := ⟨rfl, j + 1, by go_num, by omega, fun m hm => by
         by_cases e : m = j
         · subst e; simp [badAt, hmost, hfx]
         · exact HN.out m (by omega)⟩
        have HR := Lib.hid R; clear R hfx
        go_wp2
        refine ⟨?_, by simp [intOf]; omega⟩
        have R := HR.out
        first | exact R | ((repeat apply Exists.intro); exact ⟨R, rfl⟩)
      | false =>
        have E := Lib.hid (readR_bad (whole := whole) hlt (by simp [badAt, hfx]) HN.out)
        clear hfx
        go_wp2_with fail
        refine (fail_any 11 j _).mono ?_
        rintro e w1 ⟨rfl, hw1⟩
        have r := Rd.failedF 11 (j : Int) wr
        rw [← hw1] at r
        have hb : Below w.heap.size w w1 := by rw [hw1]; exact ext_alloc HB.out _
        have r := r.wide (S' := Fresh w w1) (fun b e => ⟨by have := HB.out.size; omega, by rw [hw1]; simp; omega⟩)
        have HR := Lib.hid r; have HB1 := Lib.hid hb
        clear r hb hw1
        go_wp2
        go_ret
        exact ⟨_, rfl, by rw [E.out, if_neg hmost]; exact HR.out, HB1.out⟩
  · obtain rfl : j = s.size := by omega
    have E := Lib.hid (readR_end (whole := whole) hn)
    clear hn
    cases whole with
    | true =>
      go_wp2
      go_ret
      exact ⟨.nilIface, rfl, by rw [E.out]; simp only [if_true, errD]; exact .nilI, HB.out⟩
    | false =>
      go_wp2_with fail
      refine (fail_any 10 s.size _).mono ?_
      rintro e w1 ⟨rfl, hw1⟩
      have r := Rd.failedF 10 (s.size : Int) wr
      rw [← hw1] at r
      have hb : Below w.heap.size w w1 := by rw [hw1]; exact ext_alloc HB.out _
      have r := r.wide (S' := Fresh w w1) (fun b e => ⟨by have := HB.out.size; omega, by rw [hw1]; simp; omega⟩)
      have HR := Lib.hid r; have HB1 := Lib.hid hb
      clear r hb hw1
      go_wp2
      go_ret
      exact ⟨_, rfl, by rw [E.out, if_neg (by simp)]; exact HR.out, HB1.out⟩
end Go.Proofs.YtcaiibkgajhohaaGreatDoor
namespace Go.Proofs.YtcaiibkgajhohaaGreatDoor
open Go.RowKit
def greatB (c : Nat) : Bool := decide (65 ≤ c) && decide (c ≤ 90)
def smallB (c : Nat) : Bool := decide (97 ≤ c) && decide (c ≤ 122)
def digitB (c : Nat) : Bool := decide (48 ≤ c) && decide (c ≤ 57)
def letterB (c : Nat) : Bool := smallB c || greatB c
theorem great_any (c : Nat) (w : World) : Calls Tryz.prog 179 #[.int .u8 c] w fun e w' => e = .returned (.bool (greatB c)) ∧ w = w' := by
 unfold greatB
 by_cases h1 : 65 ≤ c
 · by_cases h2 : c ≤ 90
   · have t1 : decide ((65 : Int) ≤ c) = true := decide_eq_true (by omega)
     have t2 : decide ((c : Int) ≤ 90) = true := decide_eq_true (by omega)
     rw [decide_eq_true h1, decide_eq_true h2]
     go_enter Tryz.func179, Tryz.ntmps179
     go_wp2
     go_ret
     exact ⟨rfl, rfl⟩
   · have t1 : decide ((65 : Int) ≤ c) = true := decide_eq_true (by omega)
     have t2 : decide ((c : Int) ≤ 90) = false := decide_eq_false (by omega)
     rw [decide_eq_true h1, decide_eq_false h2]
     go_enter Tryz.func179, Tryz.ntmps179
     go_wp2
     go_ret
     exact ⟨rfl, rfl⟩
 · have t1 : decide ((65 : Int) ≤ c) = false := decide_eq_false (by omega)
   rw [decide_eq_false h1]
   go_enter Tryz.func179, Tryz.ntmps179
   go_wp2
   go_ret
   exact ⟨rfl, rfl⟩
theorem small_any (c : Nat) (w : World) : Calls Tryz.prog 189 #[.int .u8 c] w fun e w' => e = .returned (.bool (smallB c)) ∧ w = w' := by
 unfold smallB
 by_cases h1 : 97 ≤ c
 · by_cases h2 : c ≤ 122
   · have t1 : decide ((97 : Int) ≤ c) = true := decide_eq_true (by omega)
     have t2 : decide ((c : Int) ≤ 122) = true := decide_eq_true (by omega)
     rw [decide_eq_true h1, decide_eq_true h2]
     go_enter Tryz.func189, Tryz.ntmps189
     go_wp2
     go_ret
     exact ⟨rfl, rfl⟩
   · have t1 : decide ((97 : Int) ≤ c) = true := decide_eq_true (by omega)
     have t2 : decide ((c : Int) ≤ 122) = false := decide_eq_false (by omega)
     rw [decide_eq_true h1, decide_eq_false h2]
     go_enter Tryz.func189, Tryz.ntmps189
     go_wp2
     go_ret
     exact ⟨rfl, rfl⟩
 · have t1 : decide ((97 : Int) ≤ c) = false := decide_eq_false (by omega)
   rw [decide_eq_false h1]
   go_enter Tryz.func189, Tryz.ntmps189
   go_wp2
   go_ret
   exact ⟨rfl, rfl⟩
theorem digit_any (c : Nat) (w : World) : Calls Tryz.prog 180 #[.int .u8 c] w fun e w' => e = .returned (.bool (digitB c)) ∧ w = w' := by
 unfold digitB
 by_cases h1 : 48 ≤ c
 · by_cases h2 : c ≤ 57
   · have t1 : decide ((48 : Int) ≤ c) = true := decide_eq_true (by omega)
     have t2 : decide ((c : Int) ≤ 57) = true := decide_eq_true (by omega)
     rw [decide_eq_true h1, decide_eq_true h2]
     go_enter Tryz.func180, Tryz.ntmps180
     go_wp2
     go_ret
     exact ⟨rfl, rfl⟩
   · have t1 : decide ((48 : Int) ≤ c) = true := decide_eq_true (by omega)
     have t2 : decide ((c : Int) ≤ 57) = false := decide_eq_false (by omega)
     rw [decide_eq_true h1, decide_eq_false h2]
     go_enter Tryz.func180, Tryz.ntmps180
     go_wp2
     go_ret
     exact ⟨rfl, rfl⟩
 · have t1 : decide ((48 : Int) ≤ c) = false := decide_eq_false (by omega)
   rw [decide_eq_false h1]
   go_enter Tryz.func180, Tryz.ntmps180
   go_wp2
   go_ret
   exact ⟨rfl, rfl⟩
theorem letter_any (c : Nat) (w : World) : Calls Tryz.prog 181 #[.int .u8 c] w fun e w' => e = .returned (.bool (letterB c)) ∧ w = w' := by
 unfold letterB
 cases h1 : smallB c with
 | true =>
   go_enter Tryz.func181, Tryz.ntmps181
   go_wp2_with fail
   refine (small_any c _).mono ?_
   rintro e w1 ⟨rfl, rfl⟩
   rw [h1]
   go_wp2
   go_ret
   exact ⟨rfl, rfl⟩
 | false =>
   go_enter Tryz.func181, Tryz.ntmps181
   go_wp2_with fail
   refine (small_any c _).mono ?_
   rintro e w1 ⟨rfl, rfl⟩
   rw [h1]
   go_wp2_with fail
   refine (great_any c _).mono ?_
   rintro e w1 ⟨rfl, rfl⟩
   go_wp2
   go_ret
   exact ⟨rfl, rfl⟩
def appB (i c : Nat) : Bool := if i < 10 then greatB c || digitB c else if i = 10 then decide (c = 46) else letterB c || digitB c || decide (c = 45) || decide (c = 46)
set_option maxHeartbeats 4000000 in
theorem app1_any (i c : Nat) (w : World) (hi : i ≤ 1100000) : Calls Tryz.prog 178 #[.int .i64 i, .int .u8 c] w fun e w' => e = .returned (.bool (appB i c)) ∧ w = w' := by
 unfold appB
 by_cases h1 : i < 10
 · rw [if_pos h1]
   have t1 : decide ((i : Int) < 10) = true := decide_eq_true (by omega)
   cases hg : greatB c with
   | true =>
     go_enter Tryz.func178, Tryz.ntmps178
     go_wp2_with fail
     refine (great_any c _).mono ?_
     rintro e w1 ⟨rfl, rfl⟩
     rw [hg]
     go_wp2
     go_ret
     exact ⟨rfl, rfl⟩
   | false =>
     go_enter Tryz.func178, Tryz.ntmps178
     go_wp2_with fail
     refine (great_any c _).mono ?_
     rintro e w1 ⟨rfl, rfl⟩
     rw [hg]
     go_wp2_with fail
     refine (digit_any c _).mono ?_
     rintro e w1 ⟨rfl, rfl⟩
     go_wp2
     go_ret
     exact ⟨rfl, rfl⟩
 · rw [if_neg h1]
   have t1 : decide ((i : Int) < 10) = false := decide_eq_false (by omega)
   by_cases h2 : i = 10
   · rw [if_pos h2]
     have t2 : ((i : Int) == 10) = true := beq_iff_eq.2 (by omega)
     by_cases h3 : c = 46
     · have t3 : ((c : Int) == 46) = true := beq_iff_eq.2 (by omega)
       rw [decide_eq_true h3]
       clear h1 h2 h3
       go_enter Tryz.func178, Tryz.ntmps178
       go_wp2
       go_ret
       exact ⟨rfl, rfl⟩
     · have t3 : ((c : Int) == 46) = false := beq_eq_false_iff_ne.2 (by omega)
       rw [decide_eq_false h3]
       clear h1 h2 h3
       go_enter Tryz.func178, Tryz.ntmps178
       go_wp2
       go_ret
       exact ⟨rfl, rfl⟩
   · rw [if_neg h2]
     have t2 : ((i : Int) == 10) = false := beq_eq_false_iff_ne.2 (by omega)
     have k3 : ∃ b, decide (c = 45) = b ∧ ((c : Int) == 45) = b := ⟨decide (c = 45), rfl, by by_cases h : c = 45 <;> simp [h]; omega⟩
     have k4 : ∃ b, decide (c = 46) = b ∧ ((c : Int) == 46) = b := ⟨decide (c = 46), rfl, by by_cases h : c = 46 <;> simp [h]; omega⟩
     obtain ⟨b3, e3, t3⟩ := k3
     obtain ⟨b4, e4, t4⟩ := k4
     rw [e3, e4]
     clear h1 h2 e3 e4
     cases hg : letterB c with
     | true =>
       cases b3 <;> cases b4
       all_goals
        go_enter Tryz.func178, Tryz.ntmps178
        go_wp2_with fail
        refine (letter_any c _).mono ?_
        rintro e w1 ⟨rfl, rfl⟩
        rw [hg]
        go_wp2
        go_ret
        exact ⟨rfl, rfl⟩
     | false =>
       cases hd : digitB c <;> cases b3 <;> cases b4
       all_goals
        go_enter Tryz.func178, Tryz.ntmps178
        go_wp2_with fail
        refine (letter_any c _).mono ?_
        rintro e w1 ⟨rfl, rfl⟩
        rw [hg]
        go_wp2_with fail
        refine (digit_any c _).mono ?_
        rintro e w1 ⟨rfl, rfl⟩
        rw [hd]
        go_wp2
        go_ret
        exact ⟨rfl, rfl⟩
theorem enters_id {P : Program} {k : FuncId} {fn : Func} {c : Code} (hf : P.funcs[k]? = some fn) (hn : (fn.name == "runtime.NumGoroutine") = false) (hb : fn.body = some c) (args : Array Value) (w : World) : (callFunc k args).run P w = .ok (.enter k args) w := by
 have hn' := beq_eq_false_iff_ne.1 hn
 simp [callFunc, hf, hn', hb]
theorem appFits : Fits 178 appB := ⟨enters_id Tryz.func178 (by kernel_rfl) rfl, fun i c w hi _ => app1_any i c w hi⟩
def appR (s : ByteArray) : List (Int × Int) := readR s 166 appB (decide (11 < s.size))
end Go.Proofs.YtcaiibkgajhohaaGreatDoor
