/- Eye1, Eye2, Eye3, Eye4, Eye5 in one text (a claim holds at most 60 files). -/
import Derived.Test.YtheoaijheijojaaGreatDoorZScan0s
import Derived.Test.YtheoaijheijojaaGreatDoorZOwn0s
import Derived.Test.YtheoaijheijojaaGreatDoorZLib0s
import Derived.Test.YtheoaijheijojaaGreatDoorZErrs1s
import Derived.Lib.SmallJoins
import Derived.BigQuiet
import Derived.Deep.RegionHeld3
import Derived.Deep.DeepCutAuto
namespace Go.Proofs.YtheoaijheijojaaGreatDoor
section
open Go.RowKit
def BhRel (l : List Nat) (c : Nat) (k : Value) : Prop := ∃ j : Nat, k = .int .i64 j ∧ j ≤ l.length ∧ ∀ (m x : Nat), m < j → l[m]? = some x → x ≠ c
set_option maxRecDepth 100000 in
set_option maxHeartbeats 4000000 in
theorem bhas_any (s : ByteArray) (l : List Nat) (hl : s.data.toList.map (·.toNat) = l) (c : Nat) (hs : s.size ≤ 1000000) (w : World) :
    Calls Tryz.prog 45 #[.string s, .int .u8 c] w fun e w' => e = .returned (.bool (l.contains c)) ∧ w = w' := by
  have hsl : s.size = l.length := by rw [← hl]; simp
  have HL := Lib.hid hl; have HSL := Lib.hid hsl
  clear hl hsl
  go_enter Tryz.func45, Tryz.ntmps45
  go_wp2_with fail
  go_loop [5] (BhRel l c) (fun k => s.size - (intOf k).toNat)
  case atStart => exact ⟨0, rfl, Nat.zero_le _, fun m x h => by omega⟩
  case round =>
    obtain ⟨j, rfl, hj, hn⟩ := hrel
    by_cases hlt : j < l.length
    · have hjs : j < s.size := by rw [HSL.out]; exact hlt
      have hlj : l[j]? = some (s[j]'hjs).toNat := by
        have hjd : j < s.data.size := hjs
        rw [← HL.out, List.getElem?_map, Array.getElem?_toList, Array.getElem?_eq_getElem hjd]; rfl
      by_cases hb : (s[j]'hjs).toNat = c
      · have t2 : (((s[j]'hjs).toNat : Int) == (c : Int)) = true := beq_iff_eq.2 (by omega)
        have t3 : ((s[j]'hjs).toNat == c) = true := beq_iff_eq.2 hb
        have hc : l.contains c = true := by
          have := List.mem_of_getElem? hlj
          rw [hb] at this
          simpa using this
        have HC := Lib.hid hc
        clear hn hlj hb hc
        go_wp2
        go_ret
        refine ⟨?_, rfl⟩
        rw [← List.contains_eq_mem, HC.out]
        rfl
      · have t2 : (((s[j]'hjs).toNat : Int) == (c : Int)) = false := beq_eq_false_iff_ne.2 (by omega)
        have t3 : ((s[j]'hjs).toNat == c) = false := beq_eq_false_iff_ne.2 hb
        have R : BhRel l c (.int .i64 (j + 1)) := ⟨j + 1, by go_num, by omega, fun m x hm hx => by
          by_cases e : m = j
          · subst e; rw [hlj] at hx; cases hx; exact hb
          · exact hn m x (by omega) hx⟩
        have HR := Lib.hid R
        clear hn hlj hb R
        go_wp2
        refine ⟨?_, by simp [intOf] <;> omega⟩
        have R := HR.out
        first | exact R | ((repeat apply Exists.intro); exact ⟨R, rfl⟩)
    · have hjs : ¬ j < s.size := by rw [HSL.out]; exact hlt
      have hc : l.contains c = false := by
        cases h : l.contains c with
        | false => rfl
        | true =>
          obtain ⟨m, hm⟩ := List.getElem?_of_mem (by simpa using h : c ∈ l)
          exact absurd rfl (hn m c (by have := (List.getElem?_eq_some_iff.1 hm).1; omega) hm)
      have HC := Lib.hid hc
      clear hn hc
      go_wp2
      go_ret
      refine ⟨?_, rfl⟩
      rw [← List.contains_eq_mem, HC.out]
      rfl
/-- The reader lies at block E: the text, the place, the first error, its place. -/
def EyeAt (w : World) (E : Nat) (v : Value) (i : Nat) (k : Nat) (a : Int) : Prop := w.heap[E]? = some (.cells #[v, .int .i64 i, .int .i64 k, .int .i64 a] 189 (0, 0))
section
variable {w w' : World} {E i k : Nat} {v : Value} {a : Int}
theorem EyeAt.lt (h : EyeAt w E v i k a) : E < w.heap.size := (Array.getElem?_eq_some_iff.1 h).1
theorem EyeAt.cell (h : EyeAt w E v i k a) (o : Nat) : w.cell? ⟨E, o, none⟩ = #[v, .int .i64 i, .int .i64 k, .int .i64 a][o]? := by simp [World.cell?, EyeAt] at h ⊢; simp [h]
theorem EyeAt.frozen (h : EyeAt w E v i k a) (o : Nat) : w.frozen? ⟨E, o, none⟩ = false := Go.Joins.unfrozen_of_block h o
theorem EyeAt.ext (h : EyeAt w E v i k a) (hb : w'.heap[E]? = w.heap[E]?) : EyeAt w' E v i k a := by unfold EyeAt at *; rw [hb]; exact h
theorem EyeAt.below (h : EyeAt w E v i k a) (hb : Below w.heap.size w w') : EyeAt w' E v i k a := h.ext (hb.block E h.lt)
theorem EyeAt.move (h : EyeAt w E v i k a) (j : Nat) : EyeAt (w.setCell ⟨E, 1, none⟩ (.int .i64 j)) E v j k a := by
  have := Go.Joins.block_setCell h (i := 1) (.int .i64 j)
  simpa [EyeAt] using this
theorem EyeAt.kind (h : EyeAt w E v i k a) (j : Nat) : EyeAt (w.setCell ⟨E, 2, none⟩ (.int .i64 j)) E v i j a := by
  have := Go.Joins.block_setCell h (i := 2) (.int .i64 j)
  simpa [EyeAt] using this
theorem EyeAt.place (h : EyeAt w E v i k a) (j : Int) : EyeAt (w.setCell ⟨E, 3, none⟩ (.int .i64 j)) E v i k j := by
  have := Go.Joins.block_setCell h (i := 3) (.int .i64 j)
  simpa [EyeAt] using this
end
/-- Nothing but the reader has turned. -/
abbrev OnlyE (E : Nat) : World → World → Prop := Only (fun k => k = E)
/-- The state of a reader: place, error (0: none), its place. -/
structure St where
  i : Nat
  k : Nat
  a : Int
abbrev EyeS (w : World) (E : Nat) (v : Value) (s : St) : Prop := EyeAt w E v s.i s.k s.a
/-- The text, apart from the reader. -/
abbrev EyeB (w : World) (E : Nat) (v : Value) (B : ByteArray) : Prop := Rd (fun b => b ≠ E ∧ b < w.heap.size) w v (bytesDB B)
theorem EyeB.only {w w' : World} {E : Nat} {v : Value} {B : ByteArray} (h : EyeB w E v B) (o : OnlyE E w w') : EyeB w' E v B :=
  h.mono (fun b hb => o.block b hb.2 hb.1) (fun _ hb => ⟨hb.1, Nat.lt_of_lt_of_le hb.2 o.size⟩)
def failE (s : St) (k : Nat) (p : Int) : St := if s.k = 0 then ⟨s.i, k, p⟩ else s
def hasE (l : List Nat) (B : ByteArray) (s : St) : Bool := (s.k == 0) && (decide (s.i < B.size) && l.contains (byteAt B s.i))
def stepE (s : St) : St := ⟨s.i + 1, s.k, s.a⟩
def mustE (l : List Nat) (B : ByteArray) (s : St) : St := if s.k ≠ 0 then s else if s.i = B.size then ⟨s.i, 10, s.i⟩ else if l.contains (byteAt B s.i) then stepE s else ⟨s.i, 11, s.i⟩
def EyPost (E : Nat) (v : Value) (w : World) (s' : St) (e : Ending) (w' : World) : Prop := e = .returned (.tuple #[]) ∧ EyeS w' E v s' ∧ OnlyE E w w'
set_option maxRecDepth 100000 in
theorem efail_any (E : Nat) (v : Value) (s : St) (k : Nat) (p : Int) (w : World) (h : EyeS w E v s) :
    Calls Tryz.prog 112 #[.pointer (some ⟨E, 0, none⟩), .int .i64 k, .int .i64 p] w (EyPost E v w (failE s k p)) := by
  obtain ⟨i, sk, sa⟩ := s
  have hc := h.cell; have hf := h.frozen
  by_cases h0 : sk = 0
  · subst h0
    have H2 : EyPost E v w (failE ⟨i, 0, sa⟩ k p) (.returned (.tuple #[])) ((w.setCell ⟨E, 2, none⟩ (.int .i64 k)).setCell ⟨E, 3, none⟩ (.int .i64 p)) :=
      ⟨rfl, (h.kind k).place p, ((Only.refl (fun k => k = E) w).set (p := ⟨E, 2, none⟩) (fun _ => rfl) (.int .i64 k)).set (p := ⟨E, 3, none⟩) (fun _ => rfl) (.int .i64 p)⟩
    have HH := Lib.hid H2
    have hc1 := (h.kind k).cell; have hf1 := (h.kind k).frozen
    clear h H2
    go_enter Tryz.func112, Tryz.ntmps112
    go_wp2
    go_end0
    exact HH.out
  · have t1 : ((sk : Int) == 0) = false := beq_eq_false_iff_ne.2 (by omega)
    have H2 : EyPost E v w (failE ⟨i, sk, sa⟩ k p) (.returned (.tuple #[])) w := ⟨rfl, by unfold failE; rw [if_neg h0]; exact h, Only.refl _ _⟩
    have HH := Lib.hid H2
    clear h H2
    go_enter Tryz.func112, Tryz.ntmps112
    go_wp2
    go_end0
    exact HH.out
set_option maxRecDepth 100000 in
set_option maxHeartbeats 8000000 in
theorem ehas_any (S : ByteArray) (l : List Nat) (hl : S.data.toList.map (·.toNat) = l) (hS : S.size ≤ 1000000) (E : Nat) (v : Value) (B : ByteArray) (s : St) (w : World) (hs : s.i ≤ B.size) (h : EyeS w E v s) (hB : EyeB w E v B) :
    Calls Tryz.prog 109 #[.pointer (some ⟨E, 0, none⟩), .string S] w fun e w' => e = .returned (.bool (hasE l B s)) ∧ ∃ n, w' = w.drewN n := by
  obtain ⟨i, sk, sa⟩ := s
  obtain ⟨a, c, rfl, ha, hac, hcc⟩ := hB.by_inv
  have hc := h.cell; have hf := h.frozen
  by_cases h0 : sk = 0
  · subst h0
    by_cases hlt : i < B.size
    · obtain ⟨b, off, rfl, _, hx⟩ := hcc (by omega)
      have x0 := hx i hlt
      have t2 : decide ((i : Int) < (B.size : Int)) = true := decide_eq_true (by omega)
      obtain ⟨r, hr⟩ : ∃ r, l.contains (byteAt B i) = r := ⟨_, rfl⟩
      have HC : Hid (∀ W, Calls Tryz.prog 45 #[.string S, .int .u8 (byteAt B i)] W fun e w' => e = .returned (.bool r) ∧ W = w') := Lib.hid (fun W => by rw [← hr]; exact bhas_any S l hl _ hS W)
      have HR : Hid (hasE l B ⟨i, 0, sa⟩ = r) := Lib.hid (by rw [← hr]; simp [hasE, hlt])
      clear h hB ha hcc hx hl hr
      go_enter Tryz.func109, Tryz.ntmps109
      go_wp2
      go_quiet ((go_at_call 45; exact quiet_eq (HC.out _)))
      go_wp2
      go_ret
      exact ⟨by rw [HR.out]; rfl, _, rfl⟩
    · have t2 : decide ((i : Int) < (B.size : Int)) = false := decide_eq_false (by omega)
      have HR : Hid (hasE l B ⟨i, 0, sa⟩ = false) := Lib.hid (by simp [hasE, hlt])
      clear h hB ha hcc hl
      go_enter Tryz.func109, Tryz.ntmps109
      go_wp2
      go_quiet (fail)
      go_wp2
      go_ret
      exact ⟨by rw [HR.out]; rfl, _, rfl⟩
  · have t1 : ((sk : Int) == 0) = false := beq_eq_false_iff_ne.2 (by omega)
    have HR : Hid (hasE l B ⟨i, sk, sa⟩ = false) := Lib.hid (by simp [hasE, h0])
    clear h hB ha hcc hl
    go_enter Tryz.func109, Tryz.ntmps109
    go_wp2
    go_quiet (fail)
    go_wp2
    go_ret
    exact ⟨by rw [HR.out]; rfl, _, rfl⟩
end
section
open Go.RowKit
theorem EyPost.after {E : Nat} {v : Value} {w w0 w' : World} {s : St} {e : Ending} (h : EyPost E v w0 s e w') (o : OnlyE E w w0) : EyPost E v w s e w' := ⟨h.1, h.2.1, o.trans h.2.2⟩
theorem drewN_two (w : World) (n m : Nat) : (w.drewN n).drewN m = w.drewN (n + m) := by simp [World.drewN]; try omega
theorem only_drewN (E : Nat) (w : World) (n : Nat) : OnlyE E w (w.drewN n) := Only.of (ext_drewN n (Below.refl _ _))
theorem EyeAt.drewN {w : World} {E i k : Nat} {v : Value} {a : Int} (h : EyeAt w E v i k a) (n : Nat) : EyeAt (w.drewN n) E v i k a := h
theorem EyeAt.stepped {w : World} {E i k : Nat} {v : Value} {a : Int} (h : EyeAt w E v i k a) : EyPost E v w ⟨i + 1, k, a⟩ (.returned (.tuple #[])) (w.setCell ⟨E, 1, none⟩ (.int .i64 ((i : Int) + 1))) :=
  ⟨rfl, by have := h.move (i + 1); rwa [show (((i + 1 : Nat) : Int)) = (i : Int) + 1 by omega] at this, (Only.refl (fun k => k = E) w).set (p := ⟨E, 1, none⟩) (fun _ => rfl) _⟩
set_option maxRecDepth 100000 in
set_option maxHeartbeats 8000000 in
theorem emust_any (S : ByteArray) (l : List Nat) (hl : S.data.toList.map (·.toNat) = l) (hS : S.size ≤ 1000000) (E : Nat) (v : Value) (B : ByteArray) (s : St) (w : World) (hz : B.size ≤ 1000000) (hs : s.i ≤ B.size) (h : EyeS w E v s) (hB : EyeB w E v B) :
    Calls Tryz.prog 141 #[.pointer (some ⟨E, 0, none⟩), .string S] w (EyPost E v w (mustE l B s)) := by
  have HF := Lib.hid (fun n (k : Nat) (p : Int) => (efail_any E v s k p (w.drewN n) h).mono fun e w' hp => hp.after (only_drewN E w n))
  have HH := Lib.hid (fun n => ehas_any S l hl hS E v B s (w.drewN n) hs h (hB.only (only_drewN E w n)))
  have HT := Lib.hid (fun n => (EyeAt.stepped (h.drewN n)).after (only_drewN E w n))
  have h' := h
  obtain ⟨i, sk, sa⟩ := s
  obtain ⟨a, c, rfl, _, hac, _⟩ := hB.by_inv
  have hc := h'.cell; have hf := h'.frozen
  have hs' : i ≤ B.size := hs
  clear hl h' hs
  by_cases h0 : sk = 0
  · subst h0
    by_cases hlt : i = B.size
    · have t2 : ((i : Int) == (B.size : Int)) = true := beq_iff_eq.2 (by omega)
      have HE : Hid (mustE l B ⟨i, 0, sa⟩ = failE ⟨i, 0, sa⟩ 10 i) := Lib.hid (by simp [mustE, failE, hlt])
      clear h hB hlt
      go_enter Tryz.func141, Tryz.ntmps141
      go_wp2
      go_quiet (fail)
      go_wp2_with fail
      refine (HF.out _ 10 i).mono ?_
      rintro e w1 ⟨rfl, h1⟩
      have H1 := Lib.hid h1; clear h1
      go_wp2
      first | go_end0 | (refine bodyPost_ret (results_none rfl _ _ _) rfl ?_)
      rw [HE.out]
      exact ⟨rfl, H1.out⟩
    · have t2 : ((i : Int) == (B.size : Int)) = false := beq_eq_false_iff_ne.2 (by omega)
      cases hr : l.contains (byteAt B i) with
      | false =>
        have HE : Hid (mustE l B ⟨i, 0, sa⟩ = failE ⟨i, 0, sa⟩ 11 i) := Lib.hid (by simp only [mustE, failE]; rw [if_neg (by simp), if_neg hlt, if_neg (by rw [hr]; decide)]; simp)
        have HQ : Hid (hasE l B ⟨i, 0, sa⟩ = false) := Lib.hid (by simp only [hasE, hr]; simp)
        clear h hB hr hlt
        go_enter Tryz.func141, Tryz.ntmps141
        go_wp2
        go_quiet (fail)
        go_wp2_with fail
        refine (HH.out _).mono ?_
        rintro e w1 ⟨rfl, m, rfl⟩
        rw [HQ.out]
        go_wp2_with fail
        try rw [drewN_two]
        refine (HF.out _ 11 i).mono ?_
        rintro e w1 ⟨rfl, h1⟩
        have H1 := Lib.hid h1; clear h1
        go_wp2
        first | go_end0 | (refine bodyPost_ret (results_none rfl _ _ _) rfl ?_)
        rw [HE.out]
        exact ⟨rfl, H1.out⟩
      | true =>
        have HE : Hid (mustE l B ⟨i, 0, sa⟩ = ⟨i + 1, 0, sa⟩) := Lib.hid (by simp only [mustE, stepE]; rw [if_neg (by simp), if_neg hlt, if_pos hr])
        have HQ : Hid (hasE l B ⟨i, 0, sa⟩ = true) := Lib.hid (by simp only [hasE, hr]; simp; omega)
        have q1 : IntKind.i64.wrap ((i : Int) + 1) = (i : Int) + 1 := IntWalk.i64_in _ (by omega)
        clear h hB hr hlt
        go_enter Tryz.func141, Tryz.ntmps141
        go_wp2
        go_quiet (fail)
        go_wp2_with fail
        refine (HH.out _).mono ?_
        rintro e w1 ⟨rfl, m, rfl⟩
        rw [HQ.out]
        go_wp2
        go_end0
        rw [HE.out]
        exact HT.out _
  · have t1 : ((sk : Int) != 0) = true := bne_iff_ne.2 (by omega)
    have HE : Hid (EyPost E (.slice a B.size c) w (mustE l B ⟨i, sk, sa⟩) (.returned (.tuple #[])) w) := Lib.hid ⟨rfl, by unfold mustE; rw [if_pos h0]; exact h, Only.refl _ _⟩
    clear h hB
    go_enter Tryz.func141, Tryz.ntmps141
    go_wp2
    first | go_end0 | (refine bodyPost_ret (results_none rfl _ _ _) rfl ?_)
    exact HE.out
end
section
open Go.RowKit
def figL : List Nat := [48, 49, 50, 51, 52, 53, 54, 55, 56, 57]
theorem fig_dig (c : Nat) : figL.contains c = isDig c := by
  rw [Bool.eq_iff_iff]
  simp only [figL, isDig, List.contains_eq_mem, decide_eq_true_eq, Bool.and_eq_true, List.mem_cons, List.not_mem_nil, or_false]
  omega
def runE (p : Nat → Bool) (B : ByteArray) (s : St) : St := if s.k ≠ 0 then s else ⟨skip p B s.i, s.k, s.a⟩
def someE (B : ByteArray) (s : St) : St := runE figL.contains B (mustE figL B s)
def iOf (E : Nat) (w : World) : Nat := match w.cell? ⟨E, 1, none⟩ with | some (.int _ n) => n.toNat | _ => 0
theorem iOf_eq {w : World} {E i k : Nat} {v : Value} {a : Int} (h : EyeAt w E v i k a) : iOf E w = i := by
  unfold iOf; rw [h.cell 1]; rfl
def SmE (E : Nat) (v : Value) (B : ByteArray) (p : Nat → Bool) (w : World) (s : St) (_pv : Value) (wr : World) : Prop :=
  ∃ j : Nat, EyeS wr E v ⟨j, s.k, s.a⟩ ∧ OnlyE E w wr ∧ j ≤ B.size ∧ runE p B s = runE p B ⟨j, s.k, s.a⟩
theorem SmE.start {pv : Value} {E : Nat} {v : Value} {B : ByteArray} {p : Nat → Bool} {w wr : World} {s : St} (h : EyeS wr E v s) (o : OnlyE E w wr) (hs : s.i ≤ B.size) : SmE E v B p w s pv wr := ⟨s.i, h, o, hs, rfl⟩
theorem SmE.done {E : Nat} {v : Value} {B : ByteArray} {l : List Nat} {w wr : World} {s : St} {j : Nat} (h : EyeS wr E v ⟨j, s.k, s.a⟩) (o : OnlyE E w wr) (he : runE l.contains B s = runE l.contains B ⟨j, s.k, s.a⟩) (hh : hasE l B ⟨j, s.k, s.a⟩ = false) : EyPost E v w (runE l.contains B s) (.returned (.tuple #[])) wr := by
  refine ⟨rfl, ?_, o⟩
  rw [he]
  unfold runE
  by_cases h0 : s.k = 0
  · rw [if_neg (by simpa using h0)]
    have : skip l.contains B j = j := skip_stop (fun hj => by
      simp only [hasE, h0, hj] at hh
      simpa using hh)
    rw [this]; exact h
  · rw [if_pos h0]; exact h
theorem SmE.next {E : Nat} {v : Value} {B : ByteArray} {l : List Nat} {w wr : World} {s : St} {j : Nat} (h : EyeS wr E v ⟨j, s.k, s.a⟩) (o : OnlyE E w wr) (_hj : j ≤ B.size) (he : runE l.contains B s = runE l.contains B ⟨j, s.k, s.a⟩) (hh : hasE l B ⟨j, s.k, s.a⟩ = true) :
    j < B.size ∧ ∀ n pv, SmE E v B l.contains w s pv ((wr.drewN n).setCell ⟨E, 1, none⟩ (.int .i64 ((j : Int) + 1))) ∧ B.size - iOf E ((wr.drewN n).setCell ⟨E, 1, none⟩ (.int .i64 ((j : Int) + 1))) < B.size - iOf E wr := by
  simp only [hasE, Bool.and_eq_true, decide_eq_true_eq, beq_iff_eq] at hh
  obtain ⟨h0, hlt, hc⟩ := hh
  refine ⟨hlt, fun n pv => ?_⟩
  have hst := EyeAt.stepped (h.drewN n)
  refine ⟨⟨j + 1, hst.2.1, (o.trans (only_drewN E wr n)).trans hst.2.2, hlt, ?_⟩, ?_⟩
  · rw [he]
    unfold runE
    rw [if_neg (by simpa using h0), if_neg (by simpa using h0), skip_go hlt hc]
  · rw [iOf_eq hst.2.1, iOf_eq h]; show B.size - (j + 1) < B.size - j; omega
theorem mustE_le {l : List Nat} {B : ByteArray} {s : St} (h : s.i ≤ B.size) : (mustE l B s).i ≤ B.size := by
  unfold mustE stepE
  split
  · exact h
  · split
    · exact h
    · split
      · show s.i + 1 ≤ B.size; omega
      · exact h
set_option maxRecDepth 100000 in
set_option maxHeartbeats 8000000 in
theorem esome_any (E : Nat) (v : Value) (B : ByteArray) (s : St) (w : World) (hz : B.size ≤ 1000000) (hs : s.i ≤ B.size) (h : EyeS w E v s) (hB : EyeB w E v B) :
    Calls Tryz.prog 143 #[.pointer (some ⟨E, 0, none⟩)] w (EyPost E v w (someE B s)) := by
  have HM := Lib.hid (emust_any ⟨#[48, 49, 50, 51, 52, 53, 54, 55, 56, 57]⟩ figL rfl (by decide) E v B s w hz hs h hB)
  have HH := Lib.hid (fun (t : St) (W : World) (ht : t.i ≤ B.size) (hE : EyeS W E v t) (hO : OnlyE E w W) => ehas_any ⟨#[48, 49, 50, 51, 52, 53, 54, 55, 56, 57]⟩ figL rfl (by decide) E v B t W ht hE (hB.only hO))
  have HS : Hid (∃ s1, mustE figL B s = s1 ∧ someE B s = runE figL.contains B s1 ∧ s1.i ≤ B.size) := Lib.hid ⟨_, rfl, rfl, mustE_le hs⟩
  obtain ⟨s1, h1, h2, h3⟩ := HS.out
  rw [h1] at HM
  rw [h2]
  have H3 := Lib.hid h3
  clear HS h1 h2 h3 h hB hs
  go_enter Tryz.func143, Tryz.ntmps143
  go_wp2_with fail
  refine HM.out.mono ?_
  rintro e w1 ⟨rfl, hE1, hO1⟩
  have HE1 := Lib.hid hE1; have HO1 := Lib.hid hO1
  clear hE1 hO1 HM
  go_wp2_with fail
  go_loopw [4] (SmE E v B figL.contains w s1) (fun _ wr => B.size - iOf E wr)
  case atStart => exact SmE.start HE1.out HO1.out H3.out
  case round =>
    obtain ⟨j, hE, hO, hj, he⟩ := hrel
    have hc := hE.cell; have hf := hE.frozen
    have HC := Lib.hid (HH.out ⟨j, s1.k, s1.a⟩ wr hj hE hO)
    cases hh : hasE figL B ⟨j, s1.k, s1.a⟩ with
    | true =>
      have hN := SmE.next hE hO hj he hh
      have hlt := hN.1
      have q1 : IntKind.i64.wrap ((j : Int) + 1) = (j : Int) + 1 := IntWalk.i64_in _ (by omega)
      have HN := Lib.hid hN.2
      rw [hh] at HC
      clear hE hO he hh hN
      go_wp2_with fail
      refine HC.out.mono ?_
      rintro e w2 ⟨rfl, n, rfl⟩
      go_wp2
      have R := HN.out n
      refine ⟨?_, (R undef).2⟩
      first | exact (R _).1 | ((repeat apply Exists.intro); exact ⟨(R _).1, rfl⟩)
    | false =>
      have HD := Lib.hid (fun n => SmE.done (hE.drewN n) (hO.trans (only_drewN E wr n)) he hh)
      rw [hh] at HC
      clear hE hO he hh
      go_wp2_with fail
      refine HC.out.mono ?_
      rintro e w2 ⟨rfl, n, rfl⟩
      go_wp2
      first | go_end0 | skip
      exact HD.out n
end
section
open Go.RowKit
structure Now (E : Nat) (v : Value) (B : ByteArray) (w : World) (t : St) (W : World) : Prop where
  at_ : EyeS W E v t
  only : OnlyE E w W
  le : t.i ≤ B.size
theorem Now.drewN {E : Nat} {v : Value} {B : ByteArray} {w W : World} {t : St} (h : Now E v B w t W) (n : Nat) : Now E v B w t (W.drewN n) := ⟨h.at_, h.only.trans (only_drewN E W n), h.le⟩
theorem Now.step {E : Nat} {v : Value} {B : ByteArray} {w W : World} {t : St} (h : Now E v B w t W) (n : Nat) (hlt : t.i < B.size) : Now E v B w (stepE t) ((W.drewN n).setCell ⟨E, 1, none⟩ (.int .i64 ((t.i : Int) + 1))) :=
  have hs := EyeAt.stepped (h.at_.drewN n)
  ⟨hs.2.1, (h.only.trans (only_drewN E W n)).trans hs.2.2, hlt⟩
theorem Now.post {E : Nat} {v : Value} {B : ByteArray} {w W W' : World} {t t' : St} {e : Ending} (h : Now E v B w t W) (hp : EyPost E v W t' e W') (hl : t'.i ≤ B.size) : Now E v B w t' W' := ⟨hp.2.1, h.only.trans hp.2.2, hl⟩
theorem Now.fin {E : Nat} {v : Value} {B : ByteArray} {w W : World} {t : St} (h : Now E v B w t W) : EyPost E v w t (.returned (.tuple #[])) W := ⟨rfl, h.at_, h.only⟩
theorem has_lt {l : List Nat} {B : ByteArray} {t : St} (h : hasE l B t = true) : t.i < B.size := by
  simp only [hasE, Bool.and_eq_true, decide_eq_true_eq] at h; exact h.2.1
theorem runE_le {p : Nat → Bool} {B : ByteArray} {s : St} (h : s.i ≤ B.size) : (runE p B s).i ≤ B.size := by
  unfold runE; split
  · exact h
  · exact skip_le _ _ _ h
theorem someE_le {B : ByteArray} {s : St} (h : s.i ≤ B.size) : (someE B s).i ≤ B.size := runE_le (mustE_le h)
def optE (l : List Nat) (B : ByteArray) (s : St) : St := if hasE l B s then stepE s else s
def num2E (B : ByteArray) (s : St) : St := if hasE [48] B s then stepE s else someE B s
def num3E (B : ByteArray) (s : St) : St := if hasE [46] B s then someE B (stepE s) else s
def num4E (B : ByteArray) (s : St) : St := if hasE [101, 69] B s then someE B (optE [43, 45] B (stepE s)) else s
def numE (B : ByteArray) (s : St) : St := num4E B (num3E B (num2E B (optE [45] B s)))
set_option maxRecDepth 100000 in
set_option maxHeartbeats 16000000 in
theorem enumber_any (E : Nat) (v : Value) (B : ByteArray) (s : St) (w : World) (hz : B.size ≤ 1000000) (hs : s.i ≤ B.size) (h : EyeS w E v s) (hB : EyeB w E v B) :
    Calls Tryz.prog 111 #[.pointer (some ⟨E, 0, none⟩)] w (EyPost E v w (numE B s)) := by
  have HH := Lib.hid (fun (S : ByteArray) (l : List Nat) (hl : S.data.toList.map (·.toNat) = l) (hS : S.size ≤ 1000000) (t : St) (W : World) (hN : Now E v B w t W) => ehas_any S l hl hS E v B t W hN.le hN.at_ (hB.only hN.only))
  have HM := Lib.hid (fun (t : St) (W : World) (hN : Now E v B w t W) => esome_any E v B t W hz hN.le hN.at_ (hB.only hN.only))
  have HN := Lib.hid (Now.mk h (Only.refl (fun k => k = E) w) hs)
  clear h hB hs
  obtain ⟨W, hW⟩ : ∃ W, W = w := ⟨_, rfl⟩
  have HNW : Hid (Now E v B w s W) := Lib.hid (by rw [hW]; exact HN.out)
  rw [show (Calls Tryz.prog 111 #[.pointer (some ⟨E, 0, none⟩)] w (EyPost E v w (numE B s))) = (Calls Tryz.prog 111 #[.pointer (some ⟨E, 0, none⟩)] W (EyPost E v w (numE B s))) by rw [hW]]
  clear hW HN
  go_enter Tryz.func111, Tryz.ntmps111
  go_wp2_with fail
  refine (HH.out ⟨#[45]⟩ [45] (by rfl) (by decide) s W HNW.out).mono ?_
  rintro e w1 ⟨rfl, n, rfl⟩
  go_upto_if 3 with (fail)
  go_cut [] (fun wx => ∃ t, t = optE [45] B s ∧ Now E v B w t wx)
  case first =>
    cases hh : hasE [45] B s with
    | true =>
      have hc := HNW.out.at_.cell; have hf := HNW.out.at_.frozen
      have hlt := has_lt hh
      have q1 : IntKind.i64.wrap ((s.i : Int) + 1) = (s.i : Int) + 1 := IntWalk.i64_in _ (by omega)
      have HX := Lib.hid (HNW.out.step n hlt)
      have HE : Hid (stepE s = optE [45] B s) := Lib.hid (by simp only [optE]; rw [hh]; rfl)
      clear hh
      go_wp2
      go_meet
      exact ⟨_, HE.out, HX.out⟩
    | false =>
      have HE : Hid (s = optE [45] B s) := Lib.hid (by simp only [optE]; rw [hh]; rfl)
      clear hh
      go_wp2
      go_meet
      exact ⟨_, HE.out, HNW.out.drewN n⟩
  case rest =>
    obtain ⟨t1, h1, hN1⟩ := hcut
    have H1 := Lib.hid h1; have HN1 := Lib.hid hN1
    clear h1 hN1
    go_wp2_with fail
    refine (HH.out ⟨#[48]⟩ [48] (by rfl) (by decide) t1 wc HN1.out).mono ?_
    rintro e w1 ⟨rfl, n, rfl⟩
    go_upto_if 12 with (fail)
    go_cut [] (fun wx => ∃ t, t = num2E B t1 ∧ Now E v B w t wx)
    case first =>
      cases hh : hasE [48] B t1 with
      | true =>
        have hc := HN1.out.at_.cell; have hf := HN1.out.at_.frozen
        have hlt := has_lt hh
        have q1 : IntKind.i64.wrap ((t1.i : Int) + 1) = (t1.i : Int) + 1 := IntWalk.i64_in _ (by omega)
        have HX := Lib.hid (HN1.out.step n hlt)
        have HE : Hid (stepE t1 = num2E B t1) := Lib.hid (by simp only [num2E]; rw [hh]; rfl)
        clear hh
        go_wp2
        go_meet
        exact ⟨_, HE.out, HX.out⟩
      | false =>
        have HE : Hid (someE B t1 = num2E B t1) := Lib.hid (by simp only [num2E]; rw [hh]; rfl)
        clear hh
        go_wp2_with fail
        refine (HM.out t1 _ (HN1.out.drewN n)).mono ?_
        rintro e w2 hp
        obtain ⟨rfl, hp1, hp2⟩ := hp
        have HY := Lib.hid (((HN1.out.drewN n)).post ⟨rfl, hp1, hp2⟩ (someE_le ((HN1.out.drewN n)).le))
        clear hp1 hp2
        go_wp2
        go_meet
        exact ⟨_, HE.out, HY.out⟩
    case rest =>
      obtain ⟨t2, h2, hN2⟩ := hcut
      have H2 := Lib.hid h2; have HN2 := Lib.hid hN2
      clear h2 hN2 HN1
      go_wp2_with fail
      refine (HH.out ⟨#[46]⟩ [46] (by rfl) (by decide) t2 _ HN2.out).mono ?_
      rintro e w1 ⟨rfl, n, rfl⟩
      go_upto_if 23 with (fail)
      go_cut [] (fun wx => ∃ t, t = num3E B t2 ∧ Now E v B w t wx)
      case first =>
        cases hh : hasE [46] B t2 with
        | true =>
          have hc := HN2.out.at_.cell; have hf := HN2.out.at_.frozen
          have hlt := has_lt hh
          have q1 : IntKind.i64.wrap ((t2.i : Int) + 1) = (t2.i : Int) + 1 := IntWalk.i64_in _ (by omega)
          have HX := Lib.hid (HN2.out.step n hlt)
          have HE : Hid (someE B (stepE t2) = num3E B t2) := Lib.hid (by simp only [num3E]; rw [hh]; rfl)
          clear hh
          go_wp2_with fail
          refine (HM.out (stepE t2) _ HX.out).mono ?_
          rintro e w2 hp
          obtain ⟨rfl, hp1, hp2⟩ := hp
          have HY := Lib.hid ((HX.out).post ⟨rfl, hp1, hp2⟩ (someE_le (HX.out).le))
          clear hp1 hp2
          go_wp2
          go_meet
          exact ⟨_, HE.out, HY.out⟩
        | false =>
          have HE : Hid (t2 = num3E B t2) := Lib.hid (by simp only [num3E]; rw [hh]; rfl)
          clear hh
          go_wp2
          go_meet
          exact ⟨_, HE.out, HN2.out.drewN n⟩
      case rest =>
        obtain ⟨t3, h3, hN3⟩ := hcut
        have H3 := Lib.hid h3; have HN3 := Lib.hid hN3
        have HF : Hid (numE B s = num4E B t3) := Lib.hid (by rw [H3.out, H2.out, H1.out]; rfl)
        clear h3 hN3 HN2
        go_wp2_with fail
        refine (HH.out ⟨#[101, 69]⟩ [101, 69] (by rfl) (by decide) t3 _ HN3.out).mono ?_
        rintro e w1 ⟨rfl, n, rfl⟩
        cases hh : hasE [101, 69] B t3 with
        | true =>
          have hc := HN3.out.at_.cell; have hf := HN3.out.at_.frozen
          have hlt := has_lt hh
          have q1 : IntKind.i64.wrap ((t3.i : Int) + 1) = (t3.i : Int) + 1 := IntWalk.i64_in _ (by omega)
          have HX := Lib.hid (HN3.out.step n hlt)
          have HE : Hid (someE B (optE [43, 45] B (stepE t3)) = num4E B t3) := Lib.hid (by simp only [num4E]; rw [hh]; rfl)
          clear hh
          go_wp2_with fail
          refine (HH.out ⟨#[43, 45]⟩ [43, 45] (by rfl) (by decide) (stepE t3) _ HX.out).mono ?_
          rintro e w1 ⟨rfl, m, rfl⟩
          have hc2 := HX.out.at_.cell; have hf2 := HX.out.at_.frozen
          clear hc hf
          cases hh2 : hasE [43, 45] B (stepE t3) with
          | true =>
            have hlt2 := has_lt hh2
            have q2 : IntKind.i64.wrap (((stepE t3).i : Int) + 1) = ((stepE t3).i : Int) + 1 := IntWalk.i64_in _ (by omega)
            have HX2 := Lib.hid (HX.out.step m hlt2)
            have HE2 : Hid (stepE (stepE t3) = optE [43, 45] B (stepE t3)) := Lib.hid (by simp only [optE]; rw [hh2]; rfl)
            clear hh2
            go_wp2_with fail
            refine (HM.out (stepE (stepE t3)) _ HX2.out).mono ?_
            rintro e w2 hp
            obtain ⟨rfl, hp1, hp2⟩ := hp
            have HY := Lib.hid ((HX2.out).post ⟨rfl, hp1, hp2⟩ (someE_le (HX2.out).le))
            clear hp1 hp2
            go_wp2
            go_end0
            rw [HF.out, ← HE.out, ← HE2.out]
            exact HY.out.fin
          | false =>
            have HE2 : Hid (stepE t3 = optE [43, 45] B (stepE t3)) := Lib.hid (by simp only [optE]; rw [hh2]; rfl)
            clear hh2
            go_wp2_with fail
            refine (HM.out (stepE t3) _ (HX.out.drewN m)).mono ?_
            rintro e w2 hp
            obtain ⟨rfl, hp1, hp2⟩ := hp
            have HY := Lib.hid (((HX.out.drewN m)).post ⟨rfl, hp1, hp2⟩ (someE_le ((HX.out.drewN m)).le))
            clear hp1 hp2
            go_wp2
            go_end0
            rw [HF.out, ← HE.out, ← HE2.out]
            exact HY.out.fin
        | false =>
          have HE : Hid (t3 = num4E B t3) := Lib.hid (by simp only [num4E]; rw [hh]; rfl)
          clear hh
          go_wp2
          go_end0
          rw [HF.out, ← HE.out]
          exact (HN3.out.drewN n).fin
end
section
open Go.RowKit
def wordE (B : ByteArray) (l : List Nat) (s : St) : St := l.foldl (fun t c => mustE [c] B t) s
def WrRel (E : Nat) (v : Value) (B : ByteArray) (l : List Nat) (w : World) (s : St) (i : Value) (wr : World) : Prop := ∃ j : Nat, i = .int .i64 j ∧ j ≤ l.length ∧ Now E v B w (wordE B (l.take j) s) wr
theorem WrRel.next {E : Nat} {v : Value} {B : ByteArray} {l : List Nat} {w wr w' : World} {s : St} {j : Nat} {e : Ending} (hj : j < l.length) (h : Now E v B w (wordE B (l.take j) s) wr) (hp : EyPost E v wr (mustE [l[j]] B (wordE B (l.take j) s)) e w') : WrRel E v B l w s (.int .i64 (j + 1)) w' := by
  have he : wordE B (l.take (j + 1)) s = mustE [l[j]] B (wordE B (l.take j) s) := by
    unfold wordE
    rw [List.take_succ_eq_append_getElem hj, List.foldl_append]; rfl
  exact ⟨j + 1, by go_num, hj, by rw [he]; exact h.post hp (mustE_le h.le)⟩
theorem ext_one (S : ByteArray) (l : List Nat) (hl : S.data.toList.map (·.toNat) = l) (j : Nat) (hj : j < l.length) : (S.extract j (j + 1)).data.toList.map (·.toNat) = [l[j]] := by
  subst hl
  have hj' : j < S.data.size := by simpa using hj
  apply List.ext_getElem
  · simp only [ByteArray.data_extract, List.length_map, Array.length_toList, Array.size_extract, List.length_cons, List.length_nil]; omega
  · intro n h1 h2
    simp at h2
    subst h2
    simp [ByteArray.data_extract]
set_option maxRecDepth 100000 in
set_option maxHeartbeats 8000000 in
theorem eword_any (S : ByteArray) (l : List Nat) (hl : S.data.toList.map (·.toNat) = l) (hS : S.size ≤ 1000) (E : Nat) (v : Value) (B : ByteArray) (s : St) (w : World) (hz : B.size ≤ 1000000) (hs : s.i ≤ B.size) (h : EyeS w E v s) (hB : EyeB w E v B) :
    Calls Tryz.prog 110 #[.pointer (some ⟨E, 0, none⟩), .string S] w (EyPost E v w (wordE B l s)) := by
  have hsl : S.size = l.length := by rw [← hl]; simp
  have HM := Lib.hid (fun (j : Nat) (hj : j < l.length) (t : St) (W : World) (hN : Now E v B w t W) => emust_any (S.extract j (j + 1)) [l[j]] (ext_one S l hl j hj) (by rw [ByteArray.size_extract]; omega) E v B t W hz hN.le hN.at_ (hB.only hN.only))
  have HN := Lib.hid (Now.mk h (Only.refl (fun k => k = E) w) hs)
  have HL := Lib.hid hsl
  clear h hB hs hl hsl
  go_enter Tryz.func110, Tryz.ntmps110
  go_wp2_with fail
  go_loopw [4] (WrRel E v B l w s) (fun i _ => l.length - (intOf i).toNat)
  case atStart => exact ⟨0, rfl, Nat.zero_le _, HN.out⟩
  case round =>
    obtain ⟨j, rfl, hj, hN⟩ := hrel
    have HW := Lib.hid hN
    clear hN
    by_cases hlt : j < l.length
    · have hjs : j < S.size := by rw [HL.out]; exact hlt
      have q1 : IntKind.i64.wrap ((j : Int) + 1) = (j : Int) + 1 := IntWalk.i64_in _ (by omega)
      have q2 : (0 : Int) ≤ (j : Int) := Int.natCast_nonneg _
      have q3 : (j : Int) ≤ (j : Int) + 1 := by omega
      have q4 : (j : Int) + 1 ≤ (S.size : Int) := by omega
      have q5 : ((j : Int) + 1).toNat = j + 1 := by omega
      have t1 : decide (j < S.size) = true := decide_eq_true hjs
      go_wp2_with fail
      refine (HM.out j hlt _ _ HW.out).mono ?_
      rintro e w1 hp
      have R := WrRel.next hlt HW.out hp
      obtain ⟨rfl, _, _⟩ := hp
      have HR := Lib.hid R
      clear R
      go_wp2
      refine ⟨?_, by simp [intOf] <;> omega⟩
      have R := HR.out
      first | exact R | ((repeat apply Exists.intro); exact ⟨R, rfl⟩)
    · have hE : j = l.length := by omega
      have t1 : decide (j < S.size) = false := decide_eq_false (by rw [HL.out]; omega)
      have HF : Hid (EyPost E v w (wordE B l s) (.returned (.tuple #[])) wr) := Lib.hid (by have := HW.out.fin; rwa [hE, List.take_length] at this)
      clear hE
      go_wp2
      go_end0
      exact HF.out
end
end Go.Proofs.YtheoaijheijojaaGreatDoor
