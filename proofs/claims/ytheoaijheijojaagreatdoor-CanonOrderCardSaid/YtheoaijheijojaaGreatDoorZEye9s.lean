/- Eye9, Eye10 in one text (a claim holds at most 60 files). -/
import Derived.Test.YtheoaijheijojaaGreatDoorZEye8
import Derived.Test.YtheoaijheijojaaGreatDoorZTxtWs
import Derived.Deep.DeepCutAuto
namespace Go.Proofs.YtheoaijheijojaaGreatDoor
section
open Go.RowKit
def rnV : Sc Tok → Value
  | .ok t => .tuple #[.agg #[.int .i64 t.kind, .int .i64 t.fr, .int .i64 t.to], .int .i64 0, .int .i64 0]
  | .no k i => .tuple #[.agg #[.int .i64 0, .int .i64 0, .int .i64 0], .int .i64 k, .int .i64 i]
def RnPost (w : World) (r : Sc Tok) (e : Ending) (w' : World) : Prop := e = .returned (rnV r) ∧ Below w.heap.size w w'
/-- The result's own box lies as it was made. -/
structure BoxOk (w W : World) : Prop where
  cell : ∀ o, W.cell? ⟨w.heap.size, o, none⟩ = (#[Value.int .i64 0, .int .i64 0, .int .i64 0] : Array Value)[o]?
  fr : ∀ o, W.frozen? ⟨w.heap.size, o, none⟩ = false
  lt : w.heap.size < W.heap.size
  below : Below w.heap.size w W
theorem BoxOk.made (w : World) : BoxOk w (w.alloc (.cells #[.int .i64 0, .int .i64 0, .int .i64 0] 79)) :=
  ⟨fun o => by simp, fun o => by simp, by simp, ext_alloc (Below.refl _ _) _⟩
theorem frozen_keep {w w' : World} {b o : Nat} (h : w'.heap[b]? = w.heap[b]?) : w'.frozen? ⟨b, o, none⟩ = w.frozen? ⟨b, o, none⟩ := by
  simp only [World.frozen?, h]
theorem BoxOk.only {w W W' : World} {E : Nat} (h : BoxOk w W) (hO : OnlyE E W W') (hE : w.heap.size < E) : BoxOk w W' := by
  have hk := hO.block w.heap.size h.lt (by omega)
  refine ⟨fun o => by rw [cell_keep hk]; exact h.cell o, fun o => by rw [frozen_keep hk]; exact h.fr o, Nat.lt_of_lt_of_le h.lt hO.size, h.below.trans (hO.below h.below.size (fun k hk => by omega))⟩
theorem BoxOk.alloc {w W : World} (h : BoxOk w W) (o : Obj) : BoxOk w (W.alloc o) := by
  have hk := Below.heap_alloc W o w.heap.size h.lt
  exact ⟨fun q => by rw [cell_keep hk]; exact h.cell q, fun q => by rw [frozen_keep hk]; exact h.fr q, by have := h.lt; simp; omega, ext_alloc h.below o⟩
theorem mk_hit : ∀ j : Fin 6, ∀ c : Fin 256, marksL[j.val]? = some c.val → marksL.contains c.val = true ∧ marksL.idxOf c.val = j.val := by decide +kernel
theorem mk_none : ∀ c : Fin 256, (∀ j : Fin 6, marksL[j.val]? ≠ some c.val) → marksL.contains c.val = false := by decide +kernel
def MkRel (ch : Nat) (k : Value) : Prop := ∃ j : Nat, k = .int .i64 j ∧ j ≤ 6 ∧ ∀ m, m < j → marksL[m]? ≠ some ch
/-- What stands behind the reading of a token. -/
def ChRel (E : Nat) (v : Value) (W3 : World) (R : Sc Tok) (P : Nat) (k : Value) (wx : World) : Prop :=
  ∃ (s : St) (kd : Nat), k = .int .i64 kd ∧ EyeS wx E v s ∧ OnlyE E W3 wx ∧ (s.k = 0 → R = .ok ⟨kd, P, s.i⟩) ∧ (s.k ≠ 0 → R = .no s.k s.a)
theorem ch_tells {R : Sc Tok} {s : St} {r : Sc Nat} {kd P : Nat} (h : Tells 0 s r) (hR : R = r.bind fun e => .ok ⟨kd, P, e⟩) : (s.k = 0 → R = .ok ⟨kd, P, s.i⟩) ∧ (s.k ≠ 0 → R = .no s.k s.a) := by
  cases r with
  | ok e =>
    have e1 : s = ⟨e, 0, 0⟩ := h
    rw [e1]
    exact ⟨fun _ => hR, fun h => absurd rfl h⟩
  | no k p =>
    obtain ⟨h1, h2, h3⟩ := h
    rw [h1, h2]
    exact ⟨fun h => absurd h h3, fun _ => hR⟩
theorem ch_text {R : Sc Tok} {s : St} {acc : List Nat} {r : Sc (List Nat × Nat)} {P : Nat} (h : TeEnd s acc r) (hR : R = r.bind fun x => .ok ⟨7, P, x.2⟩) : (s.k = 0 → R = .ok ⟨(7 : Nat), P, s.i⟩) ∧ (s.k ≠ 0 → R = .no s.k s.a) := by
  cases r with
  | ok x =>
    obtain ⟨_, h2, h3⟩ := h
    rw [h3]
    exact ⟨fun _ => hR, fun h => absurd h2 h⟩
  | no k p =>
    obtain ⟨h1, h2, h3⟩ := h
    rw [h1, h2]
    exact ⟨fun h => absurd h h3, fun _ => hR⟩
theorem next_end {B : ByteArray} {i : Nat} (h : skip isBlank B i = B.size) : nextS B i = .ok ⟨0, B.size, B.size⟩ := by
  unfold nextS tokenS; rw [h, if_pos rfl]; rfl
section
variable {B : ByteArray} {i P ch : Nat} {R : Sc Tok} (hR : nextS B i = R) (hP : skip isBlank B i = P) (hlt : P < B.size) (hc : byteAt B P = ch)
include hR hP hlt hc
theorem next_mark (hm : marksL.contains ch = true) : R = .ok ⟨(1 + marksL.idxOf ch : Nat), P, (P + 1 : Nat)⟩ := by
  rw [← hR]; unfold nextS tokenS; rw [hP, hc, if_neg (by omega), if_pos hm]; rfl
theorem next_text (h : ch = 34) : R = (textS B (P + 1) []).bind fun x => .ok ⟨7, P, x.2⟩ := by
  rw [← hR]; unfold nextS tokenS; rw [hP, hc, if_neg (by omega), if_neg (by rw [h]; decide), if_pos h]
  cases textS B (P + 1) [] <;> rfl
theorem next_num (hm : marksL.contains ch = false) (h1 : ch ≠ 34) (h : ch = 45 ∨ isDig ch = true) : R = (numberS B P).bind fun x => .ok ⟨(8 : Nat), P, x⟩ := by
  rw [← hR]; unfold nextS tokenS; rw [hP, hc, if_neg (by omega), if_neg (by rw [hm]; decide), if_neg h1, if_pos h]
  cases numberS B P <;> rfl
theorem next_true (h : ch = 116) : R = (wordS B P trueL).bind fun x => .ok ⟨(9 : Nat), P, x⟩ := by
  rw [← hR]; unfold nextS tokenS; rw [hP, hc, if_neg (by omega), if_neg (by rw [h]; decide), if_neg (by omega), if_neg (by rw [h]; decide), if_pos h]
  cases wordS B P trueL <;> rfl
theorem next_false (h : ch = 102) : R = (wordS B P falseL).bind fun x => .ok ⟨(10 : Nat), P, x⟩ := by
  rw [← hR]; unfold nextS tokenS; rw [hP, hc, if_neg (by omega), if_neg (by rw [h]; decide), if_neg (by omega), if_neg (by rw [h]; decide), if_neg (by omega), if_pos h]
  cases wordS B P falseL <;> rfl
theorem next_null (h : ch = 110) : R = (wordS B P nullL).bind fun x => .ok ⟨(11 : Nat), P, x⟩ := by
  rw [← hR]; unfold nextS tokenS; rw [hP, hc, if_neg (by omega), if_neg (by rw [h]; decide), if_neg (by omega), if_neg (by rw [h]; decide), if_neg (by omega), if_neg (by omega), if_pos h]
  cases wordS B P nullL <;> rfl
theorem next_no (hm : marksL.contains ch = false) (h1 : ch ≠ 34) (h2 : ¬ (ch = 45 ∨ isDig ch = true)) (h3 : ch ≠ 116) (h4 : ch ≠ 102) (h5 : ch ≠ 110) : R = .no 11 P := by
  rw [← hR]; unfold nextS tokenS; rw [hP, hc, if_neg (by omega), if_neg (by rw [hm]; decide), if_neg h1, if_neg h2, if_neg h3, if_neg h4, if_neg h5]; rfl
end
set_option maxRecDepth 100000 in
set_option maxHeartbeats 16000000 in
theorem rnx_out (v : Value) (B : ByteArray) (at_ : Int) (w : World) (h : Rd (Own w) w v (bytesDB B)) (hout : at_ < 0 ∨ (B.size : Int) < at_) :
    Calls Tryz.prog 73 #[v, .int .i64 at_] w (RnPost w (.no 1 at_)) := by
  obtain ⟨a, c, rfl, _, _, _⟩ := h.by_inv
  have q : decide (at_ < 0) = true ∨ (decide (at_ < 0) = false ∧ decide ((B.size : Int) < at_) = true) := by
    by_cases h1 : at_ < 0
    · exact .inl (decide_eq_true h1)
    · exact .inr ⟨decide_eq_false h1, decide_eq_true (hout.resolve_left h1)⟩
  clear h hout
  have HB := Lib.hid (fun a b c => below_box (w := w) (ext_alloc (Below.refl _ _) (.cells #[.int .i64 0, .int .i64 0, .int .i64 0] 79)) a b c)
  rcases q with q1 | ⟨q1, q2⟩
  all_goals
    go_enter Tryz.func73, Tryz.ntmps73
    go_wp2
    refine bodyPost_ret (v := rnV (.no 1 at_)) (by simp [results, Tryz.results73, go_sem, rnV]) rfl ⟨rfl, ?_⟩
    first | exact HB.out _ _ _ | exact ext_alloc (Below.refl _ _) _
end
section
open Go.RowKit
set_option maxRecDepth 100000 in
set_option maxHeartbeats 32000000 in
theorem rnx_in (v : Value) (B : ByteArray) (i : Nat) (w : World) (h : Rd (Own w) w v (bytesDB B)) (hz : B.size ≤ 1000000) (hi : i ≤ B.size) :
    Calls Tryz.prog 73 #[v, .int .i64 i] w (RnPost w (nextS B i)) := by
  obtain ⟨R, hR⟩ : ∃ R, nextS B i = R := ⟨_, rfl⟩
  rw [hR]
  have HR := Lib.hid hR
  clear hR
  have hle := skip_le isBlank B i hi
  obtain ⟨P, hP⟩ : ∃ P, skip isBlank B i = P := ⟨_, rfl⟩
  rw [hP] at hle
  have HP := Lib.hid hP
  clear hP
  have H := Lib.hid h
  have hc := h.by_inv
  obtain ⟨a, c, rfl, _, hac, hx⟩ := h.by_inv
  clear hc hx h
  -- the box and the reader
  obtain ⟨W1, hW1⟩ : ∃ W, w.alloc (.cells #[.int .i64 0, .int .i64 0, .int .i64 0] 79) = W := ⟨_, rfl⟩
  have hb1 : BoxOk w W1 := by rw [← hW1]; exact BoxOk.made w
  have hz1 : W1.heap.size = w.heap.size + 1 := by rw [← hW1]; simp
  obtain ⟨W2, hW2⟩ : ∃ W, W1.alloc (.cells #[.slice a B.size c, .int .i64 i, .int .i64 0, .int .i64 0] 189) = W := ⟨_, rfl⟩
  have hb2 : BoxOk w W2 := by rw [← hW2]; exact hb1.alloc _
  have hE2 : EyeS W2 W1.heap.size (.slice a B.size c) ⟨i, 0, 0⟩ := by rw [← hW2]; show (W1.heap.push _)[W1.heap.size]? = _; simp
  have hB2 : EyeB W2 W1.heap.size (.slice a B.size c) B := by
    refine Rd.mono H.out (fun k hk => hb2.below.block k hk) (fun k hk => ⟨by have : k < w.heap.size := hk; omega, Nat.lt_of_lt_of_le hk hb2.below.size⟩)
  obtain ⟨E, hE⟩ : ∃ E, W1.heap.size = E := ⟨_, rfl⟩
  rw [hE] at hE2 hB2 hz1
  have hEgt : w.heap.size < E := by omega
  have HBX := Lib.hid hb2; have HES := Lib.hid hE2; have HEB := Lib.hid (fun W (hO : OnlyE E W2 W) => hB2.only hO); have HEG := Lib.hid hEgt
  have HW1 := Lib.hid hW1; have HW2 := Lib.hid hW2; have HE : Hid (w.heap.size + 1 = E) := Lib.hid hz1.symm
  have HH := Lib.hid (fun (t : St) (W : World) (ht : t.i ≤ B.size) (hE : EyeS W E _ t) (hO : OnlyE E W2 W) => ehas_any ⟨#[32, 9, 10, 13]⟩ [32, 9, 10, 13] rfl (by decide) E _ B t W ht hE (hB2.only hO))
  have t1 : decide ((i : Int) < 0) = false := decide_eq_false (by omega)
  have t2 : decide (B.size < i) = false := decide_eq_false (by omega)
  have t2' : decide ((B.size : Int) < (i : Int)) = false := decide_eq_false (by omega)
  clear hb1 hb2 hE2 hB2 hz1 hEgt hE hW1 hW2
  go_enter Tryz.func73, Tryz.ntmps73
  go_wp2_with fail
  rw [HW1.out]
  go_wp2_with fail
  rw [HW2.out, HE.out]
  clear HW1 HW2 HE
  go_loopw [28] (SmE E (.slice a B.size c) B isBlank W2 ⟨i, 0, 0⟩) (fun _ wr => B.size - iOf E wr)
  case atStart => exact SmE.start HES.out (Only.refl _ _) hi
  case round =>
    obtain ⟨j, hE, hO, hj, he⟩ := hrel
    have hc := hE.cell; have hf := hE.frozen
    have HC := Lib.hid (HH.out ⟨j, 0, 0⟩ wr hj hE hO)
    cases hh : hasE [32, 9, 10, 13] B ⟨j, 0, 0⟩ with
    | true =>
      have hN := SmE.next (l := [32, 9, 10, 13]) hE hO hj he hh
      have hlt := hN.1
      have q1 : IntKind.i64.wrap ((j : Int) + 1) = (j : Int) + 1 := IntWalk.i64_in _ (by omega)
      have HN := Lib.hid hN.2
      rw [hh] at HC
      clear hE hO he hh hN
      go_wp2_with fail
      refine HC.out.mono ?_
      rintro e w2 ⟨rfl, n, rfl⟩
      go_wp2
      have R := HN.out n
      refine ⟨?_, (R undef).2⟩
      first | exact (R _).1 | ((repeat apply Exists.intro); exact ⟨(R _).1, rfl⟩)
    | false =>
      have hD := SmE.done (l := [32, 9, 10, 13]) hE hO he hh
      have hrun : runE [32, 9, 10, 13].contains B ⟨i, 0, 0⟩ = ⟨P, 0, 0⟩ := by unfold runE; rw [if_neg (by simp)]; show (⟨skip isBlank B i, 0, 0⟩ : St) = _; rw [HP.out]
      rw [hrun] at hD
      obtain rfl : j = P := by
        have h1 := iOf_eq hE; have h2 := iOf_eq hD.2.1
        exact h1.symm.trans h2
      have HEP := Lib.hid (fun n => (hE.drewN n))
      have HOP := Lib.hid (fun n => hO.trans (only_drewN E wr n))
      rw [hh] at HC
      clear hE hO he hh hD hrun
      go_wp2_with fail
      refine HC.out.mono ?_
      rintro e w2 ⟨rfl, n, rfl⟩
      obtain ⟨W3, hW3⟩ : ∃ W, wr.drewN n = W := ⟨_, rfl⟩
      have hE3 := HEP.out n; have hO3 := HOP.out n
      rw [hW3] at hE3 hO3
      have HE3 := Lib.hid hE3; have HO3 := Lib.hid hO3
      have hB3 := HBX.out.only hO3 HEG.out
      have HB3 := Lib.hid hB3
      rw [hW3]
      have hc3 := hE3.cell; have hf3 := hE3.frozen; have hcb := hB3.cell; have hfb := hB3.fr; have hzb := hB3.lt
      clear hc hf hE3 hO3 hB3 hW3 HEP HOP HH HC
      by_cases hend : j = B.size
      · have t3 : ((j : Int) == (B.size : Int)) = true := beq_iff_eq.2 (by omega)
        have HRR : Hid (R = .ok ⟨0, (j : Int), (j : Int)⟩) := Lib.hid (by rw [← HR.out, next_end (by rw [HP.out, hend]), hend])
        have HF := Lib.hid (fun a b c => below_box HB3.out.below a b c)
        clear hend
        go_wp2
        rw [HRR.out]
        refine bodyPost_ret (v := rnV (.ok ⟨0, (j : Int), (j : Int)⟩)) (by simp [results, Tryz.results73, go_sem, rnV, hcb]) rfl ⟨rfl, ?_⟩
        exact HF.out _ _ _
      · have hlt : j < B.size := by omega
        have t3 : ((j : Int) == (B.size : Int)) = false := beq_eq_false_iff_ne.2 (by omega)
        obtain ⟨_, _, e1, _, _, hx⟩ := (HEB.out W3 HO3.out).by_inv
        cases e1
        obtain ⟨b, off, rfl, hne, hx⟩ := hx (by omega)
        have x1 := hx j hlt
        obtain ⟨ch, hch⟩ : ∃ ch, byteAt B j = ch := ⟨_, rfl⟩
        rw [hch] at x1
        have hcl : ch < 256 := by rw [← hch]; exact byteAt_lt B j
        have HCH := Lib.hid hch
        have HCL := Lib.hid hcl
        clear hx hend hch
        obtain ⟨W4, hW4⟩ : ∃ W, W3.alloc (.cells #[.int .i64 1, .int .i64 2, .int .i64 3, .int .i64 4, .int .i64 5, .int .i64 6] 3) = W := ⟨_, rfl⟩
        obtain ⟨S1, hS1⟩ : ∃ S : ByteArray, (⟨#[123, 125, 91, 93, 58, 44]⟩ : ByteArray) = S := ⟨_, rfl⟩
        have hz1 : S1.size = 6 := by rw [← hS1]; rfl
        have HN1 : Hid (∀ m (h : m < S1.size), marksL[m]? = some (S1[m]'h).toNat) := Lib.hid (by
          subst hS1
          intro m h
          have h' : m < 6 := h
          revert h
          have hj : m = 0 ∨ m = 1 ∨ m = 2 ∨ m = 3 ∨ m = 4 ∨ m = 5 := by omega
          rcases hj with rfl | rfl | rfl | rfl | rfl | rfl <;> exact fun _ => rfl)
        have HZ1 := Lib.hid hz1
        have HKC : Hid (∀ m, m < 6 → W4.cell? ⟨W3.heap.size, m, none⟩ = some (.int .i64 ((m : Int) + 1))) := Lib.hid (fun m hm => by
          rw [← hW4]
          have hj : m = 0 ∨ m = 1 ∨ m = 2 ∨ m = 3 ∨ m = 4 ∨ m = 5 := by omega
          rcases hj with rfl | rfl | rfl | rfl | rfl | rfl <;> simp)
        have HE4 : Hid (EyeS W4 E (.slice (some ⟨b, off, none⟩) B.size c) ⟨j, 0, 0⟩) := Lib.hid (by rw [← hW4]; exact EyeAt.ext HE3.out (Below.heap_alloc W3 _ E HE3.out.lt))
        have HO4 : Hid (OnlyE E W2 W4) := Lib.hid (by rw [← hW4]; exact HO3.out.alloc _)
        have HB4 : Hid (BoxOk w W4) := Lib.hid (by rw [← hW4]; exact HB3.out.alloc _)
        have HW4 := Lib.hid hW4; have HS1 := Lib.hid hS1
        clear hz1 hS1 hW4
        go_wp2_with fail
        rw [HW4.out, HS1.out]
        clear HW4 HS1 hc3 hf3 hcb hfb hzb
        have hcb := HB4.out.cell; have hfb := HB4.out.fr; have hzb := HB4.out.lt
        go_loop [12] (MkRel ch) (fun k => 6 - (intOf k).toNat)
        case atStart => exact ⟨0, rfl, by decide, fun m h => by omega⟩
        case round =>
          obtain ⟨m, rfl, hm, hn⟩ := hrel
          have HNN := Lib.hid hn
          clear hn
          by_cases hlt6 : m < 6
          · have t5 : decide ((m : Int) < 6) = true := decide_eq_true (by omega)
            have t5' : decide (m < 6) = true := decide_eq_true hlt6
            have hm1 : m < S1.size := by rw [HZ1.out]; exact hlt6
            have hb := HN1.out m hm1
            have hkc := HKC.out m hlt6
            by_cases he : ch = (S1[m]'hm1).toNat
            · have t6 : ((ch : Int) == ((S1[m]'hm1).toNat : Int)) = true := beq_iff_eq.2 (by omega)
              have t6' : (ch == (S1[m]'hm1).toNat) = true := beq_iff_eq.2 he
              have q1 : IntKind.i64.wrap ((j : Int) + 1) = (j : Int) + 1 := IntWalk.i64_in _ (by omega)
              have HRR : Hid (R = .ok ⟨(m : Int) + 1, (j : Int), (j : Int) + 1⟩) := Lib.hid (by
                have hh := mk_hit ⟨m, hlt6⟩ ⟨ch, HCL.out⟩ (by show marksL[m]? = some ch; rw [hb, he])
                have h1 := next_mark HR.out HP.out hlt HCH.out hh.1
                have h2 : marksL.idxOf ch = m := hh.2
                rw [h1, h2]
                congr 2; omega)
              have HF := Lib.hid (fun a b c => below_box HB4.out.below a b c)
              clear hb he
              go_wp2
              rw [HRR.out]
              refine bodyPost_ret (v := rnV (.ok ⟨(m : Int) + 1, (j : Int), (j : Int) + 1⟩)) (by simp [results, Tryz.results73, go_sem, rnV, hcb]) rfl ⟨rfl, ?_⟩
              exact HF.out _ _ _
            · have t6 : ((ch : Int) == ((S1[m]'hm1).toNat : Int)) = false := beq_eq_false_iff_ne.2 (by omega)
              have t6' : (ch == (S1[m]'hm1).toNat) = false := beq_eq_false_iff_ne.2 he
              have R' : MkRel ch (.int .i64 (m + 1)) := ⟨m + 1, by go_num, by omega, fun q hq => by
                by_cases e : q = m
                · subst e; rw [hb]; intro h; exact he (Option.some.inj h).symm
                · exact HNN.out q (by omega)⟩
              have HRR := Lib.hid R'
              clear hb he R'
              go_wp2
              refine ⟨?_, by simp [intOf] <;> omega⟩
              have R := HRR.out
              first | exact R | ((repeat apply Exists.intro); exact ⟨R, rfl⟩)
          · have t5 : decide ((m : Int) < 6) = false := decide_eq_false (by omega)
            have t5' : decide (m < 6) = false := decide_eq_false hlt6
            have HMK : Hid (marksL.contains ch = false) := Lib.hid (mk_none ⟨ch, HCL.out⟩ (fun q => HNN.out q.val (by omega)))
            clear hlt6 hm HNN HKC HN1 HZ1
            go_upto_if 71 with (fail)
            go_cut [13] (ChRel E (.slice (some ⟨b, off, none⟩) B.size c) W4 R j)
            case first =>
              have HWD : Hid (∀ (S : ByteArray) (l : List Nat) (hl : S.data.toList.map (·.toNat) = l) (hS : S.size ≤ 1000), Calls Tryz.prog 110 #[.pointer (some ⟨E, 0, none⟩), .string S] W4 (EyPost E (.slice (some ⟨b, off, none⟩) B.size c) W4 (wordE B l ⟨j, 0, 0⟩))) := Lib.hid (fun S l hl hS => eword_any S l hl hS E _ B ⟨j, 0, 0⟩ W4 hz (Nat.le_of_lt hlt) HE4.out (HEB.out W4 HO4.out))
              by_cases h34 : ch = 34
              · have g1 : ((ch : Int) == 34) = true := beq_iff_eq.2 (by omega)
                have HRR := Lib.hid (next_text HR.out HP.out hlt HCH.out h34)
                have HTX := Lib.hid (etext_any E _ B j 0 W4 hz hlt (by rw [HCH.out]; exact h34) HE4.out (HEB.out W4 HO4.out))
                clear h34
                go_wp2_with fail
                refine HTX.out.mono ?_
                rintro e w5 ⟨o, acc, s, rfl, _, k1, k2, k3⟩
                have hX := ch_text k3 HRR.out
                have HK1 := Lib.hid k1; have HK2 := Lib.hid k2; have HX := Lib.hid hX
                clear k1 k2 k3 hX HTX HRR
                go_wp2
                go_meet
                exact ⟨s, 7, rfl, HK1.out, HK2.out, HX.out⟩
              · have g1 : ((ch : Int) == 34) = false := beq_eq_false_iff_ne.2 (by omega)
                by_cases h116 : ch = 116
                · have g2 : ((ch : Int) == 116) = true := beq_iff_eq.2 (by omega)
                  have HRR := Lib.hid (next_true HR.out HP.out hlt HCH.out h116)
                  have hX := ch_tells (word_tells 0 (Nat.le_of_lt hlt) trueL) HRR.out
                  have HX := Lib.hid hX
                  have HWC := HWD.out ⟨#[116, 114, 117, 101]⟩ trueL (by rfl) (by decide)
                  generalize wordE B trueL ⟨j, 0, 0⟩ = s at *
                  have HWC := Lib.hid HWC
                  clear h34 hX HRR HWD h116 
                  go_wp2_with fail
                  refine HWC.out.mono ?_
                  rintro e w5 ⟨rfl, k1, k2⟩
                  have HK1 := Lib.hid k1; have HK2 := Lib.hid k2
                  clear k1 k2
                  go_wp2
                  go_meet
                  exact ⟨s, 9, rfl, HK1.out, HK2.out, HX.out⟩
                · have g2 : ((ch : Int) == 116) = false := beq_eq_false_iff_ne.2 (by omega)
                  by_cases h102 : ch = 102
                  · have g3 : ((ch : Int) == 102) = true := beq_iff_eq.2 (by omega)
                    have HRR := Lib.hid (next_false HR.out HP.out hlt HCH.out h102)
                    have hX := ch_tells (word_tells 0 (Nat.le_of_lt hlt) falseL) HRR.out
                    have HX := Lib.hid hX
                    have HWC := HWD.out ⟨#[102, 97, 108, 115, 101]⟩ falseL (by rfl) (by decide)
                    generalize wordE B falseL ⟨j, 0, 0⟩ = s at *
                    have HWC := Lib.hid HWC
                    clear h34 hX HRR HWD h102 h116
                    go_wp2_with fail
                    refine HWC.out.mono ?_
                    rintro e w5 ⟨rfl, k1, k2⟩
                    have HK1 := Lib.hid k1; have HK2 := Lib.hid k2
                    clear k1 k2
                    go_wp2
                    go_meet
                    exact ⟨s, 10, rfl, HK1.out, HK2.out, HX.out⟩
                  · have g3 : ((ch : Int) == 102) = false := beq_eq_false_iff_ne.2 (by omega)
                    by_cases h110 : ch = 110
                    · have g4 : ((ch : Int) == 110) = true := beq_iff_eq.2 (by omega)
                      have HRR := Lib.hid (next_null HR.out HP.out hlt HCH.out h110)
                      have hX := ch_tells (word_tells 0 (Nat.le_of_lt hlt) nullL) HRR.out
                      have HX := Lib.hid hX
                      have HWC := HWD.out ⟨#[110, 117, 108, 108]⟩ nullL (by rfl) (by decide)
                      generalize wordE B nullL ⟨j, 0, 0⟩ = s at *
                      have HWC := Lib.hid HWC
                      clear h34 hX HRR HWD h110 h116 h102
                      go_wp2_with fail
                      refine HWC.out.mono ?_
                      rintro e w5 ⟨rfl, k1, k2⟩
                      have HK1 := Lib.hid k1; have HK2 := Lib.hid k2
                      clear k1 k2
                      go_wp2
                      go_meet
                      exact ⟨s, 11, rfl, HK1.out, HK2.out, HX.out⟩
                    · have g4 : ((ch : Int) == 110) = false := beq_eq_false_iff_ne.2 (by omega)
                      clear HWD
                      have HHS := Lib.hid (bhas_any ⟨#[48, 49, 50, 51, 52, 53, 54, 55, 56, 57]⟩ figL (by rfl) ch (by decide) W4)
                      have hfd := fig_dig ch
                      by_cases hnum : ch = 45 ∨ isDig ch = true
                      · have HRR := Lib.hid (next_num HR.out HP.out hlt HCH.out HMK.out h34 hnum)
                        have hX := ch_tells (num_tells 0 hlt) HRR.out
                        have HX := Lib.hid hX
                        have HNC := Lib.hid (enumber_any E _ B ⟨j, 0, 0⟩ W4 hz (Nat.le_of_lt hlt) HE4.out (HEB.out W4 HO4.out))
                        generalize numE B ⟨j, 0, 0⟩ = s at *
                        by_cases h45 : ch = 45
                        · have g5 : ((ch : Int) == 45) = true := beq_iff_eq.2 (by omega)
                          clear h34 hX HRR h116 h102 h110 h45 hnum hfd HHS
                          go_wp2_with fail
                          refine HNC.out.mono ?_
                          rintro e w5 ⟨rfl, k1, k2⟩
                          have HK1 := Lib.hid k1; have HK2 := Lib.hid k2
                          clear k1 k2
                          go_wp2
                          go_meet
                          exact ⟨s, 8, rfl, HK1.out, HK2.out, HX.out⟩
                        · have g5 : ((ch : Int) == 45) = false := beq_eq_false_iff_ne.2 (by omega)
                          rw [hfd, hnum.resolve_left h45] at HHS
                          clear h34 hX HRR h116 h102 h110 h45 hnum hfd
                          go_wp2_with fail
                          refine HHS.out.mono ?_
                          rintro e w5 ⟨rfl, rfl⟩
                          go_wp2_with fail
                          refine HNC.out.mono ?_
                          rintro e w5 ⟨rfl, k1, k2⟩
                          have HK1 := Lib.hid k1; have HK2 := Lib.hid k2
                          clear k1 k2
                          go_wp2
                          go_meet
                          exact ⟨s, 8, rfl, HK1.out, HK2.out, HX.out⟩
                      · have HRR := Lib.hid (next_no HR.out HP.out hlt HCH.out HMK.out h34 hnum h116 h102 h110)
                        have h45 : ch ≠ 45 := fun e => hnum (.inl e)
                        have hd : isDig ch = false := by
                          cases hx : isDig ch with
                          | false => rfl
                          | true => exact absurd (.inr hx) hnum
                        have g5 : ((ch : Int) == 45) = false := beq_eq_false_iff_ne.2 (by omega)
                        rw [hfd, hd] at HHS
                        have HFC := Lib.hid (efail_any E _ ⟨j, 0, 0⟩ 11 j W4 HE4.out)
                        clear h34 h116 h102 h110 h45 hnum hfd hd
                        go_wp2_with fail
                        refine HHS.out.mono ?_
                        rintro e w5 ⟨rfl, rfl⟩
                        go_wp2_with fail
                        refine HFC.out.mono ?_
                        rintro e w5 ⟨rfl, k1, k2⟩
                        have HK1 := Lib.hid k1; have HK2 := Lib.hid k2
                        clear k1 k2
                        go_wp2
                        go_meet
                        exact ⟨⟨j, 11, j⟩, 8, rfl, HK1.out, HK2.out, fun h => absurd h (by simp), fun _ => HRR.out⟩
            case rest =>
              obtain ⟨s, kd, rfl, k1, k2, k3, k4⟩ := hcut
              have hck := k1.cell; have hfk := k1.frozen
              have hBk := HB4.out.only k2 HEG.out
              have hcb := hBk.cell; have hfb := hBk.fr; have hzb := hBk.lt
              have HF := Lib.hid (fun a b c => below_box hBk.below a b c)
              have hst := (EyeAt.ext (w' := (((wc.setCell ⟨w.heap.size, 0, none⟩ (.int .i64 0)).setCell ⟨w.heap.size, 1, none⟩ (.int .i64 0)).setCell ⟨w.heap.size, 2, none⟩ (.int .i64 0)).drew) k1 (by
                have hne : E ≠ w.heap.size := by have := HEG.out; omega
                exact ((Below.heap_setCell _ ⟨w.heap.size, 2, none⟩ _ E hne).trans (Below.heap_setCell _ ⟨w.heap.size, 1, none⟩ _ E hne)).trans (Below.heap_setCell wc ⟨w.heap.size, 0, none⟩ _ E hne))).cell
              have K3 := Lib.hid k3; have K4 := Lib.hid k4
              clear k1 k2 k3 k4 hBk
              by_cases hk : s.k = 0
              · have g1 : ((s.k : Int) != 0) = false := by rw [hk]; rfl
                have HRR := Lib.hid (K3.out hk)
                clear hk
                go_wp2
                rw [HRR.out]
                refine bodyPost_ret (v := rnV (.ok ⟨kd, (j : Int), s.i⟩)) (by simp [results, Tryz.results73, go_sem, rnV, hcb]) rfl ⟨rfl, ?_⟩
                exact HF.out _ _ _
              · have g1 : ((s.k : Int) != 0) = true := bne_iff_ne.2 (by omega)
                have HRR := Lib.hid (K4.out hk)
                clear hk
                go_wp2_with fail
                go_region
                all_goals go_wp2
                all_goals rw [HRR.out]
                all_goals refine bodyPost_ret (v := rnV (.no s.k s.a)) (by simp [results, Tryz.results73, go_sem, rnV, hcb]) rfl ⟨rfl, ?_⟩
                all_goals exact ext_drewN 1 (HF.out _ _ _)
end
end Go.Proofs.YtheoaijheijojaaGreatDoor
