/- The document's token (ref06.Next): the walk. -/
import Derived.Test.YtmdalkjhlhkloaaDoorEye8
import Derived.Test.YtmdalkjhlhkloaaDoorScan7
import Derived.Deep.DeepCutAuto
namespace Go.Proofs.YtmdalkjhlhkloaaDoor
open Go.RowKit
def rnV : Sc Tok → Value
  | .ok t => .tuple #[.agg #[.int .i64 t.kind, .int .i64 t.fr, .int .i64 t.to], .int .i64 0, .int .i64 0]
  | .no k i => .tuple #[.agg #[.int .i64 0, .int .i64 0, .int .i64 0], .int .i64 k, .int .i64 i]
def RnPost (w : World) (r : Sc Tok) (e : Ending) (w' : World) : Prop := e = .returned (rnV r) ∧ Below w.heap.size w w'
/-- The result's own box lies as it was made. -/
structure BoxOk (w W : World) : Prop where
  cell : ∀ o, W.cell? ⟨w.heap.size, o, none⟩ = (#[Value.int .i64 0, .int .i64 0, .int .i64 0] : Array Value)[o]?
  fr : ∀ o, W.frozen? ⟨w.heap.size, o, none⟩ = false
  lt : w.heap.size < W.heap.size
  below : Below w.heap.size w W
theorem BoxOk.made (w : World) : BoxOk w (w.alloc (.cells #[.int .i64 0, .int .i64 0, .int .i64 0] 50)) :=
  ⟨fun o => by simp, fun o => by simp, by simp, ext_alloc (Below.refl _ _) _⟩
theorem frozen_keep {w w' : World} {b o : Nat} (h : w'.heap[b]? = w.heap[b]?) : w'.frozen? ⟨b, o, none⟩ = w.frozen? ⟨b, o, none⟩ := by
  simp only [World.frozen?, h]
theorem BoxOk.only {w W W' : World} {E : Nat} (h : BoxOk w W) (hO : OnlyE E W W') (hE : w.heap.size < E) : BoxOk w W' := by
  have hk := hO.block w.heap.size h.lt (by omega)
  refine ⟨fun o => by rw [cell_keep hk]; exact h.cell o, fun o => by rw [frozen_keep hk]; exact h.fr o, Nat.lt_of_lt_of_le h.lt hO.size, h.below.trans (hO.below h.below.size (fun k hk => by omega))⟩
theorem BoxOk.alloc {w W : World} (h : BoxOk w W) (o : Obj) : BoxOk w (W.alloc o) := by
  have hk := Below.heap_alloc W o w.heap.size h.lt
  exact ⟨fun q => by rw [cell_keep hk]; exact h.cell q, fun q => by rw [frozen_keep hk]; exact h.fr q, by have := h.lt; simp; omega, ext_alloc h.below o⟩
theorem mk_hit : ∀ j : Fin 6, ∀ c : Fin 256, marksL[j.val]? = some c.val → marksL.contains c.val = true ∧ marksL.idxOf c.val = j.val := by decide +kernel
theorem mk_none : ∀ c : Fin 256, (∀ j : Fin 6, marksL[j.val]? ≠ some c.val) → marksL.contains c.val = false := by decide +kernel
def MkRel (ch : Nat) (k : Value) : Prop := ∃ j : Nat, k = .int .i64 j ∧ j ≤ 6 ∧ ∀ m, m < j → marksL[m]? ≠ some ch
/-- What stands behind the reading of a token. -/
def ChRel (E : Nat) (v : Value) (W3 : World) (R : Sc Tok) (P : Nat) (k : Value) (wx : World) : Prop :=
  ∃ (s : St) (kd : Nat), k = .int .i64 kd ∧ EyeS wx E v s ∧ OnlyE E W3 wx ∧ (s.k = 0 → R = .ok ⟨kd, P, s.i⟩) ∧ (s.k ≠ 0 → R = .no s.k s.a)
theorem ch_tells {R : Sc Tok} {s : St} {r : Sc Nat} {kd P : Nat} (h : Tells 0 s r) (hR : R = r.bind fun e => .ok ⟨kd, P, e⟩) : (s.k = 0 → R = .ok ⟨kd, P, s.i⟩) ∧ (s.k ≠ 0 → R = .no s.k s.a) := by
  cases r with
  | ok e =>
    have e1 : s = ⟨e, 0, 0⟩ := h
    rw [e1]
    exact ⟨fun _ => hR, fun h => absurd rfl h⟩
  | no k p =>
    obtain ⟨h1, h2, h3⟩ := h
    rw [h1, h2]
    exact ⟨fun h => absurd h h3, fun _ => hR⟩
theorem ch_text {R : Sc Tok} {s : St} {acc : List Nat} {r : Sc (List Nat × Nat)} {P : Nat} (h : TeEnd s acc r) (hR : R = r.bind fun x => .ok ⟨7, P, x.2⟩) : (s.k = 0 → R = .ok ⟨(7 : Nat), P, s.i⟩) ∧ (s.k ≠ 0 → R = .no s.k s.a) := by
  cases r with
  | ok x =>
    obtain ⟨_, h2, h3⟩ := h
    rw [h3]
    exact ⟨fun _ => hR, fun h => absurd h2 h⟩
  | no k p =>
    obtain ⟨h1, h2, h3⟩ := h
    rw [h1, h2]
    exact ⟨fun h => absurd h h3, fun _ => hR⟩
theorem next_end {B : ByteArray} {i : Nat} (h : skip isBlank B i = B.size) : nextS B i = .ok ⟨0, B.size, B.size⟩ := by
  unfold nextS tokenS; rw [h, if_pos rfl]; rfl
section
variable {B : ByteArray} {i P ch : Nat} {R : Sc Tok} (hR : nextS B i = R) (hP : skip isBlank B i = P) (hlt : P < B.size) (hc : byteAt B P = ch)
include hR hP hlt hc
theorem next_mark (hm : marksL.contains ch = true) : R = .ok ⟨(1 + marksL.idxOf ch : Nat), P, (P + 1 : Nat)⟩ := by
  rw [← hR]; unfold nextS tokenS; rw [hP, hc, if_neg (by omega), if_pos hm]; rfl
theorem next_text (h : ch = 34) : R = (textS B (P + 1) []).bind fun x => .ok ⟨7, P, x.2⟩ := by
  rw [← hR]; unfold nextS tokenS; rw [hP, hc, if_neg (by omega), if_neg (by rw [h]; decide), if_pos h]
  cases textS B (P + 1) [] <;> rfl
theorem next_num (hm : marksL.contains ch = false) (h1 : ch ≠ 34) (h : ch = 45 ∨ isDig ch = true) : R = (numberS B P).bind fun x => .ok ⟨(8 : Nat), P, x⟩ := by
  rw [← hR]; unfold nextS tokenS; rw [hP, hc, if_neg (by omega), if_neg (by rw [hm]; decide), if_neg h1, if_pos h]
  cases numberS B P <;> rfl
theorem next_true (h : ch = 116) : R = (wordS B P trueL).bind fun x => .ok ⟨(9 : Nat), P, x⟩ := by
  rw [← hR]; unfold nextS tokenS; rw [hP, hc, if_neg (by omega), if_neg (by rw [h]; decide), if_neg (by omega), if_neg (by rw [h]; decide), if_pos h]
  cases wordS B P trueL <;> rfl
theorem next_false (h : ch = 102) : R = (wordS B P falseL).bind fun x => .ok ⟨(10 : Nat), P, x⟩ := by
  rw [← hR]; unfold nextS tokenS; rw [hP, hc, if_neg (by omega), if_neg (by rw [h]; decide), if_neg (by omega), if_neg (by rw [h]; decide), if_neg (by omega), if_pos h]
  cases wordS B P falseL <;> rfl
theorem next_null (h : ch = 110) : R = (wordS B P nullL).bind fun x => .ok ⟨(11 : Nat), P, x⟩ := by
  rw [← hR]; unfold nextS tokenS; rw [hP, hc, if_neg (by omega), if_neg (by rw [h]; decide), if_neg (by omega), if_neg (by rw [h]; decide), if_neg (by omega), if_neg (by omega), if_pos h]
  cases wordS B P nullL <;> rfl
theorem next_no (hm : marksL.contains ch = false) (h1 : ch ≠ 34) (h2 : ¬ (ch = 45 ∨ isDig ch = true)) (h3 : ch ≠ 116) (h4 : ch ≠ 102) (h5 : ch ≠ 110) : R = .no 11 P := by
  rw [← hR]; unfold nextS tokenS; rw [hP, hc, if_neg (by omega), if_neg (by rw [hm]; decide), if_neg h1, if_neg h2, if_neg h3, if_neg h4, if_neg h5]; rfl
end
set_option maxRecDepth 100000 in
set_option maxHeartbeats 16000000 in
theorem rnx_out (v : Value) (B : ByteArray) (at_ : Int) (w : World) (h : Rd (Own w) w v (bytesDB B)) (hout : at_ < 0 ∨ (B.size : Int) < at_) :
    Calls Tryd.prog 31 #[v, .int .i64 at_] w (RnPost w (.no 1 at_)) := by
  obtain ⟨a, c, rfl, _, _, _⟩ := h.by_inv
  have q : decide (at_ < 0) = true ∨ (decide (at_ < 0) = false ∧ decide ((B.size : Int) < at_) = true) := by
    by_cases h1 : at_ < 0
    · exact .inl (decide_eq_true h1)
    · exact .inr ⟨decide_eq_false h1, decide_eq_true (hout.resolve_left h1)⟩
  clear h hout
  have HB := Lib.hid (fun a b c => below_box (w := w) (ext_alloc (Below.refl _ _) (.cells #[.int .i64 0, .int .i64 0, .int .i64 0] 50)) a b c)
  rcases q with q1 | ⟨q1, q2⟩
  all_goals
    go_enter Tryd.func31, Tryd.ntmps31
    go_wp2
    refine bodyPost_ret (v := rnV (.no 1 at_)) (by simp [results, Tryd.results31, go_sem, rnV]) rfl ⟨rfl, ?_⟩
    first | exact HB.out _ _ _ | exact ext_alloc (Below.refl _ _) _
end Go.Proofs.YtmdalkjhlhkloaaDoor
