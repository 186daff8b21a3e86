/- The document's reader of chapter 6: its small steps. -/
import Derived.Test.YtmdalkjhlhkloaaDoorScan0
import Derived.Test.YtmdalkjhlhkloaaDoorOwn0
import Derived.Test.YtmdalkjhlhkloaaDoorBytes0
import Derived.Test.YtmdalkjhlhkloaaDoorErrs3
import Derived.Lib.SmallJoins
import Derived.BigQuiet
import Derived.Deep.RegionHeld3
namespace Go.Proofs.YtmdalkjhlhkloaaDoor
open Go.RowKit
def BhRel (l : List Nat) (c : Nat) (k : Value) : Prop := ∃ j : Nat, k = .int .i64 j ∧ j ≤ l.length ∧ ∀ (m x : Nat), m < j → l[m]? = some x → x ≠ c
set_option maxRecDepth 100000 in
set_option maxHeartbeats 4000000 in
theorem bhas_any (s : ByteArray) (l : List Nat) (hl : s.data.toList.map (·.toNat) = l) (c : Nat) (hs : s.size ≤ 1000000) (w : World) :
    Calls Tryd.prog 81 #[.string s, .int .u8 c] w fun e w' => e = .returned (.bool (l.contains c)) ∧ w = w' := by
  have hsl : s.size = l.length := by rw [← hl]; simp
  have HL := Lib.hid hl; have HSL := Lib.hid hsl
  clear hl hsl
  go_enter Tryd.func81, Tryd.ntmps81
  go_wp2_with fail
  go_loop [5] (BhRel l c) (fun k => s.size - (intOf k).toNat)
  case atStart => exact ⟨0, rfl, Nat.zero_le _, fun m x h => by omega⟩
  case round =>
    obtain ⟨j, rfl, hj, hn⟩ := hrel
    by_cases hlt : j < l.length
    · have hjs : j < s.size := by rw [HSL.out]; exact hlt
      have hlj : l[j]? = some (s[j]'hjs).toNat := by
        have hjd : j < s.data.size := hjs
        rw [← HL.out, List.getElem?_map, Array.getElem?_toList, Array.getElem?_eq_getElem hjd]; rfl
      by_cases hb : (s[j]'hjs).toNat = c
      · have t2 : (((s[j]'hjs).toNat : Int) == (c : Int)) = true := beq_iff_eq.2 (by omega)
        have t3 : ((s[j]'hjs).toNat == c) = true := beq_iff_eq.2 hb
        have hc : l.contains c = true := by
          have := List.mem_of_getElem? hlj
          rw [hb] at this
          simpa using this
        have HC := Lib.hid hc
        clear hn hlj hb hc
        go_wp2
        go_ret
        refine ⟨?_, rfl⟩
        rw [← List.contains_eq_mem, HC.out]
        rfl
      · have t2 : (((s[j]'hjs).toNat : Int) == (c : Int)) = false := beq_eq_false_iff_ne.2 (by omega)
        have t3 : ((s[j]'hjs).toNat == c) = false := beq_eq_false_iff_ne.2 hb
        have R : BhRel l c (.int .i64 (j + 1)) := ⟨j + 1, by go_num, by omega, fun m x hm hx => by
          by_cases e : m = j
          · subst e; rw [hlj] at hx; cases hx; exact hb
          · exact hn m x (by omega) hx⟩
        have HR := Lib.hid R
        clear hn hlj hb R
        go_wp2
        refine ⟨?_, by simp [intOf] <;> omega⟩
        have R := HR.out
        first | exact R | ((repeat apply Exists.intro); exact ⟨R, rfl⟩)
    · have hjs : ¬ j < s.size := by rw [HSL.out]; exact hlt
      have hc : l.contains c = false := by
        cases h : l.contains c with
        | false => rfl
        | true =>
          obtain ⟨m, hm⟩ := List.getElem?_of_mem (by simpa using h : c ∈ l)
          exact absurd rfl (hn m c (by have := (List.getElem?_eq_some_iff.1 hm).1; omega) hm)
      have HC := Lib.hid hc
      clear hn hc
      go_wp2
      go_ret
      refine ⟨?_, rfl⟩
      rw [← List.contains_eq_mem, HC.out]
      rfl
/-- The reader lies at block E: the text, the place, the first error, its place. -/
def EyeAt (w : World) (E : Nat) (v : Value) (i : Nat) (k : Nat) (a : Int) : Prop := w.heap[E]? = some (.cells #[v, .int .i64 i, .int .i64 k, .int .i64 a] 138 (0, 0))
section
variable {w w' : World} {E i k : Nat} {v : Value} {a : Int}
theorem EyeAt.lt (h : EyeAt w E v i k a) : E < w.heap.size := (Array.getElem?_eq_some_iff.1 h).1
theorem EyeAt.cell (h : EyeAt w E v i k a) (o : Nat) : w.cell? ⟨E, o, none⟩ = #[v, .int .i64 i, .int .i64 k, .int .i64 a][o]? := by simp [World.cell?, EyeAt] at h ⊢; simp [h]
theorem EyeAt.frozen (h : EyeAt w E v i k a) (o : Nat) : w.frozen? ⟨E, o, none⟩ = false := Go.Joins.unfrozen_of_block h o
theorem EyeAt.ext (h : EyeAt w E v i k a) (hb : w'.heap[E]? = w.heap[E]?) : EyeAt w' E v i k a := by unfold EyeAt at *; rw [hb]; exact h
theorem EyeAt.below (h : EyeAt w E v i k a) (hb : Below w.heap.size w w') : EyeAt w' E v i k a := h.ext (hb.block E h.lt)
theorem EyeAt.move (h : EyeAt w E v i k a) (j : Nat) : EyeAt (w.setCell ⟨E, 1, none⟩ (.int .i64 j)) E v j k a := by
  have := Go.Joins.block_setCell h (i := 1) (.int .i64 j)
  simpa [EyeAt] using this
theorem EyeAt.kind (h : EyeAt w E v i k a) (j : Nat) : EyeAt (w.setCell ⟨E, 2, none⟩ (.int .i64 j)) E v i j a := by
  have := Go.Joins.block_setCell h (i := 2) (.int .i64 j)
  simpa [EyeAt] using this
theorem EyeAt.place (h : EyeAt w E v i k a) (j : Int) : EyeAt (w.setCell ⟨E, 3, none⟩ (.int .i64 j)) E v i k j := by
  have := Go.Joins.block_setCell h (i := 3) (.int .i64 j)
  simpa [EyeAt] using this
end
/-- Nothing but the reader has turned. -/
abbrev OnlyE (E : Nat) : World → World → Prop := Only (fun k => k = E)
/-- The state of a reader: place, error (0: none), its place. -/
structure St where
  i : Nat
  k : Nat
  a : Int
abbrev EyeS (w : World) (E : Nat) (v : Value) (s : St) : Prop := EyeAt w E v s.i s.k s.a
/-- The text, apart from the reader. -/
abbrev EyeB (w : World) (E : Nat) (v : Value) (B : ByteArray) : Prop := Rd (fun b => b ≠ E ∧ b < w.heap.size) w v (bytesDB B)
theorem EyeB.only {w w' : World} {E : Nat} {v : Value} {B : ByteArray} (h : EyeB w E v B) (o : OnlyE E w w') : EyeB w' E v B :=
  h.mono (fun b hb => o.block b hb.2 hb.1) (fun _ hb => ⟨hb.1, Nat.lt_of_lt_of_le hb.2 o.size⟩)
def failE (s : St) (k : Nat) (p : Int) : St := if s.k = 0 then ⟨s.i, k, p⟩ else s
def hasE (l : List Nat) (B : ByteArray) (s : St) : Bool := (s.k == 0) && (decide (s.i < B.size) && l.contains (byteAt B s.i))
def stepE (s : St) : St := ⟨s.i + 1, s.k, s.a⟩
def mustE (l : List Nat) (B : ByteArray) (s : St) : St := if s.k ≠ 0 then s else if s.i = B.size then ⟨s.i, 10, s.i⟩ else if l.contains (byteAt B s.i) then stepE s else ⟨s.i, 11, s.i⟩
def EyPost (E : Nat) (v : Value) (w : World) (s' : St) (e : Ending) (w' : World) : Prop := e = .returned (.tuple #[]) ∧ EyeS w' E v s' ∧ OnlyE E w w'
set_option maxRecDepth 100000 in
theorem efail_any (E : Nat) (v : Value) (s : St) (k : Nat) (p : Int) (w : World) (h : EyeS w E v s) :
    Calls Tryd.prog 83 #[.pointer (some ⟨E, 0, none⟩), .int .i64 k, .int .i64 p] w (EyPost E v w (failE s k p)) := by
  obtain ⟨i, sk, sa⟩ := s
  have hc := h.cell; have hf := h.frozen
  by_cases h0 : sk = 0
  · subst h0
    have H2 : EyPost E v w (failE ⟨i, 0, sa⟩ k p) (.returned (.tuple #[])) ((w.setCell ⟨E, 2, none⟩ (.int .i64 k)).setCell ⟨E, 3, none⟩ (.int .i64 p)) :=
      ⟨rfl, (h.kind k).place p, ((Only.refl (fun k => k = E) w).set (p := ⟨E, 2, none⟩) (fun _ => rfl) (.int .i64 k)).set (p := ⟨E, 3, none⟩) (fun _ => rfl) (.int .i64 p)⟩
    have HH := Lib.hid H2
    have hc1 := (h.kind k).cell; have hf1 := (h.kind k).frozen
    clear h H2
    go_enter Tryd.func83, Tryd.ntmps83
    go_wp2
    go_end0
    exact HH.out
  · have t1 : ((sk : Int) == 0) = false := beq_eq_false_iff_ne.2 (by omega)
    have H2 : EyPost E v w (failE ⟨i, sk, sa⟩ k p) (.returned (.tuple #[])) w := ⟨rfl, by unfold failE; rw [if_neg h0]; exact h, Only.refl _ _⟩
    have HH := Lib.hid H2
    clear h H2
    go_enter Tryd.func83, Tryd.ntmps83
    go_wp2
    go_end0
    exact HH.out
set_option maxRecDepth 100000 in
set_option maxHeartbeats 8000000 in
theorem ehas_any (S : ByteArray) (l : List Nat) (hl : S.data.toList.map (·.toNat) = l) (hS : S.size ≤ 1000000) (E : Nat) (v : Value) (B : ByteArray) (s : St) (w : World) (hs : s.i ≤ B.size) (h : EyeS w E v s) (hB : EyeB w E v B) :
    Calls Tryd.prog 78 #[.pointer (some ⟨E, 0, none⟩), .string S] w fun e w' => e = .returned (.bool (hasE l B s)) ∧ ∃ n, w' = w.drewN n := by
  obtain ⟨i, sk, sa⟩ := s
  obtain ⟨a, c, rfl, ha, hac, hcc⟩ := hB.by_inv
  have hc := h.cell; have hf := h.frozen
  by_cases h0 : sk = 0
  · subst h0
    by_cases hlt : i < B.size
    · obtain ⟨b, off, rfl, _, hx⟩ := hcc (by omega)
      have x0 := hx i hlt
      have t2 : decide ((i : Int) < (B.size : Int)) = true := decide_eq_true (by omega)
      obtain ⟨r, hr⟩ : ∃ r, l.contains (byteAt B i) = r := ⟨_, rfl⟩
      have HC : Hid (∀ W, Calls Tryd.prog 81 #[.string S, .int .u8 (byteAt B i)] W fun e w' => e = .returned (.bool r) ∧ W = w') := Lib.hid (fun W => by rw [← hr]; exact bhas_any S l hl _ hS W)
      have HR : Hid (hasE l B ⟨i, 0, sa⟩ = r) := Lib.hid (by rw [← hr]; simp [hasE, hlt])
      clear h hB ha hcc hx hl hr
      go_enter Tryd.func78, Tryd.ntmps78
      go_wp2
      go_quiet ((go_at_call 81; exact quiet_eq (HC.out _)))
      go_wp2
      go_ret
      exact ⟨by rw [HR.out]; rfl, _, rfl⟩
    · have t2 : decide ((i : Int) < (B.size : Int)) = false := decide_eq_false (by omega)
      have HR : Hid (hasE l B ⟨i, 0, sa⟩ = false) := Lib.hid (by simp [hasE, hlt])
      clear h hB ha hcc hl
      go_enter Tryd.func78, Tryd.ntmps78
      go_wp2
      go_quiet (fail)
      go_wp2
      go_ret
      exact ⟨by rw [HR.out]; rfl, _, rfl⟩
  · have t1 : ((sk : Int) == 0) = false := beq_eq_false_iff_ne.2 (by omega)
    have HR : Hid (hasE l B ⟨i, sk, sa⟩ = false) := Lib.hid (by simp [hasE, h0])
    clear h hB ha hcc hl
    go_enter Tryd.func78, Tryd.ntmps78
    go_wp2
    go_quiet (fail)
    go_wp2
    go_ret
    exact ⟨by rw [HR.out]; rfl, _, rfl⟩
end Go.Proofs.YtmdalkjhlhkloaaDoor
