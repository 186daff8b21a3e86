/- scan.word, scan.simple: the walks. -/
import Derived.Test.YtmhfbdeeebbloaaDoorScan2
import Derived.IntWalk
namespace Go.Proofs.YtmhfbdeeebbloaaDoor
open Go.RowKit
/-- A number, or a fault. -/
def ScB (w : World) (r : Sc Nat) (e : Ending) (w' : World) : Prop := match r with
  | .ok n => e = .returned (.tuple #[.int .i64 n, .nilIface]) ∧ Below w.heap.size w w'
  | .no k i => ∃ u, e = .returned (.tuple #[.int .i64 0, .iface 119 (.pointer (some u))]) ∧ Failed w k i (.iface 119 (.pointer (some u))) w'
def wordFit (B : ByteArray) (i : Nat) (l : List Nat) (k : Nat) : Bool := decide (i + k < B.size) && (byteAt B (i + k) == l[k]?.getD 0)
theorem wordS_eq (B : ByteArray) (i : Nat) (l : List Nat) : wordS B i l = (firstBad B i l.length (wordFit B i l)).bind fun _ => .ok (i + l.length) := rfl
def WdRel (B : ByteArray) (i : Nat) (l : List Nat) (w : World) (k : Value) (wr : World) : Prop := ∃ j nq : Nat, k = .int .i64 j ∧ j ≤ l.length ∧ wr = w.drewN nq ∧ ∀ m, m < j → wordFit B i l m = true
set_option maxRecDepth 100000 in
set_option maxHeartbeats 8000000 in
theorem word_any (v : Value) (B : ByteArray) (i : Nat) (s : ByteArray) (l : List Nat) (hl : s.data.toList.map (·.toNat) = l) (w : World) (h : Rd (Own w) w v (bytesDB B)) (hm : B.size ≤ 1000000) (hi : i ≤ B.size) (hs : s.size ≤ 1000) :
    Calls Tryd.prog 127 #[v, .int .i64 i, .string s] w (ScB w (wordS B i l)) := by
  rw [wordS_eq]
  have hsl : s.size = l.length := by rw [← hl]; simp
  have HR := Lib.hid h
  obtain ⟨a, c, rfl, _, _, hc⟩ := h.by_inv
  have HC := Lib.hid hc
  have HL := Lib.hid hl; have HSL := Lib.hid hsl
  have hll : l.length ≤ 1000 := by omega
  clear h hc hl hsl
  go_enter Tryd.func127, Tryd.ntmps127
  go_wp2_with fail
  go_loopw [11] (WdRel B i l w) (fun k _ => l.length - (intOf k).toNat)
  case atStart => exact ⟨0, 0, rfl, Nat.zero_le _, rfl, fun m h => by omega⟩
  case round =>
    obtain ⟨j, nq, rfl, hj, rfl, hf⟩ := hrel
    by_cases hlt : j < l.length
    · have hjs : j < s.size := by rw [HSL.out]; exact hlt
      by_cases hend : i + j = B.size
      · have hE : (firstBad B i l.length (wordFit B i l)) = .no 10 B.size := by
          rw [firstBad_no hlt (by simp [wordFit]; omega) hf, if_pos hend]
        have HE := Lib.hid hE
        have t1 : ((i : Int) + (j : Int) == (B.size : Int)) = true := beq_iff_eq.2 (by omega)
        have HS := Lib.hid (short_any (.slice a B.size c) B (w.drewN nq) (HR.out.drewN nq))
        have hend' := Lib.hid hend
        clear hE hf hend
        go_wp2_with fail
        refine HS.out.mono ?_
        rintro e w1 ⟨u, rfl, hx⟩
        obtain ⟨p, rfl⟩ := hx.form
        have HX := Lib.hid (hx.after (a := w) (ext_drewN nq (Below.refl _ _)))
        clear hx
        go_wp2
        go_ret2
        rw [HE.out]
        exact ⟨_, rfl, HX.out⟩
      · have hnot : wordFit B i l j = false ∨ wordFit B i l j = true := by cases wordFit B i l j <;> simp
        have hlt2 : i + j < B.size := by
          by_cases h0 : j = 0
          · omega
          · have := hf (j - 1) (by omega)
            simp only [wordFit, Bool.and_eq_true, decide_eq_true_eq] at this
            omega
        obtain ⟨b, off, rfl, _, x0⟩ := HC.out (by omega)
        have x1 := x0 (i + j) hlt2
        have t1 : ((i : Int) + (j : Int) == (B.size : Int)) = false := beq_eq_false_iff_ne.2 (by omega)
        have hlj : l[j]? = some (s[j]'hjs).toNat := by
          have hjd : j < s.data.size := hjs
          rw [← HL.out, List.getElem?_map, Array.getElem?_toList, Array.getElem?_eq_getElem hjd]; rfl
        have q1 : IntKind.i64.wrap ((i : Int) + (j : Int)) = (i : Int) + (j : Int) := IntWalk.i64_in _ (by omega)
        have q2 : (0 : Int) ≤ (i : Int) + (j : Int) := by omega
        have q3 : ((i : Int) + (j : Int)).toNat = i + j := by omega
        have q4 : (i : Int) + (j : Int) < (B.size : Int) := by omega
        by_cases hb : byteAt B (i + j) = (s[j]'hjs).toNat
        · have t2 : ((byteAt B (i + j) : Int) != ((s[j]'hjs).toNat : Int)) = false := by simp [hb]
          have t3 : (byteAt B (i + j) != (s[j]'hjs).toNat) = false := by simp [hb]
          have R : ∀ n, WdRel B i l w (.int .i64 (j + 1)) (w.drewN n) := fun n => ⟨j + 1, n, by go_num, by omega, rfl, fun m hm => by
            by_cases e : m = j
            · subst e; simp [wordFit, hlt2, hlj, hb]
            · exact hf m (by omega)⟩
          have HRR := Lib.hid R
          clear R hf x0 hnot hb hlj
          go_wp2
          go_quiet (fail)
          go_wp2
          refine ⟨?_, by simp [intOf]; omega⟩
          have R := HRR.out
          first | exact R _ | ((repeat apply Exists.intro); exact ⟨R _, rfl⟩)
        · have t2 : ((byteAt B (i + j) : Int) != ((s[j]'hjs).toNat : Int)) = true := bne_iff_ne.2 (by omega)
          have t3 : (byteAt B (i + j) != (s[j]'hjs).toNat) = true := bne_iff_ne.2 hb
          have hE : (firstBad B i l.length (wordFit B i l)) = .no 11 (i + j : Nat) := by
            rw [firstBad_no hlt (by simp [wordFit, hlj, hb]) hf, if_neg (by omega)]
          have HE := Lib.hid hE
          clear hf x0 hnot hb hlj hE
          go_wp2
          go_quiet (fail)
          go_wp2_with fail
          rw [show (i : Int) + (j : Int) = ((i + j : Nat) : Int) by omega]
          refine (fails 11 _ _).mono ?_
          rintro e w1 ⟨u, rfl, hx⟩
          obtain ⟨p, rfl⟩ := hx.form
          have HX := Lib.hid (hx.after (a := w) (ext_drewN _ (Below.refl _ _)))
          clear hx
          go_wp2
          go_ret2
          rw [HE.out]
          exact ⟨_, rfl, HX.out⟩
    · obtain rfl : j = l.length := by omega
      have hE : (firstBad B i l.length (wordFit B i l)) = .ok () := firstBad_ok hf
      have HE := Lib.hid hE
      have q0 : s.size = l.length := HSL.out
      have HQ := Lib.hid q0
      have q1 : (s.size : Int) ≤ (l.length : Int) := by omega
      have t0 : decide ((l.length : Int) < (s.size : Int)) = false := decide_eq_false (by omega)
      clear hf hE q0
      go_wp2
      go_ret2
      rw [HE.out]
      exact ⟨by rw [HQ.out]; rfl, ext_drewN _ (Below.refl _ _)⟩
def simpleT (c : Nat) : Value × Value := match simpleS c with
  | some x => (.int .u8 x, .bool true)
  | none => (.int .u8 0, .bool false)
set_option maxHeartbeats 4000000 in
theorem simple_any (c : Nat) (w : World) (hc : c < 256) : Calls Tryd.prog 129 #[.int .u8 c] w fun e w' => e = .returned (.tuple #[(simpleT c).1, (simpleT c).2]) ∧ w = w' := by
  have key : ∀ k : Nat, k < 256 → k ≠ c → ((c : Int) == (k : Int)) = false := fun k _ h => beq_eq_false_iff_ne.2 (by omega)
  by_cases e1 : c = 34
  · subst e1; go_enter Tryd.func129, Tryd.ntmps129; go_wp2; go_ret2; exact ⟨rfl, rfl⟩
  by_cases e2 : c = 92
  · subst e2; go_enter Tryd.func129, Tryd.ntmps129; go_wp2; go_ret2; exact ⟨rfl, rfl⟩
  by_cases e3 : c = 47
  · subst e3; go_enter Tryd.func129, Tryd.ntmps129; go_wp2; go_ret2; exact ⟨rfl, rfl⟩
  by_cases e4 : c = 98
  · subst e4; go_enter Tryd.func129, Tryd.ntmps129; go_wp2; go_ret2; exact ⟨rfl, rfl⟩
  by_cases e5 : c = 102
  · subst e5; go_enter Tryd.func129, Tryd.ntmps129; go_wp2; go_ret2; exact ⟨rfl, rfl⟩
  by_cases e6 : c = 110
  · subst e6; go_enter Tryd.func129, Tryd.ntmps129; go_wp2; go_ret2; exact ⟨rfl, rfl⟩
  by_cases e7 : c = 114
  · subst e7; go_enter Tryd.func129, Tryd.ntmps129; go_wp2; go_ret2; exact ⟨rfl, rfl⟩
  by_cases e8 : c = 116
  · subst e8; go_enter Tryd.func129, Tryd.ntmps129; go_wp2; go_ret2; exact ⟨rfl, rfl⟩
  have hs : simpleS c = none := by
    unfold simpleS
    rw [if_neg (by omega), if_neg e4, if_neg e5, if_neg e6, if_neg e7, if_neg e8]
  have HS := Lib.hid hs
  have t1 := key 34 (by decide) (fun h => e1 h.symm); have t2 := key 92 (by decide) (fun h => e2 h.symm); have t3 := key 47 (by decide) (fun h => e3 h.symm); have t4 := key 98 (by decide) (fun h => e4 h.symm)
  have t5 := key 102 (by decide) (fun h => e5 h.symm); have t6 := key 110 (by decide) (fun h => e6 h.symm); have t7 := key 114 (by decide) (fun h => e7 h.symm); have t8 := key 116 (by decide) (fun h => e8 h.symm)
  clear hs key e1 e2 e3 e4 e5 e6 e7 e8
  go_enter Tryd.func129, Tryd.ntmps129
  go_wp2
  go_ret2
  unfold simpleT
  rw [HS.out]
  exact ⟨rfl, rfl⟩
end Go.Proofs.YtmhfbdeeebbloaaDoor
