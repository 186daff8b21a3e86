/- scan.token, scan.Next: the walks. -/
import Derived.Test.YtmhfbdeeebbloaaDoorScan5
import Derived.LoopN
namespace Go.Proofs.YtmhfbdeeebbloaaDoor
open Go.RowKit
/-- The table of words. -/
structure WordsT (w : World) : Prop where
  c0 : w.cell? ⟨2, 0, none⟩ = some (.string ⟨#[116, 114, 117, 101]⟩)
  c1 : w.cell? ⟨2, 1, none⟩ = some (.int .i64 9)
  c2 : w.cell? ⟨2, 2, none⟩ = some (.string ⟨#[102, 97, 108, 115, 101]⟩)
  c3 : w.cell? ⟨2, 3, none⟩ = some (.int .i64 10)
  c4 : w.cell? ⟨2, 4, none⟩ = some (.string ⟨#[110, 117, 108, 108]⟩)
  c5 : w.cell? ⟨2, 5, none⟩ = some (.int .i64 11)
theorem WordsT.lt {w : World} (h : WordsT w) : 2 < w.heap.size := World.block_lt_of_cell? w ⟨2, 0, none⟩ h.c0
theorem WordsT.ext {w w' : World} (h : WordsT w) (hb : Below w.heap.size w w') : WordsT w' :=
  ⟨(bcell1 hb h.lt _).trans h.c0, (bcell1 hb h.lt _).trans h.c1, (bcell1 hb h.lt _).trans h.c2, (bcell1 hb h.lt _).trans h.c3, (bcell1 hb h.lt _).trans h.c4, (bcell1 hb h.lt _).trans h.c5⟩
/-- What scan reads of the package-level variables. -/
structure ScEnv (w : World) : Prop where
  tabs : Utf8T w
  words : WordsT w
theorem ScEnv.ext {w w' : World} (h : ScEnv w) (hb : Below w.heap.size w w') : ScEnv w' := ⟨h.tabs.ext hb, h.words.ext hb⟩
def TkPost (w : World) (r : Sc (Nat × Nat)) (e : Ending) (w' : World) : Prop := match r with
  | .ok x => e = .returned (.tuple #[.int .i64 x.1, .int .i64 x.2, .nilIface]) ∧ Below w.heap.size w w'
  | .no k i => ∃ u a b, e = .returned (.tuple #[a, b, .iface 119 (.pointer (some u))]) ∧ Failed w k i (.iface 119 (.pointer (some u))) w'
section
variable (a0 a1 a2 a3 a4 a5 : Value) (w : World)
theorem run_word0 : (Instr.index 184 (.agg #[a0, a1, a2, a3, a4, a5]) (.int .i64 0)).run Tryd.prog w = .ok (.agg #[a0, a1]) w := by
  have hu := run_underlying (P := Tryd.prog) Tryd.underlying184
  simp [Instr.index, asIntOf, hu, part, go_sem]
theorem run_word1 : (Instr.index 184 (.agg #[a0, a1, a2, a3, a4, a5]) (.int .i64 1)).run Tryd.prog w = .ok (.agg #[a2, a3]) w := by
  have hu := run_underlying (P := Tryd.prog) Tryd.underlying184
  simp [Instr.index, asIntOf, hu, part, go_sem]
theorem run_word2 : (Instr.index 184 (.agg #[a0, a1, a2, a3, a4, a5]) (.int .i64 2)).run Tryd.prog w = .ok (.agg #[a4, a5]) w := by
  have hu := run_underlying (P := Tryd.prog) Tryd.underlying184
  simp [Instr.index, asIntOf, hu, part, go_sem]
end
/-- Nobody is told. -/
def Quiet (_v : Value) (_B : ByteArray) (w : World) (_ : List Nat) (W : World) : Prop := Below w.heap.size w W
theorem quiet_telling {v : Value} {B : ByteArray} {w : World} (h : Rd (Own w) w v (bytesDB B)) (ht : Utf8T w) : Telling v B (Quiet v B w) :=
  ⟨fun _ _ hI => h.ext hI, fun _ _ hI => ht.ext hI, fun _ _ _ hI hb => ext_trans hI hb⟩
theorem quiet_ok {v : Value} {B : ByteArray} {w : World} : TellOk (Quiet v B w) .nilFunc := .nil fun _ _ _ h => h
theorem text_quiet (v : Value) (B : ByteArray) (i : Nat) (w : World) (h : Rd (Own w) w v (bytesDB B)) (ht : Utf8T w) (hm : B.size ≤ 1000000) (hi : i ≤ B.size) :
    Calls Tryd.prog 55 #[v, .int .i64 i, .nilFunc] w (ScB w ((textS B i []).bind fun x => .ok x.2)) := by
  refine (text_any v B i (Quiet v B w) .nilFunc [] w (quiet_telling h ht) quiet_ok (Below.refl _ _) hm hi (Nat.zero_le _)).mono ?_
  intro e w' hp
  cases hr : textS B i [] with
  | ok x => rw [hr] at hp; exact hp
  | no k p =>
    rw [hr] at hp
    obtain ⟨u, acc, W, rfl, hI, hf⟩ := hp
    exact ⟨u, rfl, hf.after hI⟩
set_option maxRecDepth 100000 in
set_option maxHeartbeats 16000000 in
theorem token_any (v : Value) (B : ByteArray) (p : Nat) (w : World) (h : Rd (Own w) w v (bytesDB B)) (he : ScEnv w) (hm : B.size ≤ 1000000) (hp : p ≤ B.size) :
    Calls Tryd.prog 85 #[v, .int .i64 p] w (TkPost w (tokenS B p)) := by
  have HH := Lib.hid h
  have HT := Lib.hid (fun hlt : p + 1 ≤ B.size => text_quiet v B (p + 1) w h he.tabs hm hlt)
  have HN := Lib.hid (fun hlt : p < B.size => number_any v B p w h hm hlt)
  obtain ⟨a, c, rfl, _, _, hc⟩ := h.by_inv
  have HE := Lib.hid he
  unfold tokenS
  clear h he
  by_cases h0 : p = B.size
  · rw [if_pos h0]
    have t1 : ((p : Int) == (B.size : Int)) = true := beq_iff_eq.2 (by omega)
    clear hc h0
    go_enter Tryd.func85, Tryd.ntmps85
    go_wp2
    go_ret3
    exact ⟨rfl, Below.refl _ _⟩
  · rw [if_neg h0]
    have hlt : p < B.size := by omega
    have t1 : ((p : Int) == (B.size : Int)) = false := beq_eq_false_iff_ne.2 (by omega)
    obtain ⟨b, off, rfl, _, x0⟩ := hc (by omega)
    have x1 := x0 p hlt
    have hbl := byteAt_lt B p
    have CI := Lib.hid (fun s hl => ib_any s marksL hl (byteAt B p) hbl w)
    have hib := ibV_in (l := marksL) (c := byteAt B p)
    have HT := Lib.hid (HT.out hlt); have HN := Lib.hid (HN.out hlt)
    clear hc x0
    by_cases hmk : marksL.contains (byteAt B p) = true
    · rw [if_pos hmk]
      rw [hmk] at hib
      have hv : ibV marksL (byteAt B p) = (marksL.idxOf (byteAt B p) : Nat) := by unfold ibV; rw [if_pos hmk]
      have hil : marksL.idxOf (byteAt B p) < 6 := List.idxOf_lt_length_of_mem (by simpa using hmk)
      generalize marksL.idxOf (byteAt B p) = x at *
      rw [hv] at hib CI
      clear hv hmk
      go_enter Tryd.func85, Tryd.ntmps85
      go_wp2_with fail
      refine (CI.out _ (by rfl)).mono ?_
      rintro e w1 ⟨rfl, rfl⟩
      go_wp2
      go_ret3
      exact ⟨by rfl, Below.refl _ _⟩
    · rw [if_neg hmk]
      simp only [Bool.not_eq_true] at hmk
      rw [hmk] at hib
      generalize ibV marksL (byteAt B p) = x at *
      have HIB := Lib.hid hib
      clear hmk
      by_cases hq : byteAt B p = 34
      · rw [if_pos hq]
        have t2 : ((byteAt B p : Int) == 34) = true := beq_iff_eq.2 (by omega)
        clear hq
        go_enter Tryd.func85, Tryd.ntmps85
        go_wp2_with fail
        refine (CI.out _ (by rfl)).mono ?_
        rintro e w1 ⟨rfl, rfl⟩
        go_wp2_with fail
        refine HT.out.mono ?_
        intro e w1 hsc
        cases hr : textS B (p + 1) [] with
        | ok x =>
          rw [hr] at hsc
          obtain ⟨rfl, hb⟩ := hsc
          have HB := Lib.hid hb; have HQ := Lib.hid hr; clear hb hr
          go_wp2
          go_ret3
          rw [HQ.out]
          exact ⟨rfl, HB.out⟩
        | no k i =>
          rw [hr] at hsc
          obtain ⟨u, rfl, hf⟩ := hsc
          have HF := Lib.hid hf; have HQ := Lib.hid hr; clear hf hr
          go_wp2
          go_ret3
          rw [HQ.out]
          exact ⟨_, _, _, rfl, HF.out⟩
      · rw [if_neg hq]
        have t2 : ((byteAt B p : Int) == 34) = false := beq_eq_false_iff_ne.2 (by omega)
        clear hq
        by_cases hn : byteAt B p = 45 ∨ isDig (byteAt B p) = true
        · rw [if_pos hn]
          have q : ((byteAt B p : Int) == 45) = true ∨ (((byteAt B p : Int) == 45) = false ∧ decide ((48 : Int) ≤ (byteAt B p : Int)) = true ∧ decide ((byteAt B p : Int) ≤ 57) = true) := by
            by_cases h45 : byteAt B p = 45
            · exact .inl (beq_iff_eq.2 (by omega))
            · obtain ⟨d1, d2⟩ := isDig_t (hn.resolve_left h45)
              exact .inr ⟨beq_eq_false_iff_ne.2 (by omega), decide_eq_true (by omega), decide_eq_true (by omega)⟩
          clear hn
          rcases q with q1 | ⟨q1, q2, q3⟩
          all_goals
            go_enter Tryd.func85, Tryd.ntmps85
            go_wp2_with fail
            refine (CI.out _ (by rfl)).mono ?_
            rintro e w1 ⟨rfl, rfl⟩
            go_wp2_with fail
            refine HN.out.mono ?_
            intro e w1 hsc
            cases hr : numberS B p with
            | ok x =>
              rw [hr] at hsc
              obtain ⟨rfl, rfl⟩ := hsc
              have HQ := Lib.hid hr; clear hr
              go_wp2
              go_ret3
              rw [HQ.out]
              exact ⟨rfl, Below.refl _ _⟩
            | no k i =>
              rw [hr] at hsc
              obtain ⟨u, rfl, hf⟩ := hsc
              obtain ⟨u, rfl⟩ := hf.form
              have HF := Lib.hid hf; have HQ := Lib.hid hr; clear hf hr
              go_wp2
              go_ret3
              rw [HQ.out]
              exact ⟨_, _, _, rfl, HF.out⟩
        · rw [if_neg hn]
          have t3 : ((byteAt B p : Int) == 45) = false := beq_eq_false_iff_ne.2 (by omega)
          have q : decide ((48 : Int) ≤ (byteAt B p : Int)) = false ∨ (decide ((48 : Int) ≤ (byteAt B p : Int)) = true ∧ decide ((byteAt B p : Int) ≤ 57) = false) := by
            have hd : isDig (byteAt B p) = false := by simpa using fun h => hn (.inr h)
            rcases isDig_f hd with q | q
            · exact .inl (decide_eq_false (by omega))
            · exact .inr ⟨decide_eq_true (by omega), decide_eq_false (by omega)⟩
          clear hn
          have w0 := HE.out.words.c0; have w1 := HE.out.words.c1; have w2 := HE.out.words.c2; have w3 := HE.out.words.c3; have w4 := HE.out.words.c4; have w5 := HE.out.words.c5
          have hcs : byteAt B p = 116 ∨ byteAt B p = 102 ∨ byteAt B p = 110 ∨ (byteAt B p ≠ 116 ∧ byteAt B p ≠ 102 ∧ byteAt B p ≠ 110) := by omega
          have i0 := run_word0; have i1 := run_word1; have i2 := run_word2
          rcases hcs with hb1 | hb1 | hb1 | ⟨hb1, hb2, hb3⟩
          · rw [if_pos hb1]
            have r1 : ((((⟨#[116, 114, 117, 101]⟩ : ByteArray)[0]'(by decide)).toNat : Int) == (byteAt B p : Int)) = true := (show (((116 : Nat) : Int) == (byteAt B p : Int)) = true from beq_iff_eq.2 (by omega))
            clear hb1
            rcases q with q1 | ⟨q1, q2⟩
            all_goals
              go_enter Tryd.func85, Tryd.ntmps85
              go_wp2_with fail
              refine (CI.out _ (by rfl)).mono ?_
              rintro e w1 ⟨rfl, rfl⟩
              go_wp2_with fail
              refine wp_loop_rounds 4 ?_
              rw [rounds_succ]
              go_wp2_with fail
              refine (word_any _ B p _ trueL (by rfl) _ (HH.out.ext ?hb) hm hp (by decide)).mono ?_
              case hb => exact ext_alloc (Below.refl _ _) _
              intro e w1 hsc
              cases hr : wordS B p trueL with
              | ok x =>
                rw [hr] at hsc
                obtain ⟨rfl, hb⟩ := hsc
                have hcb := bcell1 hb (b := w.heap.size) (by simp)
                have hz := hb.size
                simp only [World.size_alloc] at hz
                have HB := Lib.hid (ext_trans (ext_alloc (Below.refl _ _) _) hb); have HQ := Lib.hid hr; clear hb hr
                go_wp2
                go_ret3
                rw [HQ.out]
                exact ⟨rfl, HB.out⟩
              | no k i =>
                rw [hr] at hsc
                obtain ⟨u, rfl, hf⟩ := hsc
                have hcb := bcell1 hf.2 (b := w.heap.size) (by simp)
                have hz := hf.2.size
                simp only [World.size_alloc] at hz
                have HF := Lib.hid (hf.after (a := w) (ext_alloc (Below.refl _ _) _)); have HQ := Lib.hid hr; clear hf hr
                go_wp2
                go_ret3
                rw [HQ.out]
                exact ⟨_, _, _, rfl, HF.out⟩
          · rw [if_neg (by omega), if_pos hb1]
            have r1 : ((((⟨#[116, 114, 117, 101]⟩ : ByteArray)[0]'(by decide)).toNat : Int) == (byteAt B p : Int)) = false := (show (((116 : Nat) : Int) == (byteAt B p : Int)) = false from beq_eq_false_iff_ne.2 (by omega))
            have r2 : ((((⟨#[102, 97, 108, 115, 101]⟩ : ByteArray)[0]'(by decide)).toNat : Int) == (byteAt B p : Int)) = true := (show (((102 : Nat) : Int) == (byteAt B p : Int)) = true from beq_iff_eq.2 (by omega))
            clear hb1
            rcases q with q1 | ⟨q1, q2⟩
            all_goals
              go_enter Tryd.func85, Tryd.ntmps85
              go_wp2_with fail
              refine (CI.out _ (by rfl)).mono ?_
              rintro e w1 ⟨rfl, rfl⟩
              go_wp2_with fail
              refine wp_loop_rounds 4 ?_
              rw [rounds_succ]
              go_wp2_with fail
              rw [rounds_succ]
              go_wp2_with fail
              refine (word_any _ B p _ falseL (by rfl) _ (HH.out.ext ?hb) hm hp (by decide)).mono ?_
              case hb => exact ext_alloc (ext_alloc (Below.refl _ _) _) _
              intro e w1 hsc
              cases hr : wordS B p falseL with
              | ok x =>
                rw [hr] at hsc
                obtain ⟨rfl, hb⟩ := hsc
                have hcb := bcell1 hb (b := w.heap.size + 1) (by simp)
                have hz := hb.size
                simp only [World.size_alloc] at hz
                have HB := Lib.hid (ext_trans (ext_alloc (ext_alloc (Below.refl _ _) _) _) hb); have HQ := Lib.hid hr; clear hb hr
                go_wp2
                go_ret3
                rw [HQ.out]
                exact ⟨rfl, HB.out⟩
              | no k i =>
                rw [hr] at hsc
                obtain ⟨u, rfl, hf⟩ := hsc
                have hcb := bcell1 hf.2 (b := w.heap.size + 1) (by simp)
                have hz := hf.2.size
                simp only [World.size_alloc] at hz
                have HF := Lib.hid (hf.after (a := w) (ext_alloc (ext_alloc (Below.refl _ _) _) _)); have HQ := Lib.hid hr; clear hf hr
                go_wp2
                go_ret3
                rw [HQ.out]
                exact ⟨_, _, _, rfl, HF.out⟩
          · rw [if_neg (by omega), if_neg (by omega), if_pos hb1]
            have r1 : ((((⟨#[116, 114, 117, 101]⟩ : ByteArray)[0]'(by decide)).toNat : Int) == (byteAt B p : Int)) = false := (show (((116 : Nat) : Int) == (byteAt B p : Int)) = false from beq_eq_false_iff_ne.2 (by omega))
            have r2 : ((((⟨#[102, 97, 108, 115, 101]⟩ : ByteArray)[0]'(by decide)).toNat : Int) == (byteAt B p : Int)) = false := (show (((102 : Nat) : Int) == (byteAt B p : Int)) = false from beq_eq_false_iff_ne.2 (by omega))
            have r3 : ((((⟨#[110, 117, 108, 108]⟩ : ByteArray)[0]'(by decide)).toNat : Int) == (byteAt B p : Int)) = true := (show (((110 : Nat) : Int) == (byteAt B p : Int)) = true from beq_iff_eq.2 (by omega))
            clear hb1
            rcases q with q1 | ⟨q1, q2⟩
            all_goals
              go_enter Tryd.func85, Tryd.ntmps85
              go_wp2_with fail
              refine (CI.out _ (by rfl)).mono ?_
              rintro e w1 ⟨rfl, rfl⟩
              go_wp2_with fail
              refine wp_loop_rounds 4 ?_
              rw [rounds_succ]
              go_wp2_with fail
              rw [rounds_succ]
              go_wp2_with fail
              rw [rounds_succ]
              go_wp2_with fail
              refine (word_any _ B p _ nullL (by rfl) _ (HH.out.ext ?hb) hm hp (by decide)).mono ?_
              case hb => exact ext_alloc (ext_alloc (ext_alloc (Below.refl _ _) _) _) _
              intro e w1 hsc
              cases hr : wordS B p nullL with
              | ok x =>
                rw [hr] at hsc
                obtain ⟨rfl, hb⟩ := hsc
                have hcb := bcell1 hb (b := w.heap.size + 1 + 1) (by simp)
                have hz := hb.size
                simp only [World.size_alloc] at hz
                have HB := Lib.hid (ext_trans (ext_alloc (ext_alloc (ext_alloc (Below.refl _ _) _) _) _) hb); have HQ := Lib.hid hr; clear hb hr
                go_wp2
                go_ret3
                rw [HQ.out]
                exact ⟨rfl, HB.out⟩
              | no k i =>
                rw [hr] at hsc
                obtain ⟨u, rfl, hf⟩ := hsc
                have hcb := bcell1 hf.2 (b := w.heap.size + 1 + 1) (by simp)
                have hz := hf.2.size
                simp only [World.size_alloc] at hz
                have HF := Lib.hid (hf.after (a := w) (ext_alloc (ext_alloc (ext_alloc (Below.refl _ _) _) _) _)); have HQ := Lib.hid hr; clear hf hr
                go_wp2
                go_ret3
                rw [HQ.out]
                exact ⟨_, _, _, rfl, HF.out⟩
          · rw [if_neg hb1, if_neg hb2, if_neg hb3]
            have r1 : ((((⟨#[116, 114, 117, 101]⟩ : ByteArray)[0]'(by decide)).toNat : Int) == (byteAt B p : Int)) = false := (show (((116 : Nat) : Int) == (byteAt B p : Int)) = false from beq_eq_false_iff_ne.2 (by omega))
            have r2 : ((((⟨#[102, 97, 108, 115, 101]⟩ : ByteArray)[0]'(by decide)).toNat : Int) == (byteAt B p : Int)) = false := (show (((102 : Nat) : Int) == (byteAt B p : Int)) = false from beq_eq_false_iff_ne.2 (by omega))
            have r3 : ((((⟨#[110, 117, 108, 108]⟩ : ByteArray)[0]'(by decide)).toNat : Int) == (byteAt B p : Int)) = false := (show (((110 : Nat) : Int) == (byteAt B p : Int)) = false from beq_eq_false_iff_ne.2 (by omega))
            clear hb1 hb2 hb3
            rcases q with q1 | ⟨q1, q2⟩
            all_goals
              go_enter Tryd.func85, Tryd.ntmps85
              go_wp2_with fail
              refine (CI.out _ (by rfl)).mono ?_
              rintro e w1 ⟨rfl, rfl⟩
              go_wp2_with fail
              refine wp_loop_rounds 4 ?_
              rw [rounds_succ]
              go_wp2_with fail
              rw [rounds_succ]
              go_wp2_with fail
              rw [rounds_succ]
              go_wp2_with fail
              rw [rounds_succ]
              go_wp2_with fail
              refine (fails 11 _ _).mono ?_
              rintro e w4 ⟨u2, rfl, hx⟩
              obtain ⟨p2, rfl⟩ := hx.form
              have HX := Lib.hid (hx.after (a := w) (ext_alloc (ext_alloc (ext_alloc (Below.refl _ _) _) _) _))
              clear hx
              go_wp2
              go_ret3
              exact ⟨_, _, _, rfl, HX.out⟩
end Go.Proofs.YtmhfbdeeebbloaaDoor
