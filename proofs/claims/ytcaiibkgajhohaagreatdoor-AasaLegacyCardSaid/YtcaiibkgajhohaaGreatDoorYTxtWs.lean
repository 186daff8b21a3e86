/- Texts put together. -/
import Derived.Test.YtcaiibkgajhohaaGreatDoorYScan4s
import Derived.Test.YtcaiibkgajhohaaGreatDoorYOwn0s
import Derived.Test.YtcaiibkgajhohaaGreatDoorYUtf0s
import Derived.Test.YtcaiibkgajhohaaGreatDoorYChr1s
import Derived.LoopN
import Derived.Test.YtcaiibkgajhohaaGreatDoorZShelf
namespace Go.Proofs.YtcaiibkgajhohaaGreatDoor
section
open Go.RowKit
/-- The table of words. -/
structure WordsT (w : World) : Prop where
 c0 : w.cell? ⟨1, 0, none⟩ = some (.string ⟨#[116, 114, 117, 101]⟩)
 c1 : w.cell? ⟨1, 1, none⟩ = some (.int .i64 9)
 c2 : w.cell? ⟨1, 2, none⟩ = some (.string ⟨#[102, 97, 108, 115, 101]⟩)
 c3 : w.cell? ⟨1, 3, none⟩ = some (.int .i64 10)
 c4 : w.cell? ⟨1, 4, none⟩ = some (.string ⟨#[110, 117, 108, 108]⟩)
 c5 : w.cell? ⟨1, 5, none⟩ = some (.int .i64 11)
theorem WordsT.lt {w : World} (h : WordsT w) : 1 < w.heap.size := World.block_lt_of_cell? w ⟨1, 0, none⟩ h.c0
theorem WordsT.ext {w w' : World} (h : WordsT w) (hb : Below w.heap.size w w') : WordsT w' :=
 ⟨(bcell1 hb h.lt _).trans h.c0, (bcell1 hb h.lt _).trans h.c1, (bcell1 hb h.lt _).trans h.c2, (bcell1 hb h.lt _).trans h.c3, (bcell1 hb h.lt _).trans h.c4, (bcell1 hb h.lt _).trans h.c5⟩
/-- What scan reads of the package-level variables. -/
structure ScEnv (w : World) : Prop where
 tabs : Utf8T w
 words : WordsT w
theorem ScEnv.ext {w w' : World} (h : ScEnv w) (hb : Below w.heap.size w w') : ScEnv w' := ⟨h.tabs.ext hb, h.words.ext hb⟩
def TkPost (w : World) (r : Sc (Nat × Nat)) (e : Ending) (w' : World) : Prop := match r with
 | .ok x => e = .returned (.tuple #[.int .i64 x.1, .int .i64 x.2, .nilIface]) ∧ Below w.heap.size w w'
 | .no k i => ∃ u a b, e = .returned (.tuple #[a, b, .iface 85 (.pointer (some u))]) ∧ Failed w k i (.iface 85 (.pointer (some u))) w'
section
variable (a0 a1 a2 a3 a4 a5 : Value) (w : World)
theorem run_word0 : (Instr.index 221 (.agg #[a0, a1, a2, a3, a4, a5]) (.int .i64 0)).run Tryz.prog w = .ok (.agg #[a0, a1]) w := by
 have hu := run_underlying (P := Tryz.prog) Tryz.underlying221
 simp [Instr.index, asIntOf, hu, part, go_sem]
theorem run_word1 : (Instr.index 221 (.agg #[a0, a1, a2, a3, a4, a5]) (.int .i64 1)).run Tryz.prog w = .ok (.agg #[a2, a3]) w := by
 have hu := run_underlying (P := Tryz.prog) Tryz.underlying221
 simp [Instr.index, asIntOf, hu, part, go_sem]
theorem run_word2 : (Instr.index 221 (.agg #[a0, a1, a2, a3, a4, a5]) (.int .i64 2)).run Tryz.prog w = .ok (.agg #[a4, a5]) w := by
 have hu := run_underlying (P := Tryz.prog) Tryz.underlying221
 simp [Instr.index, asIntOf, hu, part, go_sem]
end
/-- Nobody is told. -/
def Quiet (_v : Value) (_B : ByteArray) (w : World) (_ : List Nat) (W : World) : Prop := Below w.heap.size w W
theorem quiet_telling {v : Value} {B : ByteArray} {w : World} (h : Rd (Own w) w v (bytesDB B)) (ht : Utf8T w) : Telling v B (Quiet v B w) :=
 ⟨fun _ _ hI => h.ext hI, fun _ _ hI => ht.ext hI, fun _ _ _ hI hb => ext_trans hI hb⟩
theorem quiet_ok {v : Value} {B : ByteArray} {w : World} : TellOk (Quiet v B w) .nilFunc := .nil fun _ _ _ h => h
theorem text_quiet (v : Value) (B : ByteArray) (i : Nat) (w : World) (h : Rd (Own w) w v (bytesDB B)) (ht : Utf8T w) (hm : B.size ≤ 1100000) (hi : i ≤ B.size) :
    Calls Tryz.prog 117 #[v, .int .i64 i, .nilFunc] w (ScB w ((textS B i []).bind fun x => .ok x.2)) := by
 refine (text_any v B i (Quiet v B w) .nilFunc [] w (quiet_telling h ht) quiet_ok (Below.refl _ _) hm hi (Nat.zero_le _)).mono ?_
 intro e w' hp
 cases hr : textS B i [] with
 | ok x => rw [hr] at hp; exact hp
 | no k p =>
   rw [hr] at hp
   obtain ⟨u, acc, W, rfl, hI, hf⟩ := hp
   exact ⟨u, rfl, hf.after hI⟩
set_option maxRecDepth 100000 in
set_option maxHeartbeats 16000000 in
theorem token_any (v : Value) (B : ByteArray) (p : Nat) (w : World) (h : Rd (Own w) w v (bytesDB B)) (he : ScEnv w) (hm : B.size ≤ 1100000) (hp : p ≤ B.size) :
    Calls Tryz.prog 82 #[v, .int .i64 p] w (TkPost w (tokenS B p)) := by
 have HH := Lib.hid h
 have HT := Lib.hid (fun hlt : p + 1 ≤ B.size => text_quiet v B (p + 1) w h he.tabs hm hlt)
 have HN := Lib.hid (fun hlt : p < B.size => number_any v B p w h hm hlt)
 obtain ⟨a, c, rfl, _, _, hc⟩ := h.by_inv
 have HE := Lib.hid he
 unfold tokenS
 clear h he
 by_cases h0 : p = B.size
 · rw [if_pos h0]
   have t1 : ((p : Int) == (B.size : Int)) = true := beq_iff_eq.2 (by omega)
   clear hc h0
   go_enter Tryz.func82, Tryz.ntmps82
   go_wp2
   go_ret3
   exact ⟨rfl, Below.refl _ _⟩
 · rw [if_neg h0]
   have hlt : p < B.size := by omega
   have t1 : ((p : Int) == (B.size : Int)) = false := beq_eq_false_iff_ne.2 (by omega)
   obtain ⟨b, off, rfl, _, x0⟩ := hc (by omega)
   have x1 := x0 p hlt
   have hbl := byteAt_lt B p
   have CI := Lib.hid (fun s hl => ib_any s marksL hl (byteAt B p) hbl w)
   have hib := ibV_in (l := marksL) (c := byteAt B p)
   have HT := Lib.hid (HT.out hlt); have HN := Lib.hid (HN.out hlt)
   clear hc x0
   by_cases hmk : marksL.contains (byteAt B p) = true
   · rw [if_pos hmk]
     rw [hmk] at hib
     have hv : ibV marksL (byteAt B p) = (marksL.idxOf (byteAt B p) : Nat) := by unfold ibV; rw [if_pos hmk]
     have hil : marksL.idxOf (byteAt B p) < 6 := List.idxOf_lt_length_of_mem (by simpa using hmk)
     generalize marksL.idxOf (byteAt B p) = x at *
     rw [hv] at hib CI
     clear hv hmk
     go_enter Tryz.func82, Tryz.ntmps82
     go_wp2_with fail
     refine (CI.out _ (by rfl)).mono ?_
     rintro e w1 ⟨rfl, rfl⟩
     go_wp2
     go_ret3
     exact ⟨by rfl, Below.refl _ _⟩
   · rw [if_neg hmk]
     simp only [Bool.not_eq_true] at hmk
     rw [hmk] at hib
     generalize ibV marksL (byteAt B p) = x at *
     have HIB := Lib.hid hib
     clear hmk
     by_cases hq : byteAt B p = 34
     · rw [if_pos hq]
       have t2 : ((byteAt B p : Int) == 34) = true := beq_iff_eq.2 (by omega)
       clear hq
       go_enter Tryz.func82, Tryz.ntmps82
       go_wp2_with fail
       refine (CI.out _ (by rfl)).mono ?_
       rintro e w1 ⟨rfl, rfl⟩
       go_wp2_with fail
       refine HT.out.mono ?_
       intro e w1 hsc
       cases hr : textS B (p + 1) [] with
       | ok x =>
         rw [hr] at hsc
         obtain ⟨rfl, hb⟩ := hsc
         have HB := Lib.hid hb; have HQ := Lib.hid hr; clear hb hr
         go_wp2
         go_ret3
         rw [HQ.out]
         exact ⟨rfl, HB.out⟩
       | no k i =>
         rw [hr] at hsc
         obtain ⟨u, rfl, hf⟩ := hsc
         have HF := Lib.hid hf; have HQ := Lib.hid hr; clear hf hr
         go_wp2
         go_ret3
         rw [HQ.out]
         exact ⟨_, _, _, rfl, HF.out⟩
     · rw [if_neg hq]
       have t2 : ((byteAt B p : Int) == 34) = false := beq_eq_false_iff_ne.2 (by omega)
       clear hq
       by_cases hn : byteAt B p = 45 ∨ isDig (byteAt B p) = true
       · rw [if_pos hn]
         have q : ((byteAt B p : Int) == 45) = true ∨ (((byteAt B p : Int) == 45) = false ∧ decide ((48 : Int) ≤ (byteAt B p : Int)) = true ∧ decide ((byteAt B p : Int) ≤ 57) = true) := by
          by_cases h45 : byteAt B p = 45
          · exact .inl (beq_iff_eq.2 (by omega))
          · obtain ⟨d1, d2⟩ := isDig_t (hn.resolve_left h45)
            exact .inr ⟨beq_eq_false_iff_ne.2 (by omega), decide_eq_true (by omega), decide_eq_true (by omega)⟩
         clear hn
         rcases q with q1 | ⟨q1, q2, q3⟩
         all_goals
          go_enter Tryz.func82, Tryz.ntmps82
          go_wp2_with fail
          refine (CI.out _ (by rfl)).mono ?_
          rintro e w1 ⟨rfl, rfl⟩
          go_wp2_with fail
          refine HN.out.mono ?_
          intro e w1 hsc
          cases hr : numberS B p with
          | ok x =>
            rw [hr] at hsc
            obtain ⟨rfl, rfl⟩ := hsc
            have HQ := Lib.hid hr; clear hr
            go_wp2
            go_ret3
            rw [HQ.out]
            exact ⟨rfl, Below.refl _ _⟩
          | no k i =>
            rw [hr] at hsc
            obtain ⟨u, rfl, hf⟩ := hsc
            obtain ⟨u, rfl⟩ := hf.form
            have HF := Lib.hid hf; have HQ := Lib.hid hr; clear hf hr
            go_wp2
            go_ret3
            rw [HQ.out]
            exact ⟨_, _, _, rfl, HF.out⟩
       · rw [if_neg hn]
         have t3 : ((byteAt B p : Int) == 45) = false := beq_eq_false_iff_ne.2 (by omega)
         have q : decide ((48 : Int) ≤ (byteAt B p : Int)) = false ∨ (decide ((48 : Int) ≤ (byteAt B p : Int)) = true ∧ decide ((byteAt B p : Int) ≤ 57) = false) := by
          have hd : isDig (byteAt B p) = false := by simpa using fun h => hn (.inr h)
          rcases isDig_f hd with q | q
          · exact .inl (decide_eq_false (by omega))
          · exact .inr ⟨decide_eq_true (by omega), decide_eq_false (by omega)⟩
         clear hn
         have w0 := HE.out.words.c0; have w1 := HE.out.words.c1; have w2 := HE.out.words.c2; have w3 := HE.out.words.c3; have w4 := HE.out.words.c4; have w5 := HE.out.words.c5
         have hcs : byteAt B p = 116 ∨ byteAt B p = 102 ∨ byteAt B p = 110 ∨ (byteAt B p ≠ 116 ∧ byteAt B p ≠ 102 ∧ byteAt B p ≠ 110) := by omega
         have i0 := run_word0; have i1 := run_word1; have i2 := run_word2
         rcases hcs with hb1 | hb1 | hb1 | ⟨hb1, hb2, hb3⟩
         · rw [if_pos hb1]
           have r1 : ((((⟨#[116, 114, 117, 101]⟩ : ByteArray)[0]'(by decide)).toNat : Int) == (byteAt B p : Int)) = true := (show (((116 : Nat) : Int) == (byteAt B p : Int)) = true from beq_iff_eq.2 (by omega))
           clear hb1
           rcases q with q1 | ⟨q1, q2⟩
           all_goals
            go_enter Tryz.func82, Tryz.ntmps82
            go_wp2_with fail
            refine (CI.out _ (by rfl)).mono ?_
            rintro e w1 ⟨rfl, rfl⟩
            go_wp2_with fail
            refine wp_loop_rounds 4 ?_
            rw [rounds_succ]
            go_wp2_with fail
            refine (word_any _ B p _ trueL (by rfl) _ (HH.out.ext ?hb) hm hp (by decide)).mono ?_
            case hb => exact ext_alloc (Below.refl _ _) _
            intro e w1 hsc
            cases hr : wordS B p trueL with
            | ok x =>
              rw [hr] at hsc
              obtain ⟨rfl, hb⟩ := hsc
              have hcb := bcell1 hb (b := w.heap.size) (by simp)
              have hz := hb.size
              simp only [World.size_alloc] at hz
              have HB := Lib.hid (ext_trans (ext_alloc (Below.refl _ _) _) hb); have HQ := Lib.hid hr; clear hb hr
              go_wp2
              go_ret3
              rw [HQ.out]
              exact ⟨rfl, HB.out⟩
            | no k i =>
              rw [hr] at hsc
              obtain ⟨u, rfl, hf⟩ := hsc
              have hcb := bcell1 hf.2 (b := w.heap.size) (by simp)
              have hz := hf.2.size
              simp only [World.size_alloc] at hz
              have HF := Lib.hid (hf.after (a := w) (ext_alloc (Below.refl _ _) _)); have HQ := Lib.hid hr; clear hf hr
              go_wp2
              go_ret3
              rw [HQ.out]
              exact ⟨_, _, _, rfl, HF.out⟩
         · rw [if_neg (by omega), if_pos hb1]
           have r1 : ((((⟨#[116, 114, 117, 101]⟩ : ByteArray)[0]'(by decide)).toNat : Int) == (byteAt B p : Int)) = false := (show (((116 : Nat) : Int) == (byteAt B p : Int)) = false from beq_eq_false_iff_ne.2 (by omega))
           have r2 : ((((⟨#[102, 97, 108, 115, 101]⟩ : ByteArray)[0]'(by decide)).toNat : Int) == (byteAt B p : Int)) = true := (show (((102 : Nat) : Int) == (byteAt B p : Int)) = true from beq_iff_eq.2 (by omega))
           clear hb1
           rcases q with q1 | ⟨q1, q2⟩
           all_goals
            go_enter Tryz.func82, Tryz.ntmps82
            go_wp2_with fail
            refine (CI.out _ (by rfl)).mono ?_
            rintro e w1 ⟨rfl, rfl⟩
            go_wp2_with fail
            refine wp_loop_rounds 4 ?_
            rw [rounds_succ]
            go_wp2_with fail
            rw [rounds_succ]
            go_wp2_with fail
            refine (word_any _ B p _ falseL (by rfl) _ (HH.out.ext ?hb) hm hp (by decide)).mono ?_
            case hb => exact ext_alloc (ext_alloc (Below.refl _ _) _) _
            intro e w1 hsc
            cases hr : wordS B p falseL with
            | ok x =>
              rw [hr] at hsc
              obtain ⟨rfl, hb⟩ := hsc
              have hcb := bcell1 hb (b := w.heap.size + 1) (by simp)
              have hz := hb.size
              simp only [World.size_alloc] at hz
              have HB := Lib.hid (ext_trans (ext_alloc (ext_alloc (Below.refl _ _) _) _) hb); have HQ := Lib.hid hr; clear hb hr
              go_wp2
              go_ret3
              rw [HQ.out]
              exact ⟨rfl, HB.out⟩
            | no k i =>
              rw [hr] at hsc
              obtain ⟨u, rfl, hf⟩ := hsc
              have hcb := bcell1 hf.2 (b := w.heap.size + 1) (by simp)
              have hz := hf.2.size
              simp only [World.size_alloc] at hz
              have HF := Lib.hid (hf.after (a := w) (ext_alloc (ext_alloc (Below.refl _ _) _) _)); have HQ := Lib.hid hr; clear hf hr
              go_wp2
              go_ret3
              rw [HQ.out]
              exact ⟨_, _, _, rfl, HF.out⟩
         · rw [if_neg (by omega), if_neg (by omega), if_pos hb1]
           have r1 : ((((⟨#[116, 114, 117, 101]⟩ : ByteArray)[0]'(by decide)).toNat : Int) == (byteAt B p : Int)) = false := (show (((116 : Nat) : Int) == (byteAt B p : Int)) = false from beq_eq_false_iff_ne.2 (by omega))
           have r2 : ((((⟨#[102, 97, 108, 115, 101]⟩ : ByteArray)[0]'(by decide)).toNat : Int) == (byteAt B p : Int)) = false := (show (((102 : Nat) : Int) == (byteAt B p : Int)) = false from beq_eq_false_iff_ne.2 (by omega))
           have r3 : ((((⟨#[110, 117, 108, 108]⟩ : ByteArray)[0]'(by decide)).toNat : Int) == (byteAt B p : Int)) = true := (show (((110 : Nat) : Int) == (byteAt B p : Int)) = true from beq_iff_eq.2 (by omega))
           clear hb1
           rcases q with q1 | ⟨q1, q2⟩
           all_goals
            go_enter Tryz.func82, Tryz.ntmps82
            go_wp2_with fail
            refine (CI.out _ (by rfl)).mono ?_
            rintro e w1 ⟨rfl, rfl⟩
            go_wp2_with fail
            refine wp_loop_rounds 4 ?_
            rw [rounds_succ]
            go_wp2_with fail
            rw [rounds_succ]
            go_wp2_with fail
            rw [rounds_succ]
            go_wp2_with fail
            refine (word_any _ B p _ nullL (by rfl) _ (HH.out.ext ?hb) hm hp (by decide)).mono ?_
            case hb => exact ext_alloc (ext_alloc (ext_alloc (Below.refl _ _) _) _) _
            intro e w1 hsc
            cases hr : wordS B p nullL with
            | ok x =>
              rw [hr] at hsc
              obtain ⟨rfl, hb⟩ := hsc
              have hcb := bcell1 hb (b := w.heap.size + 1 + 1) (by simp)
              have hz := hb.size
              simp only [World.size_alloc] at hz
              have HB := Lib.hid (ext_trans (ext_alloc (ext_alloc (ext_alloc (Below.refl _ _) _) _) _) hb); have HQ := Lib.hid hr; clear hb hr
              go_wp2
              go_ret3
              rw [HQ.out]
              exact ⟨rfl, HB.out⟩
            | no k i =>
              rw [hr] at hsc
              obtain ⟨u, rfl, hf⟩ := hsc
              have hcb := bcell1 hf.2 (b := w.heap.size + 1 + 1) (by simp)
              have hz := hf.2.size
              simp only [World.size_alloc] at hz
              have HF := Lib.hid (hf.after (a := w) (ext_alloc (ext_alloc (ext_alloc (Below.refl _ _) _) _) _)); have HQ := Lib.hid hr; clear hf hr
              go_wp2
              go_ret3
              rw [HQ.out]
              exact ⟨_, _, _, rfl, HF.out⟩
         · rw [if_neg hb1, if_neg hb2, if_neg hb3]
           have r1 : ((((⟨#[116, 114, 117, 101]⟩ : ByteArray)[0]'(by decide)).toNat : Int) == (byteAt B p : Int)) = false := (show (((116 : Nat) : Int) == (byteAt B p : Int)) = false from beq_eq_false_iff_ne.2 (by omega))
           have r2 : ((((⟨#[102, 97, 108, 115, 101]⟩ : ByteArray)[0]'(by decide)).toNat : Int) == (byteAt B p : Int)) = false := (show (((102 : Nat) : Int) == (byteAt B p : Int)) = false from beq_eq_false_iff_ne.2 (by omega))
           have r3 : ((((⟨#[110, 117, 108, 108]⟩ : ByteArray)[0]'(by decide)).toNat : Int) == (byteAt B p : Int)) = false := (show (((110 : Nat) : Int) == (byteAt B p : Int)) = false from beq_eq_false_iff_ne.2 (by omega))
           clear hb1 hb2 hb3
           rcases q with q1 | ⟨q1, q2⟩
           all_goals
            go_enter Tryz.func82, Tryz.ntmps82
            go_wp2_with fail
            refine (CI.out _ (by rfl)).mono ?_
            rintro e w1 ⟨rfl, rfl⟩
            go_wp2_with fail
            refine wp_loop_rounds 4 ?_
            rw [rounds_succ]
            go_wp2_with fail
            rw [rounds_succ]
            go_wp2_with fail
            rw [rounds_succ]
            go_wp2_with fail
            rw [rounds_succ]
            go_wp2_with fail
            refine (fails 11 _ _).mono ?_
            rintro e w4 ⟨u2, rfl, hx⟩
            obtain ⟨p2, rfl⟩ := hx.form
            have HX := Lib.hid (hx.after (a := w) (ext_alloc (ext_alloc (ext_alloc (Below.refl _ _) _) _) _))
            clear hx
            go_wp2
            go_ret3
            exact ⟨_, _, _, rfl, HX.out⟩
end
section
open Go.RowKit
set_option maxRecDepth 100000 in
theorem uright_any (n : Int) (w : World) : Calls Tryz.prog 175 #[.int .i64 n] w fun e w' => e = .returned (.bool (rightN n)) ∧ w = w' := by
 cases h1 : decide ((0 : Int) ≤ n) with
 | false =>
   have HE : Hid (rightN n = false) := Lib.hid (by unfold rightN; rw [h1]; rfl)
   go_enter Tryz.func175, Tryz.ntmps175
   go_wp2
   go_ret
   exact ⟨by rw [HE.out]; rfl, rfl⟩
 | true =>
   cases h2 : decide (n ≤ 1114111) with
   | false =>
     have HE : Hid (rightN n = false) := Lib.hid (by
      have : decide (n < 1114112) = false := by simp at h2 ⊢; omega
      unfold rightN; rw [h1, this]; rfl)
     go_enter Tryz.func175, Tryz.ntmps175
     go_wp2
     go_ret
     exact ⟨by rw [HE.out]; rfl, rfl⟩
   | true =>
     have HE : Hid (rightN n = (halfN n == 0)) := Lib.hid (by
      have : decide (n < 1114112) = true := by simp at h2 ⊢; omega
      unfold rightN; rw [h1, this]; rfl)
     go_enter Tryz.func175, Tryz.ntmps175
     go_wp2_with fail
     refine (half_any n w).mono ?_
     rintro e w' ⟨rfl, rfl⟩
     go_wp2
     go_ret
     exact ⟨by rw [HE.out]; rfl, rfl⟩
theorem Rd.nats_inv {S : Nat → Prop} {w : World} {v : Value} {acc : List Nat} (h : Rd S w v (intsD acc)) : ∃ a c, v = .slice a acc.length c ∧ (a = none → acc.length = 0 ∧ c = 0) ∧ acc.length ≤ c ∧
    (0 < acc.length → ∃ b off, a = some ⟨b, off, none⟩ ∧ S b ∧ ∀ j (hj : j < acc.length), w.cell? ⟨b, off + j, none⟩ = some (.int .i64 (acc[j] : Nat))) := by
 obtain ⟨a, n, c, rfl, hl, hac, hnc, h⟩ := h.list_inv
 simp only [List.length_map, Nat.mul_one] at hl
 subst hl
 refine ⟨a, c, rfl, hac, hnc, fun h0 => ?_⟩
 obtain ⟨b, off, rfl, hS, hc⟩ := h h0
 refine ⟨b, off, rfl, hS, fun j hj => ?_⟩
 obtain ⟨u, hu, hr⟩ := hc j (by simpa using hj)
 rw [List.getElem_map] at hr
 rw [hu, hr.int_inv]
def UtRel (acc : List Nat) (w : World) (o i : Value) (wr : World) : Prop := ∃ j : Nat, i = .int .i64 j ∧ j ≤ acc.length ∧ wr.ownsRow w.heap.size 5 1 o (strOf (acc.take j)).size (byV (strOf (acc.take j))) ∧ Below w.heap.size w wr
theorem UtRel.step {acc : List Nat} {w w2 : World} {v2 : Value} {j : Nat} (ha : AllRight acc) (hj : j < acc.length)
    (ho : w2.ownsRow w.heap.size 5 1 v2 ((strOf (acc.take j)).size + (putC acc[j]).length) (byV (strOf (acc.take j)) ++ putC acc[j])) (hb : Below w.heap.size w w2) : UtRel acc w v2 (.int .i64 (j + 1)) w2 := by
 refine ⟨j + 1, by go_num, hj, ?_, hb⟩
 have e := strOf_snoc (ha.take j) (ha.get hj)
 rw [← take_snoc hj] at e
 have el := congrArg List.length e
 rw [List.length_append, byV_length, byV_length] at el
 rw [e, el]; exact ho
def UtPost (acc : List Nat) (w : World) (r : Value) (e : Ending) (w' : World) : Prop := ∃ o, e = .returned (.tuple #[o, r]) ∧ Rd (Own w') w' o (bytesDB (strOf acc)) ∧ Below w.heap.size w w'
theorem UtRel.fin {acc : List Nat} {w wr : World} {o i : Value} (h : UtRel acc w o i wr) (hi : i = .int .i64 acc.length) (r : Value) : UtPost acc w r (.returned (.tuple #[o, r])) wr := by
 obtain ⟨j, rfl, hj, ho, hb⟩ := h
 cases hi
 refine ⟨o, rfl, ?_, hb⟩
 rw [List.take_of_length_le (Nat.le_refl _)] at ho
 rw [bytesDB_eq]
 exact rd_owned ho (byV_rds _) (fun g hg => (ho.lt g hg).2)
set_option maxRecDepth 100000 in
set_option maxHeartbeats 16000000 in
theorem utext_any (v : Value) (acc : List Nat) (w : World) (h : Rd (Own w) w v (intsD acc)) (ha : AllRight acc) (hl : acc.length ≤ 1100000) :
    Calls Tryz.prog 157 #[v] w (UtPost acc w .nilIface) := by
 obtain ⟨a, c, rfl, _, _, _⟩ := h.nats_inv
 have H := Lib.hid h; have HA := Lib.hid ha
 clear h ha
 go_enter Tryz.func157, Tryz.ntmps157
 go_wp2_with fail
 go_loopw [4, 9] (UtRel acc w) (fun _ i _ => acc.length - (intOf i).toNat)
 case atStart => exact ⟨0, rfl, Nat.zero_le _, World.ownsRow_nil _ _ _ _, Below.refl _ _⟩
 case round =>
  obtain ⟨j, rfl, hj, ho, hb⟩ := hrel
  obtain ⟨ao, cap, rfl, _⟩ := aown_form ho
  have hsz := strOf_le (acc.take j)
  rw [List.length_take] at hsz
  have HO := Lib.hid ho; have HB := Lib.hid hb
  by_cases hlt : j < acc.length
  · have t1 : decide ((j : Int) < (acc.length : Int)) = true := decide_eq_true (by omega)
    have t1' : decide (j < acc.length) = true := decide_eq_true hlt
    obtain ⟨a', c', e1, _, _, hc⟩ := (H.out.ext hb).nats_inv
    cases e1
    obtain ⟨b, off, rfl, _, x0⟩ := hc (by omega)
    have x1 := x0 j hlt
    have hrt := HA.out.get hlt
    have HST := Lib.hid (fun v2 w2 => UtRel.step (w := w) (w2 := w2) (v2 := v2) HA.out hlt)
    have hrc := rune_put hrt
    have hcl := right_lt hrt
    have HUR := uright_any (acc[j] : Nat) wr
    rw [hrt] at HUR
    have HAR := Tryz.utf8_AppendRune_plain w.heap.size _ _ _ ((acc[j] : Nat) : Int) (by omega) (by omega) wr ho (by omega) hb.size
    rw [hrc] at HAR
    generalize acc[j] = ch at *
    have HUR := Lib.hid HUR; have HAR := Lib.hid HAR
    clear x0 hc ho hb hrt hrc
    go_wp2_with fail
    refine HUR.out.mono ?_
    rintro e w1 ⟨rfl, rfl⟩
    go_wp2_with fail
    refine HAR.out.mono ?_
    rintro e w1 ⟨v2, rfl, ho2, ob, hg⟩
    have R := HST.out v2 w1 ho2 (grown_below (ext_alloc HB.out ob) (HO.out.alloc ob) hg (by have := HB.out.size; simp; omega) (Nat.le_refl _))
    have HR := Lib.hid R
    clear R ho2 hg
    go_wp2
    refine ⟨?_, by simp [intOf] <;> omega⟩
    have R := HR.out
    first | exact R | ((repeat apply Exists.intro); exact ⟨R, rfl⟩)
  · have t1 : decide ((j : Int) < (acc.length : Int)) = false := decide_eq_false (by omega)
    have t1' : decide (j < acc.length) = false := decide_eq_false hlt
    obtain rfl : j = acc.length := by omega
    have HF := Lib.hid (UtRel.fin (i := .int .i64 acc.length) ⟨acc.length, rfl, hj, HO.out, HB.out⟩ rfl .nilIface)
    clear ho hb hlt
    go_wp2
    go_ret2
    exact HF.out
end
section
open Go.RowKit
def tokV (t : Tok) : Value := .agg #[.int .i64 t.kind, .int .i64 t.fr, .int .i64 t.to]
def NxPost (w : World) (r : Sc Tok) (e : Ending) (w' : World) : Prop := match r with
 | .ok t => e = .returned (.tuple #[tokV t, .nilIface]) ∧ Below w.heap.size w w'
 | .no k i => ∃ u, e = .returned (.tuple #[.agg #[.int .i64 0, .int .i64 0, .int .i64 0], .iface 85 (.pointer (some u))]) ∧ Failed w k i (.iface 85 (.pointer (some u))) w'
def blanksL : List Nat := [32, 9, 10, 13]
def BlRel (B : ByteArray) (e : Nat) (W : World) (k : Value) (wr : World) : Prop := wr = W ∧ ∃ j : Nat, k = .int .i64 j ∧ j ≤ e ∧ skip isBlank B j = e
theorem below_box {w w1 : World} (h : Below w.heap.size w w1) (a b c : Value) : Below w.heap.size w (((w1.setCell ⟨w.heap.size, 0, none⟩ a).setCell ⟨w.heap.size, 1, none⟩ b).setCell ⟨w.heap.size, 2, none⟩ c) :=
 ((h.setCell (Nat.le_refl _) a).setCell (Nat.le_refl _) b).setCell (Nat.le_refl _) c
theorem failed_box {w w1 : World} {o : Obj} {k : Nat} {i : Int} {u : Value} (h : Failed (w.alloc o) k i u w1) (a b c : Value) : Failed w k i u (((w1.setCell ⟨w.heap.size, 0, none⟩ a).setCell ⟨w.heap.size, 1, none⟩ b).setCell ⟨w.heap.size, 2, none⟩ c) :=
 ⟨h.1.res (Below.refl _ _) (OnlyB.set (OnlyB.set (OnlyB.set (OnlyB.refl _ _)))), below_box (ext_trans (ext_alloc (Below.refl _ _) o) h.2) a b c⟩
set_option maxRecDepth 100000 in
set_option maxHeartbeats 16000000 in
theorem next_any (v : Value) (B : ByteArray) (at_ : Int) (w : World) (h : Rd (Own w) w v (bytesDB B)) (he : ScEnv w) (hm : B.size ≤ 1100000) :
    Calls Tryz.prog 49 #[v, .int .i64 at_] w (NxPost w (nextI B at_)) := by
 unfold nextI
 by_cases hout : at_ < 0 ∨ (B.size : Int) < at_
 · rw [if_pos hout]
   obtain ⟨a, c, rfl, _, _, _⟩ := h.by_inv
   have q : decide (at_ < 0) = true ∨ (decide (at_ < 0) = false ∧ decide ((B.size : Int) < at_) = true) := by
    by_cases h1 : at_ < 0
    · exact .inl (decide_eq_true h1)
    · exact .inr ⟨decide_eq_false h1, decide_eq_true (hout.resolve_left h1)⟩
   clear h he hout
   rcases q with q1 | ⟨q1, q2⟩
   all_goals
    go_enter Tryz.func49, Tryz.ntmps49
    go_wp2_with fail
    refine (fails 1 at_ _).mono ?_
    rintro e w1 ⟨u, rfl, hx⟩
    obtain ⟨p, rfl⟩ := hx.form
    have hcb := bcell1 hx.2 (b := w.heap.size) (by simp)
    have hcf := bfrozen1 hx.2 (b := w.heap.size) (by simp)
    have hz := hx.2.size
    simp only [World.size_alloc] at hz
    have HX := Lib.hid hx
    clear hx
    go_wp2
    refine bodyPost_ret (v := .tuple #[.agg #[.int .i64 0, .int .i64 0, .int .i64 0], .iface 85 (.pointer (some p))]) (by simp [results, Tryz.results49, go_sem, hcb]) rfl ⟨_, rfl, ?_⟩
    exact failed_box HX.out _ _ _
 · rw [if_neg hout]
   obtain ⟨i, rfl⟩ := Int.eq_ofNat_of_zero_le (show 0 ≤ at_ by omega)
   rw [Int.toNat_natCast]
   have hi : i ≤ B.size := by omega
   have hr0 := h.ext (ext_alloc (Below.refl _ _) (.cells #[.int .i64 0, .int .i64 0, .int .i64 0] 128))
   have he0 := he.ext (ext_alloc (Below.refl _ _) (.cells #[.int .i64 0, .int .i64 0, .int .i64 0] 128))
   obtain ⟨a, c, rfl, _, _, hc⟩ := h.by_inv
   obtain ⟨W0, hW0⟩ : ∃ W, w.alloc (.cells #[.int .i64 0, .int .i64 0, .int .i64 0] 128) = W := ⟨_, rfl⟩
   have hb0 : Below w.heap.size w W0 := by rw [← hW0]; exact ext_alloc (Below.refl _ _) _
   have hcell0 : ∀ o, W0.cell? ⟨w.heap.size, o, none⟩ = #[Value.int .i64 0, .int .i64 0, .int .i64 0][o]? := fun o => by rw [← hW0]; simp
   have hfr0 : ∀ o, W0.frozen? ⟨w.heap.size, o, none⟩ = false := fun o => by rw [← hW0]; simp
   have hz0 : w.heap.size < W0.heap.size := by rw [← hW0]; simp
   rw [hW0] at hr0 he0
   have HR0 := Lib.hid hr0; have HE0 := Lib.hid he0; have HB0 := Lib.hid hb0; have HC0 := Lib.hid hcell0; have HF0 := Lib.hid hfr0
   have HW0 := Lib.hid hW0
   unfold nextS
   have hge := skip_ge isBlank B i
   have hle := skip_le isBlank B i hi
   have hE := skip_end isBlank B _ i rfl
   generalize hes : skip isBlank B i = e at *
   have HES := Lib.hid hes; have HEN := Lib.hid hE
   have t1 : decide ((i : Int) < 0) = false := decide_eq_false (by omega)
   have t2 : decide (B.size < i) = false := decide_eq_false (by omega)
   clear h he hout hc hr0 he0 hb0 hcell0 hfr0 hE hes
   go_enter Tryz.func49, Tryz.ntmps49
   go_wp2_with fail
   go_loopw [1] (BlRel B e W0) (fun k _ => B.size - (intOf k).toNat)
   case atStart => exact ⟨rfl, i, rfl, hge, HES.out⟩
   case round =>
    obtain ⟨rfl, j, rfl, hj, hs⟩ := hrel
    clear hW0
    by_cases hlt : j < e
    · have hd : isBlank (byteAt B j) = true := by
        cases hx : isBlank (byteAt B j) with
        | true => rfl
        | false => rw [skip_stop (fun _ => hx)] at hs; omega
      rw [skip_go (by omega) hd] at hs
      obtain ⟨a', c', e1, _, _, hc⟩ := HR0.out.by_inv
      cases e1
      obtain ⟨b, off, rfl, _, x0⟩ := hc (by omega)
      have x1 := x0 j (by omega)
      have t3 : decide ((j : Int) < (B.size : Int)) = true := decide_eq_true (by omega)
      have CI := Lib.hid (fun s hl => ib_any s blanksL hl (byteAt B j) (byteAt_lt B j) wr)
      have hib := ibV_in (l := blanksL) (c := byteAt B j)
      rw [show blanksL.contains (byteAt B j) = true from hd] at hib
      generalize ibV blanksL (byteAt B j) = x at *
      have R : BlRel B e wr (.int .i64 (j + 1)) wr := ⟨rfl, j + 1, by go_num, by omega, hs⟩
      have HR := Lib.hid R
      have hje : j < B.size := by omega
      clear R hs hd x0 hc
      go_wp2_with fail
      refine (CI.out _ (by rfl)).mono ?_
      rintro ev w1 ⟨rfl, rfl⟩
      go_wp2
      refine ⟨?_, by simp [intOf] <;> omega⟩
      have R := HR.out
      first | exact R | ((repeat apply Exists.intro); exact ⟨R, rfl⟩)
    · obtain rfl : j = e := by omega
      have CT := Lib.hid (token_any _ B j wr HR0.out HE0.out hm hle)
      have hcb0 := HC0.out; have hcf0 := HF0.out
      have hzz := HB0.out.size
      clear hs
      by_cases hsz : j < B.size
      · have hd := HEN.out hsz
        obtain ⟨a', c', e1, _, _, hc⟩ := HR0.out.by_inv
        cases e1
        obtain ⟨b, off, rfl, _, x0⟩ := hc (by omega)
        have x1 := x0 j (by omega)
        have t3 : decide ((j : Int) < (B.size : Int)) = true := decide_eq_true (by omega)
        have CI := Lib.hid (fun s hl => ib_any s blanksL hl (byteAt B j) (byteAt_lt B j) wr)
        have hib := ibV_in (l := blanksL) (c := byteAt B j)
        rw [show blanksL.contains (byteAt B j) = false from hd] at hib
        generalize ibV blanksL (byteAt B j) = x at *
        clear hd x0 hc
        go_wp2_with fail
        refine (CI.out _ (by rfl)).mono ?_
        rintro ev w1 ⟨rfl, rfl⟩
        go_wp2_with fail
        refine CT.out.mono ?_
        intro ev w1 hsc
        cases hr : tokenS B j with
        | ok x =>
          rw [hr] at hsc
          obtain ⟨rfl, hb⟩ := hsc
          have hcb := bcell1 hb (b := w.heap.size) (by omega)
          have hcf := bfrozen1 hb (b := w.heap.size) (by omega)
          have hz := hb.size
          have HB := Lib.hid (ext_trans HB0.out hb); have HQ := Lib.hid hr; clear hb hr
          go_wp2
          rw [HQ.out]
          refine bodyPost_ret (v := .tuple #[.agg #[.int .i64 x.1, .int .i64 j, .int .i64 x.2], .nilIface]) (by simp [results, Tryz.results49, go_sem, hcb, hcb0]) rfl ⟨rfl, ?_⟩
          exact below_box HB.out _ _ _
        | no k p =>
          rw [hr] at hsc
          obtain ⟨u, a1, a2, rfl, hf⟩ := hsc
          have hcb := bcell1 hf.2 (b := w.heap.size) (by omega)
          have hcf := bfrozen1 hf.2 (b := w.heap.size) (by omega)
          have hz := hf.2.size
          have HQ := Lib.hid hr
          have HX := hf
          rw [← HW0.out] at HX
          have HX := Lib.hid HX
          clear hf hr
          go_wp2
          rw [HQ.out]
          refine bodyPost_ret (v := .tuple #[.agg #[.int .i64 0, .int .i64 0, .int .i64 0], .iface 85 (.pointer (some u))]) (by simp [results, Tryz.results49, go_sem, hcb, hcb0]) rfl ⟨_, rfl, ?_⟩
          exact failed_box HX.out _ _ _
      · have t3 : decide ((j : Int) < (B.size : Int)) = false := decide_eq_false (by omega)
        go_wp2_with fail
        refine CT.out.mono ?_
        intro ev w1 hsc
        cases hr : tokenS B j with
        | ok x =>
          rw [hr] at hsc
          obtain ⟨rfl, hb⟩ := hsc
          have hcb := bcell1 hb (b := w.heap.size) (by omega)
          have hcf := bfrozen1 hb (b := w.heap.size) (by omega)
          have hz := hb.size
          have HB := Lib.hid (ext_trans HB0.out hb); have HQ := Lib.hid hr; clear hb hr
          go_wp2
          rw [HQ.out]
          refine bodyPost_ret (v := .tuple #[.agg #[.int .i64 x.1, .int .i64 j, .int .i64 x.2], .nilIface]) (by simp [results, Tryz.results49, go_sem, hcb, hcb0]) rfl ⟨rfl, ?_⟩
          exact below_box HB.out _ _ _
        | no k p =>
          rw [hr] at hsc
          obtain ⟨u, a1, a2, rfl, hf⟩ := hsc
          have hcb := bcell1 hf.2 (b := w.heap.size) (by omega)
          have hcf := bfrozen1 hf.2 (b := w.heap.size) (by omega)
          have hz := hf.2.size
          have HQ := Lib.hid hr
          have HX := hf
          rw [← HW0.out] at HX
          have HX := Lib.hid HX
          clear hf hr
          go_wp2
          rw [HQ.out]
          refine bodyPost_ret (v := .tuple #[.agg #[.int .i64 0, .int .i64 0, .int .i64 0], .iface 85 (.pointer (some u))]) (by simp [results, Tryz.results49, go_sem, hcb, hcb0]) rfl ⟨_, rfl, ?_⟩
          exact failed_box HX.out _ _ _
end
end Go.Proofs.YtcaiibkgajhohaaGreatDoor
