/- The document's reader of chapter 6: must, some, number, word. -/
import Derived.Test.YtmdalkjhlhkloaaDoorEye1
namespace Go.Proofs.YtmdalkjhlhkloaaDoor
open Go.RowKit
theorem EyPost.after {E : Nat} {v : Value} {w w0 w' : World} {s : St} {e : Ending} (h : EyPost E v w0 s e w') (o : OnlyE E w w0) : EyPost E v w s e w' := ⟨h.1, h.2.1, o.trans h.2.2⟩
theorem drewN_two (w : World) (n m : Nat) : (w.drewN n).drewN m = w.drewN (n + m) := by simp [World.drewN]; try omega
theorem only_drewN (E : Nat) (w : World) (n : Nat) : OnlyE E w (w.drewN n) := Only.of (ext_drewN n (Below.refl _ _))
theorem EyeAt.drewN {w : World} {E i k : Nat} {v : Value} {a : Int} (h : EyeAt w E v i k a) (n : Nat) : EyeAt (w.drewN n) E v i k a := h
theorem EyeAt.stepped {w : World} {E i k : Nat} {v : Value} {a : Int} (h : EyeAt w E v i k a) : EyPost E v w ⟨i + 1, k, a⟩ (.returned (.tuple #[])) (w.setCell ⟨E, 1, none⟩ (.int .i64 ((i : Int) + 1))) :=
  ⟨rfl, by have := h.move (i + 1); rwa [show (((i + 1 : Nat) : Int)) = (i : Int) + 1 by omega] at this, (Only.refl (fun k => k = E) w).set (p := ⟨E, 1, none⟩) (fun _ => rfl) _⟩
set_option maxRecDepth 100000 in
set_option maxHeartbeats 8000000 in
theorem emust_any (S : ByteArray) (l : List Nat) (hl : S.data.toList.map (·.toNat) = l) (hS : S.size ≤ 1000000) (E : Nat) (v : Value) (B : ByteArray) (s : St) (w : World) (hz : B.size ≤ 1000000) (hs : s.i ≤ B.size) (h : EyeS w E v s) (hB : EyeB w E v B) :
    Calls Tryd.prog 125 #[.pointer (some ⟨E, 0, none⟩), .string S] w (EyPost E v w (mustE l B s)) := by
  have HF := Lib.hid (fun n (k : Nat) (p : Int) => (efail_any E v s k p (w.drewN n) h).mono fun e w' hp => hp.after (only_drewN E w n))
  have HH := Lib.hid (fun n => ehas_any S l hl hS E v B s (w.drewN n) hs h (hB.only (only_drewN E w n)))
  have HT := Lib.hid (fun n => (EyeAt.stepped (h.drewN n)).after (only_drewN E w n))
  have h' := h
  obtain ⟨i, sk, sa⟩ := s
  obtain ⟨a, c, rfl, _, hac, _⟩ := hB.by_inv
  have hc := h'.cell; have hf := h'.frozen
  have hs' : i ≤ B.size := hs
  clear hl h' hs
  by_cases h0 : sk = 0
  · subst h0
    by_cases hlt : i = B.size
    · have t2 : ((i : Int) == (B.size : Int)) = true := beq_iff_eq.2 (by omega)
      have HE : Hid (mustE l B ⟨i, 0, sa⟩ = failE ⟨i, 0, sa⟩ 10 i) := Lib.hid (by simp [mustE, failE, hlt])
      clear h hB hlt
      go_enter Tryd.func125, Tryd.ntmps125
      go_wp2
      go_quiet (fail)
      go_wp2_with fail
      refine (HF.out _ 10 i).mono ?_
      rintro e w1 ⟨rfl, h1⟩
      have H1 := Lib.hid h1; clear h1
      go_wp2
      first | go_end0 | (refine bodyPost_ret (results_none rfl _ _ _) rfl ?_)
      rw [HE.out]
      exact ⟨rfl, H1.out⟩
    · have t2 : ((i : Int) == (B.size : Int)) = false := beq_eq_false_iff_ne.2 (by omega)
      cases hr : l.contains (byteAt B i) with
      | false =>
        have HE : Hid (mustE l B ⟨i, 0, sa⟩ = failE ⟨i, 0, sa⟩ 11 i) := Lib.hid (by simp only [mustE, failE]; rw [if_neg (by simp), if_neg hlt, if_neg (by rw [hr]; decide)]; simp)
        have HQ : Hid (hasE l B ⟨i, 0, sa⟩ = false) := Lib.hid (by simp only [hasE, hr]; simp)
        clear h hB hr hlt
        go_enter Tryd.func125, Tryd.ntmps125
        go_wp2
        go_quiet (fail)
        go_wp2_with fail
        refine (HH.out _).mono ?_
        rintro e w1 ⟨rfl, m, rfl⟩
        rw [HQ.out]
        go_wp2_with fail
        try rw [drewN_two]
        refine (HF.out _ 11 i).mono ?_
        rintro e w1 ⟨rfl, h1⟩
        have H1 := Lib.hid h1; clear h1
        go_wp2
        first | go_end0 | (refine bodyPost_ret (results_none rfl _ _ _) rfl ?_)
        rw [HE.out]
        exact ⟨rfl, H1.out⟩
      | true =>
        have HE : Hid (mustE l B ⟨i, 0, sa⟩ = ⟨i + 1, 0, sa⟩) := Lib.hid (by simp only [mustE, stepE]; rw [if_neg (by simp), if_neg hlt, if_pos hr])
        have HQ : Hid (hasE l B ⟨i, 0, sa⟩ = true) := Lib.hid (by simp only [hasE, hr]; simp; omega)
        have q1 : IntKind.i64.wrap ((i : Int) + 1) = (i : Int) + 1 := IntWalk.i64_in _ (by omega)
        clear h hB hr hlt
        go_enter Tryd.func125, Tryd.ntmps125
        go_wp2
        go_quiet (fail)
        go_wp2_with fail
        refine (HH.out _).mono ?_
        rintro e w1 ⟨rfl, m, rfl⟩
        rw [HQ.out]
        go_wp2
        go_end0
        rw [HE.out]
        exact HT.out _
  · have t1 : ((sk : Int) != 0) = true := bne_iff_ne.2 (by omega)
    have HE : Hid (EyPost E (.slice a B.size c) w (mustE l B ⟨i, sk, sa⟩) (.returned (.tuple #[])) w) := Lib.hid ⟨rfl, by unfold mustE; rw [if_pos h0]; exact h, Only.refl _ _⟩
    clear h hB
    go_enter Tryd.func125, Tryd.ntmps125
    go_wp2
    first | go_end0 | (refine bodyPost_ret (results_none rfl _ _ _) rfl ?_)
    exact HE.out
end Go.Proofs.YtmdalkjhlhkloaaDoor
