/- The document's reader of chapter 6: number. -/
import Derived.Test.YtmdalkjhlhkloaaDoorEye3
import Derived.Deep.DeepCutAuto
namespace Go.Proofs.YtmdalkjhlhkloaaDoor
open Go.RowKit
structure Now (E : Nat) (v : Value) (B : ByteArray) (w : World) (t : St) (W : World) : Prop where
  at_ : EyeS W E v t
  only : OnlyE E w W
  le : t.i ≤ B.size
theorem Now.drewN {E : Nat} {v : Value} {B : ByteArray} {w W : World} {t : St} (h : Now E v B w t W) (n : Nat) : Now E v B w t (W.drewN n) := ⟨h.at_, h.only.trans (only_drewN E W n), h.le⟩
theorem Now.step {E : Nat} {v : Value} {B : ByteArray} {w W : World} {t : St} (h : Now E v B w t W) (n : Nat) (hlt : t.i < B.size) : Now E v B w (stepE t) ((W.drewN n).setCell ⟨E, 1, none⟩ (.int .i64 ((t.i : Int) + 1))) :=
  have hs := EyeAt.stepped (h.at_.drewN n)
  ⟨hs.2.1, (h.only.trans (only_drewN E W n)).trans hs.2.2, hlt⟩
theorem Now.post {E : Nat} {v : Value} {B : ByteArray} {w W W' : World} {t t' : St} {e : Ending} (h : Now E v B w t W) (hp : EyPost E v W t' e W') (hl : t'.i ≤ B.size) : Now E v B w t' W' := ⟨hp.2.1, h.only.trans hp.2.2, hl⟩
theorem Now.fin {E : Nat} {v : Value} {B : ByteArray} {w W : World} {t : St} (h : Now E v B w t W) : EyPost E v w t (.returned (.tuple #[])) W := ⟨rfl, h.at_, h.only⟩
theorem has_lt {l : List Nat} {B : ByteArray} {t : St} (h : hasE l B t = true) : t.i < B.size := by
  simp only [hasE, Bool.and_eq_true, decide_eq_true_eq] at h; exact h.2.1
theorem runE_le {p : Nat → Bool} {B : ByteArray} {s : St} (h : s.i ≤ B.size) : (runE p B s).i ≤ B.size := by
  unfold runE; split
  · exact h
  · exact skip_le _ _ _ h
theorem someE_le {B : ByteArray} {s : St} (h : s.i ≤ B.size) : (someE B s).i ≤ B.size := runE_le (mustE_le h)
def optE (l : List Nat) (B : ByteArray) (s : St) : St := if hasE l B s then stepE s else s
def num2E (B : ByteArray) (s : St) : St := if hasE [48] B s then stepE s else someE B s
def num3E (B : ByteArray) (s : St) : St := if hasE [46] B s then someE B (stepE s) else s
def num4E (B : ByteArray) (s : St) : St := if hasE [101, 69] B s then someE B (optE [43, 45] B (stepE s)) else s
def numE (B : ByteArray) (s : St) : St := num4E B (num3E B (num2E B (optE [45] B s)))
set_option maxRecDepth 100000 in
set_option maxHeartbeats 16000000 in
theorem enumber_any (E : Nat) (v : Value) (B : ByteArray) (s : St) (w : World) (hz : B.size ≤ 1000000) (hs : s.i ≤ B.size) (h : EyeS w E v s) (hB : EyeB w E v B) :
    Calls Tryd.prog 82 #[.pointer (some ⟨E, 0, none⟩)] w (EyPost E v w (numE B s)) := by
  have HH := Lib.hid (fun (S : ByteArray) (l : List Nat) (hl : S.data.toList.map (·.toNat) = l) (hS : S.size ≤ 1000000) (t : St) (W : World) (hN : Now E v B w t W) => ehas_any S l hl hS E v B t W hN.le hN.at_ (hB.only hN.only))
  have HM := Lib.hid (fun (t : St) (W : World) (hN : Now E v B w t W) => esome_any E v B t W hz hN.le hN.at_ (hB.only hN.only))
  have HN := Lib.hid (Now.mk h (Only.refl (fun k => k = E) w) hs)
  clear h hB hs
  obtain ⟨W, hW⟩ : ∃ W, W = w := ⟨_, rfl⟩
  have HNW : Hid (Now E v B w s W) := Lib.hid (by rw [hW]; exact HN.out)
  rw [show (Calls Tryd.prog 82 #[.pointer (some ⟨E, 0, none⟩)] w (EyPost E v w (numE B s))) = (Calls Tryd.prog 82 #[.pointer (some ⟨E, 0, none⟩)] W (EyPost E v w (numE B s))) by rw [hW]]
  clear hW HN
  go_enter Tryd.func82, Tryd.ntmps82
  go_wp2_with fail
  refine (HH.out ⟨#[45]⟩ [45] (by rfl) (by decide) s W HNW.out).mono ?_
  rintro e w1 ⟨rfl, n, rfl⟩
  go_upto_if 3 with (fail)
  go_cut [] (fun wx => ∃ t, t = optE [45] B s ∧ Now E v B w t wx)
  case first =>
    cases hh : hasE [45] B s with
    | true =>
      have hc := HNW.out.at_.cell; have hf := HNW.out.at_.frozen
      have hlt := has_lt hh
      have q1 : IntKind.i64.wrap ((s.i : Int) + 1) = (s.i : Int) + 1 := IntWalk.i64_in _ (by omega)
      have HX := Lib.hid (HNW.out.step n hlt)
      have HE : Hid (stepE s = optE [45] B s) := Lib.hid (by simp only [optE]; rw [hh]; rfl)
      clear hh
      go_wp2
      go_meet
      exact ⟨_, HE.out, HX.out⟩
    | false =>
      have HE : Hid (s = optE [45] B s) := Lib.hid (by simp only [optE]; rw [hh]; rfl)
      clear hh
      go_wp2
      go_meet
      exact ⟨_, HE.out, HNW.out.drewN n⟩
  case rest =>
    obtain ⟨t1, h1, hN1⟩ := hcut
    have H1 := Lib.hid h1; have HN1 := Lib.hid hN1
    clear h1 hN1
    go_wp2_with fail
    refine (HH.out ⟨#[48]⟩ [48] (by rfl) (by decide) t1 wc HN1.out).mono ?_
    rintro e w1 ⟨rfl, n, rfl⟩
    go_upto_if 12 with (fail)
    go_cut [] (fun wx => ∃ t, t = num2E B t1 ∧ Now E v B w t wx)
    case first =>
      cases hh : hasE [48] B t1 with
      | true =>
        have hc := HN1.out.at_.cell; have hf := HN1.out.at_.frozen
        have hlt := has_lt hh
        have q1 : IntKind.i64.wrap ((t1.i : Int) + 1) = (t1.i : Int) + 1 := IntWalk.i64_in _ (by omega)
        have HX := Lib.hid (HN1.out.step n hlt)
        have HE : Hid (stepE t1 = num2E B t1) := Lib.hid (by simp only [num2E]; rw [hh]; rfl)
        clear hh
        go_wp2
        go_meet
        exact ⟨_, HE.out, HX.out⟩
      | false =>
        have HE : Hid (someE B t1 = num2E B t1) := Lib.hid (by simp only [num2E]; rw [hh]; rfl)
        clear hh
        go_wp2_with fail
        refine (HM.out t1 _ (HN1.out.drewN n)).mono ?_
        rintro e w2 hp
        obtain ⟨rfl, hp1, hp2⟩ := hp
        have HY := Lib.hid (((HN1.out.drewN n)).post ⟨rfl, hp1, hp2⟩ (someE_le ((HN1.out.drewN n)).le))
        clear hp1 hp2
        go_wp2
        go_meet
        exact ⟨_, HE.out, HY.out⟩
    case rest =>
      obtain ⟨t2, h2, hN2⟩ := hcut
      have H2 := Lib.hid h2; have HN2 := Lib.hid hN2
      clear h2 hN2 HN1
      go_wp2_with fail
      refine (HH.out ⟨#[46]⟩ [46] (by rfl) (by decide) t2 _ HN2.out).mono ?_
      rintro e w1 ⟨rfl, n, rfl⟩
      go_upto_if 23 with (fail)
      go_cut [] (fun wx => ∃ t, t = num3E B t2 ∧ Now E v B w t wx)
      case first =>
        cases hh : hasE [46] B t2 with
        | true =>
          have hc := HN2.out.at_.cell; have hf := HN2.out.at_.frozen
          have hlt := has_lt hh
          have q1 : IntKind.i64.wrap ((t2.i : Int) + 1) = (t2.i : Int) + 1 := IntWalk.i64_in _ (by omega)
          have HX := Lib.hid (HN2.out.step n hlt)
          have HE : Hid (someE B (stepE t2) = num3E B t2) := Lib.hid (by simp only [num3E]; rw [hh]; rfl)
          clear hh
          go_wp2_with fail
          refine (HM.out (stepE t2) _ HX.out).mono ?_
          rintro e w2 hp
          obtain ⟨rfl, hp1, hp2⟩ := hp
          have HY := Lib.hid ((HX.out).post ⟨rfl, hp1, hp2⟩ (someE_le (HX.out).le))
          clear hp1 hp2
          go_wp2
          go_meet
          exact ⟨_, HE.out, HY.out⟩
        | false =>
          have HE : Hid (t2 = num3E B t2) := Lib.hid (by simp only [num3E]; rw [hh]; rfl)
          clear hh
          go_wp2
          go_meet
          exact ⟨_, HE.out, HN2.out.drewN n⟩
      case rest =>
        obtain ⟨t3, h3, hN3⟩ := hcut
        have H3 := Lib.hid h3; have HN3 := Lib.hid hN3
        have HF : Hid (numE B s = num4E B t3) := Lib.hid (by rw [H3.out, H2.out, H1.out]; rfl)
        clear h3 hN3 HN2
        go_wp2_with fail
        refine (HH.out ⟨#[101, 69]⟩ [101, 69] (by rfl) (by decide) t3 _ HN3.out).mono ?_
        rintro e w1 ⟨rfl, n, rfl⟩
        cases hh : hasE [101, 69] B t3 with
        | true =>
          have hc := HN3.out.at_.cell; have hf := HN3.out.at_.frozen
          have hlt := has_lt hh
          have q1 : IntKind.i64.wrap ((t3.i : Int) + 1) = (t3.i : Int) + 1 := IntWalk.i64_in _ (by omega)
          have HX := Lib.hid (HN3.out.step n hlt)
          have HE : Hid (someE B (optE [43, 45] B (stepE t3)) = num4E B t3) := Lib.hid (by simp only [num4E]; rw [hh]; rfl)
          clear hh
          go_wp2_with fail
          refine (HH.out ⟨#[43, 45]⟩ [43, 45] (by rfl) (by decide) (stepE t3) _ HX.out).mono ?_
          rintro e w1 ⟨rfl, m, rfl⟩
          have hc2 := HX.out.at_.cell; have hf2 := HX.out.at_.frozen
          clear hc hf
          cases hh2 : hasE [43, 45] B (stepE t3) with
          | true =>
            have hlt2 := has_lt hh2
            have q2 : IntKind.i64.wrap (((stepE t3).i : Int) + 1) = ((stepE t3).i : Int) + 1 := IntWalk.i64_in _ (by omega)
            have HX2 := Lib.hid (HX.out.step m hlt2)
            have HE2 : Hid (stepE (stepE t3) = optE [43, 45] B (stepE t3)) := Lib.hid (by simp only [optE]; rw [hh2]; rfl)
            clear hh2
            go_wp2_with fail
            refine (HM.out (stepE (stepE t3)) _ HX2.out).mono ?_
            rintro e w2 hp
            obtain ⟨rfl, hp1, hp2⟩ := hp
            have HY := Lib.hid ((HX2.out).post ⟨rfl, hp1, hp2⟩ (someE_le (HX2.out).le))
            clear hp1 hp2
            go_wp2
            go_end0
            rw [HF.out, ← HE.out, ← HE2.out]
            exact HY.out.fin
          | false =>
            have HE2 : Hid (stepE t3 = optE [43, 45] B (stepE t3)) := Lib.hid (by simp only [optE]; rw [hh2]; rfl)
            clear hh2
            go_wp2_with fail
            refine (HM.out (stepE t3) _ (HX.out.drewN m)).mono ?_
            rintro e w2 hp
            obtain ⟨rfl, hp1, hp2⟩ := hp
            have HY := Lib.hid (((HX.out.drewN m)).post ⟨rfl, hp1, hp2⟩ (someE_le ((HX.out.drewN m)).le))
            clear hp1 hp2
            go_wp2
            go_end0
            rw [HF.out, ← HE.out, ← HE2.out]
            exact HY.out.fin
        | false =>
          have HE : Hid (t3 = num4E B t3) := Lib.hid (by simp only [num4E]; rw [hh]; rfl)
          clear hh
          go_wp2
          go_end0
          rw [HF.out, ← HE.out]
          exact (HN3.out.drewN n).fin
end Go.Proofs.YtmdalkjhlhkloaaDoor
