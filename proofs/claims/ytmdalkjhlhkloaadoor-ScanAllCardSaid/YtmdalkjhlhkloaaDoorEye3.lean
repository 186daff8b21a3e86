/- The document's reader of chapter 6: some. -/
import Derived.Test.YtmdalkjhlhkloaaDoorEye2
namespace Go.Proofs.YtmdalkjhlhkloaaDoor
open Go.RowKit
def figL : List Nat := [48, 49, 50, 51, 52, 53, 54, 55, 56, 57]
theorem fig_dig (c : Nat) : figL.contains c = isDig c := by
  rw [Bool.eq_iff_iff]
  simp only [figL, isDig, List.contains_eq_mem, decide_eq_true_eq, Bool.and_eq_true, List.mem_cons, List.not_mem_nil, or_false]
  omega
def runE (p : Nat → Bool) (B : ByteArray) (s : St) : St := if s.k ≠ 0 then s else ⟨skip p B s.i, s.k, s.a⟩
def someE (B : ByteArray) (s : St) : St := runE figL.contains B (mustE figL B s)
def iOf (E : Nat) (w : World) : Nat := match w.cell? ⟨E, 1, none⟩ with | some (.int _ n) => n.toNat | _ => 0
theorem iOf_eq {w : World} {E i k : Nat} {v : Value} {a : Int} (h : EyeAt w E v i k a) : iOf E w = i := by
  unfold iOf; rw [h.cell 1]; rfl
def SmE (E : Nat) (v : Value) (B : ByteArray) (p : Nat → Bool) (w : World) (s : St) (_pv : Value) (wr : World) : Prop :=
  ∃ j : Nat, EyeS wr E v ⟨j, s.k, s.a⟩ ∧ OnlyE E w wr ∧ j ≤ B.size ∧ runE p B s = runE p B ⟨j, s.k, s.a⟩
theorem SmE.start {pv : Value} {E : Nat} {v : Value} {B : ByteArray} {p : Nat → Bool} {w wr : World} {s : St} (h : EyeS wr E v s) (o : OnlyE E w wr) (hs : s.i ≤ B.size) : SmE E v B p w s pv wr := ⟨s.i, h, o, hs, rfl⟩
theorem SmE.done {E : Nat} {v : Value} {B : ByteArray} {l : List Nat} {w wr : World} {s : St} {j : Nat} (h : EyeS wr E v ⟨j, s.k, s.a⟩) (o : OnlyE E w wr) (he : runE l.contains B s = runE l.contains B ⟨j, s.k, s.a⟩) (hh : hasE l B ⟨j, s.k, s.a⟩ = false) : EyPost E v w (runE l.contains B s) (.returned (.tuple #[])) wr := by
  refine ⟨rfl, ?_, o⟩
  rw [he]
  unfold runE
  by_cases h0 : s.k = 0
  · rw [if_neg (by simpa using h0)]
    have : skip l.contains B j = j := skip_stop (fun hj => by
      simp only [hasE, h0, hj] at hh
      simpa using hh)
    rw [this]; exact h
  · rw [if_pos h0]; exact h
theorem SmE.next {E : Nat} {v : Value} {B : ByteArray} {l : List Nat} {w wr : World} {s : St} {j : Nat} (h : EyeS wr E v ⟨j, s.k, s.a⟩) (o : OnlyE E w wr) (_hj : j ≤ B.size) (he : runE l.contains B s = runE l.contains B ⟨j, s.k, s.a⟩) (hh : hasE l B ⟨j, s.k, s.a⟩ = true) :
    j < B.size ∧ ∀ n pv, SmE E v B l.contains w s pv ((wr.drewN n).setCell ⟨E, 1, none⟩ (.int .i64 ((j : Int) + 1))) ∧ B.size - iOf E ((wr.drewN n).setCell ⟨E, 1, none⟩ (.int .i64 ((j : Int) + 1))) < B.size - iOf E wr := by
  simp only [hasE, Bool.and_eq_true, decide_eq_true_eq, beq_iff_eq] at hh
  obtain ⟨h0, hlt, hc⟩ := hh
  refine ⟨hlt, fun n pv => ?_⟩
  have hst := EyeAt.stepped (h.drewN n)
  refine ⟨⟨j + 1, hst.2.1, (o.trans (only_drewN E wr n)).trans hst.2.2, hlt, ?_⟩, ?_⟩
  · rw [he]
    unfold runE
    rw [if_neg (by simpa using h0), if_neg (by simpa using h0), skip_go hlt hc]
  · rw [iOf_eq hst.2.1, iOf_eq h]; show B.size - (j + 1) < B.size - j; omega
theorem mustE_le {l : List Nat} {B : ByteArray} {s : St} (h : s.i ≤ B.size) : (mustE l B s).i ≤ B.size := by
  unfold mustE stepE
  split
  · exact h
  · split
    · exact h
    · split
      · show s.i + 1 ≤ B.size; omega
      · exact h
set_option maxRecDepth 100000 in
set_option maxHeartbeats 8000000 in
theorem esome_any (E : Nat) (v : Value) (B : ByteArray) (s : St) (w : World) (hz : B.size ≤ 1000000) (hs : s.i ≤ B.size) (h : EyeS w E v s) (hB : EyeB w E v B) :
    Calls Tryd.prog 127 #[.pointer (some ⟨E, 0, none⟩)] w (EyPost E v w (someE B s)) := by
  have HM := Lib.hid (emust_any ⟨#[48, 49, 50, 51, 52, 53, 54, 55, 56, 57]⟩ figL rfl (by decide) E v B s w hz hs h hB)
  have HH := Lib.hid (fun (t : St) (W : World) (ht : t.i ≤ B.size) (hE : EyeS W E v t) (hO : OnlyE E w W) => ehas_any ⟨#[48, 49, 50, 51, 52, 53, 54, 55, 56, 57]⟩ figL rfl (by decide) E v B t W ht hE (hB.only hO))
  have HS : Hid (∃ s1, mustE figL B s = s1 ∧ someE B s = runE figL.contains B s1 ∧ s1.i ≤ B.size) := Lib.hid ⟨_, rfl, rfl, mustE_le hs⟩
  obtain ⟨s1, h1, h2, h3⟩ := HS.out
  rw [h1] at HM
  rw [h2]
  have H3 := Lib.hid h3
  clear HS h1 h2 h3 h hB hs
  go_enter Tryd.func127, Tryd.ntmps127
  go_wp2_with fail
  refine HM.out.mono ?_
  rintro e w1 ⟨rfl, hE1, hO1⟩
  have HE1 := Lib.hid hE1; have HO1 := Lib.hid hO1
  clear hE1 hO1 HM
  go_wp2_with fail
  go_loopw [4] (SmE E v B figL.contains w s1) (fun _ wr => B.size - iOf E wr)
  case atStart => exact SmE.start HE1.out HO1.out H3.out
  case round =>
    obtain ⟨j, hE, hO, hj, he⟩ := hrel
    have hc := hE.cell; have hf := hE.frozen
    have HC := Lib.hid (HH.out ⟨j, s1.k, s1.a⟩ wr hj hE hO)
    cases hh : hasE figL B ⟨j, s1.k, s1.a⟩ with
    | true =>
      have hN := SmE.next hE hO hj he hh
      have hlt := hN.1
      have q1 : IntKind.i64.wrap ((j : Int) + 1) = (j : Int) + 1 := IntWalk.i64_in _ (by omega)
      have HN := Lib.hid hN.2
      rw [hh] at HC
      clear hE hO he hh hN
      go_wp2_with fail
      refine HC.out.mono ?_
      rintro e w2 ⟨rfl, n, rfl⟩
      go_wp2
      have R := HN.out n
      refine ⟨?_, (R undef).2⟩
      first | exact (R _).1 | ((repeat apply Exists.intro); exact ⟨(R _).1, rfl⟩)
    | false =>
      have HD := Lib.hid (fun n => SmE.done (hE.drewN n) (hO.trans (only_drewN E wr n)) he hh)
      rw [hh] at HC
      clear hE hO he hh
      go_wp2_with fail
      refine HC.out.mono ?_
      rintro e w2 ⟨rfl, n, rfl⟩
      go_wp2
      first | go_end0 | skip
      exact HD.out n
end Go.Proofs.YtmdalkjhlhkloaaDoor
