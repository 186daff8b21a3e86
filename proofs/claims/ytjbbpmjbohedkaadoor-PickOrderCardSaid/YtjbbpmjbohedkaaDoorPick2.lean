/- The walks of the document's answer to the package pick. -/
import Derived.Test.YtjbbpmjbohedkaaDoorPick1
namespace Go.Proofs.YtjbbpmjbohedkaaDoor
open Go.RowKit
def ofK (n : Nat) : Int := if 1 < n then 4 else 3
def ofR (n : Nat) : Int := if 1 < n then 9 else 8
set_option maxHeartbeats 400000 in
theorem of_any (a : Option Addr) (n c : Nat) (w : World) :
    Calls Tryd.prog 44 #[.slice a n c] w fun e w' => e = .returned (.agg #[.int .i64 (ofK n), .slice a n c, .int .i64 (ofR n)]) ∧ Below w.heap.size w w' := by
  by_cases h : 1 < n
  · have e : ofK n = 4 := if_pos h
    have e' : ofR n = 9 := if_pos h
    rw [e, e']; clear e e'
    go_enter Tryd.func44, Tryd.ntmps44
    go_wp2
    exact bodyPost_ret (v := .agg #[.int .i64 4, .slice a n c, .int .i64 9]) (by simp [results, Tryd.results44, go_sem]) rfl ⟨rfl, (Below.refl _ _).alloc (Nat.le_refl _) _⟩
  · have e : ofK n = 3 := if_neg h
    have e' : ofR n = 8 := if_neg h
    rw [e, e']; clear e e'
    go_enter Tryd.func44, Tryd.ntmps44
    go_wp2
    exact bodyPost_ret (v := .agg #[.int .i64 3, .slice a n c, .int .i64 8]) (by simp [results, Tryd.results44, go_sem]) rfl ⟨rfl, (Below.refl _ _).alloc (Nat.le_refl _) _⟩

def rcustomK (n : Nat) : Int := if n = 0 then 1 else ofK n
def rcustomR (n : Nat) : Int := if n = 0 then 4 else ofR n
def nilIf (n : Nat) (v : Value) : Value := if n = 0 then .slice none 0 0 else v
set_option maxHeartbeats 400000 in
theorem rcustom_any (a : Option Addr) (n c : Nat) (w : World) :
    Calls Tryd.prog 14 #[.slice a n c] w fun e w' => e = .returned (.agg #[.int .i64 (rcustomK n), nilIf n (.slice a n c), .int .i64 (rcustomR n)]) ∧ Below w.heap.size w w' := by
  by_cases h0 : n = 0
  · subst h0
    go_enter Tryd.func14, Tryd.ntmps14
    go_wp2
    exact bodyPost_ret (v := .agg #[.int .i64 1, .slice none 0 0, .int .i64 4]) (by simp [results, Tryd.results14, go_sem]) rfl ⟨rfl, (Below.refl _ _).alloc (Nat.le_refl _) _⟩
  · have e : rcustomK n = ofK n := if_neg h0
    have e' : rcustomR n = ofR n := if_neg h0
    have e'' : nilIf n (.slice a n c) = .slice a n c := if_neg h0
    rw [e, e', e'']; clear e e' e''
    have h1 : ((n : Int) == 0) = false := beq_eq_false_iff_ne.2 (by omega)
    have HB := Lib.hid ((Below.refl w.heap.size w).alloc (Nat.le_refl _) (.cells #[.int .i64 0, .slice none 0 0, .int .i64 0] 24))
    go_enter Tryd.func14, Tryd.ntmps14
    go_wp2_with fail
    refine (of_any _ _ _ _).mono ?_
    rintro e w2 ⟨rfl, hb⟩
    have hz : w.heap.size < w2.heap.size := by have := hb.size; simp at this; omega
    have q1 := bcell1 hb (b := w.heap.size) (by simp)
    have q2 := bfrozen1 hb (b := w.heap.size) (by simp)
    have HB2 := Lib.hid hb; clear hb
    go_wp2
    have hb : Below w.heap.size w w2 := HB.out.trans (HB2.out.mono (by simp))
    exact bodyPost_ret (v := .agg #[.int .i64 (ofK n), .slice a n c, .int .i64 (ofR n)]) (by simp [results, Tryd.results14, go_sem, q1]) rfl ⟨rfl, ((hb.setCell (Nat.le_refl _) _).setCell (Nat.le_refl _) _).setCell (Nat.le_refl _) _⟩

def sameB (k1 : Int) (s1 : List ByteArray) (r1 : Int) (k2 : Int) (s2 : List ByteArray) (r2 : Int) : Bool := decide (k1 = k2 ∧ r1 = r2 ∧ s1 = s2)

def SameRel (s1 s2 : List ByteArray) (W : World) (i : Value) (wr : World) : Prop := ∃ k nq : Nat, i = .int .i64 k ∧ k ≤ s1.length ∧ wr = W.drewN nq ∧ ∀ j, j < k → s1[j]? = s2[j]?
set_option maxHeartbeats 800000 in
theorem same_any (v1 v2 : Value) (s1 s2 : List ByteArray) (k1 r1 k2 r2 : Int) (w : World) (h1 : Rd (Own w) w v1 (strsD s1)) (h2 : Rd (Own w) w v2 (strsD s2)) (hm1 : s1.length ≤ 8000000000000) :
    Calls Tryd.prog 13 #[.agg #[.int .i64 k1, v1, .int .i64 r1], .agg #[.int .i64 k2, v2, .int .i64 r2]] w fun e w' => e = .returned (.bool (sameB k1 s1 r1 k2 s2 r2)) ∧ Below w.heap.size w w' := by
  obtain ⟨a1, c1, rfl, hac1, _, hc1⟩ := h1.strs_inv
  obtain ⟨a2, c2, rfl, hac2, _, hc2⟩ := h2.strs_inv
  by_cases hk : k1 = k2 ∧ r1 = r2 ∧ s1.length = s2.length
  · obtain ⟨rfl, rfl, hl⟩ := hk
    have t1 : (k1 != k1) = false := by simp
    have t2 : (r1 != r1) = false := by simp
    have t3 : ((s1.length : Int) != (s2.length : Int)) = false := by rw [hl]; simp
    have hb : Below w.heap.size w ((w.alloc (.cells #[.int .i64 k1, .slice a1 s1.length c1, .int .i64 r1] 24)).alloc (.cells #[.int .i64 k1, .slice a2 s2.length c2, .int .i64 r1] 24)) := ((Below.refl _ _).alloc (Nat.le_refl _) _).alloc (by simp) _
    have g1 : 0 < s1.length → ∃ b off, a1 = some ⟨b, off, none⟩ ∧ ∀ (i : Nat) x, s1[i]? = some x → ((w.alloc (.cells #[.int .i64 k1, .slice a1 s1.length c1, .int .i64 r1] 24)).alloc (.cells #[.int .i64 k1, .slice a2 s2.length c2, .int .i64 r1] 24)).cell? ⟨b, off + i, none⟩ = some (.string x) := fun h => by
      obtain ⟨b, off, e, hS, hc⟩ := hc1 h
      exact ⟨b, off, e, fun i x hx => by rw [bcell1 hb hS]; exact hc i x hx⟩
    have g2 : 0 < s2.length → ∃ b off, a2 = some ⟨b, off, none⟩ ∧ ∀ (i : Nat) x, s2[i]? = some x → ((w.alloc (.cells #[.int .i64 k1, .slice a1 s1.length c1, .int .i64 r1] 24)).alloc (.cells #[.int .i64 k1, .slice a2 s2.length c2, .int .i64 r1] 24)).cell? ⟨b, off + i, none⟩ = some (.string x) := fun h => by
      obtain ⟨b, off, e, hS, hc⟩ := hc2 h
      exact ⟨b, off, e, fun i x hx => by rw [bcell1 hb hS]; exact hc i x hx⟩
    have HB := Lib.hid hb
    have HL := Lib.hid hl
    clear hl hb hc1 hc2 hac1 hac2 h1 h2
    go_enter Tryd.func13, Tryd.ntmps13
    go_wp2
    go_loopw [5] (SameRel s1 s2 ((w.alloc (.cells #[.int .i64 k1, .slice a1 s1.length c1, .int .i64 r1] 24)).alloc (.cells #[.int .i64 k1, .slice a2 s2.length c2, .int .i64 r1] 24))) (fun i _ => s1.length - (intOf i).toNat)
    case atStart => exact ⟨0, 0, rfl, Nat.zero_le _, rfl, fun j hj => by omega⟩
    case round =>
      obtain ⟨k, nq, rfl, hk, rfl, he⟩ := hrel
      have HE := Lib.hid he; clear he
      by_cases hlt : k < s1.length
      · obtain ⟨b1, off1, rfl, d1⟩ := g1 (by omega)
        obtain ⟨b2, off2, rfl, d2⟩ := g2 (by have := HL.out; omega)
        have hlt2 : k < s2.length := by have := HL.out; omega
        obtain ⟨x, hx⟩ := get_ex s1 k hlt
        obtain ⟨y, hy⟩ := get_ex s2 k hlt2
        have d1' := d1 k x hx
        have d2' := d2 k y hy
        have HX := Lib.hid hx
        have HY := Lib.hid hy
        clear d1 d2 g1 g2 hx hy
        by_cases heq : x = y
        · have p1 := beqS_t heq
          have HQ := Lib.hid heq; clear heq
          go_wp2
          go_quiet (fail)
          go_wp2
          refine ⟨?_, by simp [intOf]; omega⟩
          have R : ∀ W m, SameRel s1 s2 W (.int .i64 (k + 1)) (W.drewN m) := fun W m => by
            refine ⟨k + 1, m, by go_num, by omega, rfl, fun j hj => ?_⟩
            by_cases e : j = k
            · rw [e, HX.out, HY.out, HQ.out]
            · exact HE.out j (by omega)
          first | exact R _ _ | ((repeat apply Exists.intro); exact ⟨R _ _, rfl⟩)
        · have p1 := beqS_f heq
          have e : sameB k1 s1 r1 k1 s2 r1 = false := decide_eq_false (fun h => heq (by have := HX.out; rw [h.2.2, HY.out] at this; exact (Option.some.inj this).symm))
          have HQ := Lib.hid e; clear heq e
          go_wp2
          go_quiet (fail)
          go_wp2
          go_ret
          exact ⟨by rw [HQ.out]; rfl, ⟨HB.out.os, HB.out.tape, HB.out.output, HB.out.size, HB.out.block⟩⟩
      · have e : sameB k1 s1 r1 k1 s2 r1 = true := by
          have hl := HL.out; have he := HE.out
          refine decide_eq_true ⟨rfl, rfl, List.ext_getElem? fun j => ?_⟩
          by_cases hj : j < k
          · exact he j hj
          · rw [List.getElem?_eq_none (by omega), List.getElem?_eq_none (by omega)]
        go_wp2
        go_ret
        exact ⟨by rw [e]; rfl, ⟨HB.out.os, HB.out.tape, HB.out.output, HB.out.size, HB.out.block⟩⟩
  · have e : sameB k1 s1 r1 k2 s2 r2 = false := by
      refine decide_eq_false (fun h => hk ⟨h.1, h.2.1, by rw [h.2.2]⟩)
    rw [e]
    have HB := Lib.hid (((Below.refl w.heap.size w).alloc (Nat.le_refl _) (.cells #[.int .i64 k1, .slice a1 s1.length c1, .int .i64 r1] 24)).alloc (by simp) (.cells #[.int .i64 k2, .slice a2 s2.length c2, .int .i64 r2] 24))
    have key : (¬ k1 = k2) ∨ (k1 = k2 ∧ ¬ r1 = r2) ∨ (k1 = k2 ∧ r1 = r2 ∧ ((s1.length : Int) != (s2.length : Int)) = true) := by
      by_cases q1 : k1 = k2
      · by_cases q2 : r1 = r2
        · exact .inr (.inr ⟨q1, q2, bne_iff_ne.2 (fun h => hk ⟨q1, q2, by omega⟩)⟩)
        · exact .inr (.inl ⟨q1, q2⟩)
      · exact .inl q1
    clear hk hc1 hc2 hac1 hac2 h1 h2 e
    rcases key with q | ⟨rfl, q⟩ | ⟨rfl, rfl, q⟩
    · have q' := bne_iff_ne.2 q
      go_enter Tryd.func13, Tryd.ntmps13
      go_wp2
      go_ret; exact ⟨rfl, HB.out⟩
    · have q' := bne_iff_ne.2 q
      have q1 : (k1 != k1) = false := by simp
      go_enter Tryd.func13, Tryd.ntmps13
      go_wp2
      go_ret; exact ⟨rfl, HB.out⟩
    · have q1 : (k1 != k1) = false := by simp
      have q2 : (r1 != r1) = false := by simp
      go_enter Tryd.func13, Tryd.ntmps13
      go_wp2
      go_ret; exact ⟨rfl, HB.out⟩
end Go.Proofs.YtjbbpmjbohedkaaDoor
