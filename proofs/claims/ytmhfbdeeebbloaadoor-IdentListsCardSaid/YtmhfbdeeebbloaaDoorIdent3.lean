
/- The walk of App and of AppText. -/
import Derived.Test.YtmhfbdeeebbloaaDoorIdent2
-- @auto
namespace Go.Proofs.YtmhfbdeeebbloaaDoor
open Go.RowKit
def appTeam (s : ByteArray) : ByteArray := if appR s = [] then s.extract 0 10 else ⟨#[]⟩
def appBundle (s : ByteArray) : ByteArray := if appR s = [] then s.extract 11 s.size else ⟨#[]⟩
theorem appR_size {s : ByteArray} (h : appR s = []) : 11 < s.size := by
  unfold appR readR at h
  split at h
  · simp at h
  · split at h
    · rename_i hw; simpa using hw
    · simp at h
theorem appR_cons {s : ByteArray} (h : appR s ≠ []) : ∃ x, appR s = [x] := by
  unfold appR readR at h ⊢
  split
  · exact ⟨_, rfl⟩
  · rename_i hx
    rw [hx] at h
    by_cases hw : 11 < s.size
    · simp [hw] at h
    · exact ⟨_, by rw [decide_eq_false hw]; rfl⟩
set_option maxRecDepth 100000 in
set_option maxHeartbeats 8000000 in
theorem app_any (s : ByteArray) (w : World) (hs : s.size ≤ 1000000) :
    Calls Tryd.prog 31 #[.string s] w fun e w' => ∃ v, e = .returned (.tuple #[.agg #[.string (appTeam s), .string (appBundle s)], v]) ∧ Rd (Fresh w w') w' v (errD 119 (appR s)) ∧ Below w.heap.size w w' := by
  have hb0 := ext_alloc (Below.refl w.heap.size w) (.cells #[.string ⟨#[]⟩, .string ⟨#[]⟩] 66)
  have rd0 := read_any 67 appB appFits s 166 (decide (11 < s.size)) (w.alloc (.cells #[.string ⟨#[]⟩, .string ⟨#[]⟩] 66)) hs (by decide)
  rw [show readR s 166 appB (decide (11 < s.size)) = appR s from rfl] at rd0
  obtain ⟨t, ht⟩ : ∃ t, decide (11 < s.size) = t := ⟨_, rfl⟩
  rw [ht] at rd0
  have t1 : decide ((11 : Int) < (s.size : Int)) = t := by rw [← ht]; congr 1; simp; omega
  have RD := Lib.hid rd0
  have HB0 := Lib.hid hb0
  clear hb0 rd0 ht
  go_enter Tryd.func31, Tryd.ntmps31
  go_wp2_with fail
  refine RD.out.mono ?_
  rintro e w1 ⟨v, rfl, hr, hb1⟩
  have q1 := bcell1 hb1 (b := w.heap.size) (by simp)
  have q2 := bfrozen1 hb1 (b := w.heap.size) (by simp)
  have hz := hb1.size
  simp at hz
  have HB1 := Lib.hid (ext_trans HB0.out hb1)
  clear hb1
  by_cases hR : appR s = []
  · have h11 := appR_size hR
    have e1 : appTeam s = s.extract 0 10 := if_pos hR
    have e2 : appBundle s = s.extract 11 s.size := if_pos hR
    have i1 : (10 : Int) ≤ (s.size : Int) := by omega
    have i2 : (11 : Int) ≤ (s.size : Int) := by omega
    have hr' := hr
    rw [hR] at hr'
    simp only [errD] at hr'
    have ev := hr'.nilI_inv
    subst ev
    have E := Lib.hid (And.intro e1 (And.intro e2 hR))
    clear hr hr' e1 e2 hR t1
    go_wp2_with fail
    go_region
    go_wp2
    refine bodyPost_ret (v := .tuple #[.agg #[.string (s.extract 0 10), .string (s.extract 11 s.size)], .nilIface]) (by simp [results, Tryd.results31, go_sem, q1]) rfl ⟨_, by rw [E.out.1, E.out.2.1], ?_, ?_⟩
    · rw [E.out.2.2]; simp only [errD]; exact .nilI
    · exact ⟨(HB1.out).os, HB1.out.tape, HB1.out.output, by have := HB1.out.size; simpa using this, fun k hk => ((Below.heap_setCell _ _ _ _ (show k ≠ w.heap.size by omega)).trans (Below.heap_setCell _ _ _ _ (show k ≠ w.heap.size by omega))).trans (HB1.out.block k hk)⟩
  · obtain ⟨x, hx⟩ := appR_cons hR
    have e1 : appTeam s = ⟨#[]⟩ := if_neg hR
    have e2 : appBundle s = ⟨#[]⟩ := if_neg hR
    have HR := Lib.hid hr
    rw [hx] at hr
    obtain ⟨k, a⟩ := x
    obtain ⟨b, off, u, rfl, _⟩ := fault_inv hr
    have E := Lib.hid (And.intro e1 e2)
    clear hr e1 e2 hR hx t1
    go_wp2
    refine bodyPost_ret (v := .tuple #[.agg #[.string ⟨#[]⟩, .string ⟨#[]⟩], .iface 119 (.pointer (some ⟨b, off, none⟩))]) (by simp [results, Tryd.results31, go_sem, q1]) rfl ⟨_, by rw [E.out.1, E.out.2], ?_, ?_⟩
    · have hS : ∀ b', Fresh (w.alloc (.cells #[.string ⟨#[]⟩, .string ⟨#[]⟩] 66)) w1 b' → b' ≠ w.heap.size := fun b' hb' e => by have := hb'.1; simp at this; omega
      refine ((HR.out.set (p := ⟨w.heap.size, 0, none⟩) hS _).set (p := ⟨w.heap.size, 1, none⟩) hS _).wide (fun b' hb' => ⟨by have := hb'.1; simp at this; omega, by have := hb'.2; simpa using this⟩)
    · exact ((HB1.out.setCell (Nat.le_refl _) _).setCell (Nat.le_refl _) _)
end Go.Proofs.YtmhfbdeeebbloaaDoor
