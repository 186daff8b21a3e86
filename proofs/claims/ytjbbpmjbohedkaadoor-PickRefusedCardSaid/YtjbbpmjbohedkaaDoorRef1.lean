/- The walk of PickRefused. -/
import Derived.Test.YtjbbpmjbohedkaaDoorErrs3
import Derived.Test.YtjbbpmjbohedkaaDoorPick4
namespace Go.Proofs.YtjbbpmjbohedkaaDoor
open Go.RowKit
def refR (c : List (Int × Int)) : Int := if isKind c 21 = true then 2 else if isKind c 22 = true then 3 else 1
def rrefR (k f : Int) : Int := if (k == 21 || f == 21) = true then 2 else if (k == 22 || f == 22) = true then 3 else 1
set_option maxHeartbeats 4000000 in
theorem refused_any {S : Nat → Prop} (v : Value) (c : List (Int × Int)) (w : World) (h : Rd S w v (errD 86 c)) (hS : ∀ b, S b → b < w.heap.size) :
    Calls Tryd.prog 23 #[v] w fun e w' => e = .returned (.agg #[.int .i64 1, .slice none 0 0, .int .i64 (refR c)]) ∧ Below w.heap.size w w' := by
  have h' := h.alloc hS (.cells #[.int .i64 0, .slice none 0 0, .int .i64 0] 24)
  have I1 := Lib.hid (is_any v 21 c _ h')
  have I2 := Lib.hid (is_any v 22 c _ h')
  have hb := Lib.hid (ext_alloc (Below.refl w.heap.size w) (.cells #[.int .i64 0, .slice none 0 0, .int .i64 0] 24))
  obtain ⟨r, hr⟩ : ∃ r, refR c = r := ⟨_, rfl⟩
  rw [hr]
  unfold refR at hr
  have hv : ∃ p q, v = .iface p q ∨ v = .nilIface := by
    cases c with
    | nil => simp only [errD] at h; exact ⟨0, undef, .inr h.nilI_inv⟩
    | cons x r => obtain ⟨k, a⟩ := x; obtain ⟨b, off, u, rfl, _⟩ := fault_inv h; exact ⟨_, _, .inl rfl⟩
  clear h h' hS
  cases h1 : isKind c 21 with
  | true =>
    rw [h1, if_pos rfl] at hr
    subst hr
    obtain ⟨p, q, rfl | rfl⟩ := hv
    all_goals
      go_enter Tryd.func23, Tryd.ntmps23
      go_wp2_with fail
      refine I1.out.mono ?_
      rintro e w1 ⟨rfl, rfl⟩
      rw [h1]
      go_wp2
      refine bodyPost_ret (v := .agg #[.int .i64 1, .slice none 0 0, .int .i64 2]) (by simp [results, Tryd.results23, go_sem]) rfl ⟨rfl, ?_⟩
      repeat refine Below.setCell ?_ (Nat.le_refl _) _
      exact ext_alloc (Below.refl w.heap.size w) _
  | false =>
    rw [h1, if_neg (by simp)] at hr
    cases h2 : isKind c 22
    all_goals
      rw [h2] at hr
      simp at hr
      subst hr
      obtain ⟨p, q, rfl | rfl⟩ := hv
      all_goals
        go_enter Tryd.func23, Tryd.ntmps23
        go_wp2_with fail
        refine I1.out.mono ?_
        rintro e w1 ⟨rfl, rfl⟩
        rw [h1]
        go_wp2_with fail
        refine I2.out.mono ?_
        rintro e w1 ⟨rfl, rfl⟩
        rw [h2]
        go_wp2
        refine bodyPost_ret (v := .agg #[.int .i64 1, .slice none 0 0, .int .i64 _]) (by simp [results, Tryd.results23, go_sem]) rfl ⟨rfl, ?_⟩
        repeat refine Below.setCell ?_ (Nat.le_refl _) _
        exact ext_alloc (Below.refl w.heap.size w) _
set_option maxHeartbeats 4000000 in
theorem rrefused_any (k f : Int) (w : World) :
    Calls Tryd.prog 24 #[.int .i64 k, .int .i64 f] w fun e w' => e = .returned (.agg #[.int .i64 1, .slice none 0 0, .int .i64 (rrefR k f)]) ∧ Below w.heap.size w w' := by
  have hb := Lib.hid (ext_alloc (Below.refl w.heap.size w) (.cells #[.int .i64 0, .slice none 0 0, .int .i64 0] 24))
  obtain ⟨r, hr⟩ : ∃ r, rrefR k f = r := ⟨_, rfl⟩
  rw [hr]
  unfold rrefR at hr
  cases a1 : (k == 21) <;> cases a2 : (f == 21) <;> cases a3 : (k == 22) <;> cases a4 : (f == 22)
  all_goals
    rw [a1, a2, a3, a4] at hr
    simp at hr
    subst hr
    go_enter Tryd.func24, Tryd.ntmps24
    go_wp2
    refine bodyPost_ret (v := .agg #[.int .i64 1, .slice none 0 0, .int .i64 _]) (by simp [results, Tryd.results24, go_sem]) rfl ⟨rfl, ?_⟩
    repeat refine Below.setCell ?_ (Nat.le_refl _) _
    exact ext_alloc (Below.refl w.heap.size w) _
theorem ref_eq1 (k a : Int) : refR [(k, a)] = rrefR k 0 := by
  unfold refR rrefR isKind
  by_cases h1 : k = 21
  · simp [h1]
  · by_cases h2 : k = 22
    · simp [h2]
    · simp [h1, h2, show ¬ 21 = k from fun e => h1 e.symm, show ¬ 22 = k from fun e => h2 e.symm]
theorem ref_eq2 (k a i b : Int) : refR [(k, a), (i, b)] = rrefR k i := by
  unfold refR rrefR isKind
  simp only [List.any_cons, List.any_nil, Bool.or_false, beq_iff_eq, Bool.or_eq_true, eq_comm (a := (21 : Int)), eq_comm (a := (22 : Int))]
end Go.Proofs.YtjbbpmjbohedkaaDoor
