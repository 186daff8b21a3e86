/- slices.SortFunc at fingerprints, by the kit's contract. -/
import Derived.Test.YtmhfbdeeebbloaaDoorIdl7
namespace Go.Proofs.YtmhfbdeeebbloaaDoor
open Go.RowKit
theorem printsCEn : ∀ args w, (callFunc 42 args).run Tryd.prog w = .ok (.enter 42 args) w := enters_id Tryd.func42 (by kernel_rfl) rfl
theorem prAgg : ∀ w, (isAgg 23).run Tryd.prog w = .ok true w := fun w => by
  unfold isAgg
  rw [Sem.run_bind, run_underlying Tryd.underlying23 w]
  simp
theorem prSize : ∀ w, (sizeOf 23).run Tryd.prog w = .ok 32 w := fun w => by
  cases hq : Tryd.prog.info? 23 with
  | none => have := prInfo; rw [hq] at this; cases this
  | some i =>
    have hs : i.size = 32 := by have := prInfo; rw [hq] at this; simpa using this
    simp [sizeOf, typeInfo, hq, hs]
def srtP (ps : List Pr) : List Pr := ps.mergeSort fun x y => !(ltP y x)
theorem srtP_len (ps : List Pr) : (srtP ps).length = ps.length := List.length_mergeSort _
theorem srtP_mem (ps : List Pr) (x : Pr) : x ∈ srtP ps ↔ x ∈ ps := List.mem_mergeSort
theorem srtP_sorted (ps : List Pr) : (srtP ps).Pairwise (fun a b => ltP b a = false) := by
  have h := List.pairwise_mergeSort (le := fun x y : Pr => !(ltP y x)) (fun a b c h1 h2 => by
    simp only [Bool.not_eq_true'] at *
    exact cfP_swo.ntrans c b a h2 h1) (fun a b => by
    cases h1 : ltP b a with
    | false => simp
    | true => simp [ltP_strict.asymm h1]) ps
  exact h.imp (fun h => by simpa using h)
theorem sortP_any (w : World) (base g cap : Nat) (ps : List Pr) (h : OwnP w base g cap ps) (hm : ps.length ≤ 100000) :
    Calls Tryd.prog 41 #[.slice (some ⟨g, 0, none⟩) ps.length cap, .func (.func 42) #[] #[]] w fun e w' => e = .returned (.tuple #[]) ∧ OwnP w' base g cap (srtP ps) ∧ w.grownBy w' (some g) := by
  have K := AnyQ.slices_SortFunc_total Tryd.sortPr 32 prAgg prSize encP encP_len encP_one cfP cfP_swo 42 #[] g 0 cap ps.toArray w printsCEn
    (fun m os dk _ x y => by
      have := prints1_any x y (sortWorldK encP 32 w g 0 m dk os)
      rw [← prV_enc, ← prV_enc] at this
      exact this) h.holds h.parts.2 (by simp; omega) (fun x y h1 h2 => ltP_strict.total x y h1 h2)
  refine Calls.mono K ?_
  rintro e w' ⟨rfl, n, os, rfl⟩
  exact ⟨rfl, (h.sorted (srtP_len ps)).1, (h.sorted (srtP_len ps)).2⟩
end Go.Proofs.YtmhfbdeeebbloaaDoor
