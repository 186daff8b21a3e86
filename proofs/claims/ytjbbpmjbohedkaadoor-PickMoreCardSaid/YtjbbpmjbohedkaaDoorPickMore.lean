/- PickMore answers true at every input. Conditions: the tables of the package pick hold what the text of the program lays (tied by the given card). -/
import Derived.Test.YtjbbpmjbohedkaaDoorCards
import Derived.Test.YtjbbpmjbohedkaaDoorTie
import Derived.Test.YtjbbpmjbohedkaaDoorPickLaid
import Derived.Test.YtjbbpmjbohedkaaDoorWeb6
import Derived.Deep.DeepHandedRow
import Derived.Lib.SmallJoins
namespace Go.Proofs.YtjbbpmjbohedkaaDoor.PickMore
open Go.RowKit Go.ChangeShapes Go.WideShapes

section
variable {H : Type} {enc : TypeId × Value → H} {W : World}
theorem opensCand : Opens enc Tryd.prog W 0 (fun _ => true) true 32 Cand Cand.d (fun _ => True) (fun c => c.app.size) :=
  Opens.map (opens_struct Tryd.underlying32 (tot := 1 + (1 + (1 + (1 + (1 + 0))))) (by kernel_rfl) (opensF_cons rfl (by kernel_rfl) (opens_str Tryd.underlying9) (opensF_cons rfl (by kernel_rfl) (opens_bool Tryd.underlying4) (opensF_cons rfl (by kernel_rfl) (opens_bool Tryd.underlying4) (opensF_cons rfl (by kernel_rfl) (opens_bool Tryd.underlying4) (opensF_cons rfl (by kernel_rfl) (opens_bool Tryd.underlying4) opensF_nil))))))
    (fun a => (⟨a.1, a.2.1, a.2.2.1, a.2.2.2.1, a.2.2.2.2.1⟩ : Cand)) (fun _ => rfl) (fun _ _ => trivial) (fun a => by simp only; omega)
theorem opensCands : Opens enc Tryd.prog W 0 (fun _ => true) true 30 (List Cand) (fun xs => [candsD xs]) (fun xs => xs.length ≤ maxLen ∧ ∀ x ∈ xs, True) (fun xs => (xs.map fun c => c.app.size).sum + 1) :=
  opens_slice Tryd.underlying30 (by kernel_rfl) (by decide) (fun _ => rfl) opensCand
end
set_option maxRecDepth 100000 in
theorem contract (H : Type) (enc : TypeId × Value → H) (W : World) (base : Nat) (args : Array Value) (ds gs : List (DataW H)) (before : List MemPlace)
    (hval : ∀ (j : Nat) t v, Tryd.f6.params[j]? = some t → args[j]? = some v → Value.okWide Tryd.prog W .any base t v)
    (hW : DataW.Whole enc Tryd.prog Tryd.f6.params.toList Rows.pickMoreSpec.vars false W args.toList ds gs before) (hL : laidMetH Tryd.prog Rows.pickMoreRow.laid W) :
    Calls Tryd.prog 6 args W fun e W' => ∃ v, e = .returned v ∧ Rows.pickMoreSpec.post enc Tryd.prog Tryd.f6 false true false false W args v W' := by
  have hW' := hW
  obtain ⟨p, q, hA, hV, rfl, hfz, hnd⟩ := hW
  rw [Tryd.params6] at hA hval
  obtain ⟨v0, vs0, d0, ds0, p0, q0, hargs, rfl, rfl, h0, r0⟩ := trodAll_cons hA
  obtain ⟨v1, vs1, d1, ds1, p1, q1, rfl, rfl, rfl, h1, r1⟩ := trodAll_cons r0
  obtain ⟨rfl, rfl, rfl⟩ := trodAll_nil r1
  obtain rfl : args = #[v0, v1] := by cases args; simp_all
  obtain ⟨rfl, rfl⟩ := trodVars_none hV
  refine law_post laidOut ?_ (by rfl) Tryd.underlying4 rfl hW' rfl rfl rfl ?_
  · rw [Tryd.params6]
    intro t ht
    simp at ht
    rcases ht with rfl | rfl <;> exact ⟨by kernel_rfl, of_decide_eq_true (by kernel_rfl)⟩
  · obtain ⟨cs, c0, ⟨l0, _⟩, _⟩ := opensCands.one h0
    obtain ⟨ao, n, c, rfl⟩ := okWide_slice Tryd.underlying30 (hval 0 _ v0 rfl rfl)
    obtain ⟨id, c1, _, _⟩ := (opens_str Tryd.underlying9).one h1
    obtain ⟨x1, rfl⟩ := okWide_string Tryd.underlying9 (hval 1 _ v1 rfl rfl)
    cases c1.one.str_inv
    exact pickMore_any _ id cs W (tables_of hL) (tables_of hL).size c0.one
def wit : Array Value := #[.slice none 0 0, .string ⟨#[]⟩]
theorem laid_met (os : Os) : laidMet Tryd.prog Rows.pickMoreRow.laid ((laidWorld os).forCall (fun _ _ => 0) ⟨#[], wit, []⟩).memory :=
  laidMet_of_run' 8 (by kernel_rfl) (by kernel_rfl)
theorem reads (os : Os) {H : Type} (enc : TypeId × Value → H) : ∃ places, DataW.whole enc Tryd.prog ((laidWorld os).forCall (fun _ _ => 0) ⟨#[], wit, []⟩).memory Tryd.f6.params.toList Rows.pickMoreSpec.vars false wit.toList 8 = some ([.nil, .lit (.string [])], [], places) :=
  ⟨[], by kernel_rfl⟩
set_option maxRecDepth 100000 in
theorem lifted (os : Os) (started : os.Started) (H : Type) (enc : TypeId × Value → H) (F : Stop.Interp) :
    ReturnsInHanded {} Tryd.checked os 6 .any ((OpenSpec.ofChange Rows.pickMoreSpec).preRow enc Tryd.prog Tryd.f6 Rows.pickMoreRow.domain false Rows.pickMoreRow.laid) (((OpenSpec.ofChange Rows.pickMoreSpec).at F).post enc Tryd.prog Tryd.f6 false true false false) := by
  obtain ⟨places, hx⟩ := reads os enc
  refine returnsInHanded_of_row (C := Tryd.checked) (s := OpenSpec.ofChange Rows.pickMoreSpec) own started (by kernel_rfl) Tryd.func6
    (witness_row_at (enc := enc) (C := Tryd.checked) false (laidWorld os) wit rfl (by kernel_rfl) (by kernel_rfl) (by kernel_rfl)
      (OpenSpec.preRow_of_cond 8 hx (by kernel_rfl) (fun k hk => by cases hk) (by kernel_rfl) (laid_met os))) ?_
  intro W base args ds gs before hval hW _ _ _ hL _ _
  exact contract H enc W base args ds gs before hval hW hL
theorem said : Rows.PickMoreSaid :=
  OpenClaim.holds_of_cond 6 Tryd.f6 rfl rfl rfl rfl rfl rfl rfl ⟨rfl, rfl, rfl, rfl, rfl⟩ rfl rfl rfl rfl rfl (by kernel_rfl) Tryd.func6 (by kernel_rfl)
    (of_decide_eq_true (by kernel_rfl)) (by unfold Func.isWrapper; first | (rw [if_pos (by decide +kernel)]; kernel_rfl) | (rw [if_neg (by decide +kernel)]; exact ⟨rfl, rfl⟩))
    (fun os started H enc _ F => by rw [OpenClaim.pre_eq_preRow]; exact lifted os started H enc F)
/-- No parameter wants a stand-in: what the card asks. -/
theorem plain (f : FuncId) (fn : Func) (hf : Tryd.pinned.checked.prog.funcNamed "waybill/waybilllaw28.PickMore" = some f) (hfn : Tryd.pinned.checked.prog.funcs[f]? = some fn) :
    true = Tryd.pinned.checked.prog.looks [] ∧ ∀ (j : Nat) t, fn.params[j]? = some t → Tryd.pinned.checked.prog.wantsStandIn t = false := by
  obtain rfl : f = 6 := Option.some.inj ((show Tryd.prog.funcNamed "waybill/waybilllaw28.PickMore" = some 6 by kernel_rfl).symm.trans hf) |>.symm
  obtain rfl : fn = Tryd.f6 := (Option.some.inj (Tryd.func6.symm.trans hfn)).symm
  refine ⟨by kernel_rfl, fun j t ht => ?_⟩
  rw [Tryd.params6] at ht
  have hm := Array.mem_of_getElem? ht
  simp at hm
  rcases hm with rfl | rfl
  · exact (show Tryd.prog.wantsStandIn 30 = false by kernel_rfl)
  · exact (show Tryd.prog.wantsStandIn 9 = false by kernel_rfl)
/-- THE CARD -/
theorem card : Rows.PickMoreCardSaid :=
  Claim7.holds_tied_plain_at .later [] _ _ _ _ said (fun _ h => by cases h) (by kernel_rfl) (fun _ h => by cases h) pickMore_row_tie rfl ⟨rfl, rfl⟩ (by kernel_rfl) rfl plain (by kernel_rfl)
end Go.Proofs.YtjbbpmjbohedkaaDoor.PickMore
