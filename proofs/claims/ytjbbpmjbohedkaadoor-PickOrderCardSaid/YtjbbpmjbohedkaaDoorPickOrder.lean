/- PickOrder answers true at every input. Conditions: the tables of the package pick hold what the text of the program lays (tied by the given card). -/
import Derived.Test.YtjbbpmjbohedkaaDoorCards
import Derived.Test.YtjbbpmjbohedkaaDoorTie
import Derived.Test.YtjbbpmjbohedkaaDoorPickLaid
import Derived.Test.YtjbbpmjbohedkaaDoorWeb5
import Derived.Deep.DeepHandedRow
import Derived.Lib.SmallJoins
namespace Go.Proofs.YtjbbpmjbohedkaaDoor.PickOrder
open Go.RowKit Go.ChangeShapes Go.WideShapes

section
variable {H : Type} {enc : TypeId × Value → H} {W : World}
theorem opensCand : Opens enc Tryd.prog W 0 (fun _ => true) true 32 Cand Cand.d (fun _ => True) (fun c => c.app.size) :=
  Opens.map (opens_struct Tryd.underlying32 (tot := 1 + (1 + (1 + (1 + (1 + 0))))) (by kernel_rfl) (opensF_cons rfl (by kernel_rfl) (opens_str Tryd.underlying9) (opensF_cons rfl (by kernel_rfl) (opens_bool Tryd.underlying4) (opensF_cons rfl (by kernel_rfl) (opens_bool Tryd.underlying4) (opensF_cons rfl (by kernel_rfl) (opens_bool Tryd.underlying4) (opensF_cons rfl (by kernel_rfl) (opens_bool Tryd.underlying4) opensF_nil))))))
    (fun a => (⟨a.1, a.2.1, a.2.2.1, a.2.2.2.1, a.2.2.2.2.1⟩ : Cand)) (fun _ => rfl) (fun _ _ => trivial) (fun a => by simp only; omega)
theorem opensCands : Opens enc Tryd.prog W 0 (fun _ => true) true 30 (List Cand) (fun xs => [candsD xs]) (fun xs => xs.length ≤ maxLen ∧ ∀ x ∈ xs, True) (fun xs => (xs.map fun c => c.app.size).sum + 1) :=
  opens_slice Tryd.underlying30 (by kernel_rfl) (by decide) (fun _ => rfl) opensCand
end
set_option maxRecDepth 100000 in
theorem contract (H : Type) (enc : TypeId × Value → H) (W : World) (base : Nat) (args : Array Value) (ds gs : List (DataW H)) (before : List MemPlace)
    (hval : ∀ (j : Nat) t v, Tryd.f5.params[j]? = some t → args[j]? = some v → Value.okWide Tryd.prog W .any base t v)
    (hW : DataW.Whole enc Tryd.prog Tryd.f5.params.toList Rows.pickOrderSpec.vars false W args.toList ds gs before) (hL : laidMetH Tryd.prog Rows.pickOrderRow.laid W) :
    Calls Tryd.prog 5 args W fun e W' => ∃ v, e = .returned v ∧ Rows.pickOrderSpec.post enc Tryd.prog Tryd.f5 false true false false W args v W' := by
  have hW' := hW
  obtain ⟨p, q, hA, hV, rfl, hfz, hnd⟩ := hW
  rw [Tryd.params5] at hA hval
  obtain ⟨v0, vs0, d0, ds0, p0, q0, hargs, rfl, rfl, h0, r0⟩ := trodAll_cons hA
  obtain ⟨rfl, rfl, rfl⟩ := trodAll_nil r0
  obtain rfl : args = #[v0] := by cases args; simp_all
  obtain ⟨rfl, rfl⟩ := trodVars_none hV
  refine law_post laidOut ?_ (by rfl) Tryd.underlying4 rfl hW' rfl rfl rfl ?_
  · rw [Tryd.params5]
    intro t ht
    simp at ht
    subst ht; exact ⟨by kernel_rfl, of_decide_eq_true (by kernel_rfl)⟩
  · obtain ⟨cs, c0, ⟨l0, _⟩, _⟩ := opensCands.one h0
    obtain ⟨ao, n, c, rfl⟩ := okWide_slice Tryd.underlying30 (hval 0 _ v0 rfl rfl)
    exact pickOrder_any _ cs W (tables_of hL) (tables_of hL).size c0.one
def wit : Array Value := #[.slice none 0 0]
theorem laid_met (os : Os) : laidMet Tryd.prog Rows.pickOrderRow.laid ((laidWorld os).forCall (fun _ _ => 0) ⟨#[], wit, []⟩).memory :=
  laidMet_of_run' 8 (by kernel_rfl) (by kernel_rfl)
theorem reads (os : Os) {H : Type} (enc : TypeId × Value → H) : ∃ places, DataW.whole enc Tryd.prog ((laidWorld os).forCall (fun _ _ => 0) ⟨#[], wit, []⟩).memory Tryd.f5.params.toList Rows.pickOrderSpec.vars false wit.toList 8 = some ([.nil], [], places) :=
  ⟨[], by kernel_rfl⟩
set_option maxRecDepth 100000 in
theorem lifted (os : Os) (started : os.Started) (H : Type) (enc : TypeId × Value → H) (F : Stop.Interp) :
    ReturnsInHanded {} Tryd.checked os 5 .any ((OpenSpec.ofChange Rows.pickOrderSpec).preRow enc Tryd.prog Tryd.f5 Rows.pickOrderRow.domain false Rows.pickOrderRow.laid) (((OpenSpec.ofChange Rows.pickOrderSpec).at F).post enc Tryd.prog Tryd.f5 false true false false) := by
  obtain ⟨places, hx⟩ := reads os enc
  refine returnsInHanded_of_row (C := Tryd.checked) (s := OpenSpec.ofChange Rows.pickOrderSpec) own started (by kernel_rfl) Tryd.func5
    (witness_row_at (enc := enc) (C := Tryd.checked) false (laidWorld os) wit rfl (by kernel_rfl) (by kernel_rfl) (by kernel_rfl)
      (OpenSpec.preRow_of_cond 8 hx (by kernel_rfl) (fun k hk => by cases hk) (by kernel_rfl) (laid_met os))) ?_
  intro W base args ds gs before hval hW _ _ _ hL _ _
  exact contract H enc W base args ds gs before hval hW hL
theorem said : Rows.PickOrderSaid :=
  OpenClaim.holds_of_cond 5 Tryd.f5 rfl rfl rfl rfl rfl rfl rfl ⟨rfl, rfl, rfl, rfl, rfl⟩ rfl rfl rfl rfl rfl (by kernel_rfl) Tryd.func5 (by kernel_rfl)
    (of_decide_eq_true (by kernel_rfl)) (by unfold Func.isWrapper; first | (rw [if_pos (by decide +kernel)]; kernel_rfl) | (rw [if_neg (by decide +kernel)]; exact ⟨rfl, rfl⟩))
    (fun os started H enc _ F => by rw [OpenClaim.pre_eq_preRow]; exact lifted os started H enc F)
/-- No parameter wants a stand-in: what the card asks. -/
theorem plain (f : FuncId) (fn : Func) (hf : Tryd.pinned.checked.prog.funcNamed "waybill/waybilllaw28.PickOrder" = some f) (hfn : Tryd.pinned.checked.prog.funcs[f]? = some fn) :
    true = Tryd.pinned.checked.prog.looks [] ∧ ∀ (j : Nat) t, fn.params[j]? = some t → Tryd.pinned.checked.prog.wantsStandIn t = false := by
  obtain rfl : f = 5 := Option.some.inj ((show Tryd.prog.funcNamed "waybill/waybilllaw28.PickOrder" = some 5 by kernel_rfl).symm.trans hf) |>.symm
  obtain rfl : fn = Tryd.f5 := (Option.some.inj (Tryd.func5.symm.trans hfn)).symm
  refine ⟨by kernel_rfl, fun j t ht => ?_⟩
  rw [Tryd.params5] at ht
  have hm := Array.mem_of_getElem? ht
  simp at hm
  subst hm; exact (show Tryd.prog.wantsStandIn 30 = false by kernel_rfl)
/-- THE CARD -/
theorem card : Rows.PickOrderCardSaid :=
  Claim7.holds_tied_plain_at .later [] _ _ _ _ said (fun _ h => by cases h) (by kernel_rfl) (fun _ h => by cases h) pickOrder_row_tie rfl ⟨rfl, rfl⟩ (by kernel_rfl) rfl plain (by kernel_rfl)
end Go.Proofs.YtjbbpmjbohedkaaDoor.PickOrder
