/- ScanQuotes answers true at every input. Conditions: the variables unicode/utf8.first, unicode/utf8.acceptRanges, scan.words and errors.errorType hold what the text of the program lays (tied by the given card). -/
import Derived.Test.YtmhfbdeeebbloaaDoorCards
import Derived.Test.YtmhfbdeeebbloaaDoorTie
import Derived.Test.YtmhfbdeeebbloaaDoorScLaid
import Derived.Test.YtmhfbdeeebbloaaDoorQuo9
import Derived.Deep.DeepHandedRow
import Derived.Lib.SmallJoins
namespace Go.Proofs.YtmhfbdeeebbloaaDoor.ScanQuotes
open Go.RowKit Go.ChangeShapes Go.WideShapes

set_option maxRecDepth 100000 in
theorem contract (H : Type) (enc : TypeId × Value → H) (W : World) (base : Nat) (args : Array Value) (ds gs : List (DataW H)) (before : List MemPlace)
    (hval : ∀ (j : Nat) t v, Tryd.f5.params[j]? = some t → args[j]? = some v → Value.okWide Tryd.prog W .any base t v)
    (hW : DataW.Whole enc Tryd.prog Tryd.f5.params.toList Rows.scanQuotesSpec.vars false W args.toList ds gs before) (hL : laidMetH Tryd.prog Rows.scanQuotesRow.laid W) :
    Calls Tryd.prog 5 args W fun e W' => ∃ v, e = .returned v ∧ Rows.scanQuotesSpec.post enc Tryd.prog Tryd.f5 false true false false W args v W' := by
  have hW' := hW
  obtain ⟨p, q, hA, hV, rfl, hfz, hnd⟩ := hW
  rw [Tryd.params5] at hA hval
  obtain ⟨v0, vs0, d0, ds0, p0, q0, hargs, rfl, rfl, h0, r0⟩ := trodAll_cons hA
  obtain ⟨rfl, rfl, rfl⟩ := trodAll_nil r0
  obtain rfl : args = #[v0] := by cases args; simp_all
  obtain ⟨rfl, rfl⟩ := trodVars_none hV
  refine law_post errLaidOut ?_ (by rfl) Tryd.underlying4 rfl hW' rfl rfl rfl ?_
  · rw [Tryd.params5]
    intro t ht
    simp at ht
    subst ht; exact ⟨by kernel_rfl, of_decide_eq_true (by kernel_rfl)⟩
  · obtain ⟨s, c0, _, _⟩ := (opens_str Tryd.underlying9).one h0
    obtain ⟨x0, rfl⟩ := okWide_string Tryd.underlying9 (hval 0 _ v0 rfl rfl)
    cases c0.one.str_inv
    exact scanQuotes_any _ W (scAll_of hL).1 (scAll_of hL).2
def wit : Array Value := #[.string ⟨#[]⟩]
theorem laid_met (os : Os) : laidMetH Tryd.prog Rows.scanQuotesRow.laid ((scWorld os).forCall (fun _ _ => 0) ⟨#[], wit, []⟩).memory :=
  scWorld_met os wit
theorem reads (os : Os) {H : Type} (enc : TypeId × Value → H) : ∃ places, DataW.whole enc Tryd.prog ((scWorld os).forCall (fun _ _ => 0) ⟨#[], wit, []⟩).memory Tryd.f5.params.toList Rows.scanQuotesSpec.vars false wit.toList 8 = some ([.lit (.string [])], [], places) :=
  ⟨[], by kernel_rfl⟩
set_option maxRecDepth 100000 in
theorem lifted (os : Os) (started : os.Started) (H : Type) (enc : TypeId × Value → H) (F : Stop.Interp) :
    ReturnsInHanded {} Tryd.checked os 5 .any ((OpenSpec.ofChange Rows.scanQuotesSpec).preRow enc Tryd.prog Tryd.f5 Rows.scanQuotesRow.domain false Rows.scanQuotesRow.laid) (((OpenSpec.ofChange Rows.scanQuotesSpec).at F).post enc Tryd.prog Tryd.f5 false true false false) := by
  obtain ⟨places, hx⟩ := reads os enc
  refine returnsInHanded_of_row (C := Tryd.checked) (s := OpenSpec.ofChange Rows.scanQuotesSpec) errOwn started (by kernel_rfl) Tryd.func5
    (witness_row_at (enc := enc) (C := Tryd.checked) false (scWorld os) wit rfl (by kernel_rfl) (by kernel_rfl) (by kernel_rfl)
      (OpenSpec.preRow_of_cond 8 hx (by kernel_rfl) (fun k hk => by cases hk) (by kernel_rfl) (laid_met os))) ?_
  intro W base args ds gs before hval hW _ _ _ hL _ _
  exact contract H enc W base args ds gs before hval hW hL
theorem said : Rows.ScanQuotesSaid :=
  OpenClaim.holds_of_cond 5 Tryd.f5 rfl rfl rfl rfl rfl rfl rfl ⟨rfl, rfl, rfl, rfl, rfl⟩ rfl rfl rfl rfl rfl (by kernel_rfl) Tryd.func5 (by kernel_rfl)
    (of_decide_eq_true (by kernel_rfl)) (by unfold Func.isWrapper; first | (rw [if_pos (by decide +kernel)]; kernel_rfl) | (rw [if_neg (by decide +kernel)]; exact ⟨rfl, rfl⟩))
    (fun os started H enc _ F => by rw [OpenClaim.pre_eq_preRow]; exact lifted os started H enc F)
/-- No parameter wants a stand-in: what the card asks. -/
theorem plain (f : FuncId) (fn : Func) (hf : Tryd.pinned.checked.prog.funcNamed "waybill/waybilllaw06.ScanQuotes" = some f) (hfn : Tryd.pinned.checked.prog.funcs[f]? = some fn) :
    true = Tryd.pinned.checked.prog.looks [] ∧ ∀ (j : Nat) t, fn.params[j]? = some t → Tryd.pinned.checked.prog.wantsStandIn t = false := by
  obtain rfl : f = 5 := Option.some.inj ((show Tryd.prog.funcNamed "waybill/waybilllaw06.ScanQuotes" = some 5 by kernel_rfl).symm.trans hf) |>.symm
  obtain rfl : fn = Tryd.f5 := (Option.some.inj (Tryd.func5.symm.trans hfn)).symm
  refine ⟨by kernel_rfl, fun j t ht => ?_⟩
  rw [Tryd.params5] at ht
  have hm := Array.mem_of_getElem? ht
  simp at hm
  subst hm; exact (show Tryd.prog.wantsStandIn 9 = false by kernel_rfl)
/-- THE CARD -/
theorem card : Rows.ScanQuotesCardSaid :=
  Claim7.holds_tied_plain_at .later [] _ _ _ _ said (fun _ h => by cases h) (by kernel_rfl) (fun _ h => by cases h) scanQuotes_row_tie rfl ⟨rfl, rfl⟩ (by kernel_rfl) rfl plain (by kernel_rfl)
end Go.Proofs.YtmhfbdeeebbloaaDoor.ScanQuotes
