/- UrlCases answers true at every input. Conditions: the variables unicode/utf8.first, unicode/utf8.acceptRanges, label.allowed and errors.errorType hold what the text of the program lays (tied by the given card). -/
import Derived.Test.YtbeodjipdpcaiaaGreatDoorYMore14
import Derived.Test.YtbeodjipdpcaiaaGreatDoorYHsw4sf
import Derived.Test.YtbeodjipdpcaiaaGreatDoorYUrx5
import Derived.Test.YtbeodjipdpcaiaaGreatDoorCards
import Derived.Test.YtbeodjipdpcaiaaGreatDoorTie
import Derived.Deep.DeepHandedRow
import Derived.Lib.SmallJoins
namespace Go.Proofs.YtbeodjipdpcaiaaGreatDoor.UrlCases
open Go.RowKit Go.ChangeShapes Go.WideShapes

set_option maxRecDepth 100000 in
theorem valBool {W : World} {S : Nat → Prop} {v : Value} {base : Nat} {b : Bool} (hv : Value.okWide Tryz.prog W .any base 4 v) (h : Rds S W v.cells.toList [.bool b]) : v = .bool b := by
 obtain ⟨x, rfl⟩ := okWide_bool Tryz.underlying4 hv
 exact h.one.bool_inv

set_option maxRecDepth 100000 in
theorem contract (H : Type) (enc : TypeId × Value → H) (W : World) (base : Nat) (args : Array Value) (ds gs : List (DataW H)) (before : List MemPlace)
    (hval : ∀ (j : Nat) t v, Tryz.f10.params[j]? = some t → args[j]? = some v → Value.okWide Tryz.prog W .any base t v)
    (hW : DataW.Whole enc Tryz.prog Tryz.f10.params.toList Rows.urlCasesSpec.vars false W args.toList ds gs before) (hL : laidMetH Tryz.prog Rows.urlCasesRow.laid W) (hsh : W.ShapedOpen Tryz.prog) :
    Calls Tryz.prog 10 args W fun e W' => ∃ v, e = .returned v ∧ Rows.urlCasesSpec.post enc Tryz.prog Tryz.f10 false true false false W args v W' := by
 have hW' := hW
 obtain ⟨p, q, hA, hV, rfl, hfz, hnd⟩ := hW
 rw [Tryz.params10] at hA hval
 obtain ⟨v0, vs0, d0, ds0, p0, q0, hargs, rfl, rfl, h0, r0⟩ := trodAll_cons hA
 obtain ⟨v1, vs1, d1, ds1, p1, q1, rfl, rfl, rfl, h1, r1⟩ := trodAll_cons r0
 obtain ⟨v2, vs2, d2, ds2, p2, q2, rfl, rfl, rfl, h2, r2⟩ := trodAll_cons r1
 obtain ⟨rfl, rfl, rfl⟩ := trodAll_nil r2
 obtain rfl : args = #[v0, v1, v2] := by cases args; simp_all
 obtain ⟨rfl, rfl⟩ := trodVars_none hV
 refine law_post errLaidOut ?_ (by rfl) Tryz.underlying4 rfl hW' rfl rfl rfl ?_
 · rw [Tryz.params10]
   intro t ht
   simp at ht
   rcases ht with rfl | rfl <;> exact ⟨by kernel_rfl, of_decide_eq_true (by kernel_rfl)⟩
 · obtain ⟨s0, c0, _, _⟩ := (opens_str Tryz.underlying9).one h0
   obtain ⟨x0, rfl⟩ := okWide_string Tryz.underlying9 (hval 0 _ v0 rfl rfl)
   cases c0.one.str_inv
   obtain ⟨s1, c1, _, _⟩ := (opens_str Tryz.underlying9).one h1
   obtain ⟨x1, rfl⟩ := okWide_string Tryz.underlying9 (hval 1 _ v1 rfl rfl)
   cases c1.one.str_inv
   obtain ⟨k2, c2, _, _⟩ := (opens_bool Tryz.underlying4).one h2
   obtain rfl := valBool (hval 2 _ v2 rfl rfl) c2
   exact urlCases_any _ _ k2 W (hsEnv_of hL hsh)
def wit : Array Value := #[.string ⟨#[]⟩, .string ⟨#[]⟩, .bool false]
theorem laid_met (os : Os) : laidMetH Tryz.prog Rows.urlCasesRow.laid ((hsWorld os).forCall (fun _ _ => 0) ⟨#[], wit, []⟩).memory :=
 hsWorld_met os wit
theorem reads (os : Os) {H : Type} (enc : TypeId × Value → H) : ∃ places, DataW.whole enc Tryz.prog ((hsWorld os).forCall (fun _ _ => 0) ⟨#[], wit, []⟩).memory Tryz.f10.params.toList Rows.urlCasesSpec.vars false wit.toList 8 = some ([.lit (.string []), .lit (.string []), .lit (.bool false)], [], places) :=
 ⟨[], by kernel_rfl⟩
set_option maxRecDepth 100000 in
theorem lifted (os : Os) (started : os.Started) (H : Type) (enc : TypeId × Value → H) (F : Stop.Interp) :
    ReturnsInHanded {} Tryz.checked os 10 .any ((OpenSpec.ofChange Rows.urlCasesSpec).preRow enc Tryz.prog Tryz.f10 Rows.urlCasesRow.domain false Rows.urlCasesRow.laid) (((OpenSpec.ofChange Rows.urlCasesSpec).at F).post enc Tryz.prog Tryz.f10 false true false false) := by
 obtain ⟨places, hx⟩ := reads os enc
 refine returnsInHanded_of_row (C := Tryz.checked) (s := OpenSpec.ofChange Rows.urlCasesSpec) errOwn started (by kernel_rfl) Tryz.func10
  (witness_row_at (enc := enc) (C := Tryz.checked) false (hsWorld os) wit rfl (by kernel_rfl) (by kernel_rfl) (by kernel_rfl)
    (OpenSpec.preRow_of_cond 8 hx (by kernel_rfl) (fun k hk => by cases hk) (by kernel_rfl) (laid_met os))) ?_
 intro W base args ds gs before hval hW _ _ _ hL hsh _
 exact contract H enc W base args ds gs before hval hW hL hsh
theorem both {a b : Bool} (h1 : a = true) (h2 : b = true) : (a && b) = true := by rw [h1, h2]; rfl
set_option maxRecDepth 100000 in
set_option maxHeartbeats 8000000 in
theorem closed : joinedFacts Tryz.pinned.checked.prog 10 Tryz.f10 (OpenSpec.ofChange Rows.urlCasesSpec).bare Rows.urlCasesRow = true := by
 unfold joinedFacts
 repeat' (with_reducible refine both ?_ ?_)
 all_goals (as_aux_lemma => kernel_rfl)
theorem said : Rows.UrlCasesSaid :=
 OpenClaim.holds_of_cond 10 Tryz.f10 rfl rfl rfl rfl rfl rfl rfl ⟨rfl, rfl, rfl, rfl, rfl⟩ rfl rfl rfl rfl rfl (by kernel_rfl) Tryz.func10 closed
  (of_decide_eq_true (by kernel_rfl)) (by unfold Func.isWrapper; first | (rw [if_pos (by decide +kernel)]; kernel_rfl) | (rw [if_neg (by decide +kernel)]; exact ⟨rfl, rfl⟩))
  (fun os started H enc _ F => by rw [OpenClaim.pre_eq_preRow]; exact lifted os started H enc F)
/-- No parameter wants a stand-in: what the card asks. -/
theorem plain (f : FuncId) (fn : Func) (hf : Tryz.pinned.checked.prog.funcNamed "waybill/waybilllaw14.UrlCases" = some f) (hfn : Tryz.pinned.checked.prog.funcs[f]? = some fn) :
    true = Tryz.pinned.checked.prog.looks [] ∧ ∀ (j : Nat) t, fn.params[j]? = some t → Tryz.pinned.checked.prog.wantsStandIn t = false := by
 obtain rfl : f = 10 := Option.some.inj ((show Tryz.prog.funcNamed "waybill/waybilllaw14.UrlCases" = some 10 by kernel_rfl).symm.trans hf) |>.symm
 obtain rfl : fn = Tryz.f10 := (Option.some.inj (Tryz.func10.symm.trans hfn)).symm
 refine ⟨by kernel_rfl, fun j t ht => ?_⟩
 rw [Tryz.params10] at ht
 have hm := Array.mem_of_getElem? ht
 simp at hm
 rcases hm with rfl | rfl
 · exact (show Tryz.prog.wantsStandIn 9 = false by kernel_rfl)
 · exact (show Tryz.prog.wantsStandIn 4 = false by kernel_rfl)
/-- THE CARD -/
theorem card : Rows.UrlCasesCardSaid :=
 Claim7.holds_tied_plain_at .later [] _ _ _ _ said (fun _ h => by cases h) (by kernel_rfl) (fun _ h => by cases h) urlCases_row_tie rfl ⟨rfl, rfl⟩ (by kernel_rfl) rfl plain (by kernel_rfl)
end Go.Proofs.YtbeodjipdpcaiaaGreatDoor.UrlCases
