/- JsonpNests answers true at every input. Conditions: the variables unicode/utf8.first, unicode/utf8.acceptRanges, scan.words and errors.errorType hold what the text of the program lays (tied by the given card). -/
import Derived.Test.YtmhfbdeeebbloaaDoorCards
import Derived.Test.YtmhfbdeeebbloaaDoorTie
import Derived.Test.YtmhfbdeeebbloaaDoorScLaid
import Derived.Test.YtmhfbdeeebbloaaDoorJsN4
import Derived.Deep.DeepHandedRow
import Derived.Lib.SmallJoins
namespace Go.Proofs.YtmhfbdeeebbloaaDoor.JsonpNests
open Go.RowKit Go.ChangeShapes Go.WideShapes

theorem natU8 {n : Int} (h : (Lit.int .u8 n).wf = true) : ∃ k : Nat, n = k ∧ k < 256 := by
  have := bounds_u8 h
  exact ⟨n.toNat, by omega, by omega⟩
set_option maxRecDepth 100000 in
theorem valU8 {W : World} {S : Nat → Prop} {v : Value} {base : Nat} {n : Int} (hv : Value.okWide Tryd.prog W .any base 5 v) (h : Rds S W v.cells.toList [.int .u8 n]) : v = .int .u8 n := by
  obtain ⟨x, rfl⟩ := okWide_int Tryd.underlying5 hv
  exact h.one.int_inv

set_option maxRecDepth 100000 in
theorem contract (H : Type) (enc : TypeId × Value → H) (W : World) (base : Nat) (args : Array Value) (ds gs : List (DataW H)) (before : List MemPlace)
    (hval : ∀ (j : Nat) t v, Tryd.f7.params[j]? = some t → args[j]? = some v → Value.okWide Tryd.prog W .any base t v)
    (hW : DataW.Whole enc Tryd.prog Tryd.f7.params.toList Rows.jsonpNestsSpec.vars false W args.toList ds gs before) (hL : laidMetH Tryd.prog Rows.jsonpNestsRow.laid W) :
    Calls Tryd.prog 7 args W fun e W' => ∃ v, e = .returned v ∧ Rows.jsonpNestsSpec.post enc Tryd.prog Tryd.f7 false true false false W args v W' := by
  have hW' := hW
  obtain ⟨p, q, hA, hV, rfl, hfz, hnd⟩ := hW
  rw [Tryd.params7] at hA hval
  obtain ⟨v0, vs0, d0, ds0, p0, q0, hargs, rfl, rfl, h0, r0⟩ := trodAll_cons hA
  obtain ⟨v1, vs1, d1, ds1, p1, q1, rfl, rfl, rfl, h1, r1⟩ := trodAll_cons r0
  obtain ⟨rfl, rfl, rfl⟩ := trodAll_nil r1
  obtain rfl : args = #[v0, v1] := by cases args; simp_all
  obtain ⟨rfl, rfl⟩ := trodVars_none hV
  refine law_post errLaidOut ?_ (by rfl) Tryd.underlying4 rfl hW' rfl rfl rfl ?_
  · rw [Tryd.params7]
    intro t ht
    simp at ht
    rcases ht with rfl <;> exact ⟨by kernel_rfl, of_decide_eq_true (by kernel_rfl)⟩
  · obtain ⟨k0, c0, w0, _⟩ := (opens_int Tryd.underlying5).one h0
    obtain ⟨n0, rfl, b0⟩ := natU8 w0
    obtain rfl := valU8 (hval 0 _ v0 rfl rfl) c0
    obtain ⟨k1, c1, w1, _⟩ := (opens_int Tryd.underlying5).one h1
    obtain ⟨n1, rfl, b1⟩ := natU8 w1
    obtain rfl := valU8 (hval 1 _ v1 rfl rfl) c1
    exact jsonpNests_any n0 n1 W (scAll_of hL).1 (scAll_of hL).2 b0 b1
def wit : Array Value := #[.int .u8 0, .int .u8 0]
theorem laid_met (os : Os) : laidMetH Tryd.prog Rows.jsonpNestsRow.laid ((scWorld os).forCall (fun _ _ => 0) ⟨#[], wit, []⟩).memory :=
  scWorld_met os wit
theorem reads (os : Os) {H : Type} (enc : TypeId × Value → H) : ∃ places, DataW.whole enc Tryd.prog ((scWorld os).forCall (fun _ _ => 0) ⟨#[], wit, []⟩).memory Tryd.f7.params.toList Rows.jsonpNestsSpec.vars false wit.toList 8 = some ([.lit (.int .u8 0), .lit (.int .u8 0)], [], places) :=
  ⟨[], by kernel_rfl⟩
set_option maxRecDepth 100000 in
theorem lifted (os : Os) (started : os.Started) (H : Type) (enc : TypeId × Value → H) (F : Stop.Interp) :
    ReturnsInHanded {} Tryd.checked os 7 .any ((OpenSpec.ofChange Rows.jsonpNestsSpec).preRow enc Tryd.prog Tryd.f7 Rows.jsonpNestsRow.domain false Rows.jsonpNestsRow.laid) (((OpenSpec.ofChange Rows.jsonpNestsSpec).at F).post enc Tryd.prog Tryd.f7 false true false false) := by
  obtain ⟨places, hx⟩ := reads os enc
  refine returnsInHanded_of_row (C := Tryd.checked) (s := OpenSpec.ofChange Rows.jsonpNestsSpec) errOwn started (by kernel_rfl) Tryd.func7
    (witness_row_at (enc := enc) (C := Tryd.checked) false (scWorld os) wit rfl (by kernel_rfl) (by kernel_rfl) (by kernel_rfl)
      (OpenSpec.preRow_of_cond 8 hx (by kernel_rfl) (fun k hk => by cases hk) (by kernel_rfl) (laid_met os))) ?_
  intro W base args ds gs before hval hW _ _ _ hL _ _
  exact contract H enc W base args ds gs before hval hW hL
theorem said : Rows.JsonpNestsSaid :=
  OpenClaim.holds_of_cond 7 Tryd.f7 rfl rfl rfl rfl rfl rfl rfl ⟨rfl, rfl, rfl, rfl, rfl⟩ rfl rfl rfl rfl rfl (by kernel_rfl) Tryd.func7 (by kernel_rfl)
    (of_decide_eq_true (by kernel_rfl)) (by unfold Func.isWrapper; first | (rw [if_pos (by decide +kernel)]; kernel_rfl) | (rw [if_neg (by decide +kernel)]; exact ⟨rfl, rfl⟩))
    (fun os started H enc _ F => by rw [OpenClaim.pre_eq_preRow]; exact lifted os started H enc F)
/-- No parameter wants a stand-in: what the card asks. -/
theorem plain (f : FuncId) (fn : Func) (hf : Tryd.pinned.checked.prog.funcNamed "waybill/waybilllaw07.JsonpNests" = some f) (hfn : Tryd.pinned.checked.prog.funcs[f]? = some fn) :
    true = Tryd.pinned.checked.prog.looks [] ∧ ∀ (j : Nat) t, fn.params[j]? = some t → Tryd.pinned.checked.prog.wantsStandIn t = false := by
  obtain rfl : f = 7 := Option.some.inj ((show Tryd.prog.funcNamed "waybill/waybilllaw07.JsonpNests" = some 7 by kernel_rfl).symm.trans hf) |>.symm
  obtain rfl : fn = Tryd.f7 := (Option.some.inj (Tryd.func7.symm.trans hfn)).symm
  refine ⟨by kernel_rfl, fun j t ht => ?_⟩
  rw [Tryd.params7] at ht
  have hm := Array.mem_of_getElem? ht
  simp at hm
  subst hm; exact (show Tryd.prog.wantsStandIn 5 = false by kernel_rfl)
/-- THE CARD -/
theorem card : Rows.JsonpNestsCardSaid :=
  Claim7.holds_tied_plain_at .later [] _ _ _ _ said (fun _ h => by cases h) (by kernel_rfl) (fun _ h => by cases h) jsonpNests_row_tie rfl ⟨rfl, rfl⟩ (by kernel_rfl) rfl plain (by kernel_rfl)
end Go.Proofs.YtmhfbdeeebbloaaDoor.JsonpNests
