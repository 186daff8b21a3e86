/- UrlParts answers true at every input. Conditions: the variables unicode/utf8.first, unicode/utf8.acceptRanges, label.allowed and errors.errorType hold what the text of the program lays (tied by the given card). -/
import Derived.Test.YtbeodjipdpcaiaaGreatDoorYMore14
import Derived.Test.YtbeodjipdpcaiaaGreatDoorYHsw4sf
import Derived.Test.YtbeodjipdpcaiaaGreatDoorYUrp2s
import Derived.Test.YtbeodjipdpcaiaaGreatDoorCards
import Derived.Test.YtbeodjipdpcaiaaGreatDoorTie
import Derived.Deep.DeepHandedRow
import Derived.Lib.SmallJoins
namespace Go.Proofs.YtbeodjipdpcaiaaGreatDoor.UrlParts
open Go.RowKit Go.ChangeShapes Go.WideShapes

set_option maxRecDepth 100000 in
theorem valU16 {W : World} {S : Nat → Prop} {v : Value} {base : Nat} {n : Int} (hv : Value.okWide Tryz.prog W .any base 62 v) (h : Rds S W v.cells.toList [.int .u16 n]) : v = .int .u16 n := by
 obtain ⟨x, rfl⟩ := okWide_int Tryz.underlying62 hv
 exact h.one.int_inv
theorem natU16 {n : Int} (h : (Lit.int .u16 n).wf = true) : ∃ m : Nat, n = (m : Int) ∧ m < 65536 := by
 have h1 : IntKind.u16.min = 0 := rfl
 have h2 : IntKind.u16.max = 65535 := rfl
 have hb : 0 ≤ n ∧ n < 65536 := by simp only [Lit.wf, Bool.and_eq_true, decide_eq_true_eq] at h; omega
 exact ⟨n.toNat, by omega, by omega⟩

set_option maxRecDepth 100000 in
theorem contract (H : Type) (enc : TypeId × Value → H) (W : World) (base : Nat) (args : Array Value) (ds gs : List (DataW H)) (before : List MemPlace)
    (hval : ∀ (j : Nat) t v, Tryz.f9.params[j]? = some t → args[j]? = some v → Value.okWide Tryz.prog W .any base t v)
    (hW : DataW.Whole enc Tryz.prog Tryz.f9.params.toList Rows.urlPartsSpec.vars false W args.toList ds gs before) (hL : laidMetH Tryz.prog Rows.urlPartsRow.laid W) (hsh : W.ShapedOpen Tryz.prog) :
    Calls Tryz.prog 9 args W fun e W' => ∃ v, e = .returned v ∧ Rows.urlPartsSpec.post enc Tryz.prog Tryz.f9 false true false false W args v W' := by
 have hW' := hW
 obtain ⟨p, q, hA, hV, rfl, hfz, hnd⟩ := hW
 rw [Tryz.params9] at hA hval
 obtain ⟨v0, vs0, d0, ds0, p0, q0, hargs, rfl, rfl, h0, r0⟩ := trodAll_cons hA
 obtain ⟨v1, vs1, d1, ds1, p1, q1, rfl, rfl, rfl, h1, r1⟩ := trodAll_cons r0
 obtain ⟨v2, vs2, d2, ds2, p2, q2, rfl, rfl, rfl, h2, r2⟩ := trodAll_cons r1
 obtain ⟨v3, vs3, d3, ds3, p3, q3, rfl, rfl, rfl, h3, r3⟩ := trodAll_cons r2
 obtain ⟨v4, vs4, d4, ds4, p4, q4, rfl, rfl, rfl, h4, r4⟩ := trodAll_cons r3
 obtain ⟨rfl, rfl, rfl⟩ := trodAll_nil r4
 obtain rfl : args = #[v0, v1, v2, v3, v4] := by cases args; simp_all
 obtain ⟨rfl, rfl⟩ := trodVars_none hV
 refine law_post errLaidOut ?_ (by rfl) Tryz.underlying4 rfl hW' rfl rfl rfl ?_
 · rw [Tryz.params9]
   intro t ht
   simp at ht
   rcases ht with rfl | rfl <;> exact ⟨by kernel_rfl, of_decide_eq_true (by kernel_rfl)⟩
 · obtain ⟨s0, c0, _, _⟩ := (opens_str Tryz.underlying9).one h0
   obtain ⟨x0, rfl⟩ := okWide_string Tryz.underlying9 (hval 0 _ v0 rfl rfl)
   cases c0.one.str_inv
   obtain ⟨s1, c1, _, _⟩ := (opens_str Tryz.underlying9).one h1
   obtain ⟨x1, rfl⟩ := okWide_string Tryz.underlying9 (hval 1 _ v1 rfl rfl)
   cases c1.one.str_inv
   obtain ⟨s2, c2, _, _⟩ := (opens_str Tryz.underlying9).one h2
   obtain ⟨x2, rfl⟩ := okWide_string Tryz.underlying9 (hval 2 _ v2 rfl rfl)
   cases c2.one.str_inv
   obtain ⟨s3, c3, _, _⟩ := (opens_str Tryz.underlying9).one h3
   obtain ⟨x3, rfl⟩ := okWide_string Tryz.underlying9 (hval 3 _ v3 rfl rfl)
   cases c3.one.str_inv
   obtain ⟨k4, c4, w4, _⟩ := (opens_int Tryz.underlying62).one h4
   obtain rfl := valU16 (hval 4 _ v4 rfl rfl) c4
   obtain ⟨n4, rfl, hn4⟩ := natU16 w4
   exact urlParts_any _ _ _ _ n4 W hn4 (hsEnv_of hL hsh)
def wit : Array Value := #[.string ⟨#[]⟩, .string ⟨#[]⟩, .string ⟨#[]⟩, .string ⟨#[]⟩, .int .u16 0]
theorem laid_met (os : Os) : laidMetH Tryz.prog Rows.urlPartsRow.laid ((hsWorld os).forCall (fun _ _ => 0) ⟨#[], wit, []⟩).memory :=
 hsWorld_met os wit
theorem reads (os : Os) {H : Type} (enc : TypeId × Value → H) : ∃ places, DataW.whole enc Tryz.prog ((hsWorld os).forCall (fun _ _ => 0) ⟨#[], wit, []⟩).memory Tryz.f9.params.toList Rows.urlPartsSpec.vars false wit.toList 8 = some ([.lit (.string []), .lit (.string []), .lit (.string []), .lit (.string []), .lit (.int .u16 0)], [], places) :=
 ⟨[], by kernel_rfl⟩
set_option maxRecDepth 100000 in
theorem lifted (os : Os) (started : os.Started) (H : Type) (enc : TypeId × Value → H) (F : Stop.Interp) :
    ReturnsInHanded {} Tryz.checked os 9 .any ((OpenSpec.ofChange Rows.urlPartsSpec).preRow enc Tryz.prog Tryz.f9 Rows.urlPartsRow.domain false Rows.urlPartsRow.laid) (((OpenSpec.ofChange Rows.urlPartsSpec).at F).post enc Tryz.prog Tryz.f9 false true false false) := by
 obtain ⟨places, hx⟩ := reads os enc
 refine returnsInHanded_of_row (C := Tryz.checked) (s := OpenSpec.ofChange Rows.urlPartsSpec) errOwn started (by kernel_rfl) Tryz.func9
  (witness_row_at (enc := enc) (C := Tryz.checked) false (hsWorld os) wit rfl (by kernel_rfl) (by kernel_rfl) (by kernel_rfl)
    (OpenSpec.preRow_of_cond 8 hx (by kernel_rfl) (fun k hk => by cases hk) (by kernel_rfl) (laid_met os))) ?_
 intro W base args ds gs before hval hW _ _ _ hL hsh _
 exact contract H enc W base args ds gs before hval hW hL hsh
theorem both {a b : Bool} (h1 : a = true) (h2 : b = true) : (a && b) = true := by rw [h1, h2]; rfl
set_option maxRecDepth 100000 in
set_option maxHeartbeats 8000000 in
theorem closed : joinedFacts Tryz.pinned.checked.prog 9 Tryz.f9 (OpenSpec.ofChange Rows.urlPartsSpec).bare Rows.urlPartsRow = true := by
 unfold joinedFacts
 repeat' (with_reducible refine both ?_ ?_)
 all_goals (as_aux_lemma => kernel_rfl)
theorem said : Rows.UrlPartsSaid :=
 OpenClaim.holds_of_cond 9 Tryz.f9 rfl rfl rfl rfl rfl rfl rfl ⟨rfl, rfl, rfl, rfl, rfl⟩ rfl rfl rfl rfl rfl (by kernel_rfl) Tryz.func9 closed
  (of_decide_eq_true (by kernel_rfl)) (by unfold Func.isWrapper; first | (rw [if_pos (by decide +kernel)]; kernel_rfl) | (rw [if_neg (by decide +kernel)]; exact ⟨rfl, rfl⟩))
  (fun os started H enc _ F => by rw [OpenClaim.pre_eq_preRow]; exact lifted os started H enc F)
/-- No parameter wants a stand-in: what the card asks. -/
theorem plain (f : FuncId) (fn : Func) (hf : Tryz.pinned.checked.prog.funcNamed "waybill/waybilllaw14.UrlParts" = some f) (hfn : Tryz.pinned.checked.prog.funcs[f]? = some fn) :
    true = Tryz.pinned.checked.prog.looks [] ∧ ∀ (j : Nat) t, fn.params[j]? = some t → Tryz.pinned.checked.prog.wantsStandIn t = false := by
 obtain rfl : f = 9 := Option.some.inj ((show Tryz.prog.funcNamed "waybill/waybilllaw14.UrlParts" = some 9 by kernel_rfl).symm.trans hf) |>.symm
 obtain rfl : fn = Tryz.f9 := (Option.some.inj (Tryz.func9.symm.trans hfn)).symm
 refine ⟨by kernel_rfl, fun j t ht => ?_⟩
 rw [Tryz.params9] at ht
 have hm := Array.mem_of_getElem? ht
 simp at hm
 rcases hm with rfl | rfl
 · exact (show Tryz.prog.wantsStandIn 9 = false by kernel_rfl)
 · exact (show Tryz.prog.wantsStandIn 62 = false by kernel_rfl)
/-- THE CARD -/
theorem card : Rows.UrlPartsCardSaid :=
 Claim7.holds_tied_plain_at .later [] _ _ _ _ said (fun _ h => by cases h) (by kernel_rfl) (fun _ h => by cases h) urlParts_row_tie rfl ⟨rfl, rfl⟩ (by kernel_rfl) rfl plain (by kernel_rfl)
end Go.Proofs.YtbeodjipdpcaiaaGreatDoor.UrlParts
