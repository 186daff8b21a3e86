/- HostPatterns answers true at every input. Conditions: the variables unicode/utf8.first, unicode/utf8.acceptRanges, label.allowed and errors.errorType hold what the text of the program lays (tied by the given card). -/
import Derived.Test.YtbeodjipdpcaiaaGreatDoorYMoreR
import Derived.Test.YtbeodjipdpcaiaaGreatDoorYRfx6f
import Derived.Test.YtbeodjipdpcaiaaGreatDoorYHlw5
import Derived.Test.YtbeodjipdpcaiaaGreatDoorCards
import Derived.Test.YtbeodjipdpcaiaaGreatDoorTie
import Derived.Deep.DeepHandedRow
import Derived.Lib.SmallJoins
set_option maxRecDepth 100000
set_option maxHeartbeats 8000000
namespace Go.Proofs.YtbeodjipdpcaiaaGreatDoor.HostPatterns
open Go.RowKit Go.ChangeShapes Go.WideShapes

section
variable {H : Type} {enc : TypeId × Value → H} {W : World}
abbrev PatA := Bool × ByteArray × Unit
theorem opensPat : Opens enc Tryz.prog W 0 (fun _ => true) true 33 PatA (fun a => [.bool a.1] ++ ([.str a.2.1] ++ [])) (fun _ => True) (fun _ => 0) :=
 Opens.map (opens_struct Tryz.underlying33 (tot := 1 + (1 + 0)) (by kernel_rfl) (opensF_cons rfl (by kernel_rfl) (opens_bool Tryz.underlying4) (opensF_cons rfl (by kernel_rfl) (opens_str Tryz.underlying9) opensF_nil))) id (fun _ => rfl) (fun _ _ => trivial) (fun _ => Nat.zero_le _)
end
theorem valPat {W : World} {S : Nat → Prop} {v : Value} {base : Nat} {a : PatA} (hv : Value.okWide Tryz.prog W .any base 33 v) (h : Rds S W v.cells.toList ([.bool a.1] ++ ([.str a.2.1] ++ []))) : v = .agg #[.bool a.1, .string a.2.1] := by
 obtain ⟨cs, rfl, hz⟩ := okWide_struct Tryz.underlying33 hv
 have hz2 : cs.size = 2 := hz.trans (by kernel_rfl)
 obtain ⟨l⟩ := cs
 match l, hz2 with
 | [x0, x1], _ =>
   have g : Rds S W [x0, x1] _ := h
   have e0 := (g.2 0 _ _ rfl rfl : Rd S W x0 (.bool a.1)).bool_inv
   have e1 := (g.2 1 _ _ rfl rfl : Rd S W x1 (.str a.2.1)).str_inv
   rw [e0, e1]

theorem contract (H : Type) (enc : TypeId × Value → H) (W : World) (base : Nat) (args : Array Value) (ds gs : List (DataW H)) (before : List MemPlace)
    (hval : ∀ (j : Nat) t v, Tryz.f7.params[j]? = some t → args[j]? = some v → Value.okWide Tryz.prog W .any base t v)
    (hW : DataW.Whole enc Tryz.prog Tryz.f7.params.toList Rows.hostPatternsSpec.vars false W args.toList ds gs before) (hL : laidMetH Tryz.prog Rows.hostPatternsRow.laid W) (hsh : W.ShapedOpen Tryz.prog) :
    Calls Tryz.prog 7 args W fun e W' => ∃ v, e = .returned v ∧ Rows.hostPatternsSpec.post enc Tryz.prog Tryz.f7 false true false false W args v W' := by
 have hW' := hW
 obtain ⟨p, q, hA, hV, rfl, hfz, hnd⟩ := hW
 rw [Tryz.params7] at hA hval
 obtain ⟨v0, vs0, d0, ds0, p0, q0, hargs, rfl, rfl, h0, r0⟩ := trodAll_cons hA
 obtain ⟨v1, vs1, d1, ds1, p1, q1, rfl, rfl, rfl, h1, r1⟩ := trodAll_cons r0
 obtain ⟨rfl, rfl, rfl⟩ := trodAll_nil r1
 obtain rfl : args = #[v0, v1] := by cases args; simp_all
 obtain ⟨rfl, rfl⟩ := trodVars_none hV
 refine law_post errLaidOut ?_ (by rfl) Tryz.underlying4 rfl hW' rfl rfl rfl ?_
 · rw [Tryz.params7]
   intro t ht
   simp at ht
   rcases ht with rfl | rfl <;> exact ⟨by kernel_rfl, of_decide_eq_true (by kernel_rfl)⟩
 · obtain ⟨s0, c0, _, _⟩ := (opens_str Tryz.underlying9).one h0
   obtain ⟨x0, rfl⟩ := okWide_string Tryz.underlying9 (hval 0 _ v0 rfl rfl)
   cases c0.one.str_inv
   obtain ⟨a1, c1, _, _⟩ := opensPat.one h1
   obtain rfl := valPat (hval 1 _ v1 rfl rfl) c1
   exact hostPatterns_any _ _ _ W (hsEnv_of hL hsh)
def wit : Array Value := #[.string ⟨#[]⟩, .agg #[.bool false, .string ⟨#[]⟩]]
theorem laid_met (os : Os) : laidMetH Tryz.prog Rows.hostPatternsRow.laid ((hsWorld os).forCall (fun _ _ => 0) ⟨#[], wit, []⟩).memory :=
 hsWorld_met os wit
theorem reads (os : Os) {H : Type} (enc : TypeId × Value → H) : ∃ places, DataW.whole enc Tryz.prog ((hsWorld os).forCall (fun _ _ => 0) ⟨#[], wit, []⟩).memory Tryz.f7.params.toList Rows.hostPatternsSpec.vars false wit.toList 8 = some ([.lit (.string []), .agg [.lit (.bool false), .lit (.string [])]], [], places) :=
 ⟨[], by kernel_rfl⟩
theorem lifted (os : Os) (started : os.Started) (H : Type) (enc : TypeId × Value → H) (F : Stop.Interp) :
    ReturnsInHanded {} Tryz.checked os 7 .any ((OpenSpec.ofChange Rows.hostPatternsSpec).preRow enc Tryz.prog Tryz.f7 Rows.hostPatternsRow.domain false Rows.hostPatternsRow.laid) (((OpenSpec.ofChange Rows.hostPatternsSpec).at F).post enc Tryz.prog Tryz.f7 false true false false) := by
 obtain ⟨places, hx⟩ := reads os enc
 refine returnsInHanded_of_row (C := Tryz.checked) (s := OpenSpec.ofChange Rows.hostPatternsSpec) errOwn started (by kernel_rfl) Tryz.func7
  (witness_row_at (enc := enc) (C := Tryz.checked) false (hsWorld os) wit rfl (by kernel_rfl) (by kernel_rfl) (by kernel_rfl)
    (OpenSpec.preRow_of_cond 8 hx (by kernel_rfl) (fun k hk => by cases hk) (by kernel_rfl) (laid_met os))) ?_
 intro W base args ds gs before hval hW _ _ _ hL hsh _
 exact contract H enc W base args ds gs before hval hW hL hsh
theorem both {a b : Bool} (h1 : a = true) (h2 : b = true) : (a && b) = true := by rw [h1, h2]; rfl
theorem closed : joinedFacts Tryz.pinned.checked.prog 7 Tryz.f7 (OpenSpec.ofChange Rows.hostPatternsSpec).bare Rows.hostPatternsRow = true := by
 unfold joinedFacts
 repeat' (with_reducible refine both ?_ ?_)
 all_goals (as_aux_lemma => kernel_rfl)
theorem said : Rows.HostPatternsSaid :=
 OpenClaim.holds_of_cond 7 Tryz.f7 rfl rfl rfl rfl rfl rfl rfl ⟨rfl, rfl, rfl, rfl, rfl⟩ rfl rfl rfl rfl rfl (by kernel_rfl) Tryz.func7 closed
  (of_decide_eq_true (by kernel_rfl)) (by unfold Func.isWrapper; first | (rw [if_pos (by decide +kernel)]; kernel_rfl) | (rw [if_neg (by decide +kernel)]; exact ⟨rfl, rfl⟩))
  (fun os started H enc _ F => by rw [OpenClaim.pre_eq_preRow]; exact lifted os started H enc F)
theorem plain (f : FuncId) (fn : Func) (hf : Tryz.pinned.checked.prog.funcNamed "waybill/waybilllaw13.HostPatterns" = some f) (hfn : Tryz.pinned.checked.prog.funcs[f]? = some fn) :
    true = Tryz.pinned.checked.prog.looks [] ∧ ∀ (j : Nat) t, fn.params[j]? = some t → Tryz.pinned.checked.prog.wantsStandIn t = false := by
 obtain rfl : f = 7 := Option.some.inj ((show Tryz.prog.funcNamed "waybill/waybilllaw13.HostPatterns" = some 7 by kernel_rfl).symm.trans hf) |>.symm
 obtain rfl : fn = Tryz.f7 := (Option.some.inj (Tryz.func7.symm.trans hfn)).symm
 refine ⟨by kernel_rfl, fun j t ht => ?_⟩
 rw [Tryz.params7] at ht
 have hm := Array.mem_of_getElem? ht
 simp at hm
 rcases hm with rfl | rfl
 · exact (show Tryz.prog.wantsStandIn 9 = false by kernel_rfl)
 · exact (show Tryz.prog.wantsStandIn 33 = false by kernel_rfl)
theorem card : Rows.HostPatternsCardSaid :=
 Claim7.holds_tied_plain_at .later [] _ _ _ _ said (fun _ h => by cases h) (by kernel_rfl) (fun _ h => by cases h) hostPatterns_row_tie rfl ⟨rfl, rfl⟩ (by kernel_rfl) rfl plain (by kernel_rfl)
end Go.Proofs.YtbeodjipdpcaiaaGreatDoor.HostPatterns
