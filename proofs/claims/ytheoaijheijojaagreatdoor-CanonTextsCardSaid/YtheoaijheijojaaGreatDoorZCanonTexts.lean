/- CanonTexts answers true at every input. Conditions: the variables unicode/utf8.first, unicode/utf8.acceptRanges, scan.words and errors.errorType hold what the text of the program lays (tied by the given card). -/
import Derived.Test.YtheoaijheijojaaGreatDoorCards
import Derived.Test.YtheoaijheijojaaGreatDoorTie
import Derived.Test.YtheoaijheijojaaGreatDoorZErrLaids
import Derived.Test.YtheoaijheijojaaGreatDoorZCob6s
import Derived.Deep.DeepHandedRow
import Derived.Lib.SmallJoins
namespace Go.Proofs.YtheoaijheijojaaGreatDoor.CanonTexts
open Go.RowKit Go.ChangeShapes Go.WideShapes

theorem flatOne {α β : Type} (f : α → β) : ∀ xs : List α, (xs.flatMap fun x => [f x]) = xs.map f
  | [] => rfl
  | x :: xs => by rw [List.flatMap_cons, flatOne f xs]; rfl
section
variable {H : Type} {enc : TypeId × Value → H} {W : World}
theorem opensStrs : Opens enc Tryz.prog W 0 (fun _ => true) true 39 (List ByteArray) (fun xs => [.list 1 (xs.flatMap fun s => [.str s])]) (fun xs => xs.length ≤ maxLen ∧ ∀ x ∈ xs, x.size ≤ maxLen) (fun xs => (xs.map fun s => s.size + 1).sum + 1) :=
  opens_slice Tryz.underlying39 (by kernel_rfl) (by decide) (fun _ => rfl) (opens_str Tryz.underlying9)
end
set_option maxRecDepth 100000 in
theorem contract (H : Type) (enc : TypeId × Value → H) (W : World) (base : Nat) (args : Array Value) (ds gs : List (DataW H)) (before : List MemPlace)
    (hval : ∀ (j : Nat) t v, Tryz.f8.params[j]? = some t → args[j]? = some v → Value.okWide Tryz.prog W .any base t v)
    (hW : DataW.Whole enc Tryz.prog Tryz.f8.params.toList Rows.canonTextsSpec.vars false W args.toList ds gs before) (hL : laidMetH Tryz.prog Rows.canonTextsRow.laid W) (hsh : W.ShapedOpen Tryz.prog) :
    Calls Tryz.prog 8 args W fun e W' => ∃ v, e = .returned v ∧ Rows.canonTextsSpec.post enc Tryz.prog Tryz.f8 false true false false W args v W' := by
  have hW' := hW
  obtain ⟨p, q, hA, hV, rfl, hfz, hnd⟩ := hW
  rw [Tryz.params8] at hA hval
  obtain ⟨v0, vs0, d0, ds0, p0, q0, hargs, rfl, rfl, h0, r0⟩ := trodAll_cons hA
  obtain ⟨v1, vs1, d1, ds1, p1, q1, rfl, rfl, rfl, h1, r1⟩ := trodAll_cons r0
  obtain ⟨rfl, rfl, rfl⟩ := trodAll_nil r1
  obtain rfl : args = #[v0, v1] := by cases args; simp_all
  obtain ⟨rfl, rfl⟩ := trodVars_none hV
  refine law_post errLaidOut ?_ (by rfl) Tryz.underlying4 rfl hW' rfl rfl rfl ?_
  · rw [Tryz.params8]
    intro t ht
    simp at ht
    rcases ht with rfl <;> exact ⟨by kernel_rfl, of_decide_eq_true (by kernel_rfl)⟩
  · obtain ⟨xs0, c0, _, _⟩ := opensStrs.one h0
    obtain ⟨ao0, n0, cc0, rfl⟩ := okWide_slice Tryz.underlying39 (hval 0 _ v0 rfl rfl)
    have y0 := c0.one
    rw [flatOne] at y0
    obtain ⟨xs1, c1, _, _⟩ := opensStrs.one h1
    obtain ⟨ao1, n1, cc1, rfl⟩ := okWide_slice Tryz.underlying39 (hval 1 _ v1 rfl rfl)
    have y1 := c1.one
    rw [flatOne] at y1
    exact canonTexts_any _ _ xs0 xs1 W ⟨(scAll_of hL).1, maxT_of hsh⟩ (scAll_of hL).2 y0 y1
def wit : Array Value := #[.slice none 0 0, .slice none 0 0]
theorem laid_met (os : Os) : laidMetH Tryz.prog Rows.canonTextsRow.laid ((scWorld os).forCall (fun _ _ => 0) ⟨#[], wit, []⟩).memory :=
  scWorld_met os wit
theorem reads (os : Os) {H : Type} (enc : TypeId × Value → H) : ∃ places, DataW.whole enc Tryz.prog ((scWorld os).forCall (fun _ _ => 0) ⟨#[], wit, []⟩).memory Tryz.f8.params.toList Rows.canonTextsSpec.vars false wit.toList 8 = some ([.nil, .nil], [], places) :=
  ⟨[], by kernel_rfl⟩
set_option maxRecDepth 100000 in
theorem lifted (os : Os) (started : os.Started) (H : Type) (enc : TypeId × Value → H) (F : Stop.Interp) :
    ReturnsInHanded {} Tryz.checked os 8 .any ((OpenSpec.ofChange Rows.canonTextsSpec).preRow enc Tryz.prog Tryz.f8 Rows.canonTextsRow.domain false Rows.canonTextsRow.laid) (((OpenSpec.ofChange Rows.canonTextsSpec).at F).post enc Tryz.prog Tryz.f8 false true false false) := by
  obtain ⟨places, hx⟩ := reads os enc
  refine returnsInHanded_of_row (C := Tryz.checked) (s := OpenSpec.ofChange Rows.canonTextsSpec) errOwn started (by kernel_rfl) Tryz.func8
    (witness_row_at (enc := enc) (C := Tryz.checked) false (scWorld os) wit rfl (by kernel_rfl) (by kernel_rfl) (by kernel_rfl)
      (OpenSpec.preRow_of_cond 8 hx (by kernel_rfl) (fun k hk => by cases hk) (by kernel_rfl) (laid_met os))) ?_
  intro W base args ds gs before hval hW _ _ _ hL hsh _
  exact contract H enc W base args ds gs before hval hW hL hsh
theorem said : Rows.CanonTextsSaid :=
  OpenClaim.holds_of_cond 8 Tryz.f8 rfl rfl rfl rfl rfl rfl rfl ⟨rfl, rfl, rfl, rfl, rfl⟩ rfl rfl rfl rfl rfl (by kernel_rfl) Tryz.func8 (by kernel_rfl)
    (of_decide_eq_true (by kernel_rfl)) (by unfold Func.isWrapper; first | (rw [if_pos (by decide +kernel)]; kernel_rfl) | (rw [if_neg (by decide +kernel)]; exact ⟨rfl, rfl⟩))
    (fun os started H enc _ F => by rw [OpenClaim.pre_eq_preRow]; exact lifted os started H enc F)
/-- No parameter wants a stand-in: what the card asks. -/
theorem plain (f : FuncId) (fn : Func) (hf : Tryz.pinned.checked.prog.funcNamed "waybill/waybilllaw08.CanonTexts" = some f) (hfn : Tryz.pinned.checked.prog.funcs[f]? = some fn) :
    true = Tryz.pinned.checked.prog.looks [] ∧ ∀ (j : Nat) t, fn.params[j]? = some t → Tryz.pinned.checked.prog.wantsStandIn t = false := by
  obtain rfl : f = 8 := Option.some.inj ((show Tryz.prog.funcNamed "waybill/waybilllaw08.CanonTexts" = some 8 by kernel_rfl).symm.trans hf) |>.symm
  obtain rfl : fn = Tryz.f8 := (Option.some.inj (Tryz.func8.symm.trans hfn)).symm
  refine ⟨by kernel_rfl, fun j t ht => ?_⟩
  rw [Tryz.params8] at ht
  have hm := Array.mem_of_getElem? ht
  simp at hm
  subst hm; exact (show Tryz.prog.wantsStandIn 39 = false by kernel_rfl)
/-- THE CARD -/
theorem card : Rows.CanonTextsCardSaid :=
  Claim7.holds_tied_plain_at .later [] _ _ _ _ said (fun _ h => by cases h) (by kernel_rfl) (fun _ h => by cases h) canonTexts_row_tie rfl ⟨rfl, rfl⟩ (by kernel_rfl) rfl plain (by kernel_rfl)
end Go.Proofs.YtheoaijheijojaaGreatDoor.CanonTexts
