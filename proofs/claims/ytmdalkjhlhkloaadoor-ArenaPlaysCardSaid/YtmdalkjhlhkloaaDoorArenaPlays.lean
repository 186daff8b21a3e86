/- ArenaPlays answers true at every input. Conditions: the variable errors.errorType holds what its initialiser lays (tied by the given card). -/
import Derived.Test.YtmdalkjhlhkloaaDoorCards
import Derived.Test.YtmdalkjhlhkloaaDoorTie
import Derived.Test.YtmdalkjhlhkloaaDoorErrLaid
import Derived.Test.YtmdalkjhlhkloaaDoorArena23
import Derived.Deep.DeepHandedRow
import Derived.Lib.SmallJoins
namespace Go.Proofs.YtmdalkjhlhkloaaDoor.ArenaPlays
open Go.RowKit Go.ChangeShapes Go.WideShapes

set_option maxRecDepth 100000 in
theorem valI64 {W : World} {S : Nat → Prop} {v : Value} {base : Nat} {n : Int} (hv : Value.okWide Tryd.prog W .any base 3 v) (h : Rds S W v.cells.toList [.int .i64 n]) : v = .int .i64 n := by
  obtain ⟨x, rfl⟩ := okWide_int Tryd.underlying3 hv
  exact h.one.int_inv
section
variable {H : Type} {enc : TypeId × Value → H} {W : World}
theorem opensOp : Opens enc Tryd.prog W 0 (fun _ => true) true 31 AOp opD (fun _ => True) (fun _ => 0) :=
  Opens.map (opens_struct Tryd.underlying31 (tot := 1 + (1 + (1 + 0))) (by kernel_rfl) (opensF_cons rfl (by kernel_rfl) (opens_int Tryd.underlying3) (opensF_cons rfl (by kernel_rfl) (opens_int Tryd.underlying3) (opensF_cons rfl (by kernel_rfl) (opens_bool Tryd.underlying4) opensF_nil)))) (fun a => (⟨a.1, a.2.1, a.2.2.1⟩ : AOp)) (fun _ => rfl) (fun _ _ => trivial) (fun _ => Nat.zero_le _)
theorem opensOps : Opens enc Tryd.prog W 0 (fun _ => true) true 22 (List AOp) (fun xs => [.list 3 (xs.flatMap opD)]) (fun xs => xs.length ≤ maxLen ∧ ∀ x ∈ xs, True) (fun xs => (xs.map fun _ => 0).sum + 1) :=
  opens_slice Tryd.underlying22 (by kernel_rfl) (by decide) (fun _ => rfl) opensOp
end

set_option maxRecDepth 100000 in
theorem contract (H : Type) (enc : TypeId × Value → H) (W : World) (base : Nat) (args : Array Value) (ds gs : List (DataW H)) (before : List MemPlace)
    (hval : ∀ (j : Nat) t v, Tryd.f3.params[j]? = some t → args[j]? = some v → Value.okWide Tryd.prog W .any base t v)
    (hW : DataW.Whole enc Tryd.prog Tryd.f3.params.toList Rows.arenaPlaysSpec.vars false W args.toList ds gs before) (hL : laidMetH Tryd.prog Rows.arenaPlaysRow.laid W) :
    Calls Tryd.prog 3 args W fun e W' => ∃ v, e = .returned v ∧ Rows.arenaPlaysSpec.post enc Tryd.prog Tryd.f3 false true false false W args v W' := by
  have hW' := hW
  obtain ⟨p, q, hA, hV, rfl, hfz, hnd⟩ := hW
  rw [Tryd.params3] at hA hval
  obtain ⟨v0, vs0, d0, ds0, p0, q0, hargs, rfl, rfl, h0, r0⟩ := trodAll_cons hA
  obtain ⟨v1, vs1, d1, ds1, p1, q1, rfl, rfl, rfl, h1, r1⟩ := trodAll_cons r0
  obtain ⟨v2, vs2, d2, ds2, p2, q2, rfl, rfl, rfl, h2, r2⟩ := trodAll_cons r1
  obtain ⟨rfl, rfl, rfl⟩ := trodAll_nil r2
  obtain rfl : args = #[v0, v1, v2] := by cases args; simp_all
  obtain ⟨rfl, rfl⟩ := trodVars_none hV
  refine law_post errLaidOut ?_ (by rfl) Tryd.underlying4 rfl hW' rfl rfl rfl ?_
  · rw [Tryd.params3]
    intro t ht
    simp at ht
    rcases ht with rfl | rfl | rfl <;> exact ⟨by kernel_rfl, of_decide_eq_true (by kernel_rfl)⟩
  · obtain ⟨k0, c0, _, _⟩ := (opens_int Tryd.underlying3).one h0
    obtain rfl := valI64 (hval 0 _ v0 rfl rfl) c0
    obtain ⟨xs1, c1, _, _⟩ := opensOps.one h1
    obtain ⟨ao1, n1, cc1, rfl⟩ := okWide_slice Tryd.underlying22 (hval 1 _ v1 rfl rfl)
    obtain ⟨k2, c2, _, _⟩ := (opens_int Tryd.underlying3).one h2
    obtain rfl := valI64 (hval 2 _ v2 rfl rfl) c2
    exact arenaPlays_any k0 _ xs1 k2 W (glob_of_laid hL) c1.one
def wit : Array Value := #[.int .i64 0, .slice none 0 0, .int .i64 0]
theorem laid_met (os : Os) : laidMetH Tryd.prog Rows.arenaPlaysRow.laid ((errWorld os).forCall (fun _ _ => 0) ⟨#[], wit, []⟩).memory :=
  errWorld_met os wit
theorem reads (os : Os) {H : Type} (enc : TypeId × Value → H) : ∃ places, DataW.whole enc Tryd.prog ((errWorld os).forCall (fun _ _ => 0) ⟨#[], wit, []⟩).memory Tryd.f3.params.toList Rows.arenaPlaysSpec.vars false wit.toList 8 = some ([.lit (.int .i64 0), .nil, .lit (.int .i64 0)], [], places) :=
  ⟨[], by kernel_rfl⟩
set_option maxRecDepth 100000 in
theorem lifted (os : Os) (started : os.Started) (H : Type) (enc : TypeId × Value → H) (F : Stop.Interp) :
    ReturnsInHanded {} Tryd.checked os 3 .any ((OpenSpec.ofChange Rows.arenaPlaysSpec).preRow enc Tryd.prog Tryd.f3 Rows.arenaPlaysRow.domain false Rows.arenaPlaysRow.laid) (((OpenSpec.ofChange Rows.arenaPlaysSpec).at F).post enc Tryd.prog Tryd.f3 false true false false) := by
  obtain ⟨places, hx⟩ := reads os enc
  refine returnsInHanded_of_row (C := Tryd.checked) (s := OpenSpec.ofChange Rows.arenaPlaysSpec) errOwn started (by kernel_rfl) Tryd.func3
    (witness_row_at (enc := enc) (C := Tryd.checked) false (errWorld os) wit rfl (by kernel_rfl) (by kernel_rfl) (by kernel_rfl)
      (OpenSpec.preRow_of_cond 8 hx (by kernel_rfl) (fun k hk => by cases hk) (by kernel_rfl) (laid_met os))) ?_
  intro W base args ds gs before hval hW _ _ _ hL _ _
  exact contract H enc W base args ds gs before hval hW hL
theorem said : Rows.ArenaPlaysSaid :=
  OpenClaim.holds_of_cond 3 Tryd.f3 rfl rfl rfl rfl rfl rfl rfl ⟨rfl, rfl, rfl, rfl, rfl⟩ rfl rfl rfl rfl rfl (by kernel_rfl) Tryd.func3 (by kernel_rfl)
    (of_decide_eq_true (by kernel_rfl)) (by unfold Func.isWrapper; first | (rw [if_pos (by decide +kernel)]; kernel_rfl) | (rw [if_neg (by decide +kernel)]; exact ⟨rfl, rfl⟩))
    (fun os started H enc _ F => by rw [OpenClaim.pre_eq_preRow]; exact lifted os started H enc F)
/-- No parameter wants a stand-in: what the card asks. -/
theorem plain (f : FuncId) (fn : Func) (hf : Tryd.pinned.checked.prog.funcNamed "waybill/waybilllaw05.ArenaPlays" = some f) (hfn : Tryd.pinned.checked.prog.funcs[f]? = some fn) :
    true = Tryd.pinned.checked.prog.looks [] ∧ ∀ (j : Nat) t, fn.params[j]? = some t → Tryd.pinned.checked.prog.wantsStandIn t = false := by
  obtain rfl : f = 3 := Option.some.inj ((show Tryd.prog.funcNamed "waybill/waybilllaw05.ArenaPlays" = some 3 by kernel_rfl).symm.trans hf) |>.symm
  obtain rfl : fn = Tryd.f3 := (Option.some.inj (Tryd.func3.symm.trans hfn)).symm
  refine ⟨by kernel_rfl, fun j t ht => ?_⟩
  rw [Tryd.params3] at ht
  have hm := Array.mem_of_getElem? ht
  simp at hm
  rcases hm with rfl | rfl | rfl
  · exact (show Tryd.prog.wantsStandIn 3 = false by kernel_rfl)
  · exact (show Tryd.prog.wantsStandIn 22 = false by kernel_rfl)
  · exact (show Tryd.prog.wantsStandIn 3 = false by kernel_rfl)
/-- THE CARD -/
theorem card : Rows.ArenaPlaysCardSaid :=
  Claim7.holds_tied_plain_at .later [] _ _ _ _ said (fun _ h => by cases h) (by kernel_rfl) (fun _ h => by cases h) arenaPlays_row_tie rfl ⟨rfl, rfl⟩ (by kernel_rfl) rfl plain (by kernel_rfl)
end Go.Proofs.YtmdalkjhlhkloaaDoor.ArenaPlays
