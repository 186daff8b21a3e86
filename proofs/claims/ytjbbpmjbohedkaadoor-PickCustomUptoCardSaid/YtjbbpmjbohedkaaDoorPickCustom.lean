/- PickCustom answers true at every input whose arguments, with the tables that it reads, are together of bulk at most 1048576. Conditions: the tables of the package pick hold what the program's text lays (tied by the given card). -/
import Derived.Test.YtjbbpmjbohedkaaDoorCards
import Derived.Test.YtjbbpmjbohedkaaDoorTie
import Derived.Test.YtjbbpmjbohedkaaDoorPickLaid
import Derived.Lib.SmallJoins
namespace Go.Proofs.YtjbbpmjbohedkaaDoor
open Go.RowKit Go.ChangeShapes Go.WideShapes
section
variable {H : Type} {enc : TypeId × Value → H} {W : World}
theorem opensStrs : Opens enc Tryd.prog W 0 (fun _ => true) true 22 (List ByteArray) (fun xs => [.list 1 (xs.flatMap fun s => [.str s])]) (fun xs => xs.length ≤ maxLen ∧ ∀ x ∈ xs, x.size ≤ maxLen) (fun xs => (xs.map fun s => s.size + 1).sum + 1) :=
  opens_slice Tryd.underlying22 (by kernel_rfl) (by decide) (fun _ => rfl) (opens_str Tryd.underlying9)
theorem flat_str (xs : List ByteArray) : (xs.flatMap fun s => [Dat.str s]) = xs.map .str := by
  induction xs with
  | nil => rfl
  | cons x xs ih => simp [ih]
theorem opensAnswer : Opens enc Tryd.prog W 0 (fun _ => true) true 24 (Int × List ByteArray × Int × Unit) (fun a => [.int .i64 a.1] ++ ([.list 1 (a.2.1.flatMap fun s => [.str s])] ++ ([.int .i64 a.2.2.1] ++ []))) (fun _ => True) (fun a => lensB a.2.1) :=
  Opens.map (opens_struct Tryd.underlying24 (tot := 1 + (1 + (1 + 0))) (by kernel_rfl) (opensF_cons rfl (by kernel_rfl) (opens_int Tryd.underlying3) (opensF_cons rfl (by kernel_rfl) opensStrs (opensF_cons rfl (by kernel_rfl) (opens_int Tryd.underlying3) opensF_nil)))) id (fun _ => rfl) (fun _ _ => trivial) (fun a => by simp only [id, lensB]; omega)
end
theorem len_le_lens : ∀ ss : List ByteArray, ss.length ≤ (ss.map fun s => s.size + 1).sum
  | [] => by simp
  | x :: xs => by have := len_le_lens xs; simp only [List.length_cons, List.map_cons, List.sum_cons]; omega
set_option maxRecDepth 100000 in
theorem pickCustom_contract (H : Type) (enc : TypeId × Value → H) (W : World) (base : Nat) (args : Array Value) (ds gs : List (DataW H)) (before : List MemPlace)
    (hval : ∀ (j : Nat) t v, Tryd.f3.params[j]? = some t → args[j]? = some v → Value.okWide Tryd.prog W .any base t v)
    (hW : DataW.Whole enc Tryd.prog Tryd.f3.params.toList Rows.pickCustomSpec.vars false W args.toList ds gs before) (hL : laidMetH Tryd.prog Rows.pickCustomRow.laid W)
    (hbk : Rows.uptoBulkAll (ds ++ gs) ≤ 1048576) :
    Calls Tryd.prog 3 args W fun e W' => ∃ v, e = .returned v ∧ Rows.pickCustomSpec.post enc Tryd.prog Tryd.f3 false true false false W args v W' := by
  have hW' := hW
  obtain ⟨p, q, hA, hV, rfl, hfz, hnd⟩ := hW
  rw [Tryd.params3] at hA hval
  obtain ⟨v0, vs0, d0, ds0, p0, q0, hargs, rfl, rfl, h0, r0⟩ := trodAll_cons hA
  obtain ⟨v1, vs1, d1, ds1, p1, q1, rfl, rfl, rfl, h1, r1⟩ := trodAll_cons r0
  obtain ⟨rfl, rfl, rfl⟩ := trodAll_nil r1
  obtain rfl : args = #[v0, v1] := by cases args; simp_all
  obtain ⟨rfl, rfl⟩ := trodVars_none hV
  obtain ⟨a0, c0, ⟨l0, _⟩, b0⟩ := opensStrs.one h0
  obtain ⟨a1, c1, _, b1⟩ := opensAnswer.one h1
  obtain ⟨k, ss, r, _⟩ := a1
  rw [flat_str] at c0 c1
  obtain ⟨ao, n, c, rfl⟩ := okWide_slice Tryd.underlying22 (hval 0 _ v0 rfl rfl)
  obtain ⟨cs, rfl, hcs⟩ := okWide_struct Tryd.underlying24 (hval 1 _ v1 rfl rfl)
  obtain ⟨x, y, z, rfl⟩ := Joins.array3 (hcs.trans (show Tryd.prog.cellsOf 24 = 3 by kernel_rfl))
  obtain ⟨ex, ey, ez⟩ := Rds.three c1
  obtain rfl := ex.int_inv
  obtain rfl := ez.int_inv
  simp only [Rows.uptoBulkAll, List.append_nil, List.cons_append, List.nil_append] at hbk
  have e0 : lensB ss = (ss.map (fun s => s.size + 1)).sum := rfl
  have hl0 := len_le_lens a0
  have hl1 : ss.length ≤ lensB ss := len_le_lens ss
  simp only at b0 b1
  refine law_post laidOut ?_ (by rfl) Tryd.underlying4 rfl hW' rfl rfl rfl ?_
  · rw [Tryd.params3]
    intro t ht
    simp at ht
    rcases ht with rfl | rfl <;> exact ⟨by kernel_rfl, of_decide_eq_true (by kernel_rfl)⟩
  · exact pickCustom_any _ y a0 ss k r W (tables_of hL) (tables_of hL).size c0.one ey (by omega) (by omega) (by omega)

/-- An input for the witness: a nil slice, an answer of zeroes. -/
def wit : Array Value := #[.slice none 0 0, .agg #[.int .i64 0, .slice none 0 0, .int .i64 0]]
theorem laid_met (os : Os) : laidMet Tryd.prog Rows.pickCustomUptoRow.laid ((laidWorld os).forCall (fun _ _ => 0) ⟨#[], wit, []⟩).memory :=
  laidMet_of_run' 8 (by kernel_rfl) (by kernel_rfl)
theorem reads (os : Os) {H : Type} (enc : TypeId × Value → H) : ∃ places, DataW.whole enc Tryd.prog ((laidWorld os).forCall (fun _ _ => 0) ⟨#[], wit, []⟩).memory Tryd.f3.params.toList Rows.pickCustomSpec.vars false wit.toList 8 = some ([.nil, .agg [.lit (.int .i64 0), .nil, .lit (.int .i64 0)]], [], places) :=
  ⟨[], by kernel_rfl⟩
set_option maxRecDepth 100000 in
theorem lifted (os : Os) (started : os.Started) (H : Type) (enc : TypeId × Value → H) (F : Stop.Interp) :
    ReturnsInHanded {} Tryd.checked os 3 .any ((Rows.OpenSpec.upto Rows.pickCustomSpec).preRow enc Tryd.prog Tryd.f3 Rows.pickCustomUptoRow.domain false Rows.pickCustomUptoRow.laid) (((Rows.OpenSpec.upto Rows.pickCustomSpec).at F).post enc Tryd.prog Tryd.f3 false true false false) := by
  obtain ⟨places, hx⟩ := reads os enc
  refine returnsInHanded_of_row (C := Tryd.checked) (s := Rows.OpenSpec.upto Rows.pickCustomSpec) own started (by kernel_rfl) Tryd.func3
    (witness_row_at (enc := enc) (C := Tryd.checked) false (laidWorld os) wit rfl (by kernel_rfl) (by kernel_rfl) (by kernel_rfl)
      (OpenSpec.preRow_of_cond 8 hx (by kernel_rfl) (fun k hk => by cases hk; kernel_rfl) (by kernel_rfl) (laid_met os))) ?_
  intro W base args ds gs before hval hW _ hcond _ hL hsh _
  have hk := hcond _ rfl
  exact pickCustom_contract H enc W base args ds gs before hval hW hL (of_decide_eq_true hk)

theorem saidUpto : Rows.PickCustomUptoSaid :=
  OpenClaim.holds_of_cond 3 Tryd.f3 rfl rfl rfl rfl rfl rfl rfl ⟨rfl, rfl, rfl, rfl, rfl⟩ rfl rfl rfl rfl rfl (by kernel_rfl) Tryd.func3 (by kernel_rfl)
    (of_decide_eq_true (by kernel_rfl)) (by unfold Func.isWrapper; first | (rw [if_pos (by decide +kernel)]; kernel_rfl) | (rw [if_neg (by decide +kernel)]; exact ⟨rfl, rfl⟩))
    (fun os started H enc _ F => by rw [OpenClaim.pre_eq_preRow]; exact lifted os started H enc F)
/-- No parameter wants a stand-in; the program's own looks are off: what the card asks. -/
theorem plain (f : FuncId) (fn : Func) (hf : Tryd.pinned.checked.prog.funcNamed "waybill/waybilllaw28.PickCustom" = some f) (hfn : Tryd.pinned.checked.prog.funcs[f]? = some fn) :
    true = Tryd.pinned.checked.prog.looks [] ∧ ∀ (j : Nat) t, fn.params[j]? = some t → Tryd.pinned.checked.prog.wantsStandIn t = false := by
  obtain rfl : f = 3 := Option.some.inj ((show Tryd.prog.funcNamed "waybill/waybilllaw28.PickCustom" = some 3 by kernel_rfl).symm.trans hf) |>.symm
  obtain rfl : fn = Tryd.f3 := (Option.some.inj (Tryd.func3.symm.trans hfn)).symm
  refine ⟨by kernel_rfl, fun j t ht => ?_⟩
  rw [Tryd.params3] at ht
  have hm := Array.mem_of_getElem? ht
  simp at hm
  rcases hm with rfl | rfl
  · exact (show Tryd.prog.wantsStandIn 22 = false by kernel_rfl)
  · exact (show Tryd.prog.wantsStandIn 24 = false by kernel_rfl)
/-- THE CARD -/
theorem card : Rows.PickCustomUptoCardSaid :=
  Claim7.holds_tied_plain_at .later [] _ _ _ _ saidUpto (fun _ h => by cases h) (by kernel_rfl) (fun _ h => by cases h) pickCustomUpto_row_tie rfl ⟨rfl, rfl⟩ (by kernel_rfl) rfl plain (by kernel_rfl)
end Go.Proofs.YtjbbpmjbohedkaaDoor
