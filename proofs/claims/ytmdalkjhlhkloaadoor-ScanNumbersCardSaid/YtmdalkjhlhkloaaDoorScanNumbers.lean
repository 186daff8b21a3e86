/- ScanNumbers answers true at every input. Conditions: the variables unicode/utf8.first, unicode/utf8.acceptRanges and scan.words hold what the text of the program lays (tied by the given card). -/
import Derived.Test.YtmdalkjhlhkloaaDoorCards
import Derived.Test.YtmdalkjhlhkloaaDoorTie
import Derived.Test.YtmdalkjhlhkloaaDoorScLaid
import Derived.Test.YtmdalkjhlhkloaaDoorNum2
import Derived.Deep.DeepHandedRow
import Derived.Lib.SmallJoins
namespace Go.Proofs.YtmdalkjhlhkloaaDoor.ScanNumbers
open Go.RowKit Go.ChangeShapes Go.WideShapes

theorem natU32 {n : Int} (h : (Lit.int .u32 n).wf = true) : ∃ k : Nat, n = k ∧ k < 4294967296 := by
  simp [Lit.wf, IntKind.min, IntKind.max, IntKind.signed, IntKind.bits] at h
  exact ⟨n.toNat, by omega, by omega⟩
theorem natU8 {n : Int} (h : (Lit.int .u8 n).wf = true) : ∃ k : Nat, n = k ∧ k < 256 := by
  have := bounds_u8 h
  exact ⟨n.toNat, by omega, by omega⟩
set_option maxRecDepth 100000 in
theorem valU32 {W : World} {S : Nat → Prop} {v : Value} {base : Nat} {n : Int} (hv : Value.okWide Tryd.prog W .any base 44 v) (h : Rds S W v.cells.toList [.int .u32 n]) : v = .int .u32 n := by
  obtain ⟨x, rfl⟩ := okWide_int Tryd.underlying44 hv
  exact h.one.int_inv
set_option maxRecDepth 100000 in
theorem valU8 {W : World} {S : Nat → Prop} {v : Value} {base : Nat} {n : Int} (hv : Value.okWide Tryd.prog W .any base 5 v) (h : Rds S W v.cells.toList [.int .u8 n]) : v = .int .u8 n := by
  obtain ⟨x, rfl⟩ := okWide_int Tryd.underlying5 hv
  exact h.one.int_inv

set_option maxRecDepth 100000 in
theorem contract (H : Type) (enc : TypeId × Value → H) (W : World) (base : Nat) (args : Array Value) (ds gs : List (DataW H)) (before : List MemPlace)
    (hval : ∀ (j : Nat) t v, Tryd.f4.params[j]? = some t → args[j]? = some v → Value.okWide Tryd.prog W .any base t v)
    (hW : DataW.Whole enc Tryd.prog Tryd.f4.params.toList Rows.scanNumbersSpec.vars false W args.toList ds gs before) (hL : laidMetH Tryd.prog Rows.scanNumbersRow.laid W) :
    Calls Tryd.prog 4 args W fun e W' => ∃ v, e = .returned v ∧ Rows.scanNumbersSpec.post enc Tryd.prog Tryd.f4 false true false false W args v W' := by
  have hW' := hW
  obtain ⟨p, q, hA, hV, rfl, hfz, hnd⟩ := hW
  rw [Tryd.params4] at hA hval
  obtain ⟨v0, vs0, d0, ds0, p0, q0, hargs, rfl, rfl, h0, r0⟩ := trodAll_cons hA
  obtain ⟨v1, vs1, d1, ds1, p1, q1, rfl, rfl, rfl, h1, r1⟩ := trodAll_cons r0
  obtain ⟨v2, vs2, d2, ds2, p2, q2, rfl, rfl, rfl, h2, r2⟩ := trodAll_cons r1
  obtain ⟨v3, vs3, d3, ds3, p3, q3, rfl, rfl, rfl, h3, r3⟩ := trodAll_cons r2
  obtain ⟨rfl, rfl, rfl⟩ := trodAll_nil r3
  obtain rfl : args = #[v0, v1, v2, v3] := by cases args; simp_all
  obtain ⟨rfl, rfl⟩ := trodVars_none hV
  refine law_post errLaidOut ?_ (by rfl) Tryd.underlying4 rfl hW' rfl rfl rfl ?_
  · rw [Tryd.params4]
    intro t ht
    simp at ht
    rcases ht with rfl | rfl <;> exact ⟨by kernel_rfl, of_decide_eq_true (by kernel_rfl)⟩
  · obtain ⟨k0, c0, w0, _⟩ := (opens_int Tryd.underlying44).one h0
    obtain ⟨n0, rfl, b0⟩ := natU32 w0
    obtain rfl := valU32 (hval 0 _ v0 rfl rfl) c0
    obtain ⟨k1, c1, w1, _⟩ := (opens_int Tryd.underlying44).one h1
    obtain ⟨n1, rfl, b1⟩ := natU32 w1
    obtain rfl := valU32 (hval 1 _ v1 rfl rfl) c1
    obtain ⟨k2, c2, w2, _⟩ := (opens_int Tryd.underlying44).one h2
    obtain ⟨n2, rfl, b2⟩ := natU32 w2
    obtain rfl := valU32 (hval 2 _ v2 rfl rfl) c2
    obtain ⟨k3, c3, w3, _⟩ := (opens_int Tryd.underlying5).one h3
    obtain ⟨n3, rfl, b3⟩ := natU8 w3
    obtain rfl := valU8 (hval 3 _ v3 rfl rfl) c3
    exact scanNumbers_any n0 n1 n2 n3 W (scOnly_of hL) b0 b1 b2 b3
def wit : Array Value := #[.int .u32 0, .int .u32 0, .int .u32 0, .int .u8 0]
theorem laid_met (os : Os) : laidMetH Tryd.prog Rows.scanNumbersRow.laid ((scWorld os).forCall (fun _ _ => 0) ⟨#[], wit, []⟩).memory :=
  scWorld_only os wit
theorem reads (os : Os) {H : Type} (enc : TypeId × Value → H) : ∃ places, DataW.whole enc Tryd.prog ((scWorld os).forCall (fun _ _ => 0) ⟨#[], wit, []⟩).memory Tryd.f4.params.toList Rows.scanNumbersSpec.vars false wit.toList 8 = some ([.lit (.int .u32 0), .lit (.int .u32 0), .lit (.int .u32 0), .lit (.int .u8 0)], [], places) :=
  ⟨[], by kernel_rfl⟩
set_option maxRecDepth 100000 in
theorem lifted (os : Os) (started : os.Started) (H : Type) (enc : TypeId × Value → H) (F : Stop.Interp) :
    ReturnsInHanded {} Tryd.checked os 4 .any ((OpenSpec.ofChange Rows.scanNumbersSpec).preRow enc Tryd.prog Tryd.f4 Rows.scanNumbersRow.domain false Rows.scanNumbersRow.laid) (((OpenSpec.ofChange Rows.scanNumbersSpec).at F).post enc Tryd.prog Tryd.f4 false true false false) := by
  obtain ⟨places, hx⟩ := reads os enc
  refine returnsInHanded_of_row (C := Tryd.checked) (s := OpenSpec.ofChange Rows.scanNumbersSpec) errOwn started (by kernel_rfl) Tryd.func4
    (witness_row_at (enc := enc) (C := Tryd.checked) false (scWorld os) wit rfl (by kernel_rfl) (by kernel_rfl) (by kernel_rfl)
      (OpenSpec.preRow_of_cond 8 hx (by kernel_rfl) (fun k hk => by cases hk) (by kernel_rfl) (laid_met os))) ?_
  intro W base args ds gs before hval hW _ _ _ hL _ _
  exact contract H enc W base args ds gs before hval hW hL
theorem said : Rows.ScanNumbersSaid :=
  OpenClaim.holds_of_cond 4 Tryd.f4 rfl rfl rfl rfl rfl rfl rfl ⟨rfl, rfl, rfl, rfl, rfl⟩ rfl rfl rfl rfl rfl (by kernel_rfl) Tryd.func4 (by kernel_rfl)
    (of_decide_eq_true (by kernel_rfl)) (by unfold Func.isWrapper; first | (rw [if_pos (by decide +kernel)]; kernel_rfl) | (rw [if_neg (by decide +kernel)]; exact ⟨rfl, rfl⟩))
    (fun os started H enc _ F => by rw [OpenClaim.pre_eq_preRow]; exact lifted os started H enc F)
/-- No parameter wants a stand-in: what the card asks. -/
theorem plain (f : FuncId) (fn : Func) (hf : Tryd.pinned.checked.prog.funcNamed "waybill/waybilllaw06.ScanNumbers" = some f) (hfn : Tryd.pinned.checked.prog.funcs[f]? = some fn) :
    true = Tryd.pinned.checked.prog.looks [] ∧ ∀ (j : Nat) t, fn.params[j]? = some t → Tryd.pinned.checked.prog.wantsStandIn t = false := by
  obtain rfl : f = 4 := Option.some.inj ((show Tryd.prog.funcNamed "waybill/waybilllaw06.ScanNumbers" = some 4 by kernel_rfl).symm.trans hf) |>.symm
  obtain rfl : fn = Tryd.f4 := (Option.some.inj (Tryd.func4.symm.trans hfn)).symm
  refine ⟨by kernel_rfl, fun j t ht => ?_⟩
  rw [Tryd.params4] at ht
  have hm := Array.mem_of_getElem? ht
  simp at hm
  rcases hm with rfl | rfl
  · exact (show Tryd.prog.wantsStandIn 44 = false by kernel_rfl)
  · exact (show Tryd.prog.wantsStandIn 5 = false by kernel_rfl)
/-- THE CARD -/
theorem card : Rows.ScanNumbersCardSaid :=
  Claim7.holds_tied_plain_at .later [] _ _ _ _ said (fun _ h => by cases h) (by kernel_rfl) (fun _ h => by cases h) scanNumbers_row_tie rfl ⟨rfl, rfl⟩ (by kernel_rfl) rfl plain (by kernel_rfl)
end Go.Proofs.YtmdalkjhlhkloaaDoor.ScanNumbers
