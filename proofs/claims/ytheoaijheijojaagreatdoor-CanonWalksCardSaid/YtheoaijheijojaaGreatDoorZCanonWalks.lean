/- CanonWalks answers true at every input. Conditions: the variables unicode/utf8.first, unicode/utf8.acceptRanges and scan.words hold what the text of the program lays (tied by the given card). -/
import Derived.Test.YtheoaijheijojaaGreatDoorZMore
import Derived.Test.YtheoaijheijojaaGreatDoorCards
import Derived.Test.YtheoaijheijojaaGreatDoorTie
import Derived.Test.YtheoaijheijojaaGreatDoorZLibErr
import Derived.Test.YtheoaijheijojaaGreatDoorZCpw1s
import Derived.Deep.DeepHandedRow
import Derived.Lib.SmallJoins
namespace Go.Proofs.YtheoaijheijojaaGreatDoor.CanonWalks
open Go.RowKit Go.ChangeShapes Go.WideShapes

theorem bytesB : ∀ xs : List Int, (∀ x ∈ xs, (Lit.int .u8 x).wf = true) → ∃ B : ByteArray, B.size = xs.length ∧ (xs.flatMap fun n => [Dat.int .u8 n]) = byD B
  | [], _ => ⟨⟨#[]⟩, rfl, rfl⟩
  | x :: xs, h => by
    obtain ⟨B, h1, h2⟩ := bytesB xs (fun y hy => h y (List.mem_cons_of_mem _ hy))
    have hb := bounds_u8 (h x (by simp))
    refine ⟨⟨#[UInt8.ofNat x.toNat]⟩ ++ B, by rw [ByteArray.size_append, h1, List.length_cons]; exact Nat.add_comm 1 _, ?_⟩
    rw [List.flatMap_cons, h2, byD_app]
    congr 1
    have : (UInt8.ofNat x.toNat).toNat = x.toNat := by simp; omega
    simp only [byD]
    rw [List.map_cons, List.map_nil, this, Int.toNat_of_nonneg hb.1]
section
variable {H : Type} {enc : TypeId × Value → H} {W : World}
theorem opensBytes : Opens enc Tryz.prog W 0 (fun _ => true) true 22 (List Int) (fun xs => [.list 1 (xs.flatMap fun n => [.int .u8 n])]) (fun xs => xs.length ≤ maxLen ∧ ∀ x ∈ xs, (Lit.int .u8 x).wf = true) (fun xs => (xs.map fun _ => 1).sum + 1) :=
  opens_slice Tryz.underlying22 (by kernel_rfl) (by decide) (fun _ => rfl) (opens_int Tryz.underlying5)
end
set_option maxRecDepth 100000 in
theorem valI64 {W : World} {S : Nat → Prop} {v : Value} {base : Nat} {n : Int} (hv : Value.okWide Tryz.prog W .any base 3 v) (h : Rds S W v.cells.toList [.int .i64 n]) : v = .int .i64 n := by
  obtain ⟨x, rfl⟩ := okWide_int Tryz.underlying3 hv
  exact h.one.int_inv

set_option maxRecDepth 100000 in
theorem contract (H : Type) (enc : TypeId × Value → H) (W : World) (base : Nat) (args : Array Value) (ds gs : List (DataW H)) (before : List MemPlace)
    (hval : ∀ (j : Nat) t v, Tryz.f4.params[j]? = some t → args[j]? = some v → Value.okWide Tryz.prog W .any base t v)
    (hW : DataW.Whole enc Tryz.prog Tryz.f4.params.toList Rows.canonWalksSpec.vars false W args.toList ds gs before) (hL : laidMetH Tryz.prog Rows.canonWalksRow.laid W) (hsh : W.ShapedOpen Tryz.prog) :
    Calls Tryz.prog 4 args W fun e W' => ∃ v, e = .returned v ∧ Rows.canonWalksSpec.post enc Tryz.prog Tryz.f4 false true false false W args v W' := by
  have hW' := hW
  obtain ⟨p, q, hA, hV, rfl, hfz, hnd⟩ := hW
  rw [Tryz.params4] at hA hval
  obtain ⟨v0, vs0, d0, ds0, p0, q0, hargs, rfl, rfl, h0, r0⟩ := trodAll_cons hA
  obtain ⟨v1, vs1, d1, ds1, p1, q1, rfl, rfl, rfl, h1, r1⟩ := trodAll_cons r0
  obtain ⟨rfl, rfl, rfl⟩ := trodAll_nil r1
  obtain rfl : args = #[v0, v1] := by cases args; simp_all
  obtain ⟨rfl, rfl⟩ := trodVars_none hV
  refine law_post errLaidOut ?_ (by rfl) Tryz.underlying4 rfl hW' rfl rfl rfl ?_
  · rw [Tryz.params4]
    intro t ht
    simp at ht
    rcases ht with rfl | rfl <;> exact ⟨by kernel_rfl, of_decide_eq_true (by kernel_rfl)⟩
  · obtain ⟨xs0, c0, ⟨hl0, hx0⟩, _⟩ := opensBytes.one h0
    obtain ⟨ao0, n0, cc0, rfl⟩ := okWide_slice Tryz.underlying22 (hval 0 _ v0 rfl rfl)
    obtain ⟨B0, hs0, he0⟩ := bytesB xs0 hx0
    have y0 := c0.one
    rw [he0] at y0
    rw [← hs0] at hl0
    obtain ⟨k1, c1, w1, _⟩ := (opens_int Tryz.underlying3).one h1
    obtain rfl := valI64 (hval 1 _ v1 rfl rfl) c1
    exact canonWalks_any _ B0 k1 W ⟨scOnly_of hL, maxT_of hsh⟩ y0
def wit : Array Value := #[.slice none 0 0, .int .i64 0]
theorem laid_met (os : Os) : laidMetH Tryz.prog Rows.canonWalksRow.laid ((scWorld os).forCall (fun _ _ => 0) ⟨#[], wit, []⟩).memory :=
  scWorld_only os wit
theorem reads (os : Os) {H : Type} (enc : TypeId × Value → H) : ∃ places, DataW.whole enc Tryz.prog ((scWorld os).forCall (fun _ _ => 0) ⟨#[], wit, []⟩).memory Tryz.f4.params.toList Rows.canonWalksSpec.vars false wit.toList 8 = some ([.nil, .lit (.int .i64 0)], [], places) :=
  ⟨[], by kernel_rfl⟩
set_option maxRecDepth 100000 in
theorem lifted (os : Os) (started : os.Started) (H : Type) (enc : TypeId × Value → H) (F : Stop.Interp) :
    ReturnsInHanded {} Tryz.checked os 4 .any ((OpenSpec.ofChange Rows.canonWalksSpec).preRow enc Tryz.prog Tryz.f4 Rows.canonWalksRow.domain false Rows.canonWalksRow.laid) (((OpenSpec.ofChange Rows.canonWalksSpec).at F).post enc Tryz.prog Tryz.f4 false true false false) := by
  obtain ⟨places, hx⟩ := reads os enc
  refine returnsInHanded_of_row (C := Tryz.checked) (s := OpenSpec.ofChange Rows.canonWalksSpec) errOwn started (by kernel_rfl) Tryz.func4
    (witness_row_at (enc := enc) (C := Tryz.checked) false (scWorld os) wit rfl (by kernel_rfl) (by kernel_rfl) (by kernel_rfl)
      (OpenSpec.preRow_of_cond 8 hx (by kernel_rfl) (fun k hk => by cases hk) (by kernel_rfl) (laid_met os))) ?_
  intro W base args ds gs before hval hW _ _ _ hL hsh _
  exact contract H enc W base args ds gs before hval hW hL hsh
theorem said : Rows.CanonWalksSaid :=
  OpenClaim.holds_of_cond 4 Tryz.f4 rfl rfl rfl rfl rfl rfl rfl ⟨rfl, rfl, rfl, rfl, rfl⟩ rfl rfl rfl rfl rfl (by kernel_rfl) Tryz.func4 (by kernel_rfl)
    (of_decide_eq_true (by kernel_rfl)) (by unfold Func.isWrapper; first | (rw [if_pos (by decide +kernel)]; kernel_rfl) | (rw [if_neg (by decide +kernel)]; exact ⟨rfl, rfl⟩))
    (fun os started H enc _ F => by rw [OpenClaim.pre_eq_preRow]; exact lifted os started H enc F)
/-- No parameter wants a stand-in: what the card asks. -/
theorem plain (f : FuncId) (fn : Func) (hf : Tryz.pinned.checked.prog.funcNamed "waybill/waybilllaw08.CanonWalks" = some f) (hfn : Tryz.pinned.checked.prog.funcs[f]? = some fn) :
    true = Tryz.pinned.checked.prog.looks [] ∧ ∀ (j : Nat) t, fn.params[j]? = some t → Tryz.pinned.checked.prog.wantsStandIn t = false := by
  obtain rfl : f = 4 := Option.some.inj ((show Tryz.prog.funcNamed "waybill/waybilllaw08.CanonWalks" = some 4 by kernel_rfl).symm.trans hf) |>.symm
  obtain rfl : fn = Tryz.f4 := (Option.some.inj (Tryz.func4.symm.trans hfn)).symm
  refine ⟨by kernel_rfl, fun j t ht => ?_⟩
  rw [Tryz.params4] at ht
  have hm := Array.mem_of_getElem? ht
  simp at hm
  rcases hm with rfl | rfl
  · exact (show Tryz.prog.wantsStandIn 22 = false by kernel_rfl)
  · exact (show Tryz.prog.wantsStandIn 3 = false by kernel_rfl)
/-- THE CARD -/
theorem card : Rows.CanonWalksCardSaid :=
  Claim7.holds_tied_plain_at .later [] _ _ _ _ said (fun _ h => by cases h) (by kernel_rfl) (fun _ h => by cases h) canonWalks_row_tie rfl ⟨rfl, rfl⟩ (by kernel_rfl) rfl plain (by kernel_rfl)
end Go.Proofs.YtheoaijheijojaaGreatDoor.CanonWalks
