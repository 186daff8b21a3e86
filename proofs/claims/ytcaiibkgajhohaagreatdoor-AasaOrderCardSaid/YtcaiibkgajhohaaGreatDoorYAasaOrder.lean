/- AasaOrder answers true at every input. Conditions: the variables unicode/utf8.first, unicode/utf8.acceptRanges, scan.words and subst.classes hold what the text of the program lays (tied by the given card). -/
import Derived.Test.YtcaiibkgajhohaaGreatDoorYAsJ5f
import Derived.Test.YtcaiibkgajhohaaGreatDoorYAsJ8f
import Derived.Test.YtcaiibkgajhohaaGreatDoorCards
import Derived.Test.YtcaiibkgajhohaaGreatDoorTie
import Derived.Deep.DeepHandedRow
import Derived.Lib.SmallJoins
namespace Go.Proofs.YtcaiibkgajhohaaGreatDoor.AasaOrder
open Go.RowKit Go.ChangeShapes Go.WideShapes

theorem bytesB : ∀ xs : List Int, (∀ x ∈ xs, (Lit.int .u8 x).wf = true) → ∃ B : ByteArray, B.size = xs.length ∧ (xs.flatMap fun n => [Dat.int .u8 n]) = byD B
 | [], _ => ⟨⟨#[]⟩, rfl, rfl⟩
 | x :: xs, h => by
   obtain ⟨B, h1, h2⟩ := bytesB xs (fun y hy => h y (List.mem_cons_of_mem _ hy))
   have hb := bounds_u8 (h x (by simp))
   refine ⟨⟨#[UInt8.ofNat x.toNat]⟩ ++ B, by rw [ByteArray.size_append, h1, List.length_cons]; exact Nat.add_comm 1 _, ?_⟩
   rw [List.flatMap_cons, h2, byD_app]
   congr 1
   have : (UInt8.ofNat x.toNat).toNat = x.toNat := by simp; omega
   simp only [byD]
   rw [List.map_cons, List.map_nil, this, Int.toNat_of_nonneg hb.1]
section
variable {H : Type} {enc : TypeId × Value → H} {W : World}
theorem opensBytes : Opens enc Tryz.prog W 0 (fun _ => true) true 22 (List Int) (fun xs => [.list 1 (xs.flatMap fun n => [.int .u8 n])]) (fun xs => xs.length ≤ maxLen ∧ ∀ x ∈ xs, (Lit.int .u8 x).wf = true) (fun xs => (xs.map fun _ => 1).sum + 1) :=
 opens_slice Tryz.underlying22 (by kernel_rfl) (by decide) (fun _ => rfl) (opens_int Tryz.underlying5)
end
set_option maxRecDepth 100000 in
theorem contract (H : Type) (enc : TypeId × Value → H) (W : World) (base : Nat) (args : Array Value) (ds gs : List (DataW H)) (before : List MemPlace)
    (hval : ∀ (j : Nat) t v, Tryz.f3.params[j]? = some t → args[j]? = some v → Value.okWide Tryz.prog W .any base t v)
    (hW : DataW.Whole enc Tryz.prog Tryz.f3.params.toList Rows.aasaOrderSpec.vars false W args.toList ds gs before) (hL : laidMetH Tryz.prog Rows.aasaOrderRow.laid W) (hsh : W.ShapedOpen Tryz.prog) :
    Calls Tryz.prog 3 args W fun e W' => ∃ v, e = .returned v ∧ Rows.aasaOrderSpec.post enc Tryz.prog Tryz.f3 false true false false W args v W' := by
 have hW' := hW
 obtain ⟨p, q, hA, hV, rfl, hfz, hnd⟩ := hW
 rw [Tryz.params3] at hA hval
 obtain ⟨v0, vs0, d0, ds0, p0, q0, hargs, rfl, rfl, h0, r0⟩ := trodAll_cons hA
 obtain ⟨rfl, rfl, rfl⟩ := trodAll_nil r0
 obtain rfl : args = #[v0] := by cases args; simp_all
 obtain ⟨rfl, rfl⟩ := trodVars_none hV
 refine law_post errLaidOut ?_ (by rfl) Tryz.underlying4 rfl hW' rfl rfl rfl ?_
 · rw [Tryz.params3]
   intro t ht
   simp at ht
   subst ht; exact ⟨by kernel_rfl, of_decide_eq_true (by kernel_rfl)⟩
 · obtain ⟨xs0, c0, ⟨hl0, hx0⟩, _⟩ := opensBytes.one h0
   obtain ⟨ao0, n0, cc0, rfl⟩ := okWide_slice Tryz.underlying22 (hval 0 _ v0 rfl rfl)
   obtain ⟨B0, hs0, he0⟩ := bytesB xs0 hx0
   have y0 := c0.one
   rw [he0] at y0
   rw [← hs0] at hl0
   exact aasaOrder_any W _ B0 y0 (e20_of hL hsh)
def wit : Array Value := #[.slice none 0 0]
theorem laid_met (os : Os) : laidMetH Tryz.prog Rows.aasaOrderRow.laid ((e20World os).forCall (fun _ _ => 0) ⟨#[], wit, []⟩).memory :=
 e20World_met os wit
theorem reads (os : Os) {H : Type} (enc : TypeId × Value → H) : ∃ places, DataW.whole enc Tryz.prog ((e20World os).forCall (fun _ _ => 0) ⟨#[], wit, []⟩).memory Tryz.f3.params.toList Rows.aasaOrderSpec.vars false wit.toList 8 = some ([.nil], [], places) :=
 ⟨[], by kernel_rfl⟩
set_option maxRecDepth 100000 in
theorem lifted (os : Os) (started : os.Started) (H : Type) (enc : TypeId × Value → H) (F : Stop.Interp) :
    ReturnsInHanded {} Tryz.checked os 3 .any ((OpenSpec.ofChange Rows.aasaOrderSpec).preRow enc Tryz.prog Tryz.f3 Rows.aasaOrderRow.domain false Rows.aasaOrderRow.laid) (((OpenSpec.ofChange Rows.aasaOrderSpec).at F).post enc Tryz.prog Tryz.f3 false true false false) := by
 obtain ⟨places, hx⟩ := reads os enc
 refine returnsInHanded_of_row (C := Tryz.checked) (s := OpenSpec.ofChange Rows.aasaOrderSpec) errOwn started (by kernel_rfl) Tryz.func3
  (witness_row_at (enc := enc) (C := Tryz.checked) false (e20World os) wit rfl (by kernel_rfl) (by kernel_rfl) (by kernel_rfl)
    (OpenSpec.preRow_of_cond 8 hx (by kernel_rfl) (fun k hk => by cases hk) (by kernel_rfl) (laid_met os))) ?_
 intro W base args ds gs before hval hW _ _ _ hL hsh _
 exact contract H enc W base args ds gs before hval hW hL hsh
theorem both {a b : Bool} (h1 : a = true) (h2 : b = true) : (a && b) = true := by rw [h1, h2]; rfl
set_option maxRecDepth 100000 in
set_option maxHeartbeats 8000000 in
theorem closed : joinedFacts Tryz.pinned.checked.prog 3 Tryz.f3 (OpenSpec.ofChange Rows.aasaOrderSpec).bare Rows.aasaOrderRow = true := by
 unfold joinedFacts
 repeat' (with_reducible refine both ?_ ?_)
 all_goals (as_aux_lemma => kernel_rfl)
theorem said : Rows.AasaOrderSaid :=
 OpenClaim.holds_of_cond 3 Tryz.f3 rfl rfl rfl rfl rfl rfl rfl ⟨rfl, rfl, rfl, rfl, rfl⟩ rfl rfl rfl rfl rfl (by kernel_rfl) Tryz.func3 closed
  (of_decide_eq_true (by kernel_rfl)) (by unfold Func.isWrapper; first | (rw [if_pos (by decide +kernel)]; kernel_rfl) | (rw [if_neg (by decide +kernel)]; exact ⟨rfl, rfl⟩))
  (fun os started H enc _ F => by rw [OpenClaim.pre_eq_preRow]; exact lifted os started H enc F)
/-- No parameter wants a stand-in: what the card asks. -/
theorem plain (f : FuncId) (fn : Func) (hf : Tryz.pinned.checked.prog.funcNamed "waybill/waybilllaw20.AasaOrder" = some f) (hfn : Tryz.pinned.checked.prog.funcs[f]? = some fn) :
    true = Tryz.pinned.checked.prog.looks [] ∧ ∀ (j : Nat) t, fn.params[j]? = some t → Tryz.pinned.checked.prog.wantsStandIn t = false := by
 obtain rfl : f = 3 := Option.some.inj ((show Tryz.prog.funcNamed "waybill/waybilllaw20.AasaOrder" = some 3 by kernel_rfl).symm.trans hf) |>.symm
 obtain rfl : fn = Tryz.f3 := (Option.some.inj (Tryz.func3.symm.trans hfn)).symm
 refine ⟨by kernel_rfl, fun j t ht => ?_⟩
 rw [Tryz.params3] at ht
 have hm := Array.mem_of_getElem? ht
 simp at hm
 subst hm; exact (show Tryz.prog.wantsStandIn 22 = false by kernel_rfl)
/-- THE CARD -/
theorem card : Rows.AasaOrderCardSaid :=
 Claim7.holds_tied_plain_at .later [] _ _ _ _ said (fun _ h => by cases h) (by kernel_rfl) (fun _ h => by cases h) aasaOrder_row_tie rfl ⟨rfl, rfl⟩ (by kernel_rfl) rfl plain (by kernel_rfl)
end Go.Proofs.YtcaiibkgajhohaaGreatDoor.AasaOrder
