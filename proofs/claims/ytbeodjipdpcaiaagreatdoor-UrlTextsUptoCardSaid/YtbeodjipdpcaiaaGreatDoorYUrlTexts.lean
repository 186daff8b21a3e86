/- UrlTexts answers true at every input whose arguments, with the variables that it reads, are together of bulk at most 1048576. Conditions: the variables unicode/utf8.first, unicode/utf8.acceptRanges, label.allowed and errors.errorType hold what the text of the program lays (tied by the given card). -/
import Derived.Test.YtbeodjipdpcaiaaGreatDoorYMore14
import Derived.Test.YtbeodjipdpcaiaaGreatDoorYHsw4sf
import Derived.Test.YtbeodjipdpcaiaaGreatDoorYRfu1s
import Derived.Test.YtbeodjipdpcaiaaGreatDoorCards
import Derived.Test.YtbeodjipdpcaiaaGreatDoorTie
import Derived.Deep.DeepHandedRow
import Derived.Lib.SmallJoins
namespace Go.Proofs.YtbeodjipdpcaiaaGreatDoor.UrlTexts
open Go.RowKit Go.ChangeShapes Go.WideShapes

section
variable {H : Type} {enc : TypeId × Value → H} {W : World}
abbrev HostA := Int × ByteArray × Unit
abbrev UrlA := ByteArray × HostA × Int × ByteArray × ByteArray × ByteArray × Bool × Bool × Unit
theorem opensHost : Opens enc Tryz.prog W 0 (fun _ => true) true 24 HostA (fun a => [.int .i64 a.1] ++ ([.str a.2.1] ++ [])) (fun _ => True) (fun _ => 0) :=
 Opens.map (opens_struct Tryz.underlying24 (tot := 1 + (1 + 0)) (by kernel_rfl) (opensF_cons rfl (by kernel_rfl) (opens_int Tryz.underlying3) (opensF_cons rfl (by kernel_rfl) (opens_str Tryz.underlying9) opensF_nil))) id (fun _ => rfl) (fun _ _ => trivial) (fun _ => Nat.zero_le _)
theorem opensUrl : Opens enc Tryz.prog W 0 (fun _ => true) true 50 UrlA (fun a => [.str a.1] ++ (([.int .i64 a.2.1.1] ++ ([.str a.2.1.2.1] ++ [])) ++ ([.int .i64 a.2.2.1] ++ ([.str a.2.2.2.1] ++ ([.str a.2.2.2.2.1] ++ ([.str a.2.2.2.2.2.1] ++ ([.bool a.2.2.2.2.2.2.1] ++ ([.bool a.2.2.2.2.2.2.2.1] ++ [])))))))) (fun a => (Lit.int .i64 a.2.2.1).wf = true) (fun a => a.2.2.2.1.size + a.2.2.2.2.1.size) :=
 Opens.map (opens_struct Tryz.underlying50 (tot := 1 + (2 + (1 + (1 + (1 + (1 + (1 + (1 + 0)))))))) (by kernel_rfl) (opensF_cons rfl (by kernel_rfl) (opens_str Tryz.underlying9) (opensF_cons rfl (by kernel_rfl) opensHost (opensF_cons rfl (by kernel_rfl) (opens_int Tryz.underlying3) (opensF_cons rfl (by kernel_rfl) (opens_str Tryz.underlying9) (opensF_cons rfl (by kernel_rfl) (opens_str Tryz.underlying9) (opensF_cons rfl (by kernel_rfl) (opens_str Tryz.underlying9) (opensF_cons rfl (by kernel_rfl) (opens_bool Tryz.underlying4) (opensF_cons rfl (by kernel_rfl) (opens_bool Tryz.underlying4) opensF_nil))))))))) id (fun _ => rfl) (fun _ h => h.2.2.1) (fun a => by simp only [id]; omega)
end
set_option maxRecDepth 100000 in
theorem valUrl {W : World} {S : Nat → Prop} {v : Value} {base : Nat} {a : UrlA} (hv : Value.okWide Tryz.prog W .any base 50 v) (h : Rds S W v.cells.toList ([.str a.1] ++ (([.int .i64 a.2.1.1] ++ ([.str a.2.1.2.1] ++ [])) ++ ([.int .i64 a.2.2.1] ++ ([.str a.2.2.2.1] ++ ([.str a.2.2.2.2.1] ++ ([.str a.2.2.2.2.2.1] ++ ([.bool a.2.2.2.2.2.2.1] ++ ([.bool a.2.2.2.2.2.2.2.1] ++ []))))))))) : v = .agg (urlA a.1 a.2.1.1 a.2.1.2.1 a.2.2.1 a.2.2.2.1 a.2.2.2.2.1 a.2.2.2.2.2.1 a.2.2.2.2.2.2.1 a.2.2.2.2.2.2.2.1) := by
 obtain ⟨cs, rfl, hz⟩ := okWide_struct Tryz.underlying50 hv
 have hz9 : cs.size = 9 := hz.trans (by kernel_rfl)
 obtain ⟨l⟩ := cs
 match l, hz9 with
 | [x0, x1, x2, x3, x4, x5, x6, x7, x8], _ =>
   have g : Rds S W [x0, x1, x2, x3, x4, x5, x6, x7, x8] _ := h
   have e0 := (g.2 0 _ _ rfl rfl : Rd S W x0 (.str a.1)).str_inv
   have e1 := (g.2 1 _ _ rfl rfl : Rd S W x1 (.int .i64 a.2.1.1)).int_inv
   have e2 := (g.2 2 _ _ rfl rfl : Rd S W x2 (.str a.2.1.2.1)).str_inv
   have e3 := (g.2 3 _ _ rfl rfl : Rd S W x3 (.int .i64 a.2.2.1)).int_inv
   have e4 := (g.2 4 _ _ rfl rfl : Rd S W x4 (.str a.2.2.2.1)).str_inv
   have e5 := (g.2 5 _ _ rfl rfl : Rd S W x5 (.str a.2.2.2.2.1)).str_inv
   have e6 := (g.2 6 _ _ rfl rfl : Rd S W x6 (.str a.2.2.2.2.2.1)).str_inv
   have e7 := (g.2 7 _ _ rfl rfl : Rd S W x7 (.bool a.2.2.2.2.2.2.1)).bool_inv
   have e8 := (g.2 8 _ _ rfl rfl : Rd S W x8 (.bool a.2.2.2.2.2.2.2.1)).bool_inv
   rw [e0, e1, e2, e3, e4, e5, e6, e7, e8]; rfl
theorem i64_wf {n : Int} (h : (Lit.int .i64 n).wf = true) : -9223372036854775808 ≤ n ∧ n < 9223372036854775808 := by
 have h1 : IntKind.i64.min = -9223372036854775808 := rfl
 have h2 : IntKind.i64.max = 9223372036854775807 := rfl
 simp only [Lit.wf, Bool.and_eq_true, decide_eq_true_eq] at h; omega

set_option maxRecDepth 100000 in
theorem contract (H : Type) (enc : TypeId × Value → H) (W : World) (base : Nat) (args : Array Value) (ds gs : List (DataW H)) (before : List MemPlace)
    (hval : ∀ (j : Nat) t v, Tryz.f12.params[j]? = some t → args[j]? = some v → Value.okWide Tryz.prog W .any base t v)
    (hW : DataW.Whole enc Tryz.prog Tryz.f12.params.toList Rows.urlTextsSpec.vars false W args.toList ds gs before) (hL : laidMetH Tryz.prog Rows.urlTextsUptoRow.laid W) (hsh : W.ShapedOpen Tryz.prog)
    (hbk : Rows.uptoBulkAll (ds ++ gs) ≤ 1048576) :
    Calls Tryz.prog 12 args W fun e W' => ∃ v, e = .returned v ∧ Rows.urlTextsSpec.post enc Tryz.prog Tryz.f12 false true false false W args v W' := by
 have hW' := hW
 obtain ⟨p, q, hA, hV, rfl, hfz, hnd⟩ := hW
 rw [Tryz.params12] at hA hval
 obtain ⟨v0, vs0, d0, ds0, p0, q0, hargs, rfl, rfl, h0, r0⟩ := trodAll_cons hA
 obtain ⟨rfl, rfl, rfl⟩ := trodAll_nil r0
 obtain rfl : args = #[v0] := by cases args; simp_all
 obtain ⟨rfl, rfl⟩ := trodVars_none hV
 refine law_post errLaidOut ?_ (by rfl) Tryz.underlying4 rfl hW' rfl rfl rfl ?_
 · rw [Tryz.params12]
   intro t ht
   simp at ht
   subst ht; exact ⟨by kernel_rfl, of_decide_eq_true (by kernel_rfl)⟩
 · obtain ⟨a0, c0, w0, y0⟩ := opensUrl.one h0
   obtain rfl := valUrl (hval 0 _ v0 rfl rfl) c0
   have hp0 := i64_wf w0
   have hz0 : a0.2.2.2.1.size ≤ 140737488355328 ∧ a0.2.2.2.2.1.size ≤ 140737488355328 := by simp only [Rows.uptoBulkAll, List.append_nil] at hbk; omega
   exact urlTexts_any _ _ _ _ _ _ _ _ _ W hp0 hz0 (hsEnv_of hL hsh)
def wit : Array Value := #[.agg #[.string ⟨#[]⟩, .int .i64 0, .string ⟨#[]⟩, .int .i64 0, .string ⟨#[]⟩, .string ⟨#[]⟩, .string ⟨#[]⟩, .bool false, .bool false]]
theorem laid_met (os : Os) : laidMetH Tryz.prog Rows.urlTextsUptoRow.laid ((hsWorld os).forCall (fun _ _ => 0) ⟨#[], wit, []⟩).memory :=
 hsWorld_met os wit
theorem reads (os : Os) {H : Type} (enc : TypeId × Value → H) : ∃ places, DataW.whole enc Tryz.prog ((hsWorld os).forCall (fun _ _ => 0) ⟨#[], wit, []⟩).memory Tryz.f12.params.toList Rows.urlTextsSpec.vars false wit.toList 8 = some ([.agg [.lit (.string []), .agg [.lit (.int .i64 0), .lit (.string [])], .lit (.int .i64 0), .lit (.string []), .lit (.string []), .lit (.string []), .lit (.bool false), .lit (.bool false)]], [], places) :=
 ⟨[], by kernel_rfl⟩
set_option maxRecDepth 100000 in
theorem lifted (os : Os) (started : os.Started) (H : Type) (enc : TypeId × Value → H) (F : Stop.Interp) :
    ReturnsInHanded {} Tryz.checked os 12 .any ((Rows.OpenSpec.upto Rows.urlTextsSpec).preRow enc Tryz.prog Tryz.f12 Rows.urlTextsUptoRow.domain false Rows.urlTextsUptoRow.laid) (((Rows.OpenSpec.upto Rows.urlTextsSpec).at F).post enc Tryz.prog Tryz.f12 false true false false) := by
 obtain ⟨places, hx⟩ := reads os enc
 refine returnsInHanded_of_row (C := Tryz.checked) (s := Rows.OpenSpec.upto Rows.urlTextsSpec) errOwn started (by kernel_rfl) Tryz.func12
  (witness_row_at (enc := enc) (C := Tryz.checked) false (hsWorld os) wit rfl (by kernel_rfl) (by kernel_rfl) (by kernel_rfl)
    (OpenSpec.preRow_of_cond 8 hx (by kernel_rfl) (fun k hk => by cases hk; kernel_rfl) (by kernel_rfl) (laid_met os))) ?_
 intro W base args ds gs before hval hW _ hcond _ hL hsh _
 exact contract H enc W base args ds gs before hval hW hL hsh (of_decide_eq_true (hcond _ rfl))
theorem both {a b : Bool} (h1 : a = true) (h2 : b = true) : (a && b) = true := by rw [h1, h2]; rfl
set_option maxRecDepth 100000 in
set_option maxHeartbeats 8000000 in
theorem closed : joinedFacts Tryz.pinned.checked.prog 12 Tryz.f12 (Rows.OpenSpec.upto Rows.urlTextsSpec).bare Rows.urlTextsUptoRow = true := by
 unfold joinedFacts
 repeat' (with_reducible refine both ?_ ?_)
 all_goals (as_aux_lemma => kernel_rfl)
theorem said : Rows.UrlTextsUptoSaid :=
 OpenClaim.holds_of_cond 12 Tryz.f12 rfl rfl rfl rfl rfl rfl rfl ⟨rfl, rfl, rfl, rfl, rfl⟩ rfl rfl rfl rfl rfl (by kernel_rfl) Tryz.func12 closed
  (of_decide_eq_true (by kernel_rfl)) (by unfold Func.isWrapper; first | (rw [if_pos (by decide +kernel)]; kernel_rfl) | (rw [if_neg (by decide +kernel)]; exact ⟨rfl, rfl⟩))
  (fun os started H enc _ F => by rw [OpenClaim.pre_eq_preRow]; exact lifted os started H enc F)
/-- No parameter wants a stand-in: what the card asks. -/
theorem plain (f : FuncId) (fn : Func) (hf : Tryz.pinned.checked.prog.funcNamed "waybill/waybilllaw14.UrlTexts" = some f) (hfn : Tryz.pinned.checked.prog.funcs[f]? = some fn) :
    true = Tryz.pinned.checked.prog.looks [] ∧ ∀ (j : Nat) t, fn.params[j]? = some t → Tryz.pinned.checked.prog.wantsStandIn t = false := by
 obtain rfl : f = 12 := Option.some.inj ((show Tryz.prog.funcNamed "waybill/waybilllaw14.UrlTexts" = some 12 by kernel_rfl).symm.trans hf) |>.symm
 obtain rfl : fn = Tryz.f12 := (Option.some.inj (Tryz.func12.symm.trans hfn)).symm
 refine ⟨by kernel_rfl, fun j t ht => ?_⟩
 rw [Tryz.params12] at ht
 have hm := Array.mem_of_getElem? ht
 simp at hm
 subst hm; exact (show Tryz.prog.wantsStandIn 50 = false by kernel_rfl)
/-- THE CARD -/
theorem card : Rows.UrlTextsUptoCardSaid :=
 Claim7.holds_tied_plain_at .later [] _ _ _ _ said (fun _ h => by cases h) (by kernel_rfl) (fun _ h => by cases h) urlTextsUpto_row_tie rfl ⟨rfl, rfl⟩ (by kernel_rfl) rfl plain (by kernel_rfl)
end Go.Proofs.YtbeodjipdpcaiaaGreatDoor.UrlTexts
