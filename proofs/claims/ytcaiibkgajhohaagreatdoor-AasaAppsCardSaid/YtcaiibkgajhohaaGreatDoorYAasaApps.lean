/- AasaApps answers true at every input. Conditions: the variables unicode/utf8.first, unicode/utf8.acceptRanges, scan.words and subst.classes hold what the text of the program lays (tied by the given card). -/
import Derived.Test.YtcaiibkgajhohaaGreatDoorYAsJ5f
import Derived.Test.YtcaiibkgajhohaaGreatDoorYAsM3f
import Derived.Test.YtcaiibkgajhohaaGreatDoorCards
import Derived.Test.YtcaiibkgajhohaaGreatDoorTie
import Derived.Deep.DeepHandedRow
import Derived.Lib.SmallJoins
namespace Go.Proofs.YtcaiibkgajhohaaGreatDoor.AasaApps
open Go.RowKit Go.ChangeShapes Go.WideShapes

section
variable {H : Type} {enc : TypeId × Value → H} {W : World}
abbrev ItT := ByteArray × ByteArray × Bool × Unit
abbrev RuT := ByteArray × ByteArray × ByteArray × Bool × Bool × Bool × List ItT × Bool × Bool × Bool × Unit
abbrev DeT := List AppA × List RuT × Unit
def itT (a : ItT) : List Dat := [.str a.1, .str a.2.1, .bool a.2.2.1]
def ruT (a : RuT) : List Dat := [.str a.1, .str a.2.1, .str a.2.2.1, .bool a.2.2.2.1, .bool a.2.2.2.2.1, .bool a.2.2.2.2.2.1, .list 3 (a.2.2.2.2.2.2.1.flatMap itT), .bool a.2.2.2.2.2.2.2.1, .bool a.2.2.2.2.2.2.2.2.1, .bool a.2.2.2.2.2.2.2.2.2.1]
theorem opensApp : Opens enc Tryz.prog W 0 (fun _ => true) true 37 AppA appD (fun _ => True) (fun a => a.team.size + a.bundle.size) :=
 Opens.map (opens_struct Tryz.underlying37 (tot := 1 + (1 + 0)) (by kernel_rfl) (opensF_cons rfl (by kernel_rfl) (opens_str Tryz.underlying9) (opensF_cons rfl (by kernel_rfl) (opens_str Tryz.underlying9) opensF_nil))) (fun a => ⟨a.1, a.2.1⟩) (fun _ => rfl) (fun _ _ => trivial) (fun a => by show a.1.size + a.2.1.size ≤ _; omega)
theorem opensIt : Opens enc Tryz.prog W 0 (fun _ => true) true 92 ItT itT (fun _ => True) (fun a => a.1.size + a.2.1.size) :=
 Opens.map (opens_struct Tryz.underlying92 (tot := 1 + (1 + (1 + 0))) (by kernel_rfl) (opensF_cons rfl (by kernel_rfl) (opens_str Tryz.underlying9) (opensF_cons rfl (by kernel_rfl) (opens_str Tryz.underlying9) (opensF_cons rfl (by kernel_rfl) (opens_bool Tryz.underlying4) opensF_nil)))) id (fun _ => rfl) (fun _ _ => trivial) (fun a => by show a.1.size + a.2.1.size ≤ _; omega)
theorem opensIts : Opens enc Tryz.prog W 0 (fun _ => true) true 38 (List ItT) (fun xs => [.list 3 (xs.flatMap itT)]) (fun xs => xs.length ≤ maxLen ∧ ∀ x ∈ xs, True) (fun xs => (xs.map fun a => a.1.size + a.2.1.size).sum + 1) :=
 opens_slice Tryz.underlying38 (by kernel_rfl) (by decide) (fun _ => rfl) opensIt
theorem opensRu : Opens enc Tryz.prog W 0 (fun _ => true) true 40 RuT ruT (fun _ => True) (fun a => a.1.size + a.2.1.size + a.2.2.1.size + ((a.2.2.2.2.2.2.1.map fun i => i.1.size + i.2.1.size).sum + 1)) :=
 Opens.map (opens_struct Tryz.underlying40 (tot := 1 + (1 + (1 + (1 + (1 + (1 + (1 + (1 + (1 + (1 + 0)))))))))) (by kernel_rfl) (opensF_cons rfl (by kernel_rfl) (opens_str Tryz.underlying9) (opensF_cons rfl (by kernel_rfl) (opens_str Tryz.underlying9) (opensF_cons rfl (by kernel_rfl) (opens_str Tryz.underlying9) (opensF_cons rfl (by kernel_rfl) (opens_bool Tryz.underlying4) (opensF_cons rfl (by kernel_rfl) (opens_bool Tryz.underlying4) (opensF_cons rfl (by kernel_rfl) (opens_bool Tryz.underlying4) (opensF_cons rfl (by kernel_rfl) opensIts (opensF_cons rfl (by kernel_rfl) (opens_bool Tryz.underlying4) (opensF_cons rfl (by kernel_rfl) (opens_bool Tryz.underlying4) (opensF_cons rfl (by kernel_rfl) (opens_bool Tryz.underlying4) opensF_nil))))))))))) id (fun _ => rfl) (fun _ _ => trivial) (fun a => by simp only [id]; omega)
theorem opensRus : Opens enc Tryz.prog W 0 (fun _ => true) true 33 (List RuT) (fun xs => [.list 10 (xs.flatMap ruT)]) (fun xs => xs.length ≤ maxLen ∧ ∀ x ∈ xs, True) (fun xs => (xs.map fun a => a.1.size + a.2.1.size + a.2.2.1.size + ((a.2.2.2.2.2.2.1.map fun i => i.1.size + i.2.1.size).sum + 1)).sum + 1) :=
 opens_slice Tryz.underlying33 (by kernel_rfl) (by decide) (fun _ => rfl) opensRu
theorem opensApps : Opens enc Tryz.prog W 0 (fun _ => true) true 32 (List AppA) (fun xs => [.list 2 (xs.flatMap appD)]) (fun xs => xs.length ≤ maxLen ∧ ∀ x ∈ xs, True) (fun xs => (xs.map fun a => a.team.size + a.bundle.size).sum + 1) :=
 opens_slice Tryz.underlying32 (by kernel_rfl) (by decide) (fun _ => rfl) opensApp
theorem opensDe : Opens enc Tryz.prog W 0 (fun _ => true) true 35 DeT (fun a => [.list 2 (a.1.flatMap appD), .list 10 (a.2.1.flatMap ruT)]) (fun _ => True) (fun a => ((a.1.map fun x => x.team.size + x.bundle.size).sum + 1) + ((a.2.1.map fun x => x.1.size + x.2.1.size + x.2.2.1.size + ((x.2.2.2.2.2.2.1.map fun i => i.1.size + i.2.1.size).sum + 1)).sum + 1)) :=
 Opens.map (opens_struct Tryz.underlying35 (tot := 1 + (1 + 0)) (by kernel_rfl) (opensF_cons rfl (by kernel_rfl) opensApps (opensF_cons rfl (by kernel_rfl) opensRus opensF_nil))) id (fun _ => rfl) (fun _ _ => trivial) (fun a => by simp only [id]; omega)
theorem opensDets : Opens enc Tryz.prog W 0 (fun _ => true) true 24 (List DeT) (fun xs => [.list 2 (xs.flatMap fun a => [.list 2 (a.1.flatMap appD), .list 10 (a.2.1.flatMap ruT)])]) (fun xs => xs.length ≤ maxLen ∧ ∀ x ∈ xs, True) (fun xs => (xs.map fun a => ((a.1.map fun x => x.team.size + x.bundle.size).sum + 1) + ((a.2.1.map fun x => x.1.size + x.2.1.size + x.2.2.1.size + ((x.2.2.2.2.2.2.1.map fun i => i.1.size + i.2.1.size).sum + 1)).sum + 1)).sum + 1) :=
 opens_slice Tryz.underlying24 (by kernel_rfl) (by decide) (fun _ => rfl) opensDe
end
set_option maxRecDepth 100000 in
theorem contract (H : Type) (enc : TypeId × Value → H) (W : World) (base : Nat) (args : Array Value) (ds gs : List (DataW H)) (before : List MemPlace)
    (hval : ∀ (j : Nat) t v, Tryz.f4.params[j]? = some t → args[j]? = some v → Value.okWide Tryz.prog W .any base t v)
    (hW : DataW.Whole enc Tryz.prog Tryz.f4.params.toList Rows.aasaAppsSpec.vars false W args.toList ds gs before) (hL : laidMetH Tryz.prog Rows.aasaAppsRow.laid W) (hsh : W.ShapedOpen Tryz.prog) :
    Calls Tryz.prog 4 args W fun e W' => ∃ v, e = .returned v ∧ Rows.aasaAppsSpec.post enc Tryz.prog Tryz.f4 false true false false W args v W' := by
 have hW' := hW
 obtain ⟨p, q, hA, hV, rfl, hfz, hnd⟩ := hW
 rw [Tryz.params4] at hA hval
 obtain ⟨v0, vs0, d0, ds0, p0, q0, hargs, rfl, rfl, h0, r0⟩ := trodAll_cons hA
 obtain ⟨rfl, rfl, rfl⟩ := trodAll_nil r0
 obtain rfl : args = #[v0] := by cases args; simp_all
 obtain ⟨rfl, rfl⟩ := trodVars_none hV
 refine law_post errLaidOut ?_ (by rfl) Tryz.underlying4 rfl hW' rfl rfl rfl ?_
 · rw [Tryz.params4]
   intro t ht
   simp at ht
   subst ht; exact ⟨by kernel_rfl, of_decide_eq_true (by kernel_rfl)⟩
 · obtain ⟨xs0, c0, _, _⟩ := opensDets.one h0
   obtain ⟨ao0, n0, cc0, rfl⟩ := okWide_slice Tryz.underlying24 (hval 0 _ v0 rfl rfl)
   have y0 := c0.one
   exact aasaApps_any (fun a : DeT => a.1) (fun a => a.2.1.flatMap ruT) W _ xs0 y0 (e20_of hL hsh)
def wit : Array Value := #[.slice none 0 0]
theorem laid_met (os : Os) : laidMetH Tryz.prog Rows.aasaAppsRow.laid ((e20World os).forCall (fun _ _ => 0) ⟨#[], wit, []⟩).memory :=
 e20World_met os wit
theorem reads (os : Os) {H : Type} (enc : TypeId × Value → H) : ∃ places, DataW.whole enc Tryz.prog ((e20World os).forCall (fun _ _ => 0) ⟨#[], wit, []⟩).memory Tryz.f4.params.toList Rows.aasaAppsSpec.vars false wit.toList 8 = some ([.nil], [], places) :=
 ⟨[], by kernel_rfl⟩
set_option maxRecDepth 100000 in
theorem lifted (os : Os) (started : os.Started) (H : Type) (enc : TypeId × Value → H) (F : Stop.Interp) :
    ReturnsInHanded {} Tryz.checked os 4 .any ((OpenSpec.ofChange Rows.aasaAppsSpec).preRow enc Tryz.prog Tryz.f4 Rows.aasaAppsRow.domain false Rows.aasaAppsRow.laid) (((OpenSpec.ofChange Rows.aasaAppsSpec).at F).post enc Tryz.prog Tryz.f4 false true false false) := by
 obtain ⟨places, hx⟩ := reads os enc
 refine returnsInHanded_of_row (C := Tryz.checked) (s := OpenSpec.ofChange Rows.aasaAppsSpec) errOwn started (by kernel_rfl) Tryz.func4
  (witness_row_at (enc := enc) (C := Tryz.checked) false (e20World os) wit rfl (by kernel_rfl) (by kernel_rfl) (by kernel_rfl)
    (OpenSpec.preRow_of_cond 8 hx (by kernel_rfl) (fun k hk => by cases hk) (by kernel_rfl) (laid_met os))) ?_
 intro W base args ds gs before hval hW _ _ _ hL hsh _
 exact contract H enc W base args ds gs before hval hW hL hsh
theorem both {a b : Bool} (h1 : a = true) (h2 : b = true) : (a && b) = true := by rw [h1, h2]; rfl
set_option maxRecDepth 100000 in
set_option maxHeartbeats 8000000 in
theorem closed : joinedFacts Tryz.pinned.checked.prog 4 Tryz.f4 (OpenSpec.ofChange Rows.aasaAppsSpec).bare Rows.aasaAppsRow = true := by
 unfold joinedFacts
 repeat' (with_reducible refine both ?_ ?_)
 all_goals (as_aux_lemma => kernel_rfl)
theorem said : Rows.AasaAppsSaid :=
 OpenClaim.holds_of_cond 4 Tryz.f4 rfl rfl rfl rfl rfl rfl rfl ⟨rfl, rfl, rfl, rfl, rfl⟩ rfl rfl rfl rfl rfl (by kernel_rfl) Tryz.func4 closed
  (of_decide_eq_true (by kernel_rfl)) (by unfold Func.isWrapper; first | (rw [if_pos (by decide +kernel)]; kernel_rfl) | (rw [if_neg (by decide +kernel)]; exact ⟨rfl, rfl⟩))
  (fun os started H enc _ F => by rw [OpenClaim.pre_eq_preRow]; exact lifted os started H enc F)
/-- No parameter wants a stand-in: what the card asks. -/
theorem plain (f : FuncId) (fn : Func) (hf : Tryz.pinned.checked.prog.funcNamed "waybill/waybilllaw20.AasaApps" = some f) (hfn : Tryz.pinned.checked.prog.funcs[f]? = some fn) :
    true = Tryz.pinned.checked.prog.looks [] ∧ ∀ (j : Nat) t, fn.params[j]? = some t → Tryz.pinned.checked.prog.wantsStandIn t = false := by
 obtain rfl : f = 4 := Option.some.inj ((show Tryz.prog.funcNamed "waybill/waybilllaw20.AasaApps" = some 4 by kernel_rfl).symm.trans hf) |>.symm
 obtain rfl : fn = Tryz.f4 := (Option.some.inj (Tryz.func4.symm.trans hfn)).symm
 refine ⟨by kernel_rfl, fun j t ht => ?_⟩
 rw [Tryz.params4] at ht
 have hm := Array.mem_of_getElem? ht
 simp at hm
 subst hm; exact (show Tryz.prog.wantsStandIn 24 = false by kernel_rfl)
/-- THE CARD -/
theorem card : Rows.AasaAppsCardSaid :=
 Claim7.holds_tied_plain_at .later [] _ _ _ _ said (fun _ h => by cases h) (by kernel_rfl) (fun _ h => by cases h) aasaApps_row_tie rfl ⟨rfl, rfl⟩ (by kernel_rfl) rfl plain (by kernel_rfl)
end Go.Proofs.YtcaiibkgajhohaaGreatDoor.AasaApps
