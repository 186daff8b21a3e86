/- ArenaWalks answers true at every input. Conditions: none. -/
import Derived.Test.YtjbbpmjbohedkaaRows
import Derived.Test.YtjbbpmjbohedkaaLib2
import Derived.Test.YtjbbpmjbohedkaaArena9
import Derived.OpenShut
import Derived.Deep.DeepHandedRow
import Derived.Lib.SmallJoins
namespace Go.Proofs.Ytjbbpmjbohedkaa.ArenaWalks
open Go.RowKit Go.ChangeShapes Go.WideShapes

theorem own : ownKnob Try.prog.godebug = none := by kernel_rfl
theorem laidOut : laidOutB Try.prog = true := by kernel_rfl
noncomputable def plainWorld (os : Os) : World := World.holding Try.prog os ⟨#[], #[], []⟩
theorem bytes_back : ∀ xs : List Int, (∀ x ∈ xs, (Lit.int .u8 x).wf = true) → ∃ us : List Nat, (∀ u ∈ us, u < 256) ∧ (xs.flatMap fun n => [Dat.int .u8 n]) = us.map fun u => Dat.int .u8 (u : Nat)
  | [], _ => ⟨[], nofun, rfl⟩
  | x :: xs, h => by
    obtain ⟨us, h1, h2⟩ := bytes_back xs (fun y hy => h y (List.mem_cons_of_mem _ hy))
    have hb := bounds_u8 (h x (by simp))
    refine ⟨x.toNat :: us, fun u hu => ?_, ?_⟩
    · rcases List.mem_cons.1 hu with rfl | hu
      · omega
      · exact h1 u hu
    · rw [List.flatMap_cons, h2, List.map_cons, Int.toNat_of_nonneg hb.1]; rfl
section
variable {H : Type} {enc : TypeId × Value → H} {W : World}
theorem opensBytes : Opens enc Try.prog W 0 (fun _ => true) true 22 (List Int) (fun xs => [.list 1 (xs.flatMap fun n => [.int .u8 n])]) (fun xs => xs.length ≤ maxLen ∧ ∀ x ∈ xs, (Lit.int .u8 x).wf = true) (fun xs => (xs.map fun _ => 1).sum + 1) :=
  opens_slice Try.underlying22 (by kernel_rfl) (by decide) (fun _ => rfl) (opens_int Try.underlying5)
end
set_option maxRecDepth 100000 in
theorem contract (H : Type) (enc : TypeId × Value → H) (W : World) (base : Nat) (args : Array Value) (ds gs : List (DataW H)) (before : List MemPlace)
    (hval : ∀ (j : Nat) t v, Try.f3.params[j]? = some t → args[j]? = some v → Value.okWide Try.prog W .any base t v)
    (hW : DataW.Whole enc Try.prog Try.f3.params.toList Rows.arenaWalksSpec.vars false W args.toList ds gs before) (hL : laidMetH Try.prog Rows.arenaWalksRow.laid W) :
    Calls Try.prog 3 args W fun e W' => ∃ v, e = .returned v ∧ Rows.arenaWalksSpec.post enc Try.prog Try.f3 false true false false W args v W' := by
  have hW' := hW
  obtain ⟨p, q, hA, hV, rfl, hfz, hnd⟩ := hW
  rw [Try.params3] at hA hval
  obtain ⟨v0, vs0, d0, ds0, p0, q0, hargs, rfl, rfl, h0, r0⟩ := trodAll_cons hA
  obtain ⟨rfl, rfl, rfl⟩ := trodAll_nil r0
  obtain rfl : args = #[v0] := by cases args; simp_all
  obtain ⟨rfl, rfl⟩ := trodVars_none hV
  refine law_post laidOut ?_ (by rfl) Try.underlying4 rfl hW' rfl rfl rfl ?_
  · rw [Try.params3]
    intro t ht
    simp at ht
    subst ht; exact ⟨by kernel_rfl, of_decide_eq_true (by kernel_rfl)⟩
  · obtain ⟨xs, c0, ⟨_, hx⟩, _⟩ := opensBytes.one h0
    obtain ⟨ao, n, c, rfl⟩ := okWide_slice Try.underlying22 (hval 0 _ v0 rfl rfl)
    obtain ⟨us, h1, h2⟩ := bytes_back xs hx
    have c1 := c0.one
    rw [h2] at c1
    exact arenaWalks_any _ us W h1 c1
def wit : Array Value := #[.slice none 0 0]
theorem laid_met (os : Os) : laidMet Try.prog Rows.arenaWalksRow.laid ((plainWorld os).forCall (fun _ _ => 0) ⟨#[], wit, []⟩).memory :=
  laidMet_of_run' 8 (by kernel_rfl) (by kernel_rfl)
theorem reads (os : Os) {H : Type} (enc : TypeId × Value → H) : ∃ places, DataW.whole enc Try.prog ((plainWorld os).forCall (fun _ _ => 0) ⟨#[], wit, []⟩).memory Try.f3.params.toList Rows.arenaWalksSpec.vars false wit.toList 8 = some ([.nil], [], places) :=
  ⟨[], by kernel_rfl⟩
set_option maxRecDepth 100000 in
theorem lifted (os : Os) (started : os.Started) (H : Type) (enc : TypeId × Value → H) (F : Stop.Interp) :
    ReturnsInHanded {} Try.checked os 3 .any ((OpenSpec.ofChange Rows.arenaWalksSpec).preRow enc Try.prog Try.f3 Rows.arenaWalksRow.domain false Rows.arenaWalksRow.laid) (((OpenSpec.ofChange Rows.arenaWalksSpec).at F).post enc Try.prog Try.f3 false true false false) := by
  obtain ⟨places, hx⟩ := reads os enc
  refine returnsInHanded_of_row (C := Try.checked) (s := OpenSpec.ofChange Rows.arenaWalksSpec) own started (by kernel_rfl) Try.func3
    (witness_row_at (enc := enc) (C := Try.checked) false (plainWorld os) wit rfl (by kernel_rfl) (by kernel_rfl) (by kernel_rfl)
      (OpenSpec.preRow_of_cond 8 hx (by kernel_rfl) (fun k hk => by cases hk) (by kernel_rfl) (laid_met os))) ?_
  intro W base args ds gs before hval hW _ _ _ hL _ _
  exact contract H enc W base args ds gs before hval hW hL
theorem said : Rows.ArenaWalksSaid :=
  OpenClaim.holds_of_cond 3 Try.f3 rfl rfl rfl rfl rfl rfl rfl ⟨rfl, rfl, rfl, rfl, rfl⟩ rfl rfl rfl rfl rfl (by kernel_rfl) Try.func3 (by kernel_rfl)
    (of_decide_eq_true (by kernel_rfl)) (by unfold Func.isWrapper; first | (rw [if_pos (by decide +kernel)]; kernel_rfl) | (rw [if_neg (by decide +kernel)]; exact ⟨rfl, rfl⟩))
    (fun os started H enc _ F => by rw [OpenClaim.pre_eq_preRow]; exact lifted os started H enc F)
end Go.Proofs.Ytjbbpmjbohedkaa.ArenaWalks
