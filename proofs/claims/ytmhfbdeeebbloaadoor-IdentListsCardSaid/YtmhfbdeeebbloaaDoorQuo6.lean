/- ref02.Written at base 16, two digits: the walk. -/
import Derived.Test.YtmhfbdeeebbloaaDoorQuo2
import Derived.Test.YtmhfbdeeebbloaaDoorProg
import Derived.WalkKit
import Derived.BigQuiet
namespace Go.Proofs.YtmhfbdeeebbloaaDoor
open Go.RowKit
def dig1 (d : Nat) : ByteArray := ⟨#[UInt8.ofNat (hexU d)]⟩
def dig2 (n : Nat) : ByteArray := ⟨#[UInt8.ofNat (hexU (n / 16)), UInt8.ofNat (hexU (n % 16))]⟩
def WnRel (n : Nat) (w : World) (nv ov : Value) (wr : World) : Prop := (∃ q, wr = w.drewN q) ∧ ((nv = .int .u64 (n : Nat) ∧ ov = .string ⟨#[]⟩) ∨ (16 ≤ n ∧ nv = .int .u64 ((n / 16 : Nat) : Int) ∧ ov = .string (dig1 (n % 16))))
def WpRel (n : Nat) (w : World) (ov : Value) (wr : World) : Prop := (∃ q, wr = w.drewN q) ∧ (ov = .string (dig2 n) ∨ n < 16 ∧ ov = .string (dig1 n))
theorem figS : ∀ d : Fin 16, (⟨#[48, 49, 50, 51, 52, 53, 54, 55, 56, 57, 65, 66, 67, 68, 69, 70]⟩ : ByteArray).extract d.val (d.val + 1) = dig1 d.val := by decide
theorem drewN_add (w : World) (a b : Nat) : (w.drewN a).drewN b = w.drewN (a + b) := by simp [World.drewN, Nat.add_assoc]
theorem slice_one (k : IntKind) (S : ByteArray) (d : Nat) (h : d + 1 ≤ S.size) (x : ByteArray) (hx : S.extract d (d + 1) = x) (W : World) : (Instr.slice 9 (.string S) (some (.int k (d : Int))) (some (.int k ((d : Int) + 1))) none).run Tryd.prog W = .ok (.string x) W := by
  have e1 : ((d : Int) + 1).toNat = d + 1 := by omega
  have e2 : (0 : Int) ≤ (d : Int) + 1 := by omega
  have e3 : (d : Int) + 1 ≤ (S.size : Int) := by omega
  have e4 : (d : Int) ≤ (d : Int) + 1 := by omega
  simp [Instr.slice, run_underlying Tryd.underlying9, Instr.sliceBounds, run_sliceBound, e1, e2, e3, e4, hx]
def strZ : Value → Nat
  | .string s => s.size
  | _ => 0
theorem dig2_app (n : Nat) : dig1 (n / 16) ++ dig1 (n % 16) = dig2 n := by
  have : ∀ a b : UInt8, (⟨#[a]⟩ : ByteArray) ++ ⟨#[b]⟩ = ⟨#[a, b]⟩ := fun a b => by
    apply toList_inj
    rfl
  exact this _ _
set_option maxRecDepth 100000 in
set_option maxHeartbeats 16000000 in
theorem rwritten2_any (n : Nat) (w : World) (hn : n < 256) :
    Calls Tryd.prog 39 #[.int .u64 n, .int .u64 16, .int .i64 2] w fun e w' => e = .returned (.string (dig2 n)) ∧ Below w.heap.size w w' := by
  have FS := Lib.hid figS
  go_enter Tryd.func39, Tryd.ntmps39
  go_wp2_with fail
  obtain ⟨S, hS⟩ : ∃ S : ByteArray, (⟨#[48, 49, 50, 51, 52, 53, 54, 55, 56, 57, 65, 66, 67, 68, 69, 70]⟩ : ByteArray) = S := ⟨_, rfl⟩
  rw [hS] at FS ⊢
  have hzS : S.size = 16 := by rw [← hS]; rfl
  clear hS
  go_loopw [0, 8] (WnRel n w) (fun a _ _ => (intOf a).toNat)
  case atStart => exact ⟨⟨0, rfl⟩, .inl ⟨rfl, rfl⟩⟩
  case round =>
    obtain ⟨⟨q, rfl⟩, hrel⟩ := hrel
    obtain ⟨d, hd⟩ : ∃ d, n % 16 = d := ⟨_, rfl⟩
    obtain ⟨p, hp⟩ : ∃ p, n / 16 = p := ⟨_, rfl⟩
    have hd16 : d < 16 := by omega
    have hp16 : p < 16 := by omega
    have F1 : S.extract d (d + 1) = dig1 d := FS.out ⟨d, hd16⟩
    have F2 : S.extract p (p + 1) = dig1 p := FS.out ⟨p, hp16⟩
    have HE := Lib.hid (show dig1 p ++ dig1 d = dig2 n by rw [← hp, ← hd]; exact dig2_app n)
    have HP := Lib.hid hp; have HD := Lib.hid hd
    have z1 : (dig1 d).size = 1 := rfl
    have z2 : (dig1 p).size = 1 := rfl
    rcases hrel with ⟨rfl, rfl⟩ | ⟨h16, rfl, rfl⟩
    · have tm : (n : Int).tmod 16 = (d : Int) := by rw [Int.tmod_eq_emod_of_nonneg (by omega)]; omega
      have td : (n : Int).tdiv 16 = (p : Int) := by rw [Int.tdiv_eq_ediv_of_nonneg (by omega)]; omega
      have ae : dig1 d ++ (⟨#[]⟩ : ByteArray) = dig1 d := ByteArray.append_empty
      have wr1 : IntKind.u64.wrap ((d : Int) + 1) = (d : Int) + 1 := IntWalk.u64_in _ (by omega)
      have sl := slice_one .u64 S d (by omega) _ F1
      by_cases h0 : p = 0
      · have t0 : ((p : Int) == 0) = true := beq_iff_eq.2 (by omega)
        have hn16 : n < 16 := by omega
        have HDN := Lib.hid (show d = n by omega)
        clear hp hd F1 F2 h0
        go_wp2
        go_quiet (fail)
        go_wp2_with fail
        go_loopw [8] (WpRel n w) (fun v _ => 2 - strZ v)
        case atStart => 
            refine ⟨⟨_, rfl⟩, .inr ⟨hn16, ?_⟩⟩
            rw [HDN.out]
        case round =>
          obtain ⟨⟨q2, rfl⟩, hrel⟩ := hrel
          clear sl
          rcases hrel with rfl | ⟨hn16, rfl⟩
          · go_wp2
            go_ret
            exact ⟨rfl, ext_drewN _ (Below.refl _ _)⟩
          · have zn : (dig1 n).size = 1 := rfl
            have R : WpRel n w (.string (⟨#[48]⟩ ++ dig1 n)) (w.drewN q2) := ⟨⟨q2, rfl⟩, .inl (by
              have h1 : n / 16 = 0 := by omega
              have h2 : n % 16 = n := by omega
              rw [← dig2_app, h1, h2]; rfl)⟩
            have HR := Lib.hid R
            clear R hn16
            go_wp2
            refine ⟨?_, by simp [strZ, ByteArray.size_append, zn, show (⟨#[48]⟩ : ByteArray).size = 1 from rfl]⟩
            have R := HR.out
            first | exact R | ((repeat apply Exists.intro); exact ⟨R, rfl⟩)
      · have t0 : ((p : Int) == 0) = false := beq_eq_false_iff_ne.2 (by omega)
        have hn16 : 16 ≤ n := by omega
        have R : ∀ k, WnRel n w (.int .u64 (p : Int)) (.string (dig1 d)) ((w.drewN q).drewN k) := fun k => ⟨⟨q + k, drewN_add _ _ _⟩, .inr ⟨hn16, by rw [hp], by rw [hd]⟩⟩
        have HR := Lib.hid R
        have hlt : p < n := by omega
        have HLT := Lib.hid hlt
        clear hp hd F1 F2 R hn16 hlt
        go_wp2
        go_quiet (fail)
        go_wp2
        refine ⟨?_, by have := HLT.out; simp [intOf]; omega⟩
        have R := HR.out
        first | exact R _ | simpa using R _
    · have tm : (p : Int).tmod 16 = (p : Int) := by rw [Int.tmod_eq_emod_of_nonneg (by omega)]; omega
      have td : (p : Int).tdiv 16 = 0 := by rw [Int.tdiv_eq_ediv_of_nonneg (by omega)]; omega
      have wr1 : IntKind.u64.wrap ((p : Int) + 1) = (p : Int) + 1 := IntWalk.u64_in _ (by omega)
      have sl := slice_one .u64 S p (by omega) _ F2
      rw [hp, hd]
      have he := HE.out
      clear hp hd F1 F2
      go_wp2
      go_quiet (fail)
      go_wp2_with fail
      go_loopw [8] (WpRel n w) (fun v _ => 2 - strZ v)
      case atStart => exact ⟨⟨_, rfl⟩, .inl (by first | exact congrArg _ HE.out | rfl)⟩
      case round =>
        obtain ⟨⟨q2, rfl⟩, hrel⟩ := hrel
        clear sl
        rcases hrel with rfl | ⟨hn16, rfl⟩
        · go_wp2
          go_ret
          exact ⟨rfl, ext_drewN _ (Below.refl _ _)⟩
        · have zn : (dig1 n).size = 1 := rfl
          have R : WpRel n w (.string (⟨#[48]⟩ ++ dig1 n)) (w.drewN q2) := ⟨⟨q2, rfl⟩, .inl (by
            have h1 : n / 16 = 0 := by omega
            have h2 : n % 16 = n := by omega
            rw [← dig2_app, h1, h2]; rfl)⟩
          have HR := Lib.hid R
          clear R hn16
          go_wp2
          refine ⟨?_, by simp [strZ, ByteArray.size_append, zn, show (⟨#[48]⟩ : ByteArray).size = 1 from rfl]⟩
          have R := HR.out
          first | exact R | ((repeat apply Exists.intro); exact ⟨R, rfl⟩)
end Go.Proofs.YtmhfbdeeebbloaaDoor
