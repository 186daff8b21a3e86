/- Quo6, Quo8 in one text (a claim holds at most 60 files). -/
import Derived.Test.YtheoaijheijojaaGreatDoorZQuo0s
import Derived.Test.YtheoaijheijojaaGreatDoorProg
import Derived.WalkKit
import Derived.BigQuiet
import Derived.Test.YtheoaijheijojaaGreatDoorZQuo5s
namespace Go.Proofs.YtheoaijheijojaaGreatDoor
section
open Go.RowKit
def dig1 (d : Nat) : ByteArray := ⟨#[UInt8.ofNat (hexU d)]⟩
def dig2 (n : Nat) : ByteArray := ⟨#[UInt8.ofNat (hexU (n / 16)), UInt8.ofNat (hexU (n % 16))]⟩
def WnRel (n : Nat) (w : World) (nv ov : Value) (wr : World) : Prop := (∃ q, wr = w.drewN q) ∧ ((nv = .int .u64 (n : Nat) ∧ ov = .string ⟨#[]⟩) ∨ (16 ≤ n ∧ nv = .int .u64 ((n / 16 : Nat) : Int) ∧ ov = .string (dig1 (n % 16))))
def WpRel (n : Nat) (w : World) (ov : Value) (wr : World) : Prop := (∃ q, wr = w.drewN q) ∧ (ov = .string (dig2 n) ∨ n < 16 ∧ ov = .string (dig1 n))
theorem figS : ∀ d : Fin 16, (⟨#[48, 49, 50, 51, 52, 53, 54, 55, 56, 57, 65, 66, 67, 68, 69, 70]⟩ : ByteArray).extract d.val (d.val + 1) = dig1 d.val := by decide
theorem drewN_add (w : World) (a b : Nat) : (w.drewN a).drewN b = w.drewN (a + b) := by simp [World.drewN, Nat.add_assoc]
theorem slice_one (k : IntKind) (S : ByteArray) (d : Nat) (h : d + 1 ≤ S.size) (x : ByteArray) (hx : S.extract d (d + 1) = x) (W : World) : (Instr.slice 9 (.string S) (some (.int k (d : Int))) (some (.int k ((d : Int) + 1))) none).run Tryz.prog W = .ok (.string x) W := by
  have e1 : ((d : Int) + 1).toNat = d + 1 := by omega
  have e2 : (0 : Int) ≤ (d : Int) + 1 := by omega
  have e3 : (d : Int) + 1 ≤ (S.size : Int) := by omega
  have e4 : (d : Int) ≤ (d : Int) + 1 := by omega
  simp [Instr.slice, run_underlying Tryz.underlying9, Instr.sliceBounds, run_sliceBound, e1, e2, e3, e4, hx]
def strZ : Value → Nat
  | .string s => s.size
  | _ => 0
theorem dig2_app (n : Nat) : dig1 (n / 16) ++ dig1 (n % 16) = dig2 n := by
  have : ∀ a b : UInt8, (⟨#[a]⟩ : ByteArray) ++ ⟨#[b]⟩ = ⟨#[a, b]⟩ := fun a b => by
    apply toList_inj
    rfl
  exact this _ _
set_option maxRecDepth 100000 in
set_option maxHeartbeats 16000000 in
theorem rwritten2_any (n : Nat) (w : World) (hn : n < 256) :
    Calls Tryz.prog 44 #[.int .u64 n, .int .u64 16, .int .i64 2] w fun e w' => e = .returned (.string (dig2 n)) ∧ Below w.heap.size w w' := by
  have FS := Lib.hid figS
  go_enter Tryz.func44, Tryz.ntmps44
  go_wp2_with fail
  obtain ⟨S, hS⟩ : ∃ S : ByteArray, (⟨#[48, 49, 50, 51, 52, 53, 54, 55, 56, 57, 65, 66, 67, 68, 69, 70]⟩ : ByteArray) = S := ⟨_, rfl⟩
  rw [hS] at FS ⊢
  have hzS : S.size = 16 := by rw [← hS]; rfl
  clear hS
  go_loopw [0, 8] (WnRel n w) (fun a _ _ => (intOf a).toNat)
  case atStart => exact ⟨⟨0, rfl⟩, .inl ⟨rfl, rfl⟩⟩
  case round =>
    obtain ⟨⟨q, rfl⟩, hrel⟩ := hrel
    obtain ⟨d, hd⟩ : ∃ d, n % 16 = d := ⟨_, rfl⟩
    obtain ⟨p, hp⟩ : ∃ p, n / 16 = p := ⟨_, rfl⟩
    have hd16 : d < 16 := by omega
    have hp16 : p < 16 := by omega
    have F1 : S.extract d (d + 1) = dig1 d := FS.out ⟨d, hd16⟩
    have F2 : S.extract p (p + 1) = dig1 p := FS.out ⟨p, hp16⟩
    have HE := Lib.hid (show dig1 p ++ dig1 d = dig2 n by rw [← hp, ← hd]; exact dig2_app n)
    have HP := Lib.hid hp; have HD := Lib.hid hd
    have z1 : (dig1 d).size = 1 := rfl
    have z2 : (dig1 p).size = 1 := rfl
    rcases hrel with ⟨rfl, rfl⟩ | ⟨h16, rfl, rfl⟩
    · have tm : (n : Int).tmod 16 = (d : Int) := by rw [Int.tmod_eq_emod_of_nonneg (by omega)]; omega
      have td : (n : Int).tdiv 16 = (p : Int) := by rw [Int.tdiv_eq_ediv_of_nonneg (by omega)]; omega
      have ae : dig1 d ++ (⟨#[]⟩ : ByteArray) = dig1 d := ByteArray.append_empty
      have wr1 : IntKind.u64.wrap ((d : Int) + 1) = (d : Int) + 1 := IntWalk.u64_in _ (by omega)
      have sl := slice_one .u64 S d (by omega) _ F1
      by_cases h0 : p = 0
      · have t0 : ((p : Int) == 0) = true := beq_iff_eq.2 (by omega)
        have hn16 : n < 16 := by omega
        have HDN := Lib.hid (show d = n by omega)
        clear hp hd F1 F2 h0
        go_wp2
        go_quiet (fail)
        go_wp2_with fail
        go_loopw [8] (WpRel n w) (fun v _ => 2 - strZ v)
        case atStart => 
            refine ⟨⟨_, rfl⟩, .inr ⟨hn16, ?_⟩⟩
            rw [HDN.out]
        case round =>
          obtain ⟨⟨q2, rfl⟩, hrel⟩ := hrel
          clear sl
          rcases hrel with rfl | ⟨hn16, rfl⟩
          · go_wp2
            go_ret
            exact ⟨rfl, ext_drewN _ (Below.refl _ _)⟩
          · have zn : (dig1 n).size = 1 := rfl
            have R : WpRel n w (.string (⟨#[48]⟩ ++ dig1 n)) (w.drewN q2) := ⟨⟨q2, rfl⟩, .inl (by
              have h1 : n / 16 = 0 := by omega
              have h2 : n % 16 = n := by omega
              rw [← dig2_app, h1, h2]; rfl)⟩
            have HR := Lib.hid R
            clear R hn16
            go_wp2
            refine ⟨?_, by simp [strZ, ByteArray.size_append, zn, show (⟨#[48]⟩ : ByteArray).size = 1 from rfl]⟩
            have R := HR.out
            first | exact R | ((repeat apply Exists.intro); exact ⟨R, rfl⟩)
      · have t0 : ((p : Int) == 0) = false := beq_eq_false_iff_ne.2 (by omega)
        have hn16 : 16 ≤ n := by omega
        have R : ∀ k, WnRel n w (.int .u64 (p : Int)) (.string (dig1 d)) ((w.drewN q).drewN k) := fun k => ⟨⟨q + k, drewN_add _ _ _⟩, .inr ⟨hn16, by rw [hp], by rw [hd]⟩⟩
        have HR := Lib.hid R
        have hlt : p < n := by omega
        have HLT := Lib.hid hlt
        clear hp hd F1 F2 R hn16 hlt
        go_wp2
        go_quiet (fail)
        go_wp2
        refine ⟨?_, by have := HLT.out; simp [intOf]; omega⟩
        have R := HR.out
        first | exact R _ | simpa using R _
    · have tm : (p : Int).tmod 16 = (p : Int) := by rw [Int.tmod_eq_emod_of_nonneg (by omega)]; omega
      have td : (p : Int).tdiv 16 = 0 := by rw [Int.tdiv_eq_ediv_of_nonneg (by omega)]; omega
      have wr1 : IntKind.u64.wrap ((p : Int) + 1) = (p : Int) + 1 := IntWalk.u64_in _ (by omega)
      have sl := slice_one .u64 S p (by omega) _ F2
      rw [hp, hd]
      have he := HE.out
      clear hp hd F1 F2
      go_wp2
      go_quiet (fail)
      go_wp2_with fail
      go_loopw [8] (WpRel n w) (fun v _ => 2 - strZ v)
      case atStart => exact ⟨⟨_, rfl⟩, .inl (by first | exact congrArg _ HE.out | rfl)⟩
      case round =>
        obtain ⟨⟨q2, rfl⟩, hrel⟩ := hrel
        clear sl
        rcases hrel with rfl | ⟨hn16, rfl⟩
        · go_wp2
          go_ret
          exact ⟨rfl, ext_drewN _ (Below.refl _ _)⟩
        · have zn : (dig1 n).size = 1 := rfl
          have R : WpRel n w (.string (⟨#[48]⟩ ++ dig1 n)) (w.drewN q2) := ⟨⟨q2, rfl⟩, .inl (by
            have h1 : n / 16 = 0 := by omega
            have h2 : n % 16 = n := by omega
            rw [← dig2_app, h1, h2]; rfl)⟩
          have HR := Lib.hid R
          clear R hn16
          go_wp2
          refine ⟨?_, by simp [strZ, ByteArray.size_append, zn, show (⟨#[48]⟩ : ByteArray).size = 1 from rfl]⟩
          have R := HR.out
          first | exact R | ((repeat apply Exists.intro); exact ⟨R, rfl⟩)
end
section
open Go.RowKit
theorem idx_str (S : ByteArray) (i : Nat) (hi : i < S.size) (W : World) : (Instr.index 9 (.string S) (.int .i64 (i : Int))).run Tryz.prog W = .ok (.int .u8 (byteAt S i : Nat)) W := by
  have hu := run_underlying (P := Tryz.prog) Tryz.underlying9
  have h2 : (i : Int) < (S.size : Int) := by omega
  rw [byteAt_get S i hi]
  simp [Instr.index, asIntOf, hu, part, go_sem, hi]
def mkB (l : List Nat) : ByteArray := ⟨(l.map UInt8.ofNat).toArray⟩
def oS (s : ByteArray) (i : Nat) : ByteArray := ⟨(qL s i).toArray⟩
theorem mkB_size (l : List Nat) : (mkB l).size = l.length := by
  show (l.map UInt8.ofNat).toArray.size = _
  simp
theorem mkB_app (l m : List Nat) : mkB l ++ mkB m = mkB (l ++ m) := by
  apply toList_inj
  rw [ByteArray.toList_eq, ByteArray.toList_eq]
  simp [mkB, ByteArray.data_append]
theorem oS_next {s : ByteArray} {i : Nat} (hi : i < s.size) : oS s i ++ mkB (escB (byteAt s i)) = oS s (i + 1) := by
  apply toList_inj
  rw [ByteArray.toList_eq, ByteArray.toList_eq]
  simp [oS, mkB, ByteArray.data_append, qL_next hi]
theorem oS_size (s : ByteArray) (i : Nat) : (oS s i).size = offQ s i := by
  show (qL s i).toArray.size = _
  rw [List.size_toArray, qL_len]
theorem oS_full (s : ByteArray) : oS s s.size ++ ⟨#[34]⟩ = quoteB s := by
  rw [← qL_full]
  apply toList_inj
  rw [ByteArray.toList_eq, ByteArray.toList_eq]
  simp [oS, ByteArray.data_append]
/-- The name behind m looks. -/
def nmL (c m : Nat) : List Nat := if (valL.take m).contains c then [92, namL[valL.idxOf c]?.getD 0] else []
theorem nmL_step : ∀ (m : Fin 7) (c : Fin 256), nmL c.val (m.val + 1) = if (c.val == valL[m.val]?.getD 0) = true then [92, namL[m.val]?.getD 0] else nmL c.val m.val := by decide +kernel
theorem nmL_full (c : Nat) : nmL c 7 = if valL.contains c then escB c else [] := by
  unfold nmL escB
  rw [show valL.take 7 = valL from rfl]
  split <;> rfl
theorem extract_one (s : ByteArray) (j : Nat) (hj : j < s.size) : s.extract j (j + 1) = mkB [byteAt s j] := by
  have hd : j < s.data.size := hj
  apply toList_inj
  rw [ByteArray.toList_eq, ByteArray.toList_eq]
  simp only [mkB, byteAt, ByteArray.data_extract, Array.toList_extract, List.map_cons, List.map_nil, Array.getElem?_eq_getElem hd, Option.getD_some, UInt8.ofNat_toNat]
  apply List.ext_getElem?
  intro i
  rw [List.extract_eq_take_drop, List.getElem?_take]
  cases i with
  | zero => simp
  | succ i => simp
def RqRel (s : ByteArray) (w : World) (o i : Value) (wr : World) : Prop := ∃ j : Nat, i = .int .i64 j ∧ j ≤ s.size ∧ o = .string (oS s j) ∧ Below w.heap.size w wr
def RnRel (c : Nat) (w : World) (o k : Value) (wr : World) : Prop := ∃ m : Nat, k = .int .i64 m ∧ m ≤ 7 ∧ o = .string (mkB (nmL c m)) ∧ ∃ q, wr = w.drewN q
set_option maxRecDepth 100000 in
set_option maxHeartbeats 16000000 in
theorem rquote_any (s : ByteArray) (w : World) (hm : s.size ≤ 100000) :
    Calls Tryz.prog 37 #[.string s] w fun e w' => e = .returned (.string (quoteB s)) ∧ Below w.heap.size w w' := by
  obtain ⟨V, hV⟩ : ∃ V : ByteArray, (⟨#[34, 92, 8, 12, 10, 13, 9]⟩ : ByteArray) = V := ⟨_, rfl⟩
  obtain ⟨N, hN⟩ : ∃ N : ByteArray, (⟨#[34, 92, 98, 102, 110, 114, 116]⟩ : ByteArray) = N := ⟨_, rfl⟩
  have hVx : ∀ m, m < 7 → byteAt V m = valL[m]?.getD 0 := by
    intro m h
    subst hV
    have hj : m = 0 ∨ m = 1 ∨ m = 2 ∨ m = 3 ∨ m = 4 ∨ m = 5 ∨ m = 6 := by omega
    rcases hj with rfl | rfl | rfl | rfl | rfl | rfl | rfl <;> rfl
  have hNx : ∀ m, m < 7 → N.extract m (m + 1) = mkB [namL[m]?.getD 0] := by
    intro m h
    subst hN
    have hj : m = 0 ∨ m = 1 ∨ m = 2 ∨ m = 3 ∨ m = 4 ∨ m = 5 ∨ m = 6 := by omega
    rcases hj with rfl | rfl | rfl | rfl | rfl | rfl | rfl <;> decide
  have hVz : V.size = 7 := by rw [← hV]; rfl
  have hNz : N.size = 7 := by rw [← hN]; rfl
  have HVx := Lib.hid hVx; have HNx := Lib.hid hNx
  clear hVx hNx
  go_enter Tryz.func37, Tryz.ntmps37
  go_wp2_with fail
  rw [hV, hN]
  have HVz := Lib.hid hVz; have HNz := Lib.hid hNz
  clear hV hN hVz hNz
  go_loopw [3, 6] (RqRel s w) (fun _ k _ => s.size - (intOf k).toNat)
  case atStart => exact ⟨0, rfl, Nat.zero_le _, by rfl, Below.refl _ _⟩
  case round =>
    obtain ⟨j, rfl, hj, rfl, hB⟩ := hrel
    have HB := Lib.hid hB
    clear hB
    have hoz : (oS s j).size ≤ 700000 := by rw [oS_size]; have := offQ_le j hj; omega
    by_cases hlt : j < s.size
    · have t1 : decide ((j : Int) < (s.size : Int)) = true := decide_eq_true (by omega)
      have t1' : decide (j < s.size) = true := decide_eq_true hlt
      obtain ⟨c, hc⟩ : ∃ c, byteAt s j = c := ⟨_, rfl⟩
      have hc256 : c < 256 := by rw [← hc]; exact byteAt_lt s j
      have HNX := Lib.hid (oS_next hlt)
      have IX := idx_str s j hlt
      have HXT := Lib.hid (slice_one .i64 s j (by omega) _ rfl)
      rw [hc] at HNX IX
      have HC := Lib.hid hc
      clear hc
      go_wp2_with fail
      go_loopw [7, 8] (RnRel c wr) (fun _ k _ => 7 - (intOf k).toNat)
      case atStart => exact ⟨0, rfl, by decide, rfl, 0, rfl⟩
      case round =>
        obtain ⟨m, rfl, hm7, rfl, q, rfl⟩ := hrel
        by_cases hm : m < 7
        · have hst := nmL_step ⟨m, hm⟩ ⟨c, hc256⟩
          simp only at hst
          have HST := Lib.hid hst
          have IV := idx_str V m (by have := HVz.out; omega)
          rw [HVx.out m hm] at IV
          have SN := slice_one .i64 N m (by have := HNz.out; omega) _ (HNx.out m hm)
          have hv256 : valL[m]?.getD 0 < 256 := by rw [← HVx.out m hm]; exact byteAt_lt _ _
          have hx1 : (mkB [namL[m]?.getD 0]).size = 1 := mkB_size _
          have hx2 : mkB [92, namL[m]?.getD 0] = (⟨#[92]⟩ : ByteArray) ++ mkB [namL[m]?.getD 0] := (mkB_app [92] _).symm
          generalize valL[m]?.getD 0 = v at *
          generalize namL[m]?.getD 0 = x at *
          have q2 : IntKind.i64.wrap ((m : Int) + 1) = (m : Int) + 1 := IntWalk.i64_in _ (by omega)
          have t2 : decide ((m : Int) < 7) = true := decide_eq_true (by omega)
          have t2' : decide (m < 7) = true := decide_eq_true hm
          have HX2 := Lib.hid hx2
          clear hst hx2
          by_cases hcv : c = v
          · have tq : ((c : Int) == (v : Int)) = true := beq_iff_eq.2 (by omega)
            have R : ∀ q, RnRel c wr (.string ((⟨#[92]⟩ : ByteArray) ++ mkB [x])) (.int .i64 ((m : Int) + 1)) (wr.drewN q) := fun q => by
              have e := HST.out
              rw [if_pos (beq_iff_eq.2 hcv)] at e
              exact ⟨m + 1, by go_num, hm, by rw [e, HX2.out], q, rfl⟩
            have HR := Lib.hid R
            have z1 : (⟨#[92]⟩ : ByteArray).size = 1 := rfl
            clear R hcv HST HX2
            go_wp2
            go_quiet (fail)
            go_wp2
            refine ⟨?_, by simp [intOf]; omega⟩
            have R := HR.out
            simpa using R _
          · have tq : ((c : Int) == (v : Int)) = false := beq_eq_false_iff_ne.2 (by omega)
            have R : ∀ q, RnRel c wr (.string (mkB (nmL c m))) (.int .i64 ((m : Int) + 1)) (wr.drewN q) := fun q => by
              have e := HST.out
              rw [if_neg (by simpa using hcv)] at e
              exact ⟨m + 1, by go_num, hm, by rw [e], q, rfl⟩
            have HR := Lib.hid R
            clear R hcv HST HX2
            go_wp2
            go_quiet (fail)
            go_wp2
            refine ⟨?_, by simp [intOf]; omega⟩
            have R := HR.out
            simpa using R _
        · obtain rfl : m = 7 := by omega
          have HB2 := Lib.hid (ext_drewN q HB.out)
          generalize wr.drewN q = wr at *
          rw [nmL_full]
          have hez := (escB_len c).2
          have hez1 := (escB_len c).1
          have hmz := mkB_size (escB c)
          have z0 : ((oS s j).size : Int) ≤ 8388608 := by omega
          have z1 : ((mkB (escB c)).size : Int) ≤ 8388608 := by omega
          have hR : ∀ W, Below w.heap.size w W → RqRel s w (.string (oS s j ++ mkB (escB c))) (.int .i64 ((j : Int) + 1)) W := fun W h => ⟨j + 1, by go_num, hlt, by rw [HNX.out], h⟩
          have HR := Lib.hid hR
          have q2 : IntKind.i64.wrap ((j : Int) + 1) = (j : Int) + 1 := IntWalk.i64_in _ (by omega)
          clear hR
          cases hct : valL.contains c with
          | true =>
            rw [if_pos rfl]
            have hne : ((mkB (escB c)).toList == (⟨#[]⟩ : ByteArray).toList) = false := beqS_f (fun e => by have := congrArg ByteArray.size e; rw [hmz] at this; have h0 : (⟨#[]⟩ : ByteArray).size = 0 := rfl; omega)
            have hne2 : (mkB (escB c)).toList.isEmpty = false := str_ne (by omega)
            clear hct hez hez1 hmz
            generalize mkB (escB c) = E at *
            go_wp2
            refine ⟨?_, by simp [intOf]; omega⟩
            have R := HR.out _ HB2.out
            first | exact R | ((repeat apply Exists.intro); exact ⟨R, rfl⟩)
          | false =>
            rw [if_neg (by decide)]
            rw [show mkB [] = ⟨#[]⟩ from rfl]
            by_cases h32 : c < 32
            · have heE : escB c = [92, 117, 48, 48, hexU (c / 16), hexU (c % 16)] := by unfold escB; rw [hct, if_neg (by decide), if_pos h32]
              have hE : mkB (escB c) = (⟨#[92, 117, 48, 48]⟩ : ByteArray) ++ dig2 c := by rw [heE]; exact (mkB_app [92, 117, 48, 48] [hexU (c / 16), hexU (c % 16)]).symm
              have WR := Lib.hid (rwritten2_any c wr hc256)
              have t3 : decide ((c : Int) < 32) = true := decide_eq_true (by omega)
              have t3' : decide (c < 32) = true := decide_eq_true h32
              have q3 : IntKind.u64.wrap (c : Int) = (c : Int) := IntWalk.u64_in _ (by omega)
              have hne : ((mkB (escB c)).toList == (⟨#[]⟩ : ByteArray).toList) = false := beqS_f (fun e => by have := congrArg ByteArray.size e; rw [hmz] at this; have h0 : (⟨#[]⟩ : ByteArray).size = 0 := rfl; omega)
              have hne2 : (mkB (escB c)).toList.isEmpty = false := str_ne (by omega)
              have z4 : (⟨#[92, 117, 48, 48]⟩ : ByteArray).size = 4 := rfl
              have z5 : (dig2 c).size = 2 := rfl
              clear hct hez hez1 hmz h32 heE
              generalize mkB (escB c) = E at *
              generalize dig2 c = D at *
              have hE' := hE.symm
              clear hE
              go_wp2_with fail
              refine WR.out.mono ?_
              rintro e w2 ⟨rfl, hb2⟩
              have HB3 := Lib.hid (ext_trans HB2.out hb2)
              clear hb2
              go_wp2
              refine ⟨?_, by simp [intOf]; omega⟩
              have R := HR.out _ HB3.out
              first | exact R | ((repeat apply Exists.intro); exact ⟨R, rfl⟩)
            · have heE : escB c = [c] := by unfold escB; rw [hct, if_neg (by decide), if_neg h32]
              have hE : s.extract j (j + 1) = mkB (escB c) := by rw [heE, extract_one s j hlt, HC.out]
              have SX := HXT.out
              rw [hE] at SX
              have t3 : decide ((c : Int) < 32) = false := decide_eq_false (by omega)
              have t3' : decide (c < 32) = false := decide_eq_false h32
              clear hct hez hez1 hmz h32 heE hE HXT
              generalize mkB (escB c) = E at *
              go_wp2
              refine ⟨?_, by simp [intOf]; omega⟩
              have R := HR.out _ HB2.out
              first | exact R | ((repeat apply Exists.intro); exact ⟨R, rfl⟩)
    · have t1 : decide ((j : Int) < (s.size : Int)) = false := decide_eq_false (by omega)
      have t1' : decide (j < s.size) = false := decide_eq_false hlt
      obtain rfl : j = s.size := by omega
      have z0 : ((oS s s.size).size : Int) ≤ 8388608 := by omega
      have z1 : (⟨#[34]⟩ : ByteArray).size = 1 := rfl
      have HF := Lib.hid (oS_full s)
      clear hoz
      go_wp2
      go_ret
      exact ⟨by rw [← HF.out]; rfl, HB.out⟩
end
end Go.Proofs.YtheoaijheijojaaGreatDoor
