/- JrM3, JrV0 in one text (a claim holds at most 60 files). -/
import Derived.Test.YtheoaijheijojaaGreatDoorZJrM1s
namespace Go.Proofs.YtheoaijheijojaaGreatDoor
section
open Go.RowKit
/-- The numbers above: -1 for the text's own, and there alone. -/
structure UOK (js : List JN) (ups : List Int) : Prop where
  len : ups.length = js.length
  pos : ∀ i x, 0 < i → ups[i]? = some x → 0 ≤ x
  zero : ∀ x, ups[0]? = some x → x = -1
def RVal (w : World) (base E D : Nat) (bv : Value) (B : ByteArray) (m : Bd) (i jl : Nat) (R : Sc PS) (q : List Op) (e : Ending) (w' : World) : Prop := e = .returned (.tuple #[]) ∧ Below base w w' ∧ TKept w w' ∧
  (RBad w' base E D bv B m R ∨
   (∃ (i' : Nat) (s' : RS), i < i' ∧ i' ≤ B.size ∧ s'.at_ = i' ∧ s'.err = 0 ∧ RE w' base E D bv m s' ∧ UOK s'.js s'.ups ∧ jl ≤ s'.js.length ∧ s'.js.length ≤ i' ∧ R = runS B m i' ⟨s'.js, upsN s'.ups, q⟩))
/-- The contract of a value, wherever fewer than n bytes are left. -/
def ValOK (w0 : World) (E D : Nat) (bv : Value) (B : ByteArray) (m : Bd) (n : Nat) : Prop :=
  ∀ (w : World) (s : RS) (o : Op) (r : List Op) (i : Nat) (key : ByteArray), RE w w0.heap.size E D bv m s → PC w0 w bv B → s.err = 0 → s.at_ = i → i ≤ B.size → B.size - i < n → WantV B m i s.js (upsN s.ups) o r → (if o.obj = true then o.key else ⟨#[]⟩) = key →
    (0 ≤ o.id ∧ o.id < s.js.length ∨ o.id = -1 ∧ s.js = []) → UOK s.js s.ups → s.js.length ≤ i → r.length ≤ i →
    Calls Tryz.prog 34 #[ptrV E, .int .i64 o.id, .string key, .int .i64 (r.length : Nat)] w (RVal w w0.heap.size E D bv B m i (s.js.length + 1) (runS B m i ⟨s.js, upsN s.ups, o :: r⟩) (aftO o :: r))
structure InRel (w0 w : World) (E D X : Nat) (bv : Value) (B : ByteArray) (m : Bd) (id : Nat) (obj : Bool) (q : List Op) (R : Sc PS) (lo j0 : Nat) (wr : World) (i : Nat) (s : RS) (o : Op) : Prop where
  at_ : s.at_ = i
  err : s.err = 0
  le : i ≤ B.size
  ge : lo ≤ i
  re : RE wr w0.heap.size E D bv m s
  bl : Below w0.heap.size w wr
  tk : TKept w wr
  tok : ∃ a b c : Int, wr.heap[X]? = some (.cells #[.int .i64 a, .int .i64 b, .int .i64 c] 79 (0, 0))
  id_ : o.id = id
  obj_ : o.obj = obj
  want : if obj = true then WantK B m i s.js (upsN s.ups) o q else WantV B m i s.js (upsN s.ups) o q
  uok : UOK s.js s.ups
  idl : id < s.js.length
  jg : j0 ≤ s.js.length
  jl : s.js.length ≤ i
  run : runS B m i ⟨s.js, upsN s.ups, o :: q⟩ = R
def InR (w0 w : World) (E D X : Nat) (bv : Value) (B : ByteArray) (m : Bd) (id : Nat) (obj : Bool) (q : List Op) (R : Sc PS) (lo j0 : Nat) (_ : Value) (wr : World) : Prop := ∃ i s o, InRel w0 w E D X bv B m id obj q R lo j0 wr i s o
theorem endsS_t {o : Op} {t : Tok} (h : t.kind = if o.obj = true then 2 else 4) : endsS o t = true := by unfold endsS; rw [h]; split <;> rfl
theorem endsS_f {o : Op} {t : Tok} (h : t.kind ≠ if o.obj = true then 2 else 4) : endsS o t = false := by unfold endsS; exact beq_eq_false_iff_ne.2 h
/-- What is behind the value in a list, or an object. -/
theorem RE.put3 {w : World} {base E D X : Nat} {bv : Value} {m : Bd} {s : RS} {cs : Array Value} {f : Nat × Nat} (h : RE w base E D bv m s) (hX : w.heap[X]? = some (.cells cs 79 f)) (a b c : Value) : RE (((w.setCell ⟨X, 0, none⟩ a).setCell ⟨X, 1, none⟩ b).setCell ⟨X, 2, none⟩ c) base E D bv m s := h.tok3 hX a b c
set_option maxRecDepth 100000 in
set_option maxHeartbeats 32000000 in
theorem rinside_any (w0 w : World) (E D : Nat) (bv : Value) (B : ByteArray) (m : Bd) (n : Nat) (IH : ValOK w0 E D bv B m n) (s : RS) (id i : Nat) (obj : Bool) (p : Op) (r : List Op) (h : RE w w0.heap.size E D bv m s) (hc : PC w0 w bv B) (hz : B.size ≤ 1000000) (h0 : s.err = 0) (hat : s.at_ = i) (hi : i ≤ B.size) (hn : B.size - i < n)
    (hu : UOK s.js s.ups) (hid : id < s.js.length) (hj : s.js.length ≤ i) (hr : r.length + 1 ≤ i) :
    Calls Tryz.prog 72 #[ptrV E, .int .i64 id, .bool obj, .int .i64 ((r.length + 1 : Nat) : Int)] w (RVal w w0.heap.size E D bv B m i s.js.length (runS B m i ⟨s.js, upsN s.ups, ⟨id, obj, 0, ⟨#[]⟩⟩ :: p :: r⟩) (aftO p :: r)) := by
  have NX := rnext7_any w0 w E D bv B m s h hc hz h0
  rw [hat] at NX
  obtain ⟨R, hR⟩ : ∃ R, runS B m i ⟨s.js, upsN s.ups, ⟨id, obj, 0, ⟨#[]⟩⟩ :: p :: r⟩ = R := ⟨_, rfl⟩
  have HR := Lib.hid hR; have HC := Lib.hid hc; have H0 := Lib.hid h0; have HAT := Lib.hid hat; have HU := Lib.hid hu; have HIH := Lib.hid IH
  have hlow := hc.bl.size
  have hlow' : w0.heap.size ≤ w.heap.size := h.low
  unfold RVal
  rw [hR]
  clear h hc h0 hR hat hu IH
  obtain ⟨ek, hek⟩ : ∃ ek : Int, (if obj = true then (2 : Int) else 4) = ek := ⟨_, rfl⟩
  have HEK := Lib.hid hek
  cases hnx : nextI B i with
  | no k pp =>
    rw [hnx] at NX
    have hk := nextI_pos hnx
    have hrun : R = .no k pp := by rw [← HR.out]; exact run_stop hnx
    have t1 : ((k : Int) == 0) = false := beq_eq_false_iff_ne.2 (by omega)
    have NX := Lib.hid NX; have HK := Lib.hid hk; have HRN := Lib.hid hrun
    clear hnx hk hrun hek
    cases obj
    all_goals
      go_enter Tryz.func72, Tryz.ntmps72
      go_wp2_with fail
      refine NX.out.mono ?_
      rintro e w1 ⟨rfl, hre, hb1, ht1⟩
      have c6 := hre.c6
      have zE := hre.lt
      (try simp only at c6)
      have hl1 := hre.low
      have hre2 := hre.below (ext_alloc (Below.refl _ _) (.cells #[.int .i64 0, .int .i64 0, .int .i64 0] 79))
      have HF : Hid (Below w0.heap.size w (w1.alloc (.cells #[.int .i64 0, .int .i64 0, .int .i64 0] 79)) ∧ TKept w (w1.alloc (.cells #[.int .i64 0, .int .i64 0, .int .i64 0] 79)) ∧ RBad (w1.alloc (.cells #[.int .i64 0, .int .i64 0, .int .i64 0] 79)) w0.heap.size E D bv B m R) := Lib.hid ⟨hb1.alloc hl1 _, ht1.alloc _, k, pp, _, HK.out, rfl, rfl, hre2, HRN.out⟩
      clear hre hb1 ht1 hre2
      go_wp2_with fail
      go_loopw [10] (fun _ wr => wr = w1.alloc (.cells #[.int .i64 0, .int .i64 0, .int .i64 0] 79)) (fun _ _ => 0)
      case atStart => rfl
      case round =>
        subst hrel
        go_wp2
        go_end0
        exact ⟨rfl, HF.out.1, HF.out.2.1, .inl HF.out.2.2⟩
  | ok t =>
    rw [hnx] at NX
    have hsh := tok_shape hnx
    obtain ⟨tk, tf, tt⟩ := t
    have NX2 : Calls Tryz.prog 35 #[ptrV E] w fun e w' => e = .returned (.agg #[.int .i64 tk, .int .i64 tf, .int .i64 tt]) ∧ RE w' w0.heap.size E D bv m s ∧ Below w0.heap.size w w' ∧ TKept w w' := NX
    have NX := Lib.hid NX2
    have HSH := Lib.hid hsh
    clear NX2 hsh
    by_cases hek2 : tk = ek
    · have hrun := HR.out.symm.trans (f_ends (B := B) (m := m) (js := s.js) (ups := upsN s.ups) (o := ⟨id, obj, 0, ⟨#[]⟩⟩) (r := p :: r) rfl hnx (endsS_t (by simp only; rw [hek2, ← hek])))
      have HRN := Lib.hid hrun
      clear hnx hrun
      have HEQ := Lib.hid hek2
      subst hek2
      cases obj
      all_goals
        (simp only [Bool.false_eq_true, if_false, if_true] at hek)
        subst hek
        go_enter Tryz.func72, Tryz.ntmps72
        go_wp2_with fail
        refine NX.out.mono ?_
        rintro e w1 ⟨rfl, hre, hb1, ht1⟩
        have c6 := hre.c6
        have c1 := hre.c1
        have f1 := hre.f 1
        have zE := hre.lt
        rw [H0.out] at c6
        have hl1 := hre.low
        have HF : Hid (∀ ob : Obj, Below w0.heap.size w ((w1.setCell ⟨E, 1, none⟩ (.int .i64 tt)).alloc ob) ∧ TKept w ((w1.setCell ⟨E, 1, none⟩ (.int .i64 tt)).alloc ob) ∧ RE ((w1.setCell ⟨E, 1, none⟩ (.int .i64 tt)).alloc ob) w0.heap.size E D bv m { s with at_ := tt }) := Lib.hid (fun ob => by
          have hl6 : w0.heap.size ≤ (w1.setCell ⟨E, 1, none⟩ (.int .i64 tt)).heap.size := by simpa using hl1
          exact ⟨(hb1.setCell (p := ⟨E, 1, none⟩) hre.lowE _).alloc hl6 ob, (ht1.setE hre 1 _).alloc ob, (hre.setAt tt).below (ext_alloc (Below.refl _ _) ob)⟩)
        clear hre hb1 ht1
        go_wp2
        refine bodyPost_ret (results_none rfl _ _ _) rfl ?_
        have h1 := HSH.out
        (try simp only at h1)
        refine ⟨rfl, (HF.out _).1, (HF.out _).2.1, .inr ⟨tt.toNat, { s with at_ := tt }, by omega, by omega, by show tt = _; omega, H0.out, (HF.out _).2.2, HU.out, Nat.le_refl _, by show s.js.length ≤ _; omega, ?_⟩⟩
        rw [show ((tt.toNat : Nat) : Int) = tt by omega]
        exact HRN.out
    · have hends : endsS ⟨id, obj, 0, ⟨#[]⟩⟩ ⟨tk, tf, tt⟩ = false := endsS_f (by simp only; rw [hek]; exact hek2)
      have hwant : if obj = true then WantK B m i s.js (upsN s.ups) ⟨id, obj, 0, ⟨#[]⟩⟩ (p :: r) else WantV B m i s.js (upsN s.ups) ⟨id, obj, 0, ⟨#[]⟩⟩ (p :: r) := by
        cases hob : obj with
        | true => rw [if_pos rfl]; rw [hob] at hends; exact wantK_0 rfl rfl hnx hends
        | false => rw [if_neg (by decide)]; rw [hob] at hends; exact wantV_0 rfl rfl hnx hends
      have HWANT := Lib.hid hwant
      have tne : (tk == ek) = false := beq_eq_false_iff_ne.2 hek2
      obtain ⟨q, hq⟩ : ∃ q, p :: r = q := ⟨_, rfl⟩
      have HQ := Lib.hid hq
      have hql : q.length = r.length + 1 := by rw [← hq]; rfl
      have HQL := Lib.hid hql
      clear hnx hek2 hends hwant hq hql
      cases obj
      · (simp only [Bool.false_eq_true, if_false] at hek)
        subst hek
        go_enter Tryz.func72, Tryz.ntmps72
        go_wp2_with fail
        refine NX.out.mono ?_
        rintro e w1 ⟨rfl, hre, hb1, ht1⟩
        have c6 := hre.c6
        have zE := hre.lt
        rw [H0.out] at c6
        have hl1 := hre.low
        obtain ⟨X, hX⟩ : ∃ X, w1.heap.size = X := ⟨_, rfl⟩
        obtain ⟨W2, hW2⟩ : ∃ W, w1.alloc (.cells #[.int .i64 tk, .int .i64 tf, .int .i64 tt] 79) = W := ⟨_, rfl⟩
        have hx2 : W2.heap[X]? = some (.cells #[.int .i64 tk, .int .i64 tf, .int .i64 tt] 79 (0, 0)) := by rw [← hW2, ← hX]; exact heap_alloc_new w1 _
        have b12 : Below w1.heap.size w1 W2 := by rw [← hW2]; exact ext_alloc (Below.refl _ _) _
        have c6' := (bcell1 b12 zE 6).trans c6
        have hxl : w.heap.size ≤ w1.heap.size := hb1.size
        have kx := fun j => show W2.cell? ⟨X, j, none⟩ = (#[.int .i64 tk, .int .i64 tf, .int .i64 tt] : Array Value)[j]? by simp [World.cell?, hx2]
        have R0 : InR w0 w E D X bv B m id false q R i s.js.length undef W2 := ⟨i, s, ⟨id, false, 0, ⟨#[]⟩⟩, HAT.out, H0.out, hi, Nat.le_refl _, hre.below b12, hb1.trans (b12.mono hl1), ht1.trans (TKept.of b12), ⟨_, _, _, hx2⟩, rfl, rfl, by rw [← HQ.out]; exact HWANT.out, HU.out, hid, Nat.le_refl _, hj, by rw [← HQ.out]; exact HR.out⟩
        have HR0 := Lib.hid R0
        have zE2 := Nat.lt_of_lt_of_le zE b12.size
        have HXL : Hid (w.heap.size ≤ X ∧ w0.heap.size ≤ X) := Lib.hid ⟨by omega, by omega⟩
        have zX2 := heap_lt hx2
        clear hre hb1 ht1 b12 hx2 R0
        go_wp2_with fail
        clear hW2 hX hxl
        go_loopw [10] (InR w0 w E D X bv B m id false q R i s.js.length) (fun _ wr => B.size + 1 - (intOf ((wr.cell? ⟨E, 1, none⟩).getD undef)).toNat)
        case atStart => exact HR0.out
        case round =>
          obtain ⟨i2, s2, o2, hrel⟩ := hrel
          have HRE2 := Lib.hid hrel
          have c6 := hrel.re.c6
          have cw1 := hrel.re.c1
          have zE := hrel.re.lt
          rw [hrel.err] at c6
          rw [hrel.at_] at cw1
          clear hrel HR0
          · have hwv : WantV B m i2 s2.js (upsN s2.ups) o2 q := by have := HRE2.out.want; rw [if_neg (by decide)] at this; exact this
            obtain ⟨w3, hw3⟩ : ∃ w3, wr = w3 := ⟨_, rfl⟩
            obtain ⟨i3, hi3⟩ : ∃ i3, i2 = i3 := ⟨_, rfl⟩
            have VL := HIH.out wr s2 o2 q i2 ⟨#[]⟩ HRE2.out.re (HC.out.step HRE2.out.bl) HRE2.out.err HRE2.out.at_ HRE2.out.le (by have := HRE2.out.ge; omega) hwv (by rw [HRE2.out.obj_]; rfl) (.inl ⟨by rw [HRE2.out.id_]; omega, by rw [HRE2.out.id_]; have := HRE2.out.idl; omega⟩) HRE2.out.uok HRE2.out.jl (by have := HQL.out; have := HRE2.out.ge; omega)
            rw [HRE2.out.id_, HQL.out, HRE2.out.run] at VL
            have VL := Lib.hid VL
            have HB3 := Lib.hid HRE2.out.bl; have HT3 := Lib.hid HRE2.out.tk
            obtain ⟨oA, hoA⟩ : ∃ oA, aftO o2 = oA := ⟨_, rfl⟩
            have HOA : Hid (oA.id = id ∧ oA.obj = false ∧ oA.st = 4) := Lib.hid (by rw [← hoA]; unfold aftO; simp only; rw [HRE2.out.id_]; exact ⟨rfl, HRE2.out.obj_, if_neg (by omega)⟩)
            rw [hoA] at VL
            have hLE : i2 ≤ i3 := Nat.le_of_eq hi3
            subst hw3
            subst hi3
            clear hwv hoA
            go_wp2_with fail
            refine VL.out.mono ?_
            rintro e w4 ⟨rfl, hb4, ht4, hres⟩
            have HB4 := Lib.hid (HB3.out.trans hb4); have HT4 := Lib.hid (HT3.out.trans ht4)
            obtain ⟨xa, xb, xc, hX2⟩ := HRE2.out.tok
            rcases hres with hbad | ⟨i4, s4, hlt4, hle4, ha4, he4, hre4, hu4, hp4, hj4, hrun4⟩
            · obtain ⟨k, pp, s5, hk, he3, hto3, hre3, hrr⟩ := hbad
              have c6 := hre3.c6
              have zE := hre3.lt
              rw [he3] at c6
              have t2 : ((k : Int) != 0) = true := bne_iff_ne.2 (by omega)
              have HF : Hid (Below w0.heap.size w w4 ∧ TKept w w4 ∧ RBad w4 w0.heap.size E D bv B m R) := Lib.hid ⟨HB4.out, HT4.out, k, pp, s5, hk, he3, hto3, hre3, hrr⟩
              clear hb4 ht4 hre3 hrr hk he3 hto3 hX2
              go_wp2
              (try simp only [Exit.inBlock, Exit.then])
              refine bodyPost_ret (results_none rfl _ _ _) rfl ?_
              exact ⟨rfl, HF.out.1, HF.out.2.1, .inl HF.out.2.2⟩
            · have c6 := hre4.c6
              have zE := hre4.lt
              rw [he4] at c6
              have hX4 : w4.heap[X]? = some (.cells #[.int .i64 xa, .int .i64 xb, .int .i64 xc] 79 (0, 0)) := ht4 _ _ _ hX2
              have NY := rnext7_any w0 w4 E D bv B m s4 hre4 (HC.out.step HB4.out) hz he4
              rw [ha4] at NY
              have HX4 := Lib.hid hX4; have HU4 := Lib.hid hu4; have HE4 := Lib.hid he4; have HP4 : Hid (s2.js.length + 1 ≤ s4.js.length) := Lib.hid hp4
              have hlow4 := hre4.low
              clear hb4 ht4 hre4 hX2 hX4 hu4 he4 ha4 hp4
              cases hn4 : nextI B i4 with
              | no k pp =>
                rw [hn4] at NY
                have hk := nextI_pos hn4
                have hrr : R = .no k pp := by rw [hrun4]; exact run_stop hn4
                have t2 : ((k : Int) != 0) = true := bne_iff_ne.2 (by omega)
                have NY := Lib.hid NY; have HK := Lib.hid hk; have HRR := Lib.hid hrr
                clear hn4 hk hrr hrun4
                go_wp2_with fail
                refine NY.out.mono ?_
                rintro e w5 ⟨rfl, hre5, hb5, ht5⟩
                have hX5 := ht5 _ _ _ HX4.out
                have kx5 := fun j => show w5.cell? ⟨X, j, none⟩ = (#[.int .i64 xa, .int .i64 xb, .int .i64 xc] : Array Value)[j]? by simp [World.cell?, hX5]
                have fx5 := fun j => Go.Joins.unfrozen_of_block hX5 j
                have zX5 := heap_lt hX5
                obtain ⟨W6, hW6⟩ : ∃ W, ((w5.setCell ⟨X, 0, none⟩ (.int .i64 0)).setCell ⟨X, 1, none⟩ (.int .i64 0)).setCell ⟨X, 2, none⟩ (.int .i64 0) = W := ⟨_, rfl⟩
                have hre6 := hre5.put3 hX5 (.int .i64 0) (.int .i64 0) (.int .i64 0)
                have hXlow : w.heap.size ≤ X ∧ w0.heap.size ≤ X := HXL.out
                have hb6 := below_fresh3 (HB4.out.trans hb5) hXlow.2 (.int .i64 0) (.int .i64 0) (.int .i64 0)
                have ht6 := (HT4.out.trans ht5).fresh3 hXlow.1 (.int .i64 0) (.int .i64 0) (.int .i64 0)
                rw [hW6] at hre6 hb6 ht6
                have c6 := hre6.c6
                have zE6 := hre6.lt
                (try simp only at c6)
                have HF : Hid (Below w0.heap.size w W6 ∧ TKept w W6 ∧ RBad W6 w0.heap.size E D bv B m R) := Lib.hid ⟨hb6, ht6, k, pp, _, HK.out, rfl, rfl, hre6, HRR.out⟩
                clear hre5 hb5 ht5 hX5 hre6 hb6 ht6 hXlow
                go_wp2
                (try simp only [Exit.inBlock, Exit.then])
                refine bodyPost_ret (results_none rfl _ _ _) rfl ?_
                exact ⟨rfl, HF.out.1, HF.out.2.1, .inl HF.out.2.2⟩
              | ok t4 =>
                rw [hn4] at NY
                have hsh4 := tok_shape hn4
                obtain ⟨uk, uf, ut⟩ := t4
                have NY2 : Calls Tryz.prog 35 #[ptrV E] w4 fun e w' => e = .returned (.agg #[.int .i64 uk, .int .i64 uf, .int .i64 ut]) ∧ RE w' w0.heap.size E D bv m s4 ∧ Below w0.heap.size w4 w' ∧ TKept w4 w' := NY
                have NY := Lib.hid NY2
                have HN4 := Lib.hid hn4; have HS4 := Lib.hid hsh4; have HRR := Lib.hid hrun4
                clear hn4 hsh4 NY2 hrun4
                go_wp2_with fail
                refine NY.out.mono ?_
                rintro e w5 ⟨rfl, hre5, hb5, ht5⟩
                have hX5 := ht5 _ _ _ HX4.out
                have kx5 := fun j => show w5.cell? ⟨X, j, none⟩ = (#[.int .i64 xa, .int .i64 xb, .int .i64 xc] : Array Value)[j]? by simp [World.cell?, hX5]
                have fx5 := fun j => Go.Joins.unfrozen_of_block hX5 j
                have zX5 := heap_lt hX5
                obtain ⟨W6, hW6⟩ : ∃ W, ((w5.setCell ⟨X, 0, none⟩ (.int .i64 uk)).setCell ⟨X, 1, none⟩ (.int .i64 uf)).setCell ⟨X, 2, none⟩ (.int .i64 ut) = W := ⟨_, rfl⟩
                have hre6 := hre5.put3 hX5 (.int .i64 uk) (.int .i64 uf) (.int .i64 ut)
                have hXlow : w.heap.size ≤ X ∧ w0.heap.size ≤ X := HXL.out
                have hb6 := below_fresh3 (HB4.out.trans hb5) hXlow.2 (.int .i64 uk) (.int .i64 uf) (.int .i64 ut)
                have ht6 := (HT4.out.trans ht5).fresh3 hXlow.1 (.int .i64 uk) (.int .i64 uf) (.int .i64 ut)
                have hX6 := TKept.three (TKept.refl w5) hX5 (.int .i64 uk) (.int .i64 uf) (.int .i64 ut)
                rw [hW6] at hre6 hb6 ht6 hX6
                have c6 := hre6.c6
                rw [HE4.out] at c6
                have c1 := hre6.c1
                have f1 := hre6.f 1
                have zE6 := hre6.lt
                have zX6 := heap_lt hX6
                have kx6 := fun j => show W6.cell? ⟨X, j, none⟩ = (#[.int .i64 uk, .int .i64 uf, .int .i64 ut] : Array Value)[j]? by simp [World.cell?, hX6]
                have hne : X ≠ E := by obtain ⟨_, _, hh⟩ := hre6; exact ne_type hX6 hh.box (by decide)
                have hne' : E ≠ X := fun e => hne e.symm
                have HRE6 := Lib.hid hre6; have HB6 := Lib.hid hb6; have HT6 := Lib.hid ht6; have HX6 := Lib.hid hX6
                clear hre5 hb5 ht5 hX5 hre6 hb6 ht6 hX6 hXlow
                by_cases hend : uk = 4
                · have hrr := HRR.out.trans (b_ends (m := m) (js := s4.js) (ups := upsN s4.ups) (r := q) HOA.out.2.2 HN4.out (endsS_t (by rw [HOA.out.2.1]; exact hend)))
                  rw [← HQ.out] at hrr
                  have HR5 := Lib.hid hrr
                  have HF : Hid (Below w0.heap.size w (W6.setCell ⟨E, 1, none⟩ (.int .i64 ut)) ∧ TKept w (W6.setCell ⟨E, 1, none⟩ (.int .i64 ut)) ∧ RE (W6.setCell ⟨E, 1, none⟩ (.int .i64 ut)) w0.heap.size E D bv m { s4 with at_ := ut }) := Lib.hid ⟨HB6.out.setCell (p := ⟨E, 1, none⟩) HRE6.out.lowE _, HT6.out.setE HRE6.out 1 _, HRE6.out.setAt ut⟩
                  subst hend
                  clear hrr
                  go_wp2
                  (try simp only [Exit.inBlock, Exit.then])
                  refine bodyPost_ret (results_none rfl _ _ _) rfl ?_
                  have h1 := HS4.out
                  (try simp only at h1)
                  refine ⟨rfl, HF.out.1, HF.out.2.1, .inr ⟨ut.toNat, { s4 with at_ := ut }, by have := HRE2.out.ge; omega, by omega, by show ut = _; omega, HE4.out, HF.out.2.2, HU4.out, by show s.js.length ≤ s4.js.length; have := HRE2.out.jg; have := HP4.out; omega, by show s4.js.length ≤ _; omega, ?_⟩⟩
                  rw [show ((ut.toNat : Nat) : Int) = ut by omega]
                  exact HR5.out
                · have te : (uk != 4) = true := bne_iff_ne.2 hend
                  have te' : (uk == 4) = false := beq_eq_false_iff_ne.2 hend
                  have hne4 : endsS oA ⟨uk, uf, ut⟩ = false := endsS_f (by rw [HOA.out.2.1]; exact hend)
                  have HNE4 := Lib.hid hne4
                  clear hend hne4
                  by_cases h6 : uk = 6
                  · have hrr := HRR.out.trans (b_comma (m := m) (js := s4.js) (ups := upsN s4.ups) (r := q) HOA.out.2.2 HN4.out HNE4.out h6)
                    have hlt5 : s4.js.length ≤ ut.toNat ∧ i4 < ut.toNat ∧ ut.toNat ≤ B.size ∧ ((ut.toNat : Nat) : Int) = ut := by have h1 := HS4.out; (try simp only at h1); omega
                    have R1 : InR w0 w E D X bv B m id false q R i s.js.length undef (W6.setCell ⟨E, 1, none⟩ (.int .i64 ut)) := ⟨ut.toNat, { s4 with at_ := ut }, { oA with st := if oA.obj = true then 2 else 1 }, by show ut = _; omega, HE4.out, hlt5.2.2.1, by have := HRE2.out.ge; omega, HRE6.out.setAt ut, HB6.out.setCell (p := ⟨E, 1, none⟩) HRE6.out.lowE _, HT6.out.setE HRE6.out 1 _, ⟨_, _, _, by rw [Below.heap_setCell _ _ _ _ (show X ≠ (⟨E, 1, none⟩ : Addr).block from hne)]; exact HX6.out⟩, HOA.out.1, HOA.out.2.1, by rw [if_neg (by decide)]; exact wantV_1 (by simp only; rw [HOA.out.2.1]; rfl), HU4.out, (by have := HRE2.out.idl; have := HP4.out; show id < s4.js.length; omega), (by have := HRE2.out.jg; have := HP4.out; show s.js.length ≤ s4.js.length; omega), hlt5.1, by rw [hlt5.2.2.2]; exact hrr.symm⟩
                    have R2 : ∀ v, InR w0 w E D X bv B m id false q R i s.js.length v (W6.setCell ⟨E, 1, none⟩ (.int .i64 ut)) := fun _ => R1
                    have HR1 := Lib.hid R2
                    have hms : i2 < ut.toNat := by have := hlt5.2.1; omega
                    have hms2 : ut.toNat ≤ B.size := hlt5.2.2.1
                    have hmi : i2 ≤ B.size := HRE2.out.le
                    subst h6
                    clear hrr R1 R2 hlt5
                    go_wp2
                    have R := HR1.out
                    refine ⟨?_, ?_⟩
                    · first | exact R _ | ((repeat apply Exists.intro); exact ⟨R _, rfl⟩)
                    · have cs1 := World.cell?_setCell_same W6 ⟨E, 1, none⟩ (.int .i64 ut) c1
                      simp only [intOf, cw1, cs1, Option.getD_some, Int.toNat_natCast]
                      omega
                  · have t6 : (uk != 6) = true := bne_iff_ne.2 h6
                    have hrr := HRR.out.trans (b_no (m := m) (js := s4.js) (ups := upsN s4.ups) (r := q) HOA.out.2.2 HN4.out HNE4.out h6)
                    have HR5 := Lib.hid hrr
                    have WR := Lib.hid (rwrong_any W6 w0.heap.size E D bv m s4 ⟨uk, uf, ut⟩ HRE6.out HE4.out)
                    clear hrr h6
                    go_wp2_with fail
                    refine WR.out.mono ?_
                    rintro e w7 ⟨rfl, hre7, hb7, ht7⟩
                    have HF : Hid (Below w0.heap.size w w7 ∧ TKept w w7 ∧ RBad w7 w0.heap.size E D bv B m R) :=
                      Lib.hid ⟨HB6.out.trans hb7, HT6.out.trans ht7, if uk = 0 then 10 else 11, uf, _, by split <;> decide, by show (if uk = 0 then (10 : Int) else 11) = _; split <;> rfl, rfl, hre7, HR5.out⟩
                    clear hre7 hb7 ht7
                    go_wp2
                    (try simp only [Exit.inBlock, Exit.then])
                    refine bodyPost_ret (results_none rfl _ _ _) rfl ?_
                    exact ⟨rfl, HF.out.1, HF.out.2.1, .inl HF.out.2.2⟩
      · (simp only [if_true] at hek)
        subst hek
        go_enter Tryz.func72, Tryz.ntmps72
        go_wp2_with fail
        refine NX.out.mono ?_
        rintro e w1 ⟨rfl, hre, hb1, ht1⟩
        have c6 := hre.c6
        have zE := hre.lt
        rw [H0.out] at c6
        have hl1 := hre.low
        obtain ⟨X, hX⟩ : ∃ X, w1.heap.size = X := ⟨_, rfl⟩
        obtain ⟨W2, hW2⟩ : ∃ W, w1.alloc (.cells #[.int .i64 tk, .int .i64 tf, .int .i64 tt] 79) = W := ⟨_, rfl⟩
        have hx2 : W2.heap[X]? = some (.cells #[.int .i64 tk, .int .i64 tf, .int .i64 tt] 79 (0, 0)) := by rw [← hW2, ← hX]; exact heap_alloc_new w1 _
        have b12 : Below w1.heap.size w1 W2 := by rw [← hW2]; exact ext_alloc (Below.refl _ _) _
        have c6' := (bcell1 b12 zE 6).trans c6
        have hxl : w.heap.size ≤ w1.heap.size := hb1.size
        have kx := fun j => show W2.cell? ⟨X, j, none⟩ = (#[.int .i64 tk, .int .i64 tf, .int .i64 tt] : Array Value)[j]? by simp [World.cell?, hx2]
        have R0 : InR w0 w E D X bv B m id true q R i s.js.length undef W2 := ⟨i, s, ⟨id, true, 0, ⟨#[]⟩⟩, HAT.out, H0.out, hi, Nat.le_refl _, hre.below b12, hb1.trans (b12.mono hl1), ht1.trans (TKept.of b12), ⟨_, _, _, hx2⟩, rfl, rfl, by rw [← HQ.out]; exact HWANT.out, HU.out, hid, Nat.le_refl _, hj, by rw [← HQ.out]; exact HR.out⟩
        have HR0 := Lib.hid R0
        have zE2 := Nat.lt_of_lt_of_le zE b12.size
        have HXL : Hid (w.heap.size ≤ X ∧ w0.heap.size ≤ X) := Lib.hid ⟨by omega, by omega⟩
        have zX2 := heap_lt hx2
        clear hre hb1 ht1 b12 hx2 R0
        go_wp2_with fail
        clear hW2 hX hxl
        go_loopw [10] (InR w0 w E D X bv B m id true q R i s.js.length) (fun _ wr => B.size + 1 - (intOf ((wr.cell? ⟨E, 1, none⟩).getD undef)).toNat)
        case atStart => exact HR0.out
        case round =>
          obtain ⟨i2, s2, o2, hrel⟩ := hrel
          have HRE2 := Lib.hid hrel
          have c6 := hrel.re.c6
          have cw1 := hrel.re.c1
          have zE := hrel.re.lt
          rw [hrel.err] at c6
          rw [hrel.at_] at cw1
          clear hrel HR0
          have hwk : WantK B m s2.at_ s2.js (upsN s2.ups) o2 q := by have := HRE2.out.want; rw [if_pos rfl] at this; rw [HRE2.out.at_]; exact this
          have KY := Lib.hid (rkey_any w0 wr E D bv B m s2 o2 q HRE2.out.re (HC.out.step HRE2.out.bl) hz HRE2.out.err hwk)
          clear hwk
          go_wp2_with fail
          refine KY.out.mono ?_
          rintro e w3 ⟨x, rfl, hb3, ht3, hres⟩
          rw [HRE2.out.at_, HRE2.out.run] at hres
          rcases hres with hbad | ⟨i3, hlt3, hle3, hre3, hrun3⟩
          · obtain ⟨k, pp, s3, hk, he3, hto3, hre3, hrr⟩ := hbad
            have c6 := hre3.c6
            have zE := hre3.lt
            rw [he3] at c6
            have t1 : ((k : Int) == 0) = false := beq_eq_false_iff_ne.2 (by omega)
            have t2 : ((k : Int) != 0) = true := bne_iff_ne.2 (by omega)
            have HF : Hid (Below w0.heap.size w w3 ∧ TKept w w3 ∧ RBad w3 w0.heap.size E D bv B m R) := Lib.hid ⟨HRE2.out.bl.trans hb3, HRE2.out.tk.trans ht3, k, pp, s3, hk, he3, hto3, hre3, hrr⟩
            clear hb3 ht3 hre3 hrr hk he3 hto3
            go_wp2
            (try simp only [Exit.inBlock, Exit.then])
            refine bodyPost_ret (results_none rfl _ _ _) rfl ?_
            exact ⟨rfl, HF.out.1, HF.out.2.1, .inl HF.out.2.2⟩
          · have c6 := hre3.c6
            have c1 := hre3.c1
            have zE := hre3.lt
            (try simp only at c6 c1)
            rw [HRE2.out.err] at c6
            have VL := HIH.out w3 { s2 with at_ := i3 } { o2 with st := 1, key := x } q i3 x hre3 (HC.out.step (HRE2.out.bl.trans hb3)) HRE2.out.err rfl hle3 (by have := HRE2.out.ge; omega) (wantV_1 rfl) (by simp only; rw [HRE2.out.obj_]; rfl) (.inl ⟨by simp only; rw [HRE2.out.id_]; omega, by simp only; rw [HRE2.out.id_]; have := HRE2.out.idl; omega⟩) HRE2.out.uok (by have := HRE2.out.jl; show s2.js.length ≤ i3; omega) (by have := HQL.out; have := HRE2.out.ge; omega)
            (try simp only at VL)
            rw [← hrun3, HQL.out] at VL
            obtain ⟨oA, hoA⟩ : ∃ oA, aftO { o2 with st := 1, key := x } = oA := ⟨_, rfl⟩
            rw [hoA, HRE2.out.id_] at VL
            have hii : i2 < i3 := by omega
            have HB3 := Lib.hid (HRE2.out.bl.trans hb3); have HT3 := Lib.hid (HRE2.out.tk.trans ht3)
            have VL := Lib.hid VL
            have HOA : Hid (oA.id = id ∧ oA.obj = true ∧ oA.st = 4) := Lib.hid (by rw [← hoA]; unfold aftO; simp only; rw [HRE2.out.id_]; exact ⟨rfl, HRE2.out.obj_, if_neg (by omega)⟩)
            have hLE : i2 ≤ i3 := Nat.le_of_lt hii
            have ht3x := ht3
            clear hb3 ht3 hre3 hrun3 hoA hlt3 KY hii
            go_wp2_with fail
            refine VL.out.mono ?_
            rintro e w4 ⟨rfl, hb4, ht4, hres⟩
            have HB4 := Lib.hid (HB3.out.trans hb4); have HT4 := Lib.hid (HT3.out.trans ht4)
            obtain ⟨xa, xb, xc, hX2⟩ := HRE2.out.tok
            rcases hres with hbad | ⟨i4, s4, hlt4, hle4, ha4, he4, hre4, hu4, hp4, hj4, hrun4⟩
            · obtain ⟨k, pp, s5, hk, he3, hto3, hre3, hrr⟩ := hbad
              have c6 := hre3.c6
              have zE := hre3.lt
              rw [he3] at c6
              have t2 : ((k : Int) != 0) = true := bne_iff_ne.2 (by omega)
              have HF : Hid (Below w0.heap.size w w4 ∧ TKept w w4 ∧ RBad w4 w0.heap.size E D bv B m R) := Lib.hid ⟨HB4.out, HT4.out, k, pp, s5, hk, he3, hto3, hre3, hrr⟩
              clear hb4 ht4 hre3 hrr hk he3 hto3 hX2
              go_wp2
              (try simp only [Exit.inBlock, Exit.then])
              refine bodyPost_ret (results_none rfl _ _ _) rfl ?_
              exact ⟨rfl, HF.out.1, HF.out.2.1, .inl HF.out.2.2⟩
            · have c6 := hre4.c6
              have zE := hre4.lt
              rw [he4] at c6
              have hX4 : w4.heap[X]? = some (.cells #[.int .i64 xa, .int .i64 xb, .int .i64 xc] 79 (0, 0)) := ht4 _ _ _ (ht3x _ _ _ hX2)
              have NY := rnext7_any w0 w4 E D bv B m s4 hre4 (HC.out.step HB4.out) hz he4
              rw [ha4] at NY
              have HX4 := Lib.hid hX4; have HU4 := Lib.hid hu4; have HE4 := Lib.hid he4; have HP4 : Hid (s2.js.length + 1 ≤ s4.js.length) := Lib.hid hp4
              have hlow4 := hre4.low
              clear hb4 ht4 hre4 hX2 hX4 hu4 he4 ha4 hp4
              cases hn4 : nextI B i4 with
              | no k pp =>
                rw [hn4] at NY
                have hk := nextI_pos hn4
                have hrr : R = .no k pp := by rw [hrun4]; exact run_stop hn4
                have t2 : ((k : Int) != 0) = true := bne_iff_ne.2 (by omega)
                have NY := Lib.hid NY; have HK := Lib.hid hk; have HRR := Lib.hid hrr
                clear hn4 hk hrr hrun4
                go_wp2_with fail
                refine NY.out.mono ?_
                rintro e w5 ⟨rfl, hre5, hb5, ht5⟩
                have hX5 := ht5 _ _ _ HX4.out
                have kx5 := fun j => show w5.cell? ⟨X, j, none⟩ = (#[.int .i64 xa, .int .i64 xb, .int .i64 xc] : Array Value)[j]? by simp [World.cell?, hX5]
                have fx5 := fun j => Go.Joins.unfrozen_of_block hX5 j
                have zX5 := heap_lt hX5
                obtain ⟨W6, hW6⟩ : ∃ W, ((w5.setCell ⟨X, 0, none⟩ (.int .i64 0)).setCell ⟨X, 1, none⟩ (.int .i64 0)).setCell ⟨X, 2, none⟩ (.int .i64 0) = W := ⟨_, rfl⟩
                have hre6 := hre5.put3 hX5 (.int .i64 0) (.int .i64 0) (.int .i64 0)
                have hXlow : w.heap.size ≤ X ∧ w0.heap.size ≤ X := HXL.out
                have hb6 := below_fresh3 (HB4.out.trans hb5) hXlow.2 (.int .i64 0) (.int .i64 0) (.int .i64 0)
                have ht6 := (HT4.out.trans ht5).fresh3 hXlow.1 (.int .i64 0) (.int .i64 0) (.int .i64 0)
                rw [hW6] at hre6 hb6 ht6
                have c6 := hre6.c6
                have zE6 := hre6.lt
                (try simp only at c6)
                have HF : Hid (Below w0.heap.size w W6 ∧ TKept w W6 ∧ RBad W6 w0.heap.size E D bv B m R) := Lib.hid ⟨hb6, ht6, k, pp, _, HK.out, rfl, rfl, hre6, HRR.out⟩
                clear hre5 hb5 ht5 hX5 hre6 hb6 ht6 hXlow
                go_wp2
                (try simp only [Exit.inBlock, Exit.then])
                refine bodyPost_ret (results_none rfl _ _ _) rfl ?_
                exact ⟨rfl, HF.out.1, HF.out.2.1, .inl HF.out.2.2⟩
              | ok t4 =>
                rw [hn4] at NY
                have hsh4 := tok_shape hn4
                obtain ⟨uk, uf, ut⟩ := t4
                have NY2 : Calls Tryz.prog 35 #[ptrV E] w4 fun e w' => e = .returned (.agg #[.int .i64 uk, .int .i64 uf, .int .i64 ut]) ∧ RE w' w0.heap.size E D bv m s4 ∧ Below w0.heap.size w4 w' ∧ TKept w4 w' := NY
                have NY := Lib.hid NY2
                have HN4 := Lib.hid hn4; have HS4 := Lib.hid hsh4; have HRR := Lib.hid hrun4
                clear hn4 hsh4 NY2 hrun4
                go_wp2_with fail
                refine NY.out.mono ?_
                rintro e w5 ⟨rfl, hre5, hb5, ht5⟩
                have hX5 := ht5 _ _ _ HX4.out
                have kx5 := fun j => show w5.cell? ⟨X, j, none⟩ = (#[.int .i64 xa, .int .i64 xb, .int .i64 xc] : Array Value)[j]? by simp [World.cell?, hX5]
                have fx5 := fun j => Go.Joins.unfrozen_of_block hX5 j
                have zX5 := heap_lt hX5
                obtain ⟨W6, hW6⟩ : ∃ W, ((w5.setCell ⟨X, 0, none⟩ (.int .i64 uk)).setCell ⟨X, 1, none⟩ (.int .i64 uf)).setCell ⟨X, 2, none⟩ (.int .i64 ut) = W := ⟨_, rfl⟩
                have hre6 := hre5.put3 hX5 (.int .i64 uk) (.int .i64 uf) (.int .i64 ut)
                have hXlow : w.heap.size ≤ X ∧ w0.heap.size ≤ X := HXL.out
                have hb6 := below_fresh3 (HB4.out.trans hb5) hXlow.2 (.int .i64 uk) (.int .i64 uf) (.int .i64 ut)
                have ht6 := (HT4.out.trans ht5).fresh3 hXlow.1 (.int .i64 uk) (.int .i64 uf) (.int .i64 ut)
                have hX6 := TKept.three (TKept.refl w5) hX5 (.int .i64 uk) (.int .i64 uf) (.int .i64 ut)
                rw [hW6] at hre6 hb6 ht6 hX6
                have c6 := hre6.c6
                rw [HE4.out] at c6
                have c1 := hre6.c1
                have f1 := hre6.f 1
                have zE6 := hre6.lt
                have zX6 := heap_lt hX6
                have kx6 := fun j => show W6.cell? ⟨X, j, none⟩ = (#[.int .i64 uk, .int .i64 uf, .int .i64 ut] : Array Value)[j]? by simp [World.cell?, hX6]
                have hne : X ≠ E := by obtain ⟨_, _, hh⟩ := hre6; exact ne_type hX6 hh.box (by decide)
                have hne' : E ≠ X := fun e => hne e.symm
                have HRE6 := Lib.hid hre6; have HB6 := Lib.hid hb6; have HT6 := Lib.hid ht6; have HX6 := Lib.hid hX6
                clear hre5 hb5 ht5 hX5 hre6 hb6 ht6 hX6 hXlow
                by_cases hend : uk = 2
                · have hrr := HRR.out.trans (b_ends (m := m) (js := s4.js) (ups := upsN s4.ups) (r := q) HOA.out.2.2 HN4.out (endsS_t (by rw [HOA.out.2.1]; exact hend)))
                  rw [← HQ.out] at hrr
                  have HR5 := Lib.hid hrr
                  have HF : Hid (Below w0.heap.size w (W6.setCell ⟨E, 1, none⟩ (.int .i64 ut)) ∧ TKept w (W6.setCell ⟨E, 1, none⟩ (.int .i64 ut)) ∧ RE (W6.setCell ⟨E, 1, none⟩ (.int .i64 ut)) w0.heap.size E D bv m { s4 with at_ := ut }) := Lib.hid ⟨HB6.out.setCell (p := ⟨E, 1, none⟩) HRE6.out.lowE _, HT6.out.setE HRE6.out 1 _, HRE6.out.setAt ut⟩
                  subst hend
                  clear hrr
                  go_wp2
                  (try simp only [Exit.inBlock, Exit.then])
                  refine bodyPost_ret (results_none rfl _ _ _) rfl ?_
                  have h1 := HS4.out
                  (try simp only at h1)
                  refine ⟨rfl, HF.out.1, HF.out.2.1, .inr ⟨ut.toNat, { s4 with at_ := ut }, by have := HRE2.out.ge; omega, by omega, by show ut = _; omega, HE4.out, HF.out.2.2, HU4.out, by show s.js.length ≤ s4.js.length; have := HRE2.out.jg; have := HP4.out; omega, by show s4.js.length ≤ _; omega, ?_⟩⟩
                  rw [show ((ut.toNat : Nat) : Int) = ut by omega]
                  exact HR5.out
                · have te : (uk != 2) = true := bne_iff_ne.2 hend
                  have te' : (uk == 2) = false := beq_eq_false_iff_ne.2 hend
                  have hne4 : endsS oA ⟨uk, uf, ut⟩ = false := endsS_f (by rw [HOA.out.2.1]; exact hend)
                  have HNE4 := Lib.hid hne4
                  clear hend hne4
                  by_cases h6 : uk = 6
                  · have hrr := HRR.out.trans (b_comma (m := m) (js := s4.js) (ups := upsN s4.ups) (r := q) HOA.out.2.2 HN4.out HNE4.out h6)
                    have hlt5 : s4.js.length ≤ ut.toNat ∧ i4 < ut.toNat ∧ ut.toNat ≤ B.size ∧ ((ut.toNat : Nat) : Int) = ut := by have h1 := HS4.out; (try simp only at h1); omega
                    have R1 : InR w0 w E D X bv B m id true q R i s.js.length undef (W6.setCell ⟨E, 1, none⟩ (.int .i64 ut)) := ⟨ut.toNat, { s4 with at_ := ut }, { oA with st := if oA.obj = true then 2 else 1 }, by show ut = _; omega, HE4.out, hlt5.2.2.1, by have := HRE2.out.ge; omega, HRE6.out.setAt ut, HB6.out.setCell (p := ⟨E, 1, none⟩) HRE6.out.lowE _, HT6.out.setE HRE6.out 1 _, ⟨_, _, _, by rw [Below.heap_setCell _ _ _ _ (show X ≠ (⟨E, 1, none⟩ : Addr).block from hne)]; exact HX6.out⟩, HOA.out.1, HOA.out.2.1, by rw [if_pos rfl]; exact wantK_2 (by simp only; rw [HOA.out.2.1]; rfl), HU4.out, (by have := HRE2.out.idl; have := HP4.out; show id < s4.js.length; omega), (by have := HRE2.out.jg; have := HP4.out; show s.js.length ≤ s4.js.length; omega), hlt5.1, by rw [hlt5.2.2.2]; exact hrr.symm⟩
                    have R2 : ∀ v, InR w0 w E D X bv B m id true q R i s.js.length v (W6.setCell ⟨E, 1, none⟩ (.int .i64 ut)) := fun _ => R1
                    have HR1 := Lib.hid R2
                    have hms : i2 < ut.toNat := by have := hlt5.2.1; omega
                    have hms2 : ut.toNat ≤ B.size := hlt5.2.2.1
                    have hmi : i2 ≤ B.size := HRE2.out.le
                    subst h6
                    clear hrr R1 R2 hlt5
                    go_wp2
                    have R := HR1.out
                    refine ⟨?_, ?_⟩
                    · first | exact R _ | ((repeat apply Exists.intro); exact ⟨R _, rfl⟩)
                    · have cs1 := World.cell?_setCell_same W6 ⟨E, 1, none⟩ (.int .i64 ut) c1
                      simp only [intOf, cw1, cs1, Option.getD_some, Int.toNat_natCast]
                      omega
                  · have t6 : (uk != 6) = true := bne_iff_ne.2 h6
                    have hrr := HRR.out.trans (b_no (m := m) (js := s4.js) (ups := upsN s4.ups) (r := q) HOA.out.2.2 HN4.out HNE4.out h6)
                    have HR5 := Lib.hid hrr
                    have WR := Lib.hid (rwrong_any W6 w0.heap.size E D bv m s4 ⟨uk, uf, ut⟩ HRE6.out HE4.out)
                    clear hrr h6
                    go_wp2_with fail
                    refine WR.out.mono ?_
                    rintro e w7 ⟨rfl, hre7, hb7, ht7⟩
                    have HF : Hid (Below w0.heap.size w w7 ∧ TKept w w7 ∧ RBad w7 w0.heap.size E D bv B m R) :=
                      Lib.hid ⟨HB6.out.trans hb7, HT6.out.trans ht7, if uk = 0 then 10 else 11, uf, _, by split <;> decide, by show (if uk = 0 then (10 : Int) else 11) = _; split <;> rfl, rfl, hre7, HR5.out⟩
                    clear hre7 hb7 ht7
                    go_wp2
                    (try simp only [Exit.inBlock, Exit.then])
                    refine bodyPost_ret (results_none rfl _ _ _) rfl ?_
                    exact ⟨rfl, HF.out.1, HF.out.2.1, .inl HF.out.2.2⟩
end
section
open Go.RowKit
structure RView (w : World) (D : Nat) (s : PS) (gn cn gu cu : Nat) : Prop where
  c0 : w.cell? ⟨D, 0, none⟩ = some (.slice (some ⟨gn, 0, none⟩) s.js.length cn)
  c1 : w.cell? ⟨D, 1, none⟩ = some (.slice (some ⟨gu, 0, none⟩) s.js.length cu)
  nd : ∀ (i : Nat) x, s.js[i]? = some x → w.cell? ⟨gn, i * 4, none⟩ = some (.int .i64 x.kind) ∧ w.cell? ⟨gn, i * 4 + 1, none⟩ = some (.string x.key) ∧ w.cell? ⟨gn, i * 4 + 2, none⟩ = some (.string x.text) ∧ w.cell? ⟨gn, i * 4 + 3, none⟩ = some (.int .i64 x.at_)
  up : ∀ (i u : Nat), 0 < i → s.ups[i]? = some u → w.cell? ⟨gu, i, none⟩ = some (.int .i64 u)
  up0 : w.cell? ⟨gu, 0, none⟩ = some (.int .i64 (-1))
  zD : D < w.heap.size
  zN : gn < w.heap.size
  zU : gu < w.heap.size
  ul : s.ups.length = s.js.length
  pos : 0 < s.js.length
theorem RView.below {w w' : World} {D gn cn gu cu : Nat} {s : PS} (h : RView w D s gn cn gu cu) (hb : Below w.heap.size w w') : RView w' D s gn cn gu cu :=
  ⟨(bcell1 hb h.zD 0).trans h.c0, (bcell1 hb h.zD 1).trans h.c1, fun i x hx => by
    obtain ⟨h1, h2, h3, h4⟩ := h.nd i x hx
    exact ⟨(bcell1 hb h.zN _).trans h1, (bcell1 hb h.zN _).trans h2, (bcell1 hb h.zN _).trans h3, (bcell1 hb h.zN _).trans h4⟩,
   fun i u h0 hu => (bcell1 hb h.zU _).trans (h.up i u h0 hu), (bcell1 hb h.zU _).trans h.up0, Nat.lt_of_lt_of_le h.zD hb.size, Nat.lt_of_lt_of_le h.zN hb.size, Nat.lt_of_lt_of_le h.zU hb.size, h.ul, h.pos⟩
theorem RDoc.view {w : World} {base D : Nat} {js : List JN} {ups : List Int} {nv uv : Value} {st : List Op} (h : RDoc w base D js ups nv uv) (hu : UOK js ups) (h0 : 0 < js.length) : ∃ gn cn gu cu, RView w D ⟨js, upsN ups, st⟩ gn cn gu cu := by
  have hul := hu.len
  obtain ⟨aN, cN, rfl, hN⟩ := aown_form h.rowN
  obtain ⟨aU, cU, rfl, hU⟩ := aown_form h.rowU
  obtain ⟨gn, rfl, _, zN⟩ : ∃ g, aN = some ⟨g, 0, none⟩ ∧ base ≤ g ∧ g < w.heap.size := by
    rcases hN with ⟨e, _⟩ | e
    · omega
    · exact e
  obtain ⟨gu, rfl, _, zU⟩ : ∃ g, aU = some ⟨g, 0, none⟩ ∧ base ≤ g ∧ g < w.heap.size := by
    rcases hU with ⟨e, _⟩ | e
    · omega
    · exact e
  refine ⟨gn, cN, gu, cU, h.c 0, by rw [h.c 1, hul]; rfl, fun i x hx => ?_, fun i u hi hx => ?_, ?_, heap_lt h.doc, zN, zU, by simp [upsN, hul], h0⟩
  · have c := fun j hj => row_cell jnC_len h.rowN hx (j := j) hj
    exact ⟨c 0 (by decide), c 1 (by decide), c 2 (by decide), c 3 (by decide)⟩
  · simp only [upsN, List.getElem?_map] at hx
    cases hy : ups[i]? with
    | none => rw [hy] at hx; cases hx
    | some y =>
      rw [hy] at hx
      have hyp := hu.pos i y hi hy
      have hyu : y.toNat = u := by simpa using hx
      have hl := (List.getElem?_eq_some_iff.1 hy).1
      rw [h.rowU.cellAt i (by omega), List.getElem?_map, hy, ← hyu]
      simp only [Option.map_some]
      rw [Int.toNat_of_nonneg hyp]
  · rw [h.rowU.cellAt 0 (by omega), List.getElem?_map]
    obtain ⟨y, hy⟩ := get_ex ups 0 (by omega)
    rw [hy, hu.zero y hy]
    rfl
end
end Go.Proofs.YtheoaijheijojaaGreatDoor
