/- The document's reader of JSON texts: a value, walked. -/
import Derived.Test.YtheoaijheijojaaGreatDoorZJrM3s
import Derived.Deep.DeepCutAuto
import Derived.Deep.CutBlock
import Derived.Deep.AppendLies
import Derived.Deep.RegionHeld3
namespace Go.Proofs.YtheoaijheijojaaGreatDoor
open Go.RowKit
theorem room_lt {b n i t : Nat} (h1 : i < t) (h2 : b ≤ n + i) (h3 : t ≤ b) : b - t < n := by omega
def tokL : List Int := [11, 10, 9, 8, 7, 3, 1]
def kindTo (tk : Int) : Nat → Int
  | 0 => -1
  | j + 1 => if tokL[j]? = some tk then (j : Int) else kindTo tk j
theorem kindTo_7 (tk : Int) : kindTo tk 7 = (kindS tk).getD (-1) := by
  simp only [kindTo, tokL, List.getElem?_cons_succ, List.getElem?_cons_zero, Option.some.injEq]
  unfold kindS
  by_cases h1 : 1 = tk
  · subst h1; rfl
  by_cases h3 : 3 = tk
  · subst h3; rfl
  by_cases h7 : 7 = tk
  · subst h7; rfl
  by_cases h8 : 8 = tk
  · subst h8; rfl
  by_cases h9 : 9 = tk
  · subst h9; rfl
  by_cases h10 : 10 = tk
  · subst h10; rfl
  by_cases h11 : 11 = tk
  · subst h11; rfl
  rw [if_neg h1, if_neg h3, if_neg h7, if_neg h8, if_neg h9, if_neg h10, if_neg h11, if_neg (fun e => h1 e.symm), if_neg (fun e => h3 e.symm), if_neg (fun e => h7 e.symm), if_neg (fun e => h8 e.symm), if_neg (fun e => h9 e.symm), if_neg (fun e => h10 e.symm), if_neg (fun e => h11 e.symm)]
  rfl
def TkRel7 (tk : Int) (W : World) (kd i : Value) (wr : World) : Prop := ∃ j nq : Nat, i = .int .i64 j ∧ j ≤ 7 ∧ kd = .int .i64 (kindTo tk j) ∧ wr = W.drewN nq
structure RVt (w0 w : World) (E D : Nat) (bv : Value) (m : Bd) (s : RS) (nv uv : Value) (X Nb : Nat) (t : Tok) (nd : JN) (W : World) : Prop where
  re : REye W w0.heap.size E D bv m s nv uv
  sep : ∀ g, nv.ownBlock = some g → g ≠ Nb
  bl : Below w0.heap.size w W
  tok : W.heap[X]? = some (.cells #[.int .i64 t.kind, .int .i64 t.fr, .int .i64 t.to] 79 (0, 0))
  node : W.heap[Nb]? = some (.cells #[.int .i64 nd.kind, .string nd.key, .string nd.text, .int .i64 nd.at_] 68 (0, 0))
  lowN : w0.heap.size ≤ Nb
  tk : TKept w W
section
variable {w0 w W W' : World} {E D X Nb : Nat} {bv nv uv : Value} {m : Bd} {s : RS} {t : Tok} {nd nd' : JN}
theorem RVt.below (h : RVt w0 w E D bv m s nv uv X Nb t nd W) (hb : Below W.heap.size W W') : RVt w0 w E D bv m s nv uv X Nb t nd W' :=
  ⟨h.re.below hb, h.sep, h.bl.trans (hb.mono (by have := heap_lt h.node; have := h.lowN; omega)), by rw [hb.block X (heap_lt h.tok)]; exact h.tok, by rw [hb.block Nb (heap_lt h.node)]; exact h.node, h.lowN, h.tk.trans (.of hb)⟩
theorem RVt.put (h : RVt w0 w E D bv m s nv uv X Nb t nd W) (j : Nat) (u : Value) (hc : (#[.int .i64 nd'.kind, .string nd'.key, .string nd'.text, .int .i64 nd'.at_] : Array Value) = (#[.int .i64 nd.kind, .string nd.key, .string nd.text, .int .i64 nd.at_] : Array Value).setIfInBounds j u) :
    RVt w0 w E D bv m s nv uv X Nb t nd' (W.setCell ⟨Nb, j, none⟩ u) := by
  have hk : ∀ k, k ≠ Nb → (W.setCell ⟨Nb, j, none⟩ u).heap[k]? = W.heap[k]? := fun k hk => Below.heap_setCell _ _ _ _ hk
  have hN := h.node
  have p := h.re
  refine ⟨⟨?_, ⟨?_, ?_, ?_, p.rd.low⟩, p.low⟩, h.sep, h.bl.setCell (p := ⟨Nb, j, none⟩) h.lowN u, ?_, ?_, h.lowN, h.tk.set (p := ⟨Nb, j, none⟩) hN (by decide) u⟩
  · rw [hk E (ne_type p.box hN (by decide))]; exact p.box
  · rw [hk D (ne_type p.rd.doc hN (by decide))]; exact p.rd.doc
  · exact aown_ext p.rd.rowN (fun g hg => hk g (h.sep g hg)) (Nat.le_refl _)
  · exact aown_ext p.rd.rowU (fun g hg => hk g (by obtain ⟨cur, hc⟩ := own_type p.rd.rowU hg; exact ne_type hc hN (by decide))) (Nat.le_refl _)
  · rw [hk X (ne_type h.tok hN (by decide))]; exact h.tok
  · have := Go.Joins.block_setCell hN (i := j) u
    rw [hc]; simpa using this
theorem RVt.pc {B : ByteArray} (h : RVt w0 w E D bv m s nv uv X Nb t nd W) (hc : PC w0 w bv B) : PC w0 W bv B := hc.step h.bl
theorem RVt.tkc (h : RVt w0 w E D bv m s nv uv X Nb t nd W) (j : Nat) : W.cell? ⟨X, j, none⟩ = (#[.int .i64 t.kind, .int .i64 t.fr, .int .i64 t.to] : Array Value)[j]? := by simp [World.cell?, h.tok]
theorem RVt.nk (h : RVt w0 w E D bv m s nv uv X Nb t nd W) (j : Nat) : W.cell? ⟨Nb, j, none⟩ = (#[.int .i64 nd.kind, .string nd.key, .string nd.text, .int .i64 nd.at_] : Array Value)[j]? := by simp [World.cell?, h.node]
theorem RVt.nf (h : RVt w0 w E D bv m s nv uv X Nb t nd W) (j : Nat) : W.frozen? ⟨Nb, j, none⟩ = false := Go.Joins.unfrozen_of_block h.node j
end
theorem infoApiNode : (Tryz.prog.info? 68).map (fun i => (i.zero, i.size, i.bytes)) = some (some (.agg #[.int .i64 0, .string ⟨#[]⟩, .string ⟨#[]⟩, .int .i64 0]), 4, 48) := by kernel_rfl
theorem infoInt : (Tryz.prog.info? 3).map (fun i => (i.zero, i.size, i.bytes)) = some (some (.int .i64 0), 1, 8) := by kernel_rfl
theorem uok_push {js : List JN} {ups : List Int} {x : JN} {u : Int} (h : UOK js ups) (hu : 0 ≤ u ∧ u < js.length ∨ u = -1 ∧ js = []) : UOK (js ++ [x]) (ups ++ [u]) := by
  have hl := h.len
  refine ⟨by simp [hl], fun i y hi hy => ?_, fun y hy => ?_⟩
  · by_cases hlt : i < ups.length
    · rw [List.getElem?_append_left hlt] at hy; exact h.pos i y hi hy
    · rw [List.getElem?_append_right (by omega)] at hy
      have : i - ups.length = 0 := by
        have := (List.getElem?_eq_some_iff.1 hy).1; simp at this; omega
      rw [this] at hy; simp at hy; subst hy
      rcases hu with h1 | ⟨_, h1⟩
      · exact h1.1
      · rw [h1] at hl; simp at hl; simp [hl] at this; omega
  · rcases hu with h1 | ⟨h1, h2⟩
    · rw [List.getElem?_append_left (by omega)] at hy; exact h.zero y hy
    · have : ups = [] := List.length_eq_zero_iff.1 (by rw [hl, h2]; rfl)
      rw [this] at hy; simp at hy; omega
theorem upsN_push (ups : List Int) (u : Int) : upsN (ups ++ [u]) = upsN ups ++ [u.toNat] := by simp [upsN]
set_option maxRecDepth 100000 in
set_option maxHeartbeats 64000000 in
theorem rvalue_any (w0 : World) (E D : Nat) (bv : Value) (B : ByteArray) (m : Bd) (hz : B.size ≤ 1000000) : ∀ n, ValOK w0 E D bv B m n
  | 0 => fun w s o r i key h hc h0 hat hi hn => by omega
  | n + 1 => fun w s o r i key h hc h0 hat hi hn hw hkey hid hu hj hr => by
    have HNN : Hid (B.size ≤ n + i) := Lib.hid (by omega)
    have NX := rnext7_any w0 w E D bv B m s h hc hz h0
    rw [hat] at NX
    obtain ⟨R, hR⟩ : ∃ R, runS B m i ⟨s.js, upsN s.ups, o :: r⟩ = R := ⟨_, rfl⟩
    have HR := Lib.hid hR; have HC := Lib.hid hc; have H0 := Lib.hid h0; have HAT := Lib.hid hat; have HU := Lib.hid hu; have HW := Lib.hid hw; have HKEY := Lib.hid hkey; have HID := Lib.hid hid
    have IH := Lib.hid (rvalue_any w0 E D bv B m hz n)
    have hlow := hc.bl.size
    have hlow' : w0.heap.size ≤ w.heap.size := h.low
    unfold RVal
    rw [hR]
    obtain ⟨up, hup⟩ : ∃ up, o.id = up := ⟨_, rfl⟩
    rw [hup]
    have HUP := Lib.hid hup
    clear h hc h0 hR hat hu hw hkey hid hup
    cases hnx : nextI B i with
    | no k pp =>
      rw [hnx] at NX
      have hk := nextI_pos hnx
      have hrun : R = .no k pp := by rw [← HR.out]; exact run_stop hnx
      have t1 : ((k : Int) != 0) = true := bne_iff_ne.2 (by omega)
      have NX := Lib.hid NX; have HK := Lib.hid hk; have HRN := Lib.hid hrun
      clear hnx hk hrun
      go_enter Tryz.func34, Tryz.ntmps34
      go_wp2_with fail
      refine NX.out.mono ?_
      rintro e w1 ⟨rfl, hre, hb1, ht1⟩
      have c6 := hre.c6
      have zE := hre.lt
      (try simp only at c6)
      have hl1 := hre.low
      have hre2 := hre.below (ext_alloc (Below.refl _ _) (.cells #[.int .i64 0, .int .i64 0, .int .i64 0] 79))
      have HF : Hid (Below w0.heap.size w (w1.alloc (.cells #[.int .i64 0, .int .i64 0, .int .i64 0] 79)) ∧ TKept w (w1.alloc (.cells #[.int .i64 0, .int .i64 0, .int .i64 0] 79)) ∧ RBad (w1.alloc (.cells #[.int .i64 0, .int .i64 0, .int .i64 0] 79)) w0.heap.size E D bv B m R) := Lib.hid ⟨hb1.alloc hl1 _, ht1.alloc _, k, pp, _, HK.out, rfl, rfl, hre2, HRN.out⟩
      clear hre hb1 ht1 hre2
      go_wp2
      refine bodyPost_ret (results_none rfl _ _ _) rfl ?_
      exact ⟨rfl, HF.out.1, HF.out.2.1, .inl HF.out.2.2⟩
    | ok t =>
      rw [hnx] at NX
      have hsh := tok_shape hnx
      obtain ⟨tk, tf, tt⟩ := t
      have NX2 : Calls Tryz.prog 35 #[ptrV E] w fun e w' => e = .returned (.agg #[.int .i64 tk, .int .i64 tf, .int .i64 tt]) ∧ RE w' w0.heap.size E D bv m s ∧ Below w0.heap.size w w' ∧ TKept w w' := NX
      have NX := Lib.hid NX2
      have HSH := Lib.hid hsh; have HNX := Lib.hid hnx
      clear NX2 hsh hnx
      go_enter Tryz.func34, Tryz.ntmps34
      go_wp2_with fail
      refine NX.out.mono ?_
      rintro e w1 ⟨rfl, hre, hb1, ht1⟩
      have c6 := hre.c6
      have zE := hre.lt
      rw [H0.out] at c6
      have hl1 := hre.low
      obtain ⟨X, hX⟩ : ∃ X, w1.heap.size = X := ⟨_, rfl⟩
      obtain ⟨W2, hW2⟩ : ∃ W, w1.alloc (.cells #[.int .i64 tk, .int .i64 tf, .int .i64 tt] 79) = W := ⟨_, rfl⟩
      have hx2 : W2.heap[X]? = some (.cells #[.int .i64 tk, .int .i64 tf, .int .i64 tt] 79 (0, 0)) := by rw [← hW2, ← hX]; exact heap_alloc_new w1 _
      have b12 : Below w1.heap.size w1 W2 := by rw [← hW2]; exact ext_alloc (Below.refl _ _) _
      have c6' := (bcell1 b12 zE 6).trans c6
      have zE2 := Nat.lt_of_lt_of_le zE b12.size
      have zX2 := heap_lt hx2
      obtain ⟨T, hT⟩ : ∃ T, W2.heap.size = T := ⟨_, rfl⟩
      obtain ⟨W3, hW3⟩ : ∃ W, W2.alloc (.cells #[.int .i64 11, .int .i64 10, .int .i64 9, .int .i64 8, .int .i64 7, .int .i64 3, .int .i64 1] 3) = W := ⟨_, rfl⟩
      have b23 : Below W2.heap.size W2 W3 := by rw [← hW3]; exact ext_alloc (Below.refl _ _) _
      have hlow2 : w0.heap.size ≤ W2.heap.size := by have := b12.size; omega
      have kx := fun j => show W3.cell? ⟨X, j, none⟩ = (#[.int .i64 tk, .int .i64 tf, .int .i64 tt] : Array Value)[j]? by rw [bcell1 b23 zX2 j]; simp [World.cell?, hx2]
      have kT : ∀ (j : Nat) y, tokL[j]? = some y → W3.cell? ⟨T, j, none⟩ = some (.int .i64 y) := fun j y hy => by
        have := new_cells W2 #[.int .i64 11, .int .i64 10, .int .i64 9, .int .i64 8, .int .i64 7, .int .i64 3, .int .i64 1] 3 j (.int .i64 y) (by
          have e : (#[.int .i64 11, .int .i64 10, .int .i64 9, .int .i64 8, .int .i64 7, .int .i64 3, .int .i64 1] : Array Value).toList = tokL.map (Value.int .i64) := rfl
          rw [e, List.getElem?_map, hy]; rfl)
        rw [hW3, hT, Nat.zero_add] at this
        exact this
      have zX3 := Nat.lt_of_lt_of_le zX2 b23.size
      have zT3 : T < W3.heap.size := by rw [← hW3, ← hT]; simp
      have HRE3 := Lib.hid ((hre.below b12).below b23); have HB3 := Lib.hid ((hb1.trans (b12.mono hl1)).trans (b23.mono hlow2)); have HT3 := Lib.hid ((ht1.trans (TKept.of b12)).trans (TKept.of b23))
      have HX3 : Hid (W3.heap[X]? = some (.cells #[.int .i64 tk, .int .i64 tf, .int .i64 tt] 79 (0, 0))) := Lib.hid ((b23.block X zX2).trans hx2)
      have HKT := Lib.hid kT
      have R0 : TkRel7 tk W3 (.int .i64 (-1)) (.int .i64 0) W3 := ⟨0, 0, rfl, by decide, rfl, rfl⟩
      have HR0 := Lib.hid R0
      clear hre hb1 ht1 b12 b23 hx2 R0 kT
      go_wp2_with fail
      clear hW2 hX hW3 hT
      go_loopw [10, 11] (TkRel7 tk W3) (fun _ i _ => 7 - (intOf i).toNat)
      case atStart => exact HR0.out
      case round =>
        obtain ⟨j, nq, rfl, hj7, rfl, rfl⟩ := hrel
        by_cases hlt : j < 7
        · have t1 : decide ((j : Int) < (7 : Int)) = true := decide_eq_true (by omega)
          obtain ⟨y, hy⟩ := get_ex tokL j hlt
          have y1 := HKT.out j y hy
          have q1 : IntKind.i64.wrap ((j : Int) + 1) = (j : Int) + 1 := IntWalk.i64_in _ (by omega)
          by_cases hyt : y = tk
          · have t2 : (y == tk) = true := beq_iff_eq.2 hyt
            have hk1 : kindTo tk (j + 1) = j := by rw [kindTo, if_pos (by rw [hy, hyt])]
            have HK1 := Lib.hid hk1
            clear hk1 hyt hy
            go_wp2
            go_quiet (fail)
            go_wp2
            refine ⟨?_, by simp [intOf]; omega⟩
            have R : ∀ k, TkRel7 tk W3 (.int .i64 j) (.int .i64 ((j : Int) + 1)) (W3.drewN k) := fun k => ⟨j + 1, k, by go_num, by omega, by rw [HK1.out], rfl⟩
            first | exact R _ | ((repeat apply Exists.intro); exact ⟨R _, rfl⟩)
          · have t2 : (y == tk) = false := beq_eq_false_iff_ne.2 hyt
            have hk1 : kindTo tk (j + 1) = kindTo tk j := by rw [kindTo, if_neg (by rw [hy]; simpa using hyt)]
            have HK1 := Lib.hid hk1
            generalize kindTo tk j = kd at *
            clear hk1 hyt hy
            go_wp2
            go_quiet (fail)
            go_wp2
            refine ⟨?_, by simp [intOf]; omega⟩
            have R : ∀ k, TkRel7 tk W3 (.int .i64 kd) (.int .i64 ((j : Int) + 1)) (W3.drewN k) := fun k => ⟨j + 1, k, by go_num, by omega, by rw [HK1.out], rfl⟩
            first | exact R _ | ((repeat apply Exists.intro); exact ⟨R _, rfl⟩)
        · obtain rfl : j = 7 := by omega
          rw [kindTo_7]
          have hre4 := HRE3.out.below (drewN_below _ nq)
          have hb4 := HB3.out.trans (drewN_below (w := W3) w0.heap.size nq)
          have ht4 := HT3.out.drew nq
          have hx4 : (W3.drewN nq).heap[X]? = some (.cells #[.int .i64 tk, .int .i64 tf, .int .i64 tt] 79 (0, 0)) := HX3.out
          generalize W3.drewN nq = W4 at *
          have HRE4 := Lib.hid hre4; have HB4 := Lib.hid hb4; have HT4 := Lib.hid ht4; have HX4 := Lib.hid hx4
          have kx4 := fun j => show W4.cell? ⟨X, j, none⟩ = (#[.int .i64 tk, .int .i64 tf, .int .i64 tt] : Array Value)[j]? by simp [World.cell?, hx4]
          have zX4 := heap_lt hx4
          clear hre4 hb4 ht4 hx4 HR0 HKT HX3 HT3 HB3 HRE3 kx zX3 zT3 c6 c6' zE zE2 zX2
          cases hk : kindS tk with
          | none =>
            have hrr := HR.out.symm.trans (v_none (m := m) HW.out HNX.out hk)
            have HRR := Lib.hid hrr
            have WR := Lib.hid (rwrong_any W4 w0.heap.size E D bv m s ⟨tk, tf, tt⟩ HRE4.out H0.out)
            clear hrr hk
            simp only [Option.getD_none]
            go_wp2_with fail
            refine WR.out.mono ?_
            rintro e w7 ⟨rfl, hre7, hb7, ht7⟩
            have HF : Hid (Below w0.heap.size w w7 ∧ TKept w w7 ∧ RBad w7 w0.heap.size E D bv B m R) :=
              Lib.hid ⟨HB4.out.trans hb7, HT4.out.trans ht7, if tk = 0 then 10 else 11, tf, _, by split <;> decide, by show (if tk = 0 then (10 : Int) else 11) = _; split <;> rfl, rfl, hre7, HRR.out⟩
            clear hre7 hb7 ht7
            go_wp2
            refine bodyPost_ret (results_none rfl _ _ _) rfl ?_
            exact ⟨rfl, HF.out.1, HF.out.2.1, .inl HF.out.2.2⟩
          | some k =>
            have hkk : 0 ≤ k ∧ k ≤ 6 := by
              unfold kindS at hk
              repeat' split at hk
              all_goals first | (cases hk; decide) | (cases hk)
            have tk0 : decide (k < 0) = false := decide_eq_false (by omega)
            simp only [Option.getD_some]
            obtain ⟨nv, uv, hE4⟩ := HRE4.out
            obtain ⟨aN, capN, rfl, _⟩ := aown_form hE4.rd.rowN
            obtain ⟨aU, capU, rfl, _⟩ := aown_form hE4.rd.rowU
            have c5 := HRE4.out.c5
            have c4 := HRE4.out.c4
            have cD0 : W4.cell? ⟨D, 0, none⟩ = some (.slice aN s.js.length capN) := hE4.rd.c 0
            have zE4 := hE4.lt
            have zD4 := heap_lt hE4.rd.doc
            have HE4 := Lib.hid hE4; have HKK := Lib.hid hkk
            clear hE4
            by_cases hm : m.nodes ≤ s.js.length
            · have hrr := HR.out.symm.trans (v_many (m := m) HW.out HNX.out hk hm)
              have HRR := Lib.hid hrr
              have tm : decide (m.nodes ≤ (s.js.length : Int)) = true := decide_eq_true hm
              have FL := Lib.hid (fun n => rfail_any (W4.drewN n) w0.heap.size E D bv m s 15 tf (HRE4.out.below (drewN_below _ n)) H0.out)
              clear hrr hk hm hkk
              go_wp2
              go_quiet (fail)
              go_wp2_with fail
              refine (FL.out _).mono ?_
              rintro e w7 ⟨rfl, hre7, hb7, ht7⟩
              have HF : Hid (Below w0.heap.size w w7 ∧ TKept w w7 ∧ RBad w7 w0.heap.size E D bv B m R) :=
                Lib.hid ⟨(drewN_heapB HB4.out _).trans hb7, (HT4.out.drew _).trans ht7, 15, tf, _, by decide, rfl, rfl, hre7, HRR.out⟩
              clear hre7 hb7 ht7
              go_wp2
              refine bodyPost_ret (results_none rfl _ _ _) rfl ?_
              exact ⟨rfl, HF.out.1, HF.out.2.1, .inl HF.out.2.2⟩
            · have tm : decide (m.nodes ≤ (s.js.length : Int)) = false := decide_eq_false hm
              have HM := Lib.hid hm; have HK := Lib.hid hk
              clear hm hk hkk
              go_wp2
              go_quiet (fail)
              generalize hW5 : W4.drewN _ = W5
              have hE5 : REye W5 w0.heap.size E D bv m s (.slice aN s.js.length capN) (.slice aU s.ups.length capU) := by rw [← hW5]; exact HE4.out.below (drewN_below _ _)
              have hb5 : Below w0.heap.size w W5 := by rw [← hW5]; exact drewN_heapB HB4.out _
              have ht5 : TKept w W5 := by rw [← hW5]; exact HT4.out.drew _
              have hx5 : W5.heap[X]? = some (.cells #[.int .i64 tk, .int .i64 tf, .int .i64 tt] 79 (0, 0)) := by rw [← hW5]; exact HX4.out
              clear hW5 kx4 zX4 zE4 zD4 cD0 c4 c5 tm
              obtain ⟨Nb, hNb⟩ : ∃ N, W5.heap.size = N := ⟨_, rfl⟩
              obtain ⟨W6, hW6⟩ : ∃ W, W5.alloc (.cells #[.int .i64 k, .string key, .string ⟨#[]⟩, .int .i64 tf] 68) = W := ⟨_, rfl⟩
              have b56 : Below W5.heap.size W5 W6 := by rw [← hW6]; exact ext_alloc (Below.refl _ _) _
              have hl5 : w0.heap.size ≤ W5.heap.size := by have := hE5.lt; have := hE5.low; omega
              have hV : RVt w0 w E D bv m s (.slice aN s.js.length capN) (.slice aU s.ups.length capU) X Nb ⟨tk, tf, tt⟩ ⟨k, key, ⟨#[]⟩, tf⟩ W6 :=
                ⟨hE5.below b56, fun g hg => by have := (hE5.rd.rowN.lt g hg).2; omega, hb5.trans (b56.mono hl5), by rw [b56.block X (heap_lt hx5)]; exact hx5, by rw [← hW6, ← hNb]; exact heap_alloc_new W5 _, by omega, ht5.trans (TKept.of b56)⟩
              have HV := Lib.hid hV
              have kx5 := fun j => show W5.cell? ⟨X, j, none⟩ = (#[.int .i64 tk, .int .i64 tf, .int .i64 tt] : Array Value)[j]? by simp [World.cell?, hx5]
              have zX5 := heap_lt hx5
              clear hE5 hb5 ht5 hx5 b56 hV hl5
              go_upto_if 63 with (fail)
              clear hW6 hNb kx5 zX5
              go_cut [] from 62 to 73 (fun wx => RVt w0 w E D bv m s (.slice aN s.js.length capN) (.slice aU s.ups.length capU) X Nb ⟨tk, tf, tt⟩ ⟨k, key, if k = 4 then (textTok B ⟨tk, tf, tt⟩).getD ⟨#[]⟩ else ⟨#[]⟩, tf⟩ wx)
              case first =>
                have hv := HV.out
                have cE := hv.re.c 0
                (try simp only at cE)
                have cE0 : W6.cell? ⟨E, 0, none⟩ = some bv := cE
                have tk5 := hv.tkc
                have n2 : W6.cell? ⟨Nb, 2, none⟩ = some (.string ⟨#[]⟩) := hv.nk 2
                have f2 := hv.nf 2
                have zE := hv.re.lt
                have zX := heap_lt hv.tok
                have zN := heap_lt hv.node
                (try simp only at tk5)
                clear cE
                by_cases k4 : k = 4
                · subst k4
                  have h7 : tk = 7 := by
                    have := HK.out
                    unfold kindS at this
                    repeat' split at this
                    all_goals first | assumption | (cases this)
                  subst h7
                  obtain ⟨x, hx⟩ := text_is HNX.out rfl
                  have hcp := hv.pc HC.out
                  have TX : Hid (∀ n, Calls Tryz.prog 71 #[bv, .agg #[.int .i64 7, .int .i64 tf, .int .i64 tt]] (W6.drewN n) fun e w' => e = .returned (.tuple #[.string x, .bool true]) ∧ Below (W6.drewN n).heap.size (W6.drewN n) w') := Lib.hid (fun n => by
                    have := rftext_any bv B ⟨7, tf, tt⟩ (W6.drewN n) ((hcp.rd.ext hcp.bl).ext (drewN_below _ n)) hz
                    unfold RtPost at this
                    rw [hx] at this
                    exact this)
                  have HX := Lib.hid hx
                  clear hx hv hcp
                  go_wp2_with fail
                  go_region_with (go_at_call 71; refine (TX.out _).mono ?_; rintro e w7 ⟨rfl, hb7⟩; have k1 := (bcell1 hb7 zE 0).trans cE0; have k2 := fun j => (bcell1 hb7 zX j).trans (tk5 j); have k3 := (bcell1 hb7 zN 2).trans n2; have k4 := (bfrozen1 hb7 zN 2).trans f2; have HB7 := Lib.hid hb7; clear hb7)
                  all_goals
                    have hv6 := ((HV.out.below (drewN_below _ _)).below HB7.out).put (nd' := ⟨4, key, x, tf⟩) 2 (.string x) rfl
                    have HV6 := Lib.hid hv6
                    clear hv6 HB7
                    go_wp2
                    go_meet
                    have := HV6.out.below (drewN_below _ 1)
                    (try rw [if_pos rfl])
                    (try rw [if_pos trivial])
                    rw [HX.out]
                    first | exact HV6.out | exact this
                · have e4 : (k == 4) = false := beq_eq_false_iff_ne.2 k4
                  clear hv
                  go_wp2
                  go_meet
                  rw [if_neg k4]
                  exact HV.out
              case rest =>
                have HV2 := Lib.hid hcut
                generalize hnd1 : (if k = 4 then (textTok B ⟨tk, tf, tt⟩).getD ⟨#[]⟩ else (⟨#[]⟩ : ByteArray)) = tx at HV2
                have HTX := Lib.hid hnd1
                clear hcut hnd1 HV
                go_upto_if 75 with (fail)
                go_cut [] from 74 to 86 (fun wx => RVt w0 w E D bv m s (.slice aN s.js.length capN) (.slice aU s.ups.length capU) X Nb ⟨tk, tf, tt⟩ (nodeS B o k ⟨tk, tf, tt⟩) wx)
                case first =>
                  have hv := HV2.out
                  have cE0 : wc.cell? ⟨E, 0, none⟩ = some bv := hv.re.c 0
                  have tk5 := hv.tkc
                  have n2 : wc.cell? ⟨Nb, 2, none⟩ = some (.string tx) := hv.nk 2
                  have f2 := hv.nf 2
                  have zE := hv.re.lt
                  have zX := heap_lt hv.tok
                  have zN := heap_lt hv.node
                  (try simp only at tk5)
                  by_cases k3 : k = 3
                  · subst k3
                    have h8 : tk = 8 := by
                      have := HK.out
                      unfold kindS at this
                      repeat' split at this
                      all_goals first | assumption | (cases this)
                    subst h8
                    have hsh := HSH.out
                    (try simp only at hsh)
                    have hft : tf < tt := by omega
                    obtain ⟨f, rfl⟩ : ∃ f : Nat, tf = f := ⟨tf.toNat, by omega⟩
                    obtain ⟨g, rfl⟩ : ∃ g : Nat, tt = g := ⟨tt.toNat, by omega⟩
                    have hfg : f < g := by omega
                    have hgB : g ≤ B.size := by omega
                    have hrd := (hv.pc HC.out).rd
                    have hbl := (hv.pc HC.out).bl
                    obtain ⟨a, c, hbv, _, hcap, hbc⟩ := hrd.by_inv
                    obtain ⟨bb, off, ha, hbbl, hcells⟩ := hbc (by omega)
                    rw [ha] at hbv
                    have hcv := fun W (hW : ∀ j, W.cell? ⟨bb, j, none⟩ = wc.cell? ⟨bb, j, none⟩) => bytes_back W bb (off + f) (g - f) (c - f) (B.extract f g) (by rw [ByteArray.size_extract]; omega) (fun j hj => by
                      rw [hW, bcell1 hbl hbbl, show off + f + j = off + (f + j) by omega, hcells (f + j) (by omega)]
                      rw [byteAt_extract (by omega)])
                    have q0 : ¬ c = f := by omega
                    have q1 : (f : Int) ≤ (g : Int) := by omega
                    have q2 : (g : Int) ≤ (c : Int) := by omega
                    have hv6 := hv.put (nd' := ⟨3, key, B.extract f g, f⟩) 2 (.string (B.extract f g)) rfl
                    have HV6 := Lib.hid hv6
                    have hnd : nodeS B o 3 ⟨8, f, g⟩ = ⟨3, key, B.extract f g, f⟩ := by rw [node_num, HKEY.out]
                    have HND := Lib.hid hnd
                    rw [hbv] at cE0
                    have cvx := hcv wc (fun _ => rfl)
                    have cvx' : ∀ n, (convert 22 9 (.slice (some ⟨bb, off + f, none⟩) (g - f) (c - f))).run Tryz.prog (wc.drewN n) = .ok (.string (B.extract f g)) (wc.drewN n) := fun n => hcv (wc.drewN n) (fun _ => rfl)
                    have cvx1 := hcv wc.drew (fun _ => rfl)
                    have cvx2 := hcv wc.drew.drew (fun _ => rfl)
                    clear hv hv6 hcv hcells hbl hrd hft hsh hnd hbc ha hbv
                    go_wp2_with fail
                    go_region
                    all_goals
                      go_wp2
                      go_meet
                      rw [HND.out]
                      exact HV6.out.below (drewN_below _ 1)
                  · have e3 : (k == 3) = false := beq_eq_false_iff_ne.2 k3
                    have hnd : nodeS B o k ⟨tk, tf, tt⟩ = ⟨k, key, tx, tf⟩ := by
                      unfold nodeS textN
                      rw [HKEY.out]
                      by_cases k4 : k = 4
                      · rw [if_pos k4, ← HTX.out, if_pos k4]
                      · rw [if_neg k4, if_neg k3, ← HTX.out, if_neg k4]
                    have HND := Lib.hid hnd
                    clear hv hnd
                    go_wp2
                    go_meet
                    rw [HND.out]
                    exact HV2.out
                case rest =>
                  have HV3 := Lib.hid hcut
                  generalize hnd : nodeS B o k ⟨tk, tf, tt⟩ = nd at HV3
                  have HND := Lib.hid hnd
                  clear hcut hnd HV2 HTX
                  have hv : RVt w0 w E D bv m s (.slice aN s.js.length capN) (.slice aU s.ups.length capU) X Nb ⟨tk, tf, tt⟩ nd wc.drew := HV3.out.below (drewN_below _ 1)
                  have hv0 := HV3.out
                  have c5 : wc.drew.cell? ⟨E, 5, none⟩ = some (ptrV D) := hv.re.c 5
                  have cE5 : wc.cell? ⟨E, 5, none⟩ = some (ptrV D) := hv0.re.c 5
                  have cD0 : wc.cell? ⟨D, 0, none⟩ = some (.slice aN s.js.length capN) := hv0.re.rd.c 0
                  have cD : wc.drew.cell? ⟨D, 0, none⟩ = some (.slice aN s.js.length capN) := hv.re.rd.c 0
                  have fD : wc.drew.frozen? ⟨D, 0, none⟩ = false := hv.re.rd.f 0
                  have nk := hv.nk
                  have zE : E < wc.drew.heap.size := hv.re.lt
                  have zD : D < wc.drew.heap.size := heap_lt hv.re.rd.doc
                  have zN : Nb < wc.drew.heap.size := heap_lt hv.node
                  have hlowc : w0.heap.size ≤ wc.drew.heap.size := by have := hv.re.low; omega
                  have HON := Lib.hid hv.re.rd.rowN
                  have nD : ¬ some D = (Value.slice aN s.js.length capN).ownBlock := fun e => by
                    obtain ⟨cur, hcc⟩ := own_type hv.re.rd.rowN e.symm
                    exact ne_type hcc hv.re.rd.doc (by decide) rfl
                  have nE : ¬ some E = (Value.slice aN s.js.length capN).ownBlock := fun e => by
                    obtain ⟨cur, hcc⟩ := own_type hv.re.rd.rowN e.symm
                    exact ne_type hcc hv.re.box (by decide) rfl
                  have nN : ¬ some Nb = (Value.slice aN s.js.length capN).ownBlock := fun e => hv.sep Nb e.symm rfl
                  have hED : E ≠ D := ne_type hv.re.box hv.re.rd.doc (by decide)
                  have hND : Nb ≠ D := ne_type hv.node hv.re.rd.doc (by decide)
                  have ND := Lib.hid nD; have NE := Lib.hid nE; have NN := Lib.hid nN
                  have HMX : Hid (s.js.length + 1 ≤ maxLen) := Lib.hid (by simp [maxLen]; omega)
                  have HBY : Hid ((s.js.length + 1) * 48 ≤ 140737488355328) := Lib.hid (by omega)
                  have HLW : Hid (∀ ob : Obj, w0.heap.size ≤ (wc.drew.alloc ob).heap.size) := Lib.hid (fun ob => by have := (ext_alloc (Below.refl _ wc.drew) ob).size; omega)
                  have HFIN : Hid (∀ (ob : Obj) (v2 : Value) (w2 : World), w2.ownsRow w0.heap.size 68 4 v2 (s.js.length + 1) (s.js.flatMap jnC ++ jnC nd) → (wc.drew.alloc ob).grownBy w2 (Value.slice aN s.js.length capN).ownBlock → REye (w2.setCell ⟨D, 0, none⟩ v2) w0.heap.size E D bv m { s with js := s.js ++ [nd] } v2 (.slice aU s.ups.length capU) ∧ Below w0.heap.size w (w2.setCell ⟨D, 0, none⟩ v2) ∧ TKept w (w2.setCell ⟨D, 0, none⟩ v2) ∧ (w2.setCell ⟨D, 0, none⟩ v2).heap[X]? = some (.cells #[.int .i64 tk, .int .i64 tf, .int .i64 tt] 79 (0, 0))) := Lib.hid (fun ob v2 w2 ho hg => by
                    have hD2 : w2.heap[D]? = some (.cells #[.slice aN s.js.length capN, .slice aU s.ups.length capU] 86 (0, 0)) := by
                      rw [hg.block D (Nat.lt_of_lt_of_le zD (ext_alloc (Below.refl _ wc.drew) ob).size) nD, Below.heap_alloc _ ob D zD]; exact hv.re.rd.doc
                    have htk := (hv.tk.grown hv.re.rd.rowN (by decide) hg).set (p := ⟨D, 0, none⟩) hD2 (by decide) v2
                    refine ⟨hv.re.pushN ho hg, ?_, htk, ?_⟩
                    · exact ((hv.bl.trans ((ext_alloc (Below.refl _ wc.drew) ob).mono hlowc)).grown hg (by have := (ext_alloc (Below.refl _ wc.drew) ob).size; omega) (fun g hg' => (hv.re.rd.rowN.lt g hg').1)).setCell (p := ⟨D, 0, none⟩) hv.re.rd.low v2
                    · exact ((TKept.refl wc.drew).grown hv.re.rd.rowN (by decide) hg).set (p := ⟨D, 0, none⟩) hD2 (by decide) v2 _ _ _ hv.tok)
                  obtain ⟨i0, hi0, hz0, hz1, hz2⟩ := info_parts infoApiNode
                  have HJ := Lib.hid hj
                  clear hv hv0 nD nE nN
                  go_upto_region 19 with (fail)
                  clear cE5 cD0
                  go_cut [] from 95 to 110 (fun wx => ∃ v2, REye wx w0.heap.size E D bv m { s with js := s.js ++ [nd] } v2 (.slice aU s.ups.length capU) ∧ Below w0.heap.size w wx ∧ TKept w wx ∧ wx.heap[X]? = some (.cells #[.int .i64 tk, .int .i64 tf, .int .i64 tt] 79 (0, 0)))
                  case first =>
                    refine wp_region_noPanic ?_
                    refine wp_region_held_drew (S := fun W => W.cell? ⟨E, 5, none⟩ = some (ptrV D) ∧ ∀ j, W.cell? ⟨Nb, j, none⟩ = (#[.int .i64 nd.kind, .string nd.key, .string nd.text, .int .i64 nd.at_] : Array Value)[j]?) (by kernel_rfl) ⟨c5, nk⟩ (fun hHeld => ?_)
                    generalize wc.drew = wd at *
                    refine wpAnyH_take (i := 0) (oi := _) (v := ptrV E) rfl (by kernel_rfl) (by kernel_rfl) (by kernel_rfl) (fun _ _ _ h => h) (Or.inl ⟨by rfl, ?_⟩) hHeld ?_
                    · intro w hSw; go_simp
                    try simp only [Act.put, List.setIfInBounds_toArray, List.set_cons_zero, List.set_cons_succ, List.getElem_toArray, List.getElem_cons_zero]
                    refine wpAnyH_take (i := 1) (oi := _) (v := ptrV E) rfl (by kernel_rfl) (by kernel_rfl) (by kernel_rfl) (fun _ _ _ h => h) (Or.inl ⟨by rfl, ?_⟩) hHeld ?_
                    · intro w hSw; go_simp
                    try simp only [Act.put, List.setIfInBounds_toArray, List.set_cons_zero, List.set_cons_succ, List.getElem_toArray, List.getElem_cons_zero, List.getElem_cons_succ]
                    refine wpAnyH_take (i := 2) (oi := _) (v := .pointer (some ⟨E, 5, none⟩)) rfl (by kernel_rfl) (by kernel_rfl) (by kernel_rfl) (fun _ _ _ h => h) (Or.inl ⟨by rfl, ?_⟩) hHeld ?_
                    · intro w hSw; go_simp
                    try simp only [Act.put, List.setIfInBounds_toArray, List.set_cons_zero, List.set_cons_succ, List.getElem_toArray, List.getElem_cons_zero, List.getElem_cons_succ]
                    refine wpAnyH_take (i := 3) (oi := _) (v := ptrV D) rfl (by kernel_rfl) (by kernel_rfl) (by kernel_rfl) (fun _ _ _ h => h) (Or.inl ⟨by rfl, ?_⟩) hHeld ?_
                    · intro w hSw; go_simp
                    try simp only [Act.put, List.setIfInBounds_toArray, List.set_cons_zero, List.set_cons_succ, List.getElem_toArray, List.getElem_cons_zero, List.getElem_cons_succ]
                    refine wpAnyH_take (i := 4) (oi := _) (v := ptrV E) rfl (by kernel_rfl) (by kernel_rfl) (by kernel_rfl) (fun _ _ _ h => h) (Or.inl ⟨by rfl, ?_⟩) hHeld ?_
                    · intro w hSw; go_simp
                    try simp only [Act.put, List.setIfInBounds_toArray, List.set_cons_zero, List.set_cons_succ, List.getElem_toArray, List.getElem_cons_zero, List.getElem_cons_succ]
                    refine wpAnyH_take (i := 5) (oi := _) (v := ptrV E) rfl (by kernel_rfl) (by kernel_rfl) (by kernel_rfl) (fun _ _ _ h => h) (Or.inl ⟨by rfl, ?_⟩) hHeld ?_
                    · intro w hSw; go_simp
                    try simp only [Act.put, List.setIfInBounds_toArray, List.set_cons_zero, List.set_cons_succ, List.getElem_toArray, List.getElem_cons_zero, List.getElem_cons_succ]
                    refine wpAnyH_take (i := 6) (oi := _) (v := .pointer (some ⟨E, 5, none⟩)) rfl (by kernel_rfl) (by kernel_rfl) (by kernel_rfl) (fun _ _ _ h => h) (Or.inl ⟨by rfl, ?_⟩) hHeld ?_
                    · intro w hSw; go_simp
                    try simp only [Act.put, List.setIfInBounds_toArray, List.set_cons_zero, List.set_cons_succ, List.getElem_toArray, List.getElem_cons_zero, List.getElem_cons_succ]
                    refine wpAnyH_take (i := 7) (oi := _) (v := ptrV D) rfl (by kernel_rfl) (by kernel_rfl) (by kernel_rfl) (fun _ _ _ h => h) (Or.inl ⟨by rfl, ?_⟩) hHeld ?_
                    · intro w hSw; go_simp
                    try simp only [Act.put, List.setIfInBounds_toArray, List.set_cons_zero, List.set_cons_succ, List.getElem_toArray, List.getElem_cons_zero, List.getElem_cons_succ]
                    refine wpAnyH_take (i := 8) (oi := _) (v := ptrV D) rfl (by kernel_rfl) (by kernel_rfl) (by kernel_rfl) (fun _ _ _ h => h) (Or.inl ⟨by rfl, ?_⟩) hHeld ?_
                    · intro w hSw; go_simp
                    try simp only [Act.put, List.setIfInBounds_toArray, List.set_cons_zero, List.set_cons_succ, List.getElem_toArray, List.getElem_cons_zero, List.getElem_cons_succ]
                    refine wpAnyH_take (i := 9) (oi := _) (v := .pointer (some ⟨D, 0, none⟩)) rfl (by kernel_rfl) (by kernel_rfl) (by kernel_rfl) (fun _ _ _ h => h) (Or.inl ⟨by rfl, ?_⟩) hHeld ?_
                    · intro w hSw; go_simp
                    try simp only [Act.put, List.setIfInBounds_toArray, List.set_cons_zero, List.set_cons_succ, List.getElem_toArray, List.getElem_cons_zero, List.getElem_cons_succ]
                    refine wpAnyH_take (i := 11) (oi := _) (v := .agg #[.int .i64 nd.kind, .string nd.key, .string nd.text, .int .i64 nd.at_]) rfl (by kernel_rfl) (by kernel_rfl) (by kernel_rfl) (fun _ _ _ h => h) (Or.inl ⟨by rfl, ?_⟩) hHeld ?_
                    · intro w hSw; go_simp
                    try simp only [Act.put, List.setIfInBounds_toArray, List.set_cons_zero, List.set_cons_succ, List.getElem_toArray, List.getElem_cons_zero, List.getElem_cons_succ]
                    refine wpAnyH_ready (rs := [10, 12]) (by kernel_rfl) (by simp) ?_
                    refine AllReadyH.cons (o := _) rfl (fun K hK => ?_) (AllReadyH.cons (o := _) rfl (fun K hK => ?_) AllReadyH.nil)
                    · go_simp
                      refine hK.out _ _ hHeld (fun hHeld => ?_)
                      clear hK K
                      try simp only [Act.put, List.setIfInBounds_toArray, List.set_cons_zero, List.set_cons_succ, List.getElem_toArray, List.getElem_cons_zero, List.getElem_cons_succ]
                      refine wpAnyH_ready (rs := [12]) (by kernel_rfl) (by simp) ?_
                      refine AllReadyH.cons (o := _) rfl (fun K hK => ?_) AllReadyH.nil
                      go_simp
                      refine hK.out _ _ (⟨cell_alloc _ hHeld.1, fun j => (bcell1 (ext_alloc (Below.refl _ wd) _) zN j).trans (hHeld.2 j)⟩) (fun hHeld => ?_)
                      clear hK K
                      try simp only [Act.put, List.setIfInBounds_toArray, List.set_cons_zero, List.set_cons_succ, List.getElem_toArray, List.getElem_cons_zero, List.getElem_cons_succ]
                      refine wpAnyH_ready (rs := [13]) (by kernel_rfl) (by simp) ?_
                      refine AllReadyH.cons (o := _) rfl (fun K hK => ?_) AllReadyH.nil
                      refine step_append_lies _ (by rfl) _ _ _ (by rfl) w0.heap.size 68 i0 _ 4 48 Tryz.underlying84 hi0 hz0 hz1 hz2 rfl (by omega) (.slice aN s.js.length capN) s.js.length _ (by rfl) (HON.out.alloc _) ⟨wd.heap.size, 0, none⟩ 1 1 [.int .i64 nd.kind, .string nd.key, .string nd.text, .int .i64 nd.at_] (by rfl) (by rfl) (World.news_of_block (cs := #[.int .i64 nd.kind, .string nd.key, .string nd.text, .int .i64 nd.at_]) (t := 68) (fr := (0, 0)) (heap_alloc_new wd _)) (by simp [Value.oneCell']) (by omega) HMX.out HBY.out (HLW.out _) (wd.heap.size + 1) (by simp) ?_
                      intro g' cap' w5 hown5 hgrow hat hlt
                      have b5 := (hgrow.cell_far (a := ⟨E, 5, none⟩) (by simp; omega) NE.out).trans hHeld.1
                      have n5 := fun j => (hgrow.cell_far (a := ⟨Nb, j, none⟩) (by simp; omega) NN.out).trans (hHeld.2 j)
                      have d5 : w5.cell? ⟨D, 0, none⟩ = some (.slice aN s.js.length capN) := (hgrow.cell_far (a := ⟨D, 0, none⟩) (by simp; omega) ND.out).trans (cell_alloc _ cD)
                      have e5 : w5.frozen? ⟨D, 0, none⟩ = false := (hgrow.frozen_far (a := ⟨D, 0, none⟩) (by simp; omega) ND.out).trans ((bfrozen1 (ext_alloc (Below.refl _ wd) _) zD 0).trans fD)
                      have HG := Lib.hid hgrow; have HO5 := Lib.hid hown5
                      clear hgrow hown5 hat
                      refine hK.out _ _ ⟨b5, n5⟩ (fun hHeld => ?_)
                      clear hK K
                      try simp only [Act.put, List.setIfInBounds_toArray, List.set_cons_zero, List.set_cons_succ, List.getElem_toArray, List.getElem_cons_zero, List.getElem_cons_succ]
                      refine wpAnyH_take (i := 14) (oi := _) (v := ptrV D) rfl (by kernel_rfl) (by kernel_rfl) (by kernel_rfl) (fun _ _ _ h => h) (Or.inl ⟨by rfl, ?_⟩) hHeld ?_
                      · intro w hSw; go_simp
                      try simp only [Act.put, List.setIfInBounds_toArray, List.set_cons_zero, List.set_cons_succ, List.getElem_toArray, List.getElem_cons_zero, List.getElem_cons_succ]
                      refine wpAnyH_take (i := 15) (oi := _) (v := .pointer (some ⟨D, 0, none⟩)) rfl (by kernel_rfl) (by kernel_rfl) (by kernel_rfl) (fun _ _ _ h => h) (Or.inl ⟨by rfl, ?_⟩) hHeld ?_
                      · intro w hSw; go_simp
                      try simp only [Act.put, List.setIfInBounds_toArray, List.set_cons_zero, List.set_cons_succ, List.getElem_toArray, List.getElem_cons_zero, List.getElem_cons_succ]
                      refine wpAnyH_ready (rs := [16]) (by kernel_rfl) (by simp) ?_
                      refine AllReadyH.cons (o := _) rfl (fun K hK => ?_) AllReadyH.nil
                      go_simp
                      refine hK.out _ _ ⟨(cell_keep (Below.heap_setCell _ _ _ _ (show E ≠ (⟨D, 0, none⟩ : Addr).block from hED))).trans b5, fun j => (cell_keep (Below.heap_setCell _ _ _ _ (show Nb ≠ (⟨D, 0, none⟩ : Addr).block from hND))).trans (n5 j)⟩ (fun hHeld => ?_)
                      clear hK K
                      try simp only [Act.put, List.setIfInBounds_toArray, List.set_cons_zero, List.set_cons_succ, List.getElem_toArray, List.getElem_cons_zero, List.getElem_cons_succ]
                      refine wpAnyH_done (by kernel_rfl) ?_ _
                      refine NoPanic.normal ?_
                      go_wp2
                      go_meet
                      exact ⟨_, HFIN.out _ _ _ HO5.out HG.out⟩
                    · go_simp
                      refine hK.out _ _ (⟨cell_alloc _ hHeld.1, fun j => (bcell1 (ext_alloc (Below.refl _ wd) _) zN j).trans (hHeld.2 j)⟩) (fun hHeld => ?_)
                      clear hK K
                      try simp only [Act.put, List.setIfInBounds_toArray, List.set_cons_zero, List.set_cons_succ, List.getElem_toArray, List.getElem_cons_zero, List.getElem_cons_succ]
                      refine wpAnyH_ready (rs := [10]) (by kernel_rfl) (by simp) ?_
                      refine AllReadyH.cons (o := _) rfl (fun K hK => ?_) AllReadyH.nil
                      go_simp
                      refine hK.out _ _ hHeld (fun hHeld => ?_)
                      clear hK K
                      try simp only [Act.put, List.setIfInBounds_toArray, List.set_cons_zero, List.set_cons_succ, List.getElem_toArray, List.getElem_cons_zero, List.getElem_cons_succ]
                      refine wpAnyH_ready (rs := [13]) (by kernel_rfl) (by simp) ?_
                      refine AllReadyH.cons (o := _) rfl (fun K hK => ?_) AllReadyH.nil
                      refine step_append_lies _ (by rfl) _ _ _ (by rfl) w0.heap.size 68 i0 _ 4 48 Tryz.underlying84 hi0 hz0 hz1 hz2 rfl (by omega) (.slice aN s.js.length capN) s.js.length _ (by rfl) (HON.out.alloc _) ⟨wd.heap.size, 0, none⟩ 1 1 [.int .i64 nd.kind, .string nd.key, .string nd.text, .int .i64 nd.at_] (by rfl) (by rfl) (World.news_of_block (cs := #[.int .i64 nd.kind, .string nd.key, .string nd.text, .int .i64 nd.at_]) (t := 68) (fr := (0, 0)) (heap_alloc_new wd _)) (by simp [Value.oneCell']) (by omega) HMX.out HBY.out (HLW.out _) (wd.heap.size + 1) (by simp) ?_
                      intro g' cap' w5 hown5 hgrow hat hlt
                      have b5 := (hgrow.cell_far (a := ⟨E, 5, none⟩) (by simp; omega) NE.out).trans hHeld.1
                      have n5 := fun j => (hgrow.cell_far (a := ⟨Nb, j, none⟩) (by simp; omega) NN.out).trans (hHeld.2 j)
                      have d5 : w5.cell? ⟨D, 0, none⟩ = some (.slice aN s.js.length capN) := (hgrow.cell_far (a := ⟨D, 0, none⟩) (by simp; omega) ND.out).trans (cell_alloc _ cD)
                      have e5 : w5.frozen? ⟨D, 0, none⟩ = false := (hgrow.frozen_far (a := ⟨D, 0, none⟩) (by simp; omega) ND.out).trans ((bfrozen1 (ext_alloc (Below.refl _ wd) _) zD 0).trans fD)
                      have HG := Lib.hid hgrow; have HO5 := Lib.hid hown5
                      clear hgrow hown5 hat
                      refine hK.out _ _ ⟨b5, n5⟩ (fun hHeld => ?_)
                      clear hK K
                      try simp only [Act.put, List.setIfInBounds_toArray, List.set_cons_zero, List.set_cons_succ, List.getElem_toArray, List.getElem_cons_zero, List.getElem_cons_succ]
                      refine wpAnyH_take (i := 14) (oi := _) (v := ptrV D) rfl (by kernel_rfl) (by kernel_rfl) (by kernel_rfl) (fun _ _ _ h => h) (Or.inl ⟨by rfl, ?_⟩) hHeld ?_
                      · intro w hSw; go_simp
                      try simp only [Act.put, List.setIfInBounds_toArray, List.set_cons_zero, List.set_cons_succ, List.getElem_toArray, List.getElem_cons_zero, List.getElem_cons_succ]
                      refine wpAnyH_take (i := 15) (oi := _) (v := .pointer (some ⟨D, 0, none⟩)) rfl (by kernel_rfl) (by kernel_rfl) (by kernel_rfl) (fun _ _ _ h => h) (Or.inl ⟨by rfl, ?_⟩) hHeld ?_
                      · intro w hSw; go_simp
                      try simp only [Act.put, List.setIfInBounds_toArray, List.set_cons_zero, List.set_cons_succ, List.getElem_toArray, List.getElem_cons_zero, List.getElem_cons_succ]
                      refine wpAnyH_ready (rs := [16]) (by kernel_rfl) (by simp) ?_
                      refine AllReadyH.cons (o := _) rfl (fun K hK => ?_) AllReadyH.nil
                      go_simp
                      refine hK.out _ _ ⟨(cell_keep (Below.heap_setCell _ _ _ _ (show E ≠ (⟨D, 0, none⟩ : Addr).block from hED))).trans b5, fun j => (cell_keep (Below.heap_setCell _ _ _ _ (show Nb ≠ (⟨D, 0, none⟩ : Addr).block from hND))).trans (n5 j)⟩ (fun hHeld => ?_)
                      clear hK K
                      try simp only [Act.put, List.setIfInBounds_toArray, List.set_cons_zero, List.set_cons_succ, List.getElem_toArray, List.getElem_cons_zero, List.getElem_cons_succ]
                      refine wpAnyH_done (by kernel_rfl) ?_ _
                      refine NoPanic.normal ?_
                      go_wp2
                      go_meet
                      exact ⟨_, HFIN.out _ _ _ HO5.out HG.out⟩
                  case rest =>
                    obtain ⟨vn, hE7, hb7, ht7, hx7⟩ := hcut
                    clear HFIN HMX HBY HLW HON ND NE NN hED hND c5 cD fD nk zE zD zN hlowc hi0 hz0 hz1 hz2
                    have hEd : REye wc.drew w0.heap.size E D bv m { s with js := s.js ++ [nd] } vn (.slice aU s.ups.length capU) := hE7.below (drewN_below _ 1)
                    have hbd : Below w0.heap.size w wc.drew := drewN_heapB hb7 1
                    have htd : TKept w wc.drew := ht7.drew 1
                    have hxd : wc.drew.heap[X]? = some (.cells #[.int .i64 tk, .int .i64 tf, .int .i64 tt] 79 (0, 0)) := hx7
                    have c5 : wc.drew.cell? ⟨E, 5, none⟩ = some (ptrV D) := hEd.c 5
                    have cD : wc.drew.cell? ⟨D, 1, none⟩ = some (.slice aU s.ups.length capU) := hEd.rd.c 1
                    have fD : wc.drew.frozen? ⟨D, 1, none⟩ = false := hEd.rd.f 1
                    have zE : E < wc.drew.heap.size := hEd.lt
                    have zD : D < wc.drew.heap.size := heap_lt hEd.rd.doc
                    have hlowc : w0.heap.size ≤ wc.drew.heap.size := by have := hEd.low; omega
                    have HON := Lib.hid hEd.rd.rowU
                    have nD : ¬ some D = (Value.slice aU s.ups.length capU).ownBlock := fun e => by
                      obtain ⟨cur, hcc⟩ := own_type hEd.rd.rowU e.symm
                      exact ne_type hcc hEd.rd.doc (by decide) rfl
                    have nE : ¬ some E = (Value.slice aU s.ups.length capU).ownBlock := fun e => by
                      obtain ⟨cur, hcc⟩ := own_type hEd.rd.rowU e.symm
                      exact ne_type hcc hEd.box (by decide) rfl
                    have hED : E ≠ D := ne_type hEd.box hEd.rd.doc (by decide)
                    have ND := Lib.hid nD; have NE := Lib.hid nE
                    have HMX : Hid (s.ups.length + 1 ≤ maxLen) := Lib.hid (by have hul := HU.out.len; simp [maxLen]; omega)
                    have HBY : Hid ((s.ups.length + 1) * 8 ≤ 140737488355328) := Lib.hid (by have hul := HU.out.len; omega)
                    have HLW : Hid (∀ ob : Obj, w0.heap.size ≤ (wc.drew.alloc ob).heap.size) := Lib.hid (fun ob => by have := (ext_alloc (Below.refl _ wc.drew) ob).size; omega)
                    have HFIN : Hid (∀ (ob : Obj) (v2 : Value) (w2 : World), w2.ownsRow w0.heap.size 3 1 v2 (s.ups.length + 1) (s.ups.map (Value.int .i64) ++ [.int .i64 up]) → (wc.drew.alloc ob).grownBy w2 (Value.slice aU s.ups.length capU).ownBlock → RE (w2.setCell ⟨D, 1, none⟩ v2) w0.heap.size E D bv m { s with js := s.js ++ [nd], ups := s.ups ++ [up] } ∧ Below w0.heap.size w (w2.setCell ⟨D, 1, none⟩ v2) ∧ TKept w (w2.setCell ⟨D, 1, none⟩ v2) ∧ (w2.setCell ⟨D, 1, none⟩ v2).heap[X]? = some (.cells #[.int .i64 tk, .int .i64 tf, .int .i64 tt] 79 (0, 0))) := Lib.hid (fun ob v2 w2 ho hg => by
                      have hD2 : w2.heap[D]? = some (.cells #[vn, .slice aU s.ups.length capU] 86 (0, 0)) := by
                        rw [hg.block D (Nat.lt_of_lt_of_le zD (ext_alloc (Below.refl _ wc.drew) ob).size) nD, Below.heap_alloc _ ob D zD]; exact hEd.rd.doc
                      have htk := (htd.grown hEd.rd.rowU (by decide) hg).set (p := ⟨D, 1, none⟩) hD2 (by decide) v2
                      refine ⟨⟨_, _, hEd.pushU ho hg⟩, ?_, htk, ?_⟩
                      · exact ((hbd.trans ((ext_alloc (Below.refl _ wc.drew) ob).mono hlowc)).grown hg (by have := (ext_alloc (Below.refl _ wc.drew) ob).size; omega) (fun g hg' => (hEd.rd.rowU.lt g hg').1)).setCell (p := ⟨D, 1, none⟩) hEd.rd.low v2
                      · exact ((TKept.refl wc.drew).grown hEd.rd.rowU (by decide) hg).set (p := ⟨D, 1, none⟩) hD2 (by decide) v2 _ _ _ hxd)
                    obtain ⟨i0, hi0, hz0, hz1, hz2⟩ := info_parts infoInt
                    clear hE7 hb7 ht7 hx7 hEd hbd htd hxd nD nE
                    go_upto_region 20 with (fail)
                    go_cut [] from 111 to 126 (fun wx => RE wx w0.heap.size E D bv m { s with js := s.js ++ [nd], ups := s.ups ++ [up] } ∧ Below w0.heap.size w wx ∧ TKept w wx ∧ wx.heap[X]? = some (.cells #[.int .i64 tk, .int .i64 tf, .int .i64 tt] 79 (0, 0)))
                    case first =>
                      refine wp_region_noPanic ?_
                      refine wp_region_held_drew (S := fun W => W.cell? ⟨E, 5, none⟩ = some (ptrV D)) (by kernel_rfl) c5 (fun hHeld => ?_)
                      generalize wc.drew = wd at *
                      refine wpAnyH_take (i := 0) (oi := _) (v := ptrV E) rfl (by kernel_rfl) (by kernel_rfl) (by kernel_rfl) (fun _ _ _ h => h) (Or.inl ⟨by rfl, ?_⟩) hHeld ?_
                      · intro w hSw; go_simp
                      try simp only [Act.put, List.setIfInBounds_toArray, List.set_cons_zero, List.set_cons_succ, List.getElem_toArray, List.getElem_cons_zero]
                      refine wpAnyH_take (i := 1) (oi := _) (v := ptrV E) rfl (by kernel_rfl) (by kernel_rfl) (by kernel_rfl) (fun _ _ _ h => h) (Or.inl ⟨by rfl, ?_⟩) hHeld ?_
                      · intro w hSw; go_simp
                      try simp only [Act.put, List.setIfInBounds_toArray, List.set_cons_zero, List.set_cons_succ, List.getElem_toArray, List.getElem_cons_zero, List.getElem_cons_succ]
                      refine wpAnyH_take (i := 2) (oi := _) (v := .pointer (some ⟨E, 5, none⟩)) rfl (by kernel_rfl) (by kernel_rfl) (by kernel_rfl) (fun _ _ _ h => h) (Or.inl ⟨by rfl, ?_⟩) hHeld ?_
                      · intro w hSw; go_simp
                      try simp only [Act.put, List.setIfInBounds_toArray, List.set_cons_zero, List.set_cons_succ, List.getElem_toArray, List.getElem_cons_zero, List.getElem_cons_succ]
                      refine wpAnyH_take (i := 3) (oi := _) (v := ptrV D) rfl (by kernel_rfl) (by kernel_rfl) (by kernel_rfl) (fun _ _ _ h => h) (Or.inl ⟨by rfl, ?_⟩) hHeld ?_
                      · intro w hSw; go_simp
                      try simp only [Act.put, List.setIfInBounds_toArray, List.set_cons_zero, List.set_cons_succ, List.getElem_toArray, List.getElem_cons_zero, List.getElem_cons_succ]
                      refine wpAnyH_take (i := 4) (oi := _) (v := ptrV E) rfl (by kernel_rfl) (by kernel_rfl) (by kernel_rfl) (fun _ _ _ h => h) (Or.inl ⟨by rfl, ?_⟩) hHeld ?_
                      · intro w hSw; go_simp
                      try simp only [Act.put, List.setIfInBounds_toArray, List.set_cons_zero, List.set_cons_succ, List.getElem_toArray, List.getElem_cons_zero, List.getElem_cons_succ]
                      refine wpAnyH_take (i := 5) (oi := _) (v := ptrV E) rfl (by kernel_rfl) (by kernel_rfl) (by kernel_rfl) (fun _ _ _ h => h) (Or.inl ⟨by rfl, ?_⟩) hHeld ?_
                      · intro w hSw; go_simp
                      try simp only [Act.put, List.setIfInBounds_toArray, List.set_cons_zero, List.set_cons_succ, List.getElem_toArray, List.getElem_cons_zero, List.getElem_cons_succ]
                      refine wpAnyH_take (i := 6) (oi := _) (v := .pointer (some ⟨E, 5, none⟩)) rfl (by kernel_rfl) (by kernel_rfl) (by kernel_rfl) (fun _ _ _ h => h) (Or.inl ⟨by rfl, ?_⟩) hHeld ?_
                      · intro w hSw; go_simp
                      try simp only [Act.put, List.setIfInBounds_toArray, List.set_cons_zero, List.set_cons_succ, List.getElem_toArray, List.getElem_cons_zero, List.getElem_cons_succ]
                      refine wpAnyH_take (i := 7) (oi := _) (v := ptrV D) rfl (by kernel_rfl) (by kernel_rfl) (by kernel_rfl) (fun _ _ _ h => h) (Or.inl ⟨by rfl, ?_⟩) hHeld ?_
                      · intro w hSw; go_simp
                      try simp only [Act.put, List.setIfInBounds_toArray, List.set_cons_zero, List.set_cons_succ, List.getElem_toArray, List.getElem_cons_zero, List.getElem_cons_succ]
                      refine wpAnyH_take (i := 8) (oi := _) (v := ptrV D) rfl (by kernel_rfl) (by kernel_rfl) (by kernel_rfl) (fun _ _ _ h => h) (Or.inl ⟨by rfl, ?_⟩) hHeld ?_
                      · intro w hSw; go_simp
                      try simp only [Act.put, List.setIfInBounds_toArray, List.set_cons_zero, List.set_cons_succ, List.getElem_toArray, List.getElem_cons_zero, List.getElem_cons_succ]
                      refine wpAnyH_take (i := 9) (oi := _) (v := .pointer (some ⟨D, 1, none⟩)) rfl (by kernel_rfl) (by kernel_rfl) (by kernel_rfl) (fun _ _ _ h => h) (Or.inl ⟨by rfl, ?_⟩) hHeld ?_
                      · intro w hSw; go_simp
                      try simp only [Act.put, List.setIfInBounds_toArray, List.set_cons_zero, List.set_cons_succ, List.getElem_toArray, List.getElem_cons_zero, List.getElem_cons_succ]
                      refine wpAnyH_take (i := 11) (oi := _) (v := .int .i64 up) rfl (by kernel_rfl) (by kernel_rfl) (by kernel_rfl) (fun _ _ _ h => h) (Or.inl ⟨by rfl, ?_⟩) hHeld ?_
                      · intro w hSw; go_simp
                      try simp only [Act.put, List.setIfInBounds_toArray, List.set_cons_zero, List.set_cons_succ, List.getElem_toArray, List.getElem_cons_zero, List.getElem_cons_succ]
                      refine wpAnyH_ready (rs := [10, 12]) (by kernel_rfl) (by simp) ?_
                      refine AllReadyH.cons (o := _) rfl (fun K hK => ?_) (AllReadyH.cons (o := _) rfl (fun K hK => ?_) AllReadyH.nil)
                      · go_simp
                        refine hK.out _ _ hHeld (fun hHeld => ?_)
                        clear hK K
                        try simp only [Act.put, List.setIfInBounds_toArray, List.set_cons_zero, List.set_cons_succ, List.getElem_toArray, List.getElem_cons_zero, List.getElem_cons_succ]
                        refine wpAnyH_ready (rs := [12]) (by kernel_rfl) (by simp) ?_
                        refine AllReadyH.cons (o := _) rfl (fun K hK => ?_) AllReadyH.nil
                        go_simp
                        refine hK.out _ _ (cell_alloc _ hHeld) (fun hHeld => ?_)
                        clear hK K
                        try simp only [Act.put, List.setIfInBounds_toArray, List.set_cons_zero, List.set_cons_succ, List.getElem_toArray, List.getElem_cons_zero, List.getElem_cons_succ]
                        refine wpAnyH_ready (rs := [13]) (by kernel_rfl) (by simp) ?_
                        refine AllReadyH.cons (o := _) rfl (fun K hK => ?_) AllReadyH.nil
                        refine step_append_lies _ (by rfl) _ _ _ (by rfl) w0.heap.size 3 i0 _ 1 8 Tryz.underlying52 hi0 hz0 hz1 hz2 rfl (by omega) (.slice aU s.ups.length capU) s.ups.length _ (by rfl) (HON.out.alloc _) ⟨wd.heap.size, 0, none⟩ 1 1 [.int .i64 up] (by rfl) (by rfl) (World.news_of_block (cs := #[.int .i64 up]) (t := 3) (fr := (0, 0)) (heap_alloc_new wd _)) (by simp [Value.oneCell']) (by omega) HMX.out HBY.out (HLW.out _) (wd.heap.size + 1) (by simp) ?_
                        intro g' cap' w5 hown5 hgrow hat hlt
                        have b5 := (hgrow.cell_far (a := ⟨E, 5, none⟩) (by simp; omega) NE.out).trans hHeld
                        have d5 : w5.cell? ⟨D, 1, none⟩ = some (.slice aU s.ups.length capU) := (hgrow.cell_far (a := ⟨D, 1, none⟩) (by simp; omega) ND.out).trans (cell_alloc _ cD)
                        have e5 : w5.frozen? ⟨D, 1, none⟩ = false := (hgrow.frozen_far (a := ⟨D, 1, none⟩) (by simp; omega) ND.out).trans ((bfrozen1 (ext_alloc (Below.refl _ wd) _) zD 1).trans fD)
                        have HG := Lib.hid hgrow; have HO5 := Lib.hid hown5
                        clear hgrow hown5 hat
                        refine hK.out _ _ b5 (fun hHeld => ?_)
                        clear hK K
                        try simp only [Act.put, List.setIfInBounds_toArray, List.set_cons_zero, List.set_cons_succ, List.getElem_toArray, List.getElem_cons_zero, List.getElem_cons_succ]
                        refine wpAnyH_take (i := 14) (oi := _) (v := ptrV D) rfl (by kernel_rfl) (by kernel_rfl) (by kernel_rfl) (fun _ _ _ h => h) (Or.inl ⟨by rfl, ?_⟩) hHeld ?_
                        · intro w hSw; go_simp
                        try simp only [Act.put, List.setIfInBounds_toArray, List.set_cons_zero, List.set_cons_succ, List.getElem_toArray, List.getElem_cons_zero, List.getElem_cons_succ]
                        refine wpAnyH_take (i := 15) (oi := _) (v := .pointer (some ⟨D, 1, none⟩)) rfl (by kernel_rfl) (by kernel_rfl) (by kernel_rfl) (fun _ _ _ h => h) (Or.inl ⟨by rfl, ?_⟩) hHeld ?_
                        · intro w hSw; go_simp
                        try simp only [Act.put, List.setIfInBounds_toArray, List.set_cons_zero, List.set_cons_succ, List.getElem_toArray, List.getElem_cons_zero, List.getElem_cons_succ]
                        refine wpAnyH_ready (rs := [16]) (by kernel_rfl) (by simp) ?_
                        refine AllReadyH.cons (o := _) rfl (fun K hK => ?_) AllReadyH.nil
                        go_simp
                        refine hK.out _ _ ((cell_keep (Below.heap_setCell _ _ _ _ (show E ≠ (⟨D, 1, none⟩ : Addr).block from hED))).trans b5) (fun hHeld => ?_)
                        clear hK K
                        try simp only [Act.put, List.setIfInBounds_toArray, List.set_cons_zero, List.set_cons_succ, List.getElem_toArray, List.getElem_cons_zero, List.getElem_cons_succ]
                        refine wpAnyH_done (by kernel_rfl) ?_ _
                        refine NoPanic.normal ?_
                        go_wp2
                        go_meet
                        exact HFIN.out _ _ _ HO5.out HG.out
                      · go_simp
                        refine hK.out _ _ (cell_alloc _ hHeld) (fun hHeld => ?_)
                        clear hK K
                        try simp only [Act.put, List.setIfInBounds_toArray, List.set_cons_zero, List.set_cons_succ, List.getElem_toArray, List.getElem_cons_zero, List.getElem_cons_succ]
                        refine wpAnyH_ready (rs := [10]) (by kernel_rfl) (by simp) ?_
                        refine AllReadyH.cons (o := _) rfl (fun K hK => ?_) AllReadyH.nil
                        go_simp
                        refine hK.out _ _ hHeld (fun hHeld => ?_)
                        clear hK K
                        try simp only [Act.put, List.setIfInBounds_toArray, List.set_cons_zero, List.set_cons_succ, List.getElem_toArray, List.getElem_cons_zero, List.getElem_cons_succ]
                        refine wpAnyH_ready (rs := [13]) (by kernel_rfl) (by simp) ?_
                        refine AllReadyH.cons (o := _) rfl (fun K hK => ?_) AllReadyH.nil
                        refine step_append_lies _ (by rfl) _ _ _ (by rfl) w0.heap.size 3 i0 _ 1 8 Tryz.underlying52 hi0 hz0 hz1 hz2 rfl (by omega) (.slice aU s.ups.length capU) s.ups.length _ (by rfl) (HON.out.alloc _) ⟨wd.heap.size, 0, none⟩ 1 1 [.int .i64 up] (by rfl) (by rfl) (World.news_of_block (cs := #[.int .i64 up]) (t := 3) (fr := (0, 0)) (heap_alloc_new wd _)) (by simp [Value.oneCell']) (by omega) HMX.out HBY.out (HLW.out _) (wd.heap.size + 1) (by simp) ?_
                        intro g' cap' w5 hown5 hgrow hat hlt
                        have b5 := (hgrow.cell_far (a := ⟨E, 5, none⟩) (by simp; omega) NE.out).trans hHeld
                        have d5 : w5.cell? ⟨D, 1, none⟩ = some (.slice aU s.ups.length capU) := (hgrow.cell_far (a := ⟨D, 1, none⟩) (by simp; omega) ND.out).trans (cell_alloc _ cD)
                        have e5 : w5.frozen? ⟨D, 1, none⟩ = false := (hgrow.frozen_far (a := ⟨D, 1, none⟩) (by simp; omega) ND.out).trans ((bfrozen1 (ext_alloc (Below.refl _ wd) _) zD 1).trans fD)
                        have HG := Lib.hid hgrow; have HO5 := Lib.hid hown5
                        clear hgrow hown5 hat
                        refine hK.out _ _ b5 (fun hHeld => ?_)
                        clear hK K
                        try simp only [Act.put, List.setIfInBounds_toArray, List.set_cons_zero, List.set_cons_succ, List.getElem_toArray, List.getElem_cons_zero, List.getElem_cons_succ]
                        refine wpAnyH_take (i := 14) (oi := _) (v := ptrV D) rfl (by kernel_rfl) (by kernel_rfl) (by kernel_rfl) (fun _ _ _ h => h) (Or.inl ⟨by rfl, ?_⟩) hHeld ?_
                        · intro w hSw; go_simp
                        try simp only [Act.put, List.setIfInBounds_toArray, List.set_cons_zero, List.set_cons_succ, List.getElem_toArray, List.getElem_cons_zero, List.getElem_cons_succ]
                        refine wpAnyH_take (i := 15) (oi := _) (v := .pointer (some ⟨D, 1, none⟩)) rfl (by kernel_rfl) (by kernel_rfl) (by kernel_rfl) (fun _ _ _ h => h) (Or.inl ⟨by rfl, ?_⟩) hHeld ?_
                        · intro w hSw; go_simp
                        try simp only [Act.put, List.setIfInBounds_toArray, List.set_cons_zero, List.set_cons_succ, List.getElem_toArray, List.getElem_cons_zero, List.getElem_cons_succ]
                        refine wpAnyH_ready (rs := [16]) (by kernel_rfl) (by simp) ?_
                        refine AllReadyH.cons (o := _) rfl (fun K hK => ?_) AllReadyH.nil
                        go_simp
                        refine hK.out _ _ ((cell_keep (Below.heap_setCell _ _ _ _ (show E ≠ (⟨D, 1, none⟩ : Addr).block from hED))).trans b5) (fun hHeld => ?_)
                        clear hK K
                        try simp only [Act.put, List.setIfInBounds_toArray, List.set_cons_zero, List.set_cons_succ, List.getElem_toArray, List.getElem_cons_zero, List.getElem_cons_succ]
                        refine wpAnyH_done (by kernel_rfl) ?_ _
                        refine NoPanic.normal ?_
                        go_wp2
                        go_meet
                        exact HFIN.out _ _ _ HO5.out HG.out
                    case rest =>
                      obtain ⟨hre8, hb8, ht8, hx8⟩ := hcut
                      clear HFIN HMX HBY HLW HON ND NE hED c5 cD fD zE zD hlowc hi0 hz0 hz1 hz2
                      have c1 := hre8.c1
                      have f1 := hre8.f 1
                      have zE := hre8.lt
                      have zX := heap_lt hx8
                      have kx8 := fun j => show wc.cell? ⟨X, j, none⟩ = (#[.int .i64 tk, .int .i64 tf, .int .i64 tt] : Array Value)[j]? by simp [World.cell?, hx8]
                      (try simp only at c1)
                      obtain ⟨W9, hW9⟩ : ∃ W, wc.setCell ⟨E, 1, none⟩ (.int .i64 tt) = W := ⟨_, rfl⟩
                      have hne : X ≠ E := by obtain ⟨_, _, hh⟩ := hre8; exact ne_type hx8 hh.box (by decide)
                      have hre9 := hre8.setAt tt
                      have hb9 := hb8.setCell (p := ⟨E, 1, none⟩) hre8.lowE (.int .i64 tt)
                      have ht9 := ht8.setE hre8 1 (.int .i64 tt)
                      have hx9 : (wc.setCell ⟨E, 1, none⟩ (.int .i64 tt)).heap[X]? = some (.cells #[.int .i64 tk, .int .i64 tf, .int .i64 tt] 79 (0, 0)) := by rw [Below.heap_setCell _ _ _ _ (show X ≠ (⟨E, 1, none⟩ : Addr).block from hne)]; exact hx8
                      rw [hW9] at hre9 hb9 ht9 hx9
                      have c3 := hre9.c3
                      have kx9 := fun j => show W9.cell? ⟨X, j, none⟩ = (#[.int .i64 tk, .int .i64 tf, .int .i64 tt] : Array Value)[j]? by simp [World.cell?, hx9]
                      have zX9 := heap_lt hx9
                      have zE9 := hre9.lt
                      have hup := HUP.out
                      have hups : upsN (s.ups ++ [up]) = upsN s.ups ++ [o.id.toNat] := by rw [upsN_push, hup]
                      have huok : UOK (s.js ++ [nd]) (s.ups ++ [up]) := uok_push HU.out (by rw [← hup]; exact HID.out)
                      have HRE9 := Lib.hid hre9; have HB9 := Lib.hid hb9; have HT9 := Lib.hid ht9; have HUPS := Lib.hid hups; have HUOK := Lib.hid huok
                      clear hre8 hb8 ht8 hx8 hre9 hb9 ht9 hx9 hne hup hups huok
                      have hsh := HSH.out
                      (try simp only at hsh)
                      have htt : i < tt.toNat ∧ tt.toNat ≤ B.size ∧ ((tt.toNat : Nat) : Int) = tt := by
                        have hk0 := kindS_pos (t := ⟨tk, tf, tt⟩) HK.out
                        (try simp only at hk0)
                        omega
                      have HTT := Lib.hid htt
                      clear hsh htt
                      by_cases k5 : k < 5
                      · have hrr := HR.out.symm.trans (v_leaf (m := m) HW.out HNX.out HK.out (by have := HM.out; omega) k5)
                        rw [HND.out] at hrr
                        have HRR := Lib.hid hrr
                        have t5 : decide (k < 5) = true := decide_eq_true k5
                        have HF : Hid (RVal w w0.heap.size E D bv B m i (s.js.length + 1) R (aftO o :: r) (.returned (.tuple #[])) W9) := Lib.hid ⟨rfl, HB9.out, HT9.out, .inr ⟨tt.toNat, { s with js := s.js ++ [nd], ups := s.ups ++ [up], at_ := tt }, HTT.out.1, HTT.out.2.1, HTT.out.2.2.symm, H0.out, HRE9.out, HUOK.out, by simp, by simp; have := HJ.out; have := HTT.out.1; omega, by simp only; rw [HTT.out.2.2, HUPS.out]; exact HRR.out⟩⟩
                        clear hrr k5
                        go_wp2
                        refine bodyPost_ret (results_none rfl _ _ _) rfl ?_
                        first
                        | exact HF.out
                        | (obtain ⟨_, h1, h2, h3⟩ := HF.out
                           refine ⟨rfl, h1, h2, ?_⟩
                           rcases h3 with h | ⟨i', s', q1, q2, q3, q4, q5, q6, q7, q8, q9⟩
                           · exact .inl h
                           · exact .inr ⟨i', q1, q2, s', q3, q4, q5, q6, q7, q8, q9⟩)
                      · have t5 : decide (k < 5) = false := decide_eq_false k5
                        have hrb : r.length ≤ 1000000 := by omega
                        by_cases hd : m.deep < ((o :: r).length : Nat)
                        · have hrr := HR.out.symm.trans (v_deep (m := m) HW.out HNX.out HK.out (by have := HM.out; omega) k5 hd)
                          have HRR := Lib.hid hrr
                          have t9 : decide (m.deep ≤ (r.length : Int)) = true := decide_eq_true (by simp at hd; omega)
                          have FL := Lib.hid (rfail_any W9 w0.heap.size E D bv m _ 13 tf HRE9.out H0.out)
                          clear hrr hd k5
                          go_wp2_with fail
                          refine FL.out.mono ?_
                          rintro e w7 ⟨rfl, hre7, hb7, ht7⟩
                          have HF : Hid (Below w0.heap.size w w7 ∧ TKept w w7 ∧ RBad w7 w0.heap.size E D bv B m R) :=
                            Lib.hid ⟨HB9.out.trans hb7, HT9.out.trans ht7, 13, tf, _, by decide, rfl, rfl, hre7, HRR.out⟩
                          clear hre7 hb7 ht7
                          go_wp2
                          refine bodyPost_ret (results_none rfl _ _ _) rfl ?_
                          exact ⟨rfl, HF.out.1, HF.out.2.1, .inl HF.out.2.2⟩
                        · have hrr := HR.out.symm.trans (v_push (m := m) HW.out HNX.out HK.out (by have := HM.out; omega) k5 hd)
                          rw [HND.out, ← HUPS.out] at hrr
                          have t9 : decide (m.deep ≤ (r.length : Int)) = false := decide_eq_false (by simp at hd; omega)
                          have h56 : k = 5 ∨ k = 6 := by have := HKK.out; omega
                          have q1 : IntKind.i64.wrap ((r.length : Int) + 1) = ((r.length + 1 : Nat) : Int) := (IntWalk.i64_in _ (by omega)).trans (by omega)
                          have IN := rinside_any w0 W9 E D bv B m n IH.out { s with js := s.js ++ [nd], ups := s.ups ++ [up], at_ := tt } s.js.length tt.toNat (k == 6) o r HRE9.out (HC.out.step HB9.out) hz H0.out HTT.out.2.2.symm HTT.out.2.1 (room_lt HTT.out.1 HNN.out HTT.out.2.1) HUOK.out (by simp) (by simp; have := HJ.out; have := HTT.out.1; omega) (by have := HTT.out.1; omega)
                          (try simp only at IN)
                          rw [HTT.out.2.2, ← hrr] at IN
                          have IN := Lib.hid IN
                          clear hrr hd k5
                          rcases h56 with rfl | rfl
                          all_goals
                            go_wp2_with fail
                            refine IN.out.mono ?_
                            rintro e w7 ⟨rfl, hb7, ht7, hres⟩
                            have HF : Hid (RVal w w0.heap.size E D bv B m i (s.js.length + 1) R (aftO o :: r) (.returned (.tuple #[])) w7) := Lib.hid ⟨rfl, HB9.out.trans hb7, HT9.out.trans ht7, by
                              rcases hres with hbad | ⟨i7, s7, q1, q2, q3, q4, q5, q6, q7, q8, q9⟩
                              · exact .inl hbad
                              · exact .inr ⟨i7, s7, by have := HTT.out.1; omega, q2, q3, q4, q5, q6, by simpa using q7, q8, q9⟩⟩
                            clear hb7 ht7 hres
                            go_wp2
                            first
                            | refine bodyPost_ret (results_none rfl _ _ _) rfl ?_
                            | go_end0
                            first
                            | exact HF.out
                            | (obtain ⟨_, h1, h2, h3⟩ := HF.out
                               refine ⟨rfl, h1, h2, ?_⟩
                               rcases h3 with h | ⟨i', s', q1, q2, q3, q4, q5, q6, q7, q8, q9⟩
                               · exact .inl h
                               · exact .inr ⟨i', q1, q2, s', q3, q4, q5, q6, q7, q8, q9⟩)
end Go.Proofs.YtheoaijheijojaaGreatDoor
