/- The package-level variables that chapters 13 and 14 read, out of the rows' conditions. -/
import Derived.Test.YtbeodjipdpcaiaaGreatDoorYMoreR
import Derived.Test.YtbeodjipdpcaiaaGreatDoorYDec1f
import Derived.Test.YtbeodjipdpcaiaaGreatDoorYPct1s
import Derived.Test.YtbeodjipdpcaiaaGreatDoorYErrs1s
import Derived.Test.YtbeodjipdpcaiaaGreatDoorYHsw1s
import Derived.Test.YtbeodjipdpcaiaaGreatDoorYLbw1s
import Derived.Test.YtbeodjipdpcaiaaGreatDoorYMx0sf
import Derived.Lib.LaidU8T
import Derived.PinnedBridge
set_option maxRecDepth 100000
set_option maxHeartbeats 8000000
namespace Go.Proofs.YtbeodjipdpcaiaaGreatDoor
open Go.RowKit
theorem numberF_k {base most : Nat} {s : ByteArray} {k : Nat} {p : Int} (h : numberF base most s = .no k p) : 10 ≤ k := by
 unfold numberF at h
 split at h
 · injection h with h1 h2; omega
 · split at h
   · injection h with h1 h2; omega
   · split at h
     · injection h with h1 h2; omega
     · cases h
def badZ (r : Sc (List (Nat × Bool))) : Int := match r with
 | .ok _ => -1
 | .no _ p => p
def RbdRel (s : ByteArray) (R : Sc (List (Nat × Bool))) (w : World) (iv : Value) (wr : World) : Prop := ∃ (j : Nat) (acc : List (Nat × Bool)), iv = .int .i64 j ∧ j ≤ s.size ∧ pctG ((bytesN s).drop j) j acc = R ∧ Below w.heap.size w wr
theorem rbad_any (s : ByteArray) (w : World) (hs : s.size ≤ 1000000) : Calls Tryz.prog 130 #[.string s] w fun e w' => e = .returned (.int .i64 (badZ (pctL (bytesN s)))) ∧ Below w.heap.size w w' := by
 obtain ⟨R, hR⟩ : ∃ R, pctL (bytesN s) = R := ⟨_, rfl⟩
 rw [hR]
 obtain ⟨Q, hQ⟩ : ∃ Q : Ending → World → Prop, (fun e w' => e = .returned (.int .i64 (badZ R)) ∧ Below w.heap.size w w') = Q := ⟨_, rfl⟩
 have HF : Hid (∀ r W, R = r → Below w.heap.size w W → Q (.returned (.int .i64 (badZ r))) W) := hid (fun r W h hb => by rw [← hQ, h]; exact ⟨rfl, hb⟩)
 rw [hQ]
 have H0 : Hid (RbdRel s R w (.int .i64 0) w) := hid ⟨0, [], rfl, Nat.zero_le _, hR, Below.refl _ _⟩
 clear hR hQ
 go_enter Tryz.func130, Tryz.ntmps130
 go_wp2_with fail
 go_loopw [3] (RbdRel s R w) (fun k _ => s.size - (intOf k).toNat)
 case atStart => exact H0.out
 case round =>
  obtain ⟨j, acc, rfl, hj, hr, hb⟩ := hrel
  have HB := hid hb
  clear hb
  by_cases hlt : j < s.size
  · obtain ⟨t1, t1'⟩ := ltT j s.size hlt
    have q1 := inc j (by omega)
    have q3 : IntKind.i64.wrap ((j : Int) + 3) = (j : Int) + 3 := i64n _ (by omega)
    have hgb := byteAt_get s j hlt
    have hdr : (bytesN s).drop j = byteAt s j :: (bytesN s).drop (j + 1) := bytesN_getD hlt
    rw [hdr] at hr
    obtain ⟨x, hx⟩ : ∃ x, byteAt s j = x := ⟨_, rfl⟩
    rw [hx] at hgb hr
    have hgx := hgb.symm
    have HLT := hid hlt
    clear hgb hdr hx
    by_cases h37 : x = 37
    · subst h37
      have t2 : ((37 : Int) == 37) = true := rfl
      by_cases h3 : j + 3 ≤ s.size
      · have t3 : decide ((s.size : Int) < (j : Int) + 3) = false := dcF (by omega)
        obtain ⟨P, hP⟩ : ∃ P, s.extract (j + 1) (j + 3) = P := ⟨_, rfl⟩
        have sl : ∀ W, (Instr.slice 9 (.string s) (some (.int .i64 ((j : Int) + 1))) (some (.int .i64 ((j : Int) + 3))) none).run Tryz.prog W = .ok (.string P) W := fun W => sl_both s (j + 1) (j + 3) (by omega) h3 P hP W
        have hPz : P.size ≤ maxLen := by rw [← hP]; simp [maxLen]; omega
        have NU := rnum16_any P 255 wr hPz (by decide)
        rcases esc_num h3 with ⟨v, e1, e2, e3⟩ | ⟨e1, kk, p, e2⟩
        · rw [hP] at e2
          rw [e2] at NU
          rw [pctG_esc e1, List.drop_drop] at hr
          have HRL : Hid (∀ W, Below w.heap.size w W → RbdRel s R w (.int .i64 ((j : Int) + 3)) W) := hid (fun W h => ⟨j + 3, _, by go_num, h3, by rw [← hr], h⟩)
          have NU := hid NU
          clear hr e1 e2 hP
          go_wp2_with fail
          refine NU.out.mono ?_
          rintro e w2 ⟨⟨n, rfl⟩, rfl⟩
          have HR2 := hid (HRL.out _ (ext_drewN n HB.out))
          go_wp2
          refine ⟨?_, by have := HLT.out; simp [intOf]; omega⟩
          first | exact HR2.out | ((repeat apply Exists.intro); exact ⟨HR2.out, rfl⟩)
        · have hk := numberF_k e2
          rw [hP] at e2
          rw [e2] at NU
          rw [pctG_bad e1] at hr
          have HFF := hid (fun W h => HF.out (.no 11 (j : Nat)) W hr.symm h)
          unfold badZ at HFF
          have t4 : ((kk : Int) == 0) = false := bneI.2 (by omega)
          have t4' : (kk = 0) = False := eq_false (by omega)
          have NU := hid NU
          clear hr e1 e2 hP hk
          go_wp2_with fail
          refine NU.out.mono ?_
          rintro e w2 ⟨⟨n, rfl⟩, rfl⟩
          have HR2 := hid (HFF.out _ (ext_drewN n HB.out))
          go_wp2
          exact HR2.out
      · have t3 : decide ((s.size : Int) < (j : Int) + 3) = true := dcT (by omega)
        rw [pctG_bad (esc_short h3)] at hr
        have HFF := hid (HF.out (.no 11 (j : Nat)) wr hr.symm HB.out)
        unfold badZ at HFF
        clear hr
        go_wp2
        exact HFF.out
    · have t2 : ((x : Int) == 37) = false := by simp; omega
      have t2' : (x = 37) = False := by simp [h37]
      rw [pctG_plain h37] at hr
      have HRL : Hid (RbdRel s R w (.int .i64 ((j : Int) + 1)) wr) := hid ⟨j + 1, _, by go_num, hlt, hr, HB.out⟩
      clear hr h37
      go_wp2
      refine ⟨?_, by have := HLT.out; simp [intOf]; omega⟩
      first | exact HRL.out | ((repeat apply Exists.intro); exact ⟨HRL.out, rfl⟩)
  · obtain ⟨t1, t1'⟩ := ltF j s.size hlt
    rw [List.drop_of_length_le (by rw [bytesN_len]; omega), pctG_nil] at hr
    have HFF := hid (HF.out _ wr hr.symm HB.out)
    unfold badZ at HFF
    clear hr hlt
    go_wp2
    exact HFF.out
theorem rright3_any (s : ByteArray) (w : World) (hs : s.size ≤ 1000000) : Calls Tryz.prog 64 #[.string s] w fun e w' => e = .returned (.int .i64 (badZ (pctL (bytesN s)))) ∧ Below w.heap.size w w' := by
 have K := hid (rbad_any s w hs)
 obtain ⟨z, hz⟩ : ∃ z, badZ (pctL (bytesN s)) = z := ⟨_, rfl⟩
 rw [hz] at K ⊢
 clear hz
 go_enter Tryz.func64, Tryz.ntmps64
 go_wp2_with fail
 refine K.out.mono ?_
 rintro e w1 ⟨rfl, hb⟩
 have HB := hid hb
 clear hb
 go_wp2
 go_ret
 exact ⟨rfl, HB.out⟩
end Go.Proofs.YtbeodjipdpcaiaaGreatDoor
namespace Go.Proofs.YtbeodjipdpcaiaaGreatDoor
open Go.ChangeShapes Go.WideShapes Go.RowKit Go.Lib
def scRen : Go.Shelf.Ren := ⟨fun n => n, fun | 5 => 5 | 119 => 294 | 138 => 296 | 139 => 297 | n => n, fun | 3 => 3 | 4 => 4 | n => n⟩
theorem scTypes : U8Types Tryz.prog scRen := ⟨Tryz.underlying5, Tryz.underlying294, Tryz.underlying296, Tryz.underlying297⟩
theorem scExtra : U8Extra Tryz.prog scRen := ⟨by kernel_rfl, by kernel_rfl, by kernel_rfl, by kernel_rfl, by kernel_rfl, by kernel_rfl, by kernel_rfl⟩
theorem acc_eq : (Rows.laid_unicode_utf8_acceptRanges : DataW Unit) = acceptData := by kernel_rfl
theorem first_eq : Rows.laid_unicode_utf8_first = firstData := Pinned.utf8First_eq
theorem len2 {l : List Value} (h : l.length = 2) : ∃ a b, l = [a, b] := by
 match l, h with
 | [a, b], _ => exact ⟨a, b, rfl⟩
theorem trod_two {fuel : Nat} {fs : Array Field} {tt : TypeId} {W : World} {cs : List Value} {d0 d1 : DataW Unit} {p : List MemPlace} (ht : Tryz.prog.underlying tt = some (.struct fs)) (h : DataW.trod (fun _ => ()) Tryz.prog W 0 (fun _ => true) false fuel tt cs = some (.agg [d0, d1], p)) :
    ∃ (n : Nat) (x0 x1 : DataW Unit × List MemPlace), x0.1 = d0 ∧ x1.1 = d1 ∧ cs.length = Tryz.prog.cellsOf tt ∧ (∀ f, fs[0]? = some f → DataW.trod (fun _ => ()) Tryz.prog W 0 (fun _ => true) false n f.type ((cs.drop f.offset).take (Tryz.prog.cellsOf f.type)) = some x0) ∧ (∀ f, fs[1]? = some f → DataW.trod (fun _ => ()) Tryz.prog W 0 (fun _ => true) false n f.type ((cs.drop f.offset).take (Tryz.prog.cellsOf f.type)) = some x1) := by
 obtain ⟨xs, m, _, hx, hl, hxl, hf⟩ := DataW.trod_struct ht h
 have hx2 : xs.map (·.1) = [d0, d1] := by
  have := congrArg Prod.fst hx
  simpa using this.symm
 obtain ⟨x0, x1, rfl⟩ : ∃ x0 x1, xs = [x0, x1] := by
  match xs, hx2 with
  | [x0, x1], _ => exact ⟨x0, x1, rfl⟩
 simp only [List.map_cons, List.map_nil, List.cons.injEq, and_true] at hx2
 exact ⟨m, x0, x1, hx2.1, hx2.2, hl, fun f hf0 => hf 0 f hf0, fun f hf1 => hf 1 f hf1⟩
theorem span_cells {W : World} {fuel : Nat} {cs : List Value} {a b : Int} {p : List MemPlace}
    (h : DataW.trod (fun _ => ()) Tryz.prog W 0 (fun _ => true) false fuel 243 cs = some (.agg [.lit (.int .i64 a), .lit (.int .i64 b)], p)) : cs = [.int .i64 a, .int .i64 b] := by
 obtain ⟨m, x0, x1, e0, e1, hl, hf0, hf1⟩ := trod_two Tryz.underlying243 h
 have f0 := hf0 _ rfl
 have f1 := hf1 _ rfl
 have c1 : Tryz.prog.cellsOf 3 = 1 := by kernel_rfl
 have ct : Tryz.prog.cellsOf 243 = 2 := by kernel_rfl
 change DataW.trod _ _ _ _ _ _ _ 3 ((cs.drop 0).take (Tryz.prog.cellsOf 3)) = some x0 at f0
 change DataW.trod _ _ _ _ _ _ _ 3 ((cs.drop 1).take (Tryz.prog.cellsOf 3)) = some x1 at f1
 rw [c1] at f0 f1
 rw [ct] at hl
 obtain ⟨n0, k0, hd, _⟩ := DataW.trod_int Tryz.underlying3 f0
 obtain ⟨n1, k1, hd1, _⟩ := DataW.trod_int Tryz.underlying3 f1
 rw [hd] at e0
 rw [hd1] at e1
 simp only [DataW.lit.injEq, Lit.int.injEq, true_and] at e0 e1
 subst e0
 subst e1
 obtain ⟨y0, y1, rfl⟩ := len2 hl
 have g0 : [y0] = [Value.int .i64 n0] := k0
 have g1 : [y1] = [Value.int .i64 n1] := k1
 rw [(List.cons.inj g0).1, (List.cons.inj g1).1]
def zero14 : Array Value := #[.int .i64 0, .int .i64 0, .int .i64 0, .int .i64 0, .int .i64 0, .int .i64 0, .int .i64 0, .int .i64 0, .int .i64 0, .int .i64 0, .int .i64 0, .int .i64 0, .int .i64 0, .int .i64 0]
theorem allow_of {W : World} (h : VarReads Tryz.prog W "waybill/label.allowed" Rows.laid_waybill_label_allowed) (hsh : W.ShapedOpen Tryz.prog) : AllowT W := by
 obtain ⟨g, t, cs, fuel, p, hg, hty, hvar, hd⟩ := h
 obtain rfl := Option.some.inj ((show Tryz.prog.globalNamed "waybill/label.allowed" = some 1 by kernel_rfl).symm.trans hg)
 obtain rfl := Option.some.inj ((show (Tryz.prog.globals[1]?).map (·.type) = some 244 by kernel_rfl).symm.trans hty)
 obtain ⟨cs', hh, hs, _⟩ := hsh.1 1 zero14 244 (of_decide_eq_true (by kernel_rfl)) (by kernel_rfl)
 have hcs : cs' = cs := by
  simp only [World.var?, hg, Option.bind_some, hh] at hvar
  exact Option.some.inj hvar
 subst hcs
 have hs14 : cs'.size = 14 := hs
 have ce : Tryz.prog.cellsOf 243 = 2 := by kernel_rfl
 have key : ∀ i, i < 7 → ∀ a b, ([DataW.agg [.lit (.int .i64 223), .lit (.int .i64 246)], .agg [.lit (.int .i64 248), .lit (.int .i64 8191)], .agg [.lit (.int .i64 11264), .lit (.int .i64 12287)], .agg [.lit (.int .i64 12293), .lit (.int .i64 55295)], .agg [.lit (.int .i64 63744), .lit (.int .i64 64975)], .agg [.lit (.int .i64 65008), .lit (.int .i64 65023)], .agg [.lit (.int .i64 65536), .lit (.int .i64 262143)]] : List (DataW Unit))[i]? = some (.agg [.lit (.int .i64 a), .lit (.int .i64 b)]) → cs'[i * 2]? = some (.int .i64 a) ∧ cs'[i * 2 + 1]? = some (.int .i64 b) := by
  intro i hi a b hab
  obtain ⟨fuel', d, q, hdi, he⟩ := array_elem Tryz.underlying244 hd i hi
  rw [hab] at hdi
  obtain rfl := Option.some.inj hdi
  rw [ce] at he
  have hc := span_cells he
  have e0 := congrArg (·[0]?) hc
  have e1 := congrArg (·[1]?) hc
  simp only [List.getElem?_take, List.getElem?_drop] at e0 e1
  constructor
  · rw [← Array.getElem?_toList]; simpa using e0
  · rw [← Array.getElem?_toList]; simpa using e1
 have k0 := key 0 (by decide) _ _ rfl
 have k1 := key 1 (by decide) _ _ rfl
 have k2 := key 2 (by decide) _ _ rfl
 have k3 := key 3 (by decide) _ _ rfl
 have k4 := key 4 (by decide) _ _ rfl
 have k5 := key 5 (by decide) _ _ rfl
 have k6 := key 6 (by decide) _ _ rfl
 have : cs' = allowC := by
  apply Array.ext_getElem?
  intro i
  match i with
  | 0 => exact k0.1
  | 1 => exact k0.2
  | 2 => exact k1.1
  | 3 => exact k1.2
  | 4 => exact k2.1
  | 5 => exact k2.2
  | 6 => exact k3.1
  | 7 => exact k3.2
  | 8 => exact k4.1
  | 9 => exact k4.2
  | 10 => exact k5.1
  | 11 => exact k5.2
  | 12 => exact k6.1
  | 13 => exact k6.2
  | n + 14 => rw [Array.getElem?_eq_none (by omega), Array.getElem?_eq_none (by rw [allowC_size]; omega)]
 rw [this] at hh
 exact ⟨_, hh⟩
theorem hsEnv_of {W : World} (h : laidMetH Tryz.prog [("unicode/utf8.acceptRanges", Rows.laid_unicode_utf8_acceptRanges), ("errors.errorType", Rows.laid_errors_errorType), ("waybill/label.allowed", Rows.laid_waybill_label_allowed), ("unicode/utf8.first", Rows.laid_unicode_utf8_first)] W) (hsh : W.ShapedOpen Tryz.prog) : HEnv W := by
 have h' : laidMet Tryz.prog [("unicode/utf8.acceptRanges", Rows.laid_unicode_utf8_acceptRanges), ("waybill/label.allowed", Rows.laid_waybill_label_allowed), ("unicode/utf8.first", Rows.laid_unicode_utf8_first)] W ∧ handlesMet Tryz.prog [("errors.errorType", Rows.laid_errors_errorType)] W := h
 have h4 := laidMet.reads h'.1 (List.mem_cons_self ..)
 have ha := laidMet.reads h'.1 (List.mem_cons_of_mem _ (List.mem_cons_self ..))
 have h3 := laidMet.reads h'.1 (List.mem_cons_of_mem _ (List.mem_cons_of_mem _ (List.mem_cons_self ..)))
 rw [acc_eq] at h4
 rw [first_eq] at h3
 exact ⟨maxT_of hsh, glob_of_laid ⟨laidMet_nil _ _, h'.2⟩, utf8Tabs_of_readsT scTypes scExtra h3 h4, allow_of ha hsh⟩
noncomputable def scLay (c : Array Value) : Obj → Obj
 | .cells _ t frozen => .cells c t frozen
 | o => o
noncomputable def hsWorld (os : Os) : World :=
 let w0 := errWorld os
 { w0 with heap := ((w0.heap.modify 1 (scLay allowC)).modify 3 (scLay (firstTab.map fun z => Value.int .u8 z).toArray)).modify 4 (scLay ((List.range 16).flatMap fun i => [Value.int .u8 (accLo i : Int), Value.int .u8 (accHi i : Int)]).toArray) }
theorem hsWorld_met (os : Os) (args : Array Value) : laidMetH Tryz.prog [("unicode/utf8.acceptRanges", Rows.laid_unicode_utf8_acceptRanges), ("errors.errorType", Rows.laid_errors_errorType), ("waybill/label.allowed", Rows.laid_waybill_label_allowed), ("unicode/utf8.first", Rows.laid_unicode_utf8_first)] ((hsWorld os).forCall (fun _ _ => 0) ⟨#[], args, []⟩).memory :=
 laidMetH_of_parts (laidMet_of_run' 8 (by kernel_rfl) (by kernel_rfl)) (by kernel_rfl)
end Go.Proofs.YtbeodjipdpcaiaaGreatDoor
