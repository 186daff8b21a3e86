/- ErrLaid, ScLaid in one text (a claim holds at most 60 files). -/
import Derived.Test.YtheoaijheijojaaGreatDoorRows
import Derived.Test.YtheoaijheijojaaGreatDoorZErrs1s
import Derived.Test.YtheoaijheijojaaGreatDoorZLib2
import Derived.LaidHandle
import Derived.Stop.Joined
import Derived.Test.YtheoaijheijojaaGreatDoorZTxtWs
import Derived.Lib.LaidU8T
import Derived.PinnedBridge
namespace Go.Proofs.YtheoaijheijojaaGreatDoor
section
open Go.ChangeShapes Go.WideShapes Go.RowKit
theorem errOwn : ownKnob Tryz.prog.godebug = none := by kernel_rfl
theorem errLaidOut : laidOutB Tryz.prog = true := by kernel_rfl
theorem errVar : Tryz.prog.globalNamed "errors.errorType" = some 0 := by kernel_rfl
theorem errRtype : (Tryz.prog.cutTypes.find? (·.1 == "internal/reflectlite.rtype")).map (·.2) = some 205 := by kernel_rfl
theorem errOneRow : ((List.range 297).filter fun t => Tryz.prog.rowNamed t [101, 114, 114, 111, 114]) = [26] := by kernel_rfl
theorem errSize : Tryz.prog.types.size = 297 := by kernel_rfl
/-- What the condition gives a walk. -/
theorem glob_of_laid {W : World} (h : laidMetH Tryz.prog [("errors.errorType", Rows.laid_errors_errorType)] W) : Glob W := by
  have h' : laidMet Tryz.prog [] W ∧ handlesMet Tryz.prog [("errors.errorType", Rows.laid_errors_errorType)] W := h
  obtain ⟨name, u, ty, e1, e2, e3, e4, e5⟩ := h'.2 _ (List.mem_singleton.2 rfl)
  have en : name = [101, 114, 114, 111, 114] := (Option.some.inj e1).symm
  subst en
  obtain rfl := Option.some.inj (errRtype.symm.trans e2)
  have hm : ty ∈ (List.range 297).filter fun t => Tryz.prog.rowNamed t [101, 114, 114, 111, 114] := List.mem_filter.2 ⟨List.mem_range.2 (by rw [← errSize]; exact e3), e4⟩
  rw [errOneRow] at hm
  obtain rfl := List.mem_singleton.1 hm
  have hh : typeHandle Tryz.prog 26 = .pointer (some ⟨5, 26, none⟩) := by kernel_rfl
  rw [hh] at e5
  unfold Glob
  simpa using World.var?_cell errVar e5 0
/-- A world that meets the condition. -/
noncomputable def errWorld (os : Os) : World :=
  let w0 := World.holding Tryz.prog os ⟨#[], #[], []⟩
  { w0 with heap := w0.heap.modify 0 fun
      | .cells _ t frozen => .cells #[.iface 205 (.agg #[.pointer (some ⟨5, 26, none⟩)])] t frozen
      | o => o }
end
section
open Go.ChangeShapes Go.WideShapes Go.RowKit Go.Lib
def scRen : Go.Shelf.Ren := ⟨fun n => n, fun | 5 => 5 | 119 => 258 | 138 => 260 | 139 => 261 | n => n, fun | 3 => 3 | 4 => 4 | n => n⟩
theorem scTypes : U8Types Tryz.prog scRen := ⟨Tryz.underlying5, Tryz.underlying258, Tryz.underlying260, Tryz.underlying261⟩
theorem scExtra : U8Extra Tryz.prog scRen := ⟨by kernel_rfl, by kernel_rfl, by kernel_rfl, by kernel_rfl, by kernel_rfl, by kernel_rfl, by kernel_rfl⟩
theorem acc_eq : (Rows.laid_unicode_utf8_acceptRanges : DataW Unit) = acceptData := by kernel_rfl
theorem first_eq : Rows.laid_unicode_utf8_first = firstData := Pinned.utf8First_eq
theorem len2 {l : List Value} (h : l.length = 2) : ∃ a b, l = [a, b] := by
  match l, h with
  | [a, b], _ => exact ⟨a, b, rfl⟩
theorem trod_two {fuel : Nat} {fs : Array Field} {tt : TypeId} {W : World} {cs : List Value} {d0 d1 : DataW Unit} {p : List MemPlace} (ht : Tryz.prog.underlying tt = some (.struct fs)) (h : DataW.trod (fun _ => ()) Tryz.prog W 0 (fun _ => true) false fuel tt cs = some (.agg [d0, d1], p)) :
    ∃ (n : Nat) (x0 x1 : DataW Unit × List MemPlace), x0.1 = d0 ∧ x1.1 = d1 ∧ cs.length = Tryz.prog.cellsOf tt ∧ (∀ f, fs[0]? = some f → DataW.trod (fun _ => ()) Tryz.prog W 0 (fun _ => true) false n f.type ((cs.drop f.offset).take (Tryz.prog.cellsOf f.type)) = some x0) ∧ (∀ f, fs[1]? = some f → DataW.trod (fun _ => ()) Tryz.prog W 0 (fun _ => true) false n f.type ((cs.drop f.offset).take (Tryz.prog.cellsOf f.type)) = some x1) := by
  obtain ⟨xs, m, _, hx, hl, hxl, hf⟩ := DataW.trod_struct ht h
  have hx2 : xs.map (·.1) = [d0, d1] := by
    have := congrArg Prod.fst hx
    simpa using this.symm
  obtain ⟨x0, x1, rfl⟩ : ∃ x0 x1, xs = [x0, x1] := by
    match xs, hx2 with
    | [x0, x1], _ => exact ⟨x0, x1, rfl⟩
  simp only [List.map_cons, List.map_nil, List.cons.injEq, and_true] at hx2
  exact ⟨m, x0, x1, hx2.1, hx2.2, hl, fun f hf0 => hf 0 f hf0, fun f hf1 => hf 1 f hf1⟩
/-- One word of the table. -/
theorem word_cells {W : World} {fuel : Nat} {cs : List Value} {s : List UInt8} {n : Int} {p : List MemPlace}
    (h : DataW.trod (fun _ => ()) Tryz.prog W 0 (fun _ => true) false fuel 181 cs = some (.agg [.lit (.string s), .lit (.int .i64 n)], p)) : cs = [.string ⟨s.toArray⟩, .int .i64 n] := by
  obtain ⟨m, x0, x1, e0, e1, hl, hf0, hf1⟩ := trod_two Tryz.underlying181 h
  have f0 := hf0 _ rfl
  have f1 := hf1 _ rfl
  have c0 : Tryz.prog.cellsOf 9 = 1 := by kernel_rfl
  have c1 : Tryz.prog.cellsOf 3 = 1 := by kernel_rfl
  have ct : Tryz.prog.cellsOf 181 = 2 := by kernel_rfl
  change DataW.trod _ _ _ _ _ _ _ 9 ((cs.drop 0).take (Tryz.prog.cellsOf 9)) = some x0 at f0
  change DataW.trod _ _ _ _ _ _ _ 3 ((cs.drop 1).take (Tryz.prog.cellsOf 3)) = some x1 at f1
  rw [c0] at f0
  rw [c1] at f1
  rw [ct] at hl
  obtain ⟨s', k0, hd, _⟩ := DataW.trod_string Tryz.underlying9 f0
  obtain ⟨n', k1, hd1, _⟩ := DataW.trod_int Tryz.underlying3 f1
  rw [hd] at e0
  rw [hd1] at e1
  simp only [DataW.lit.injEq, Lit.string.injEq, Lit.int.injEq, true_and] at e0 e1
  subst e0
  subst e1
  obtain ⟨y0, y1, rfl⟩ := len2 hl
  have g0 : [y0] = [Value.string s'] := k0
  have g1 : [y1] = [Value.int .i64 n'] := k1
  rw [(List.cons.inj g0).1, (List.cons.inj g1).1]
theorem words_of {W : World} (h : VarReads Tryz.prog W "waybill/scan.words" Rows.laid_waybill_scan_words) : WordsT W := by
  obtain ⟨g, t, cs, fuel, p, hg, hty, hvar, hd⟩ := h
  obtain rfl := Option.some.inj ((show Tryz.prog.globalNamed "waybill/scan.words" = some 1 by kernel_rfl).symm.trans hg)
  obtain rfl := Option.some.inj ((show (Tryz.prog.globals[1]?).map (·.type) = some 182 by kernel_rfl).symm.trans hty)
  have ce : Tryz.prog.cellsOf 181 = 2 := by kernel_rfl
  have key : ∀ i, i < 3 → ∀ s n, ([DataW.agg [.lit (.string [116, 114, 117, 101]), .lit (.int .i64 9)], .agg [.lit (.string [102, 97, 108, 115, 101]), .lit (.int .i64 10)], .agg [.lit (.string [110, 117, 108, 108]), .lit (.int .i64 11)]] : List (DataW Unit))[i]? = some (.agg [.lit (.string s), .lit (.int .i64 n)]) → W.cell? ⟨1, i * 2, none⟩ = some (.string ⟨s.toArray⟩) ∧ W.cell? ⟨1, i * 2 + 1, none⟩ = some (.int .i64 n) := by
    intro i hi s n hs
    obtain ⟨fuel', d, q, hdi, he⟩ := array_elem Tryz.underlying182 hd i hi
    rw [hs] at hdi
    obtain rfl := Option.some.inj hdi
    rw [ce] at he
    have hc := word_cells he
    have e0 := congrArg (·[0]?) hc
    have e1 := congrArg (·[1]?) hc
    simp only [List.getElem?_take, List.getElem?_drop] at e0 e1
    constructor
    · rw [World.var?_cell hg hvar (i * 2), ← Array.getElem?_toList]; simpa using e0
    · rw [World.var?_cell hg hvar (i * 2 + 1), ← Array.getElem?_toList]; simpa using e1
  have k0 := key 0 (by decide) _ _ rfl
  have k1 := key 1 (by decide) _ _ rfl
  have k2 := key 2 (by decide) _ _ rfl
  exact ⟨k0.1, k0.2, k1.1, k1.2, k2.1, k2.2⟩
theorem scEnv_of {W : World} (h : laidMet Tryz.prog [("unicode/utf8.acceptRanges", Rows.laid_unicode_utf8_acceptRanges), ("waybill/scan.words", Rows.laid_waybill_scan_words), ("unicode/utf8.first", Rows.laid_unicode_utf8_first)] W) : ScEnv W := by
  have h4 := laidMet.reads h (List.mem_cons_self ..)
  have hw := laidMet.reads h (List.mem_cons_of_mem _ (List.mem_cons_self ..))
  have h3 := laidMet.reads h (List.mem_cons_of_mem _ (List.mem_cons_of_mem _ (List.mem_cons_self ..)))
  rw [acc_eq] at h4
  rw [first_eq] at h3
  exact ⟨utf8Tabs_of_readsT scTypes scExtra h3 h4, words_of hw⟩
/-- What the conditions of most rows give a walk. -/
theorem scAll_of {W : World} (h : laidMetH Tryz.prog [("unicode/utf8.acceptRanges", Rows.laid_unicode_utf8_acceptRanges), ("errors.errorType", Rows.laid_errors_errorType), ("waybill/scan.words", Rows.laid_waybill_scan_words), ("unicode/utf8.first", Rows.laid_unicode_utf8_first)] W) : ScEnv W ∧ Glob W := by
  have h' : laidMet Tryz.prog [("unicode/utf8.acceptRanges", Rows.laid_unicode_utf8_acceptRanges), ("waybill/scan.words", Rows.laid_waybill_scan_words), ("unicode/utf8.first", Rows.laid_unicode_utf8_first)] W ∧ handlesMet Tryz.prog [("errors.errorType", Rows.laid_errors_errorType)] W := h
  exact ⟨scEnv_of h'.1, glob_of_laid ⟨laidMet_nil _ _, h'.2⟩⟩
/-- A world that meets the conditions. -/
noncomputable def scLay (c : Array Value) : Obj → Obj
  | .cells _ t frozen => .cells c t frozen
  | o => o
noncomputable def scWorld (os : Os) : World :=
  let w0 := errWorld os
  { w0 with heap := ((w0.heap.modify 1 (scLay #[.string ⟨#[116, 114, 117, 101]⟩, .int .i64 9, .string ⟨#[102, 97, 108, 115, 101]⟩, .int .i64 10, .string ⟨#[110, 117, 108, 108]⟩, .int .i64 11])).modify 3 (scLay (firstTab.map fun z => Value.int .u8 z).toArray)).modify 4 (scLay ((List.range 16).flatMap fun i => [Value.int .u8 (accLo i : Int), Value.int .u8 (accHi i : Int)]).toArray) }
set_option maxRecDepth 100000 in
theorem scWorld_met (os : Os) (args : Array Value) : laidMetH Tryz.prog [("unicode/utf8.acceptRanges", Rows.laid_unicode_utf8_acceptRanges), ("errors.errorType", Rows.laid_errors_errorType), ("waybill/scan.words", Rows.laid_waybill_scan_words), ("unicode/utf8.first", Rows.laid_unicode_utf8_first)] ((scWorld os).forCall (fun _ _ => 0) ⟨#[], args, []⟩).memory :=
  laidMetH_of_parts (laidMet_of_run' 8 (by kernel_rfl) (by kernel_rfl)) (by kernel_rfl)
end
end Go.Proofs.YtheoaijheijojaaGreatDoor
