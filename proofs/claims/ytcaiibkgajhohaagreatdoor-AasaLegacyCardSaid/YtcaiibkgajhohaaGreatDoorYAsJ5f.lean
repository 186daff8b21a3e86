/- The package-level variables that chapter 20 reads, out of the rows' conditions. -/
import Derived.Test.YtcaiibkgajhohaaGreatDoorYAsJ4f
import Derived.Test.YtcaiibkgajhohaaGreatDoorYAppAt0f
namespace Go.Proofs.YtcaiibkgajhohaaGreatDoor
open Go.RowKit
/-- What the laws' worlds hold. -/
structure E20 (w : World) : Prop where
 sc : ScEnv w
 s : SEnv w
theorem E20.ext {w w' : World} (h : E20 w) (hb : Below w.heap.size w w') : E20 w' := ⟨h.sc.ext hb, h.s.ext hb⟩
set_option maxRecDepth 100000 in
set_option maxHeartbeats 8000000 in
theorem speaks20 (w : World) (he : E20 w) : Calls Tryz.prog 8 #[] w fun e w' => e = .returned (.bool true) ∧ Below w.heap.size w w' := by
 obtain ⟨W0, hW0⟩ : ∃ W, w.alloc (.cells #[.int .u8 123, .int .u8 34, .int .u8 97, .int .u8 112, .int .u8 112, .int .u8 108, .int .u8 105, .int .u8 110, .int .u8 107, .int .u8 115, .int .u8 34, .int .u8 58, .int .u8 123, .int .u8 34, .int .u8 100, .int .u8 101, .int .u8 116, .int .u8 97, .int .u8 105, .int .u8 108, .int .u8 115, .int .u8 34, .int .u8 58, .int .u8 91, .int .u8 123, .int .u8 34, .int .u8 97, .int .u8 112, .int .u8 112, .int .u8 73, .int .u8 68, .int .u8 115, .int .u8 34, .int .u8 58, .int .u8 91, .int .u8 34, .int .u8 65, .int .u8 66, .int .u8 67, .int .u8 68, .int .u8 69, .int .u8 49, .int .u8 50, .int .u8 51, .int .u8 52, .int .u8 53, .int .u8 46, .int .u8 97, .int .u8 34, .int .u8 93, .int .u8 44, .int .u8 34, .int .u8 99, .int .u8 111, .int .u8 109, .int .u8 112, .int .u8 111, .int .u8 110, .int .u8 101, .int .u8 110, .int .u8 116, .int .u8 115, .int .u8 34, .int .u8 58, .int .u8 91, .int .u8 123, .int .u8 34, .int .u8 47, .int .u8 34, .int .u8 58, .int .u8 34, .int .u8 47, .int .u8 98, .int .u8 117, .int .u8 121, .int .u8 47, .int .u8 42, .int .u8 34, .int .u8 125, .int .u8 93, .int .u8 125, .int .u8 93, .int .u8 125, .int .u8 125] 5 (84, 85)) = W := ⟨_, rfl⟩
 have cv := Go.Joins.run_convert_bytes_const_at (P := Tryz.prog) w 22 5 #[.int .u8 123, .int .u8 34, .int .u8 97, .int .u8 112, .int .u8 112, .int .u8 108, .int .u8 105, .int .u8 110, .int .u8 107, .int .u8 115, .int .u8 34, .int .u8 58, .int .u8 123, .int .u8 34, .int .u8 100, .int .u8 101, .int .u8 116, .int .u8 97, .int .u8 105, .int .u8 108, .int .u8 115, .int .u8 34, .int .u8 58, .int .u8 91, .int .u8 123, .int .u8 34, .int .u8 97, .int .u8 112, .int .u8 112, .int .u8 73, .int .u8 68, .int .u8 115, .int .u8 34, .int .u8 58, .int .u8 91, .int .u8 34, .int .u8 65, .int .u8 66, .int .u8 67, .int .u8 68, .int .u8 69, .int .u8 49, .int .u8 50, .int .u8 51, .int .u8 52, .int .u8 53, .int .u8 46, .int .u8 97, .int .u8 34, .int .u8 93, .int .u8 44, .int .u8 34, .int .u8 99, .int .u8 111, .int .u8 109, .int .u8 112, .int .u8 111, .int .u8 110, .int .u8 101, .int .u8 110, .int .u8 116, .int .u8 115, .int .u8 34, .int .u8 58, .int .u8 91, .int .u8 123, .int .u8 34, .int .u8 47, .int .u8 34, .int .u8 58, .int .u8 34, .int .u8 47, .int .u8 98, .int .u8 117, .int .u8 121, .int .u8 47, .int .u8 42, .int .u8 34, .int .u8 125, .int .u8 93, .int .u8 125, .int .u8 93, .int .u8 125, .int .u8 125] 84 84 w.heap.size rfl Tryz.underlying22 Tryz.underlying5
 rw [show (w.alloc (.cells #[.int .u8 123, .int .u8 34, .int .u8 97, .int .u8 112, .int .u8 112, .int .u8 108, .int .u8 105, .int .u8 110, .int .u8 107, .int .u8 115, .int .u8 34, .int .u8 58, .int .u8 123, .int .u8 34, .int .u8 100, .int .u8 101, .int .u8 116, .int .u8 97, .int .u8 105, .int .u8 108, .int .u8 115, .int .u8 34, .int .u8 58, .int .u8 91, .int .u8 123, .int .u8 34, .int .u8 97, .int .u8 112, .int .u8 112, .int .u8 73, .int .u8 68, .int .u8 115, .int .u8 34, .int .u8 58, .int .u8 91, .int .u8 34, .int .u8 65, .int .u8 66, .int .u8 67, .int .u8 68, .int .u8 69, .int .u8 49, .int .u8 50, .int .u8 51, .int .u8 52, .int .u8 53, .int .u8 46, .int .u8 97, .int .u8 34, .int .u8 93, .int .u8 44, .int .u8 34, .int .u8 99, .int .u8 111, .int .u8 109, .int .u8 112, .int .u8 111, .int .u8 110, .int .u8 101, .int .u8 110, .int .u8 116, .int .u8 115, .int .u8 34, .int .u8 58, .int .u8 91, .int .u8 123, .int .u8 34, .int .u8 47, .int .u8 34, .int .u8 58, .int .u8 34, .int .u8 47, .int .u8 98, .int .u8 117, .int .u8 121, .int .u8 47, .int .u8 42, .int .u8 34, .int .u8 125, .int .u8 93, .int .u8 125, .int .u8 93, .int .u8 125, .int .u8 125] 5 ((#[.int .u8 123, .int .u8 34, .int .u8 97, .int .u8 112, .int .u8 112, .int .u8 108, .int .u8 105, .int .u8 110, .int .u8 107, .int .u8 115, .int .u8 34, .int .u8 58, .int .u8 123, .int .u8 34, .int .u8 100, .int .u8 101, .int .u8 116, .int .u8 97, .int .u8 105, .int .u8 108, .int .u8 115, .int .u8 34, .int .u8 58, .int .u8 91, .int .u8 123, .int .u8 34, .int .u8 97, .int .u8 112, .int .u8 112, .int .u8 73, .int .u8 68, .int .u8 115, .int .u8 34, .int .u8 58, .int .u8 91, .int .u8 34, .int .u8 65, .int .u8 66, .int .u8 67, .int .u8 68, .int .u8 69, .int .u8 49, .int .u8 50, .int .u8 51, .int .u8 52, .int .u8 53, .int .u8 46, .int .u8 97, .int .u8 34, .int .u8 93, .int .u8 44, .int .u8 34, .int .u8 99, .int .u8 111, .int .u8 109, .int .u8 112, .int .u8 111, .int .u8 110, .int .u8 101, .int .u8 110, .int .u8 116, .int .u8 115, .int .u8 34, .int .u8 58, .int .u8 91, .int .u8 123, .int .u8 34, .int .u8 47, .int .u8 34, .int .u8 58, .int .u8 34, .int .u8 47, .int .u8 98, .int .u8 117, .int .u8 121, .int .u8 47, .int .u8 42, .int .u8 34, .int .u8 125, .int .u8 93, .int .u8 125, .int .u8 93, .int .u8 125, .int .u8 125] : Array Value).size, (#[.int .u8 123, .int .u8 34, .int .u8 97, .int .u8 112, .int .u8 112, .int .u8 108, .int .u8 105, .int .u8 110, .int .u8 107, .int .u8 115, .int .u8 34, .int .u8 58, .int .u8 123, .int .u8 34, .int .u8 100, .int .u8 101, .int .u8 116, .int .u8 97, .int .u8 105, .int .u8 108, .int .u8 115, .int .u8 34, .int .u8 58, .int .u8 91, .int .u8 123, .int .u8 34, .int .u8 97, .int .u8 112, .int .u8 112, .int .u8 73, .int .u8 68, .int .u8 115, .int .u8 34, .int .u8 58, .int .u8 91, .int .u8 34, .int .u8 65, .int .u8 66, .int .u8 67, .int .u8 68, .int .u8 69, .int .u8 49, .int .u8 50, .int .u8 51, .int .u8 52, .int .u8 53, .int .u8 46, .int .u8 97, .int .u8 34, .int .u8 93, .int .u8 44, .int .u8 34, .int .u8 99, .int .u8 111, .int .u8 109, .int .u8 112, .int .u8 111, .int .u8 110, .int .u8 101, .int .u8 110, .int .u8 116, .int .u8 115, .int .u8 34, .int .u8 58, .int .u8 91, .int .u8 123, .int .u8 34, .int .u8 47, .int .u8 34, .int .u8 58, .int .u8 34, .int .u8 47, .int .u8 98, .int .u8 117, .int .u8 121, .int .u8 47, .int .u8 42, .int .u8 34, .int .u8 125, .int .u8 93, .int .u8 125, .int .u8 93, .int .u8 125, .int .u8 125] : Array Value).size + 1))) = W0 from hW0] at cv
 have hb0 : Below w.heap.size w W0 := by rw [← hW0]; exact ext_alloc (Below.refl _ _) _
 have hz0 : w.heap.size < W0.heap.size := by rw [← hW0]; simp
 have harr : (#[.int .u8 123, .int .u8 34, .int .u8 97, .int .u8 112, .int .u8 112, .int .u8 108, .int .u8 105, .int .u8 110, .int .u8 107, .int .u8 115, .int .u8 34, .int .u8 58, .int .u8 123, .int .u8 34, .int .u8 100, .int .u8 101, .int .u8 116, .int .u8 97, .int .u8 105, .int .u8 108, .int .u8 115, .int .u8 34, .int .u8 58, .int .u8 91, .int .u8 123, .int .u8 34, .int .u8 97, .int .u8 112, .int .u8 112, .int .u8 73, .int .u8 68, .int .u8 115, .int .u8 34, .int .u8 58, .int .u8 91, .int .u8 34, .int .u8 65, .int .u8 66, .int .u8 67, .int .u8 68, .int .u8 69, .int .u8 49, .int .u8 50, .int .u8 51, .int .u8 52, .int .u8 53, .int .u8 46, .int .u8 97, .int .u8 34, .int .u8 93, .int .u8 44, .int .u8 34, .int .u8 99, .int .u8 111, .int .u8 109, .int .u8 112, .int .u8 111, .int .u8 110, .int .u8 101, .int .u8 110, .int .u8 116, .int .u8 115, .int .u8 34, .int .u8 58, .int .u8 91, .int .u8 123, .int .u8 34, .int .u8 47, .int .u8 34, .int .u8 58, .int .u8 34, .int .u8 47, .int .u8 98, .int .u8 117, .int .u8 121, .int .u8 47, .int .u8 42, .int .u8 34, .int .u8 125, .int .u8 93, .int .u8 125, .int .u8 93, .int .u8 125, .int .u8 125] : Array Value) = ex20.data.map (fun x => Value.int .u8 (x.toNat : Nat)) := by kernel_rfl
 have L : Rd (Own W0) W0 (.slice (some ⟨w.heap.size, 0, none⟩) 84 84) (bytesDB ex20) := by
  refine rd_of_cells (B := ex20) hz0 (Nat.le_refl _) (fun i hi => ?_)
  have hi' : i < ex20.data.size := hi
  rw [← hW0, World.cell?_alloc_mark, harr, Array.getElem?_map, Array.getElem?_eq_getElem hi']
  unfold byteAt
  rw [Array.getElem?_eq_getElem hi']; rfl
 have DC := Lib.hid (decode_any W0 _ ex20 L (he.sc.ext hb0) (he.s.ext hb0) (by decide) (dec_sizes (by decide)))
 obtain ⟨R, hR⟩ : ∃ R, decA ex20 = R := ⟨_, rfl⟩
 have hx := ex20_dec
 rw [hR] at DC hx
 unfold exTell at hx
 split at hx
 · rename_i ap x vs
   have HX := Lib.hid (of_decide_eq_true hx)
   have HB0 := Lib.hid hb0
   clear L hb0 he hW0 harr hR hx
   go_enter Tryz.func8, Tryz.ntmps8
   go_wp2_with fail
   refine DC.out.mono ?_
   intro e w1 hp
   obtain ⟨hb1, va, vr, rfl, _, _, hr⟩ := hp
   have h1 := hr.2 0 _ _ rfl rfl
   have h2 := hr.2 1 _ _ rfl rfl
   obtain ⟨ad, nd, cd, rfl, hl, _, _, hc⟩ := h1.list_inv
   obtain ⟨av, nv, cv2, rfl, _⟩ := h2.list_inv
   obtain rfl : nd = 1 := by
    have e : 2 = nd * 2 := hl
    omega
   obtain ⟨b, o, rfl, hSb, hcell⟩ := hc (by decide)
   obtain ⟨u0, k0, r0⟩ := hcell 0 (show 0 < 2 by decide)
   obtain ⟨u1, k1, r1⟩ := hcell 1 (show 1 < 2 by decide)
   have r0' : Rd (Fresh W0 w1) w1 u0 (.list 2 (appD ap)) := r0
   have r1' : Rd (Fresh W0 w1) w1 u1 (.list 10 (ruD x)) := r1
   obtain ⟨a0, n0, c0, rfl, hl0, _⟩ := r0'.list_inv
   obtain rfl : n0 = 1 := by
    have e : 2 = n0 * 2 := hl0
    omega
   obtain ⟨a1, n1, c1, rfl, hl1, _, _, hc1⟩ := r1'.list_inv
   obtain rfl : n1 = 1 := by
    have e : 10 = n1 * 10 := hl1
    omega
   obtain ⟨b1, o1, rfl, hSb1, hcell1⟩ := hc1 (by decide)
   obtain ⟨p, kp, rp⟩ := hcell1 0 (show 0 < 10 by decide)
   have rp' : Rd (Fresh W0 w1) w1 p (.str x.path) := rp
   obtain rfl := rp'.str_inv
   rw [HX.out] at kp
   have k0' : w1.cell? ⟨b, o, none⟩ = _ := k0
   have kp' : w1.cell? ⟨b1, o1, none⟩ = _ := kp
   have zb := hSb.2
   have zb1 := hSb1.2
   have HB := Lib.hid (ext_alloc (ext_trans HB0.out hb1) (.cells #[.slice (some ⟨b, o, none⟩) 1 cd, .slice av nv cv2] 27))
   clear k0 kp hr h1 h2 hl hc hcell r0 r1 r0' r1' hl0 hl1 hc1 hcell1 rp rp' hb1 hSb hSb1
   go_wp2
   go_ret
   exact ⟨rfl, HB.out⟩
 · cases hx
end Go.Proofs.YtcaiibkgajhohaaGreatDoor
namespace Go.Proofs.YtcaiibkgajhohaaGreatDoor
open Go.ChangeShapes Go.WideShapes Go.RowKit Go.Lib
/-- A string's text out of what is laid. -/
def dtC (x : Cls) : DataW Unit := .agg [.lit (.string x.nm.data.toList), .lit (.string x.am.data.toList), .lit (.int .i64 x.sz)]
theorem classes_eq : (Rows.laid_waybill_subst_classes : DataW Unit) = .agg (clsL.map dtC) := by kernel_rfl
theorem len3 {l : List Value} (h : l.length = 3) : ∃ a b c, l = [a, b, c] := by
 match l, h with
 | [a, b, c], _ => exact ⟨a, b, c, rfl⟩
theorem class_cells {W : World} {fuel : Nat} {cs : List Value} {x : Cls} {p : List MemPlace}
    (h : DataW.trod (fun _ => ()) Tryz.prog W 0 (fun _ => true) false fuel 233 cs = some (dtC x, p)) : cs = encC x := by
 obtain ⟨xs, m, _, hx, hl, hxl, hf⟩ := DataW.trod_struct Tryz.underlying233 h
 have hx2 : xs.map (·.1) = [.lit (.string x.nm.data.toList), .lit (.string x.am.data.toList), .lit (.int .i64 x.sz)] := by
  have := congrArg Prod.fst hx
  simpa [dtC] using this.symm
 obtain ⟨x0, x1, x2, rfl⟩ : ∃ x0 x1 x2, xs = [x0, x1, x2] := by
  match xs, hx2 with
  | [x0, x1, x2], _ => exact ⟨x0, x1, x2, rfl⟩
 simp only [List.map_cons, List.map_nil, List.cons.injEq, and_true] at hx2
 obtain ⟨e0, e1, e2⟩ := hx2
 have f0 := hf 0 _ rfl
 have f1 := hf 1 _ rfl
 have f2 := hf 2 _ rfl
 have c0 : Tryz.prog.cellsOf 9 = 1 := by kernel_rfl
 have c1 : Tryz.prog.cellsOf 3 = 1 := by kernel_rfl
 have ct : Tryz.prog.cellsOf 233 = 3 := by kernel_rfl
 change DataW.trod _ _ _ _ _ _ _ 9 ((cs.drop 0).take (Tryz.prog.cellsOf 9)) = some x0 at f0
 change DataW.trod _ _ _ _ _ _ _ 9 ((cs.drop 1).take (Tryz.prog.cellsOf 9)) = some x1 at f1
 change DataW.trod _ _ _ _ _ _ _ 3 ((cs.drop 2).take (Tryz.prog.cellsOf 3)) = some x2 at f2
 rw [c0] at f0 f1
 rw [c1] at f2
 rw [ct] at hl
 obtain ⟨n0, k0, hd0, _⟩ := DataW.trod_string Tryz.underlying9 f0
 obtain ⟨n1, k1, hd1, _⟩ := DataW.trod_string Tryz.underlying9 f1
 obtain ⟨n2, k2, hd2, _⟩ := DataW.trod_int Tryz.underlying3 f2
 rw [hd0] at e0
 rw [hd1] at e1
 rw [hd2] at e2
 simp only [DataW.lit.injEq, Lit.string.injEq, Lit.int.injEq, true_and] at e0 e1 e2
 obtain rfl : n0 = x.nm := ByteArray.ext (Array.toList_inj.1 e0)
 obtain rfl : n1 = x.am := ByteArray.ext (Array.toList_inj.1 e1)
 obtain rfl : n2 = x.sz := e2
 obtain ⟨y0, y1, y2, rfl⟩ := len3 hl
 have g0 : [y0] = [Value.string _] := k0
 have g1 : [y1] = [Value.string _] := k1
 have g2 : [y2] = [Value.int .i64 _] := k2
 rw [(List.cons.inj g0).1, (List.cons.inj g1).1, (List.cons.inj g2).1]
 rfl
def zeroCls : Array Value := ((List.replicate 8 [Value.string ⟨#[]⟩, .string ⟨#[]⟩, .int .i64 0]).flatMap id).toArray
theorem class_of {W : World} (h : VarReads Tryz.prog W "waybill/subst.classes" Rows.laid_waybill_subst_classes) (hsh : W.ShapedOpen Tryz.prog) : ClassT W := by
 rw [classes_eq] at h
 obtain ⟨g, t, cs, fuel, p, hg, hty, hvar, hd⟩ := h
 obtain rfl := Option.some.inj ((show Tryz.prog.globalNamed "waybill/subst.classes" = some 3 by kernel_rfl).symm.trans hg)
 obtain rfl := Option.some.inj ((show (Tryz.prog.globals[3]?).map (·.type) = some 261 by kernel_rfl).symm.trans hty)
 obtain ⟨cs', hh, hs, _⟩ := hsh.1 3 zeroCls 261 (of_decide_eq_true (by kernel_rfl)) (by kernel_rfl)
 have hcs : cs' = cs := by
  simp only [World.var?, hg, Option.bind_some, hh] at hvar
  exact Option.some.inj hvar
 subst hcs
 have hs24 : cs'.size = 24 := hs
 have ce : Tryz.prog.cellsOf 233 = 3 := by kernel_rfl
 have key : ∀ j, j < 8 → ∀ i, i < 3 → cs'[j * 3 + i]? = (encC clsL[j]!)[i]? := by
  intro j hj i hi
  obtain ⟨fuel', d, q, hdi, he⟩ := array_elem Tryz.underlying261 hd j hj
  have hjl : j < clsL.length := hj
  rw [List.getElem?_map, List.getElem?_eq_getElem hjl] at hdi
  obtain rfl := Option.some.inj hdi
  rw [ce] at he
  have hc := class_cells he
  rw [getElem!_pos clsL j hjl, ← hc, List.getElem?_take, if_pos hi, List.getElem?_drop, ← Array.getElem?_toList]
 have : cs' = classC := by
  apply Array.ext_getElem?
  intro n
  have hz : classC.size = 24 := by kernel_rfl
  rcases Nat.lt_or_ge n 24 with hn | hn
  · obtain ⟨j, i, hj, hi, rfl⟩ : ∃ j i, j < 8 ∧ i < 3 ∧ n = j * 3 + i := ⟨n / 3, n % 3, by omega, by omega, by omega⟩
    have hi' : i < (encC clsL[j]!).length := hi
    rw [key j hj i hi, List.getElem?_eq_getElem hi']
    unfold classC
    rw [List.getElem?_toArray]
    exact (flat3 clsL j i _ hj (List.getElem?_eq_getElem hi')).symm
  · rw [Array.getElem?_eq_none (by omega), Array.getElem?_eq_none (by omega)]
 rw [this] at hh
 exact ⟨_, hh⟩
theorem e20_met {W : World} (h : laidMet Tryz.prog [("unicode/utf8.acceptRanges", Rows.laid_unicode_utf8_acceptRanges), ("waybill/scan.words", Rows.laid_waybill_scan_words), ("waybill/subst.classes", Rows.laid_waybill_subst_classes), ("unicode/utf8.first", Rows.laid_unicode_utf8_first)] W) (hsh : W.ShapedOpen Tryz.prog) : E20 W := by
 have h4 := laidMet.reads h (List.mem_cons_self ..)
 have hw := laidMet.reads h (List.mem_cons_of_mem _ (List.mem_cons_self ..))
 have hc := laidMet.reads h (List.mem_cons_of_mem _ (List.mem_cons_of_mem _ (List.mem_cons_self ..)))
 have h3 := laidMet.reads h (List.mem_cons_of_mem _ (List.mem_cons_of_mem _ (List.mem_cons_of_mem _ (List.mem_cons_self ..))))
 rw [acc_eq] at h4
 rw [first_eq] at h3
 have hu := utf8Tabs_of_readsT scTypes scExtra h3 h4
 exact ⟨⟨hu, words_of hw⟩, ⟨hu, maxT_of hsh, class_of hc hsh⟩⟩
/-- What the conditions of the rows give a walk: without errors.errorType. -/
theorem e20_of {W : World} (h : laidMetH Tryz.prog [("unicode/utf8.acceptRanges", Rows.laid_unicode_utf8_acceptRanges), ("waybill/scan.words", Rows.laid_waybill_scan_words), ("waybill/subst.classes", Rows.laid_waybill_subst_classes), ("unicode/utf8.first", Rows.laid_unicode_utf8_first)] W) (hsh : W.ShapedOpen Tryz.prog) : E20 W := e20_met h hsh
/-- And with it. -/
theorem e20g_of {W : World} (h : laidMetH Tryz.prog [("unicode/utf8.acceptRanges", Rows.laid_unicode_utf8_acceptRanges), ("errors.errorType", Rows.laid_errors_errorType), ("waybill/scan.words", Rows.laid_waybill_scan_words), ("waybill/subst.classes", Rows.laid_waybill_subst_classes), ("unicode/utf8.first", Rows.laid_unicode_utf8_first)] W) (hsh : W.ShapedOpen Tryz.prog) : E20 W ∧ Glob W := by
 have h' : laidMet Tryz.prog [("unicode/utf8.acceptRanges", Rows.laid_unicode_utf8_acceptRanges), ("waybill/scan.words", Rows.laid_waybill_scan_words), ("waybill/subst.classes", Rows.laid_waybill_subst_classes), ("unicode/utf8.first", Rows.laid_unicode_utf8_first)] W ∧ handlesMet Tryz.prog [("errors.errorType", Rows.laid_errors_errorType)] W := h
 exact ⟨e20_met h'.1 hsh, glob_of_laid ⟨laidMet_nil _ _, h'.2⟩⟩
/-- A world that meets the conditions. -/
noncomputable def e20World (os : Os) : World :=
 let w0 := scWorld os
 { w0 with heap := w0.heap.modify 3 (scLay classC) }
set_option maxRecDepth 100000 in
theorem e20World_met (os : Os) (args : Array Value) : laidMetH Tryz.prog [("unicode/utf8.acceptRanges", Rows.laid_unicode_utf8_acceptRanges), ("waybill/scan.words", Rows.laid_waybill_scan_words), ("waybill/subst.classes", Rows.laid_waybill_subst_classes), ("unicode/utf8.first", Rows.laid_unicode_utf8_first)] ((e20World os).forCall (fun _ _ => 0) ⟨#[], args, []⟩).memory :=
 laidMetH_of_parts (laidMet_of_run' 8 (by kernel_rfl) (by kernel_rfl)) (by kernel_rfl)
set_option maxRecDepth 100000 in
theorem e20World_metg (os : Os) (args : Array Value) : laidMetH Tryz.prog [("unicode/utf8.acceptRanges", Rows.laid_unicode_utf8_acceptRanges), ("errors.errorType", Rows.laid_errors_errorType), ("waybill/scan.words", Rows.laid_waybill_scan_words), ("waybill/subst.classes", Rows.laid_waybill_subst_classes), ("unicode/utf8.first", Rows.laid_unicode_utf8_first)] ((e20World os).forCall (fun _ _ => 0) ⟨#[], args, []⟩).memory :=
 laidMetH_of_parts (laidMet_of_run' 8 (by kernel_rfl) (by kernel_rfl)) (by kernel_rfl)
end Go.Proofs.YtcaiibkgajhohaaGreatDoor
