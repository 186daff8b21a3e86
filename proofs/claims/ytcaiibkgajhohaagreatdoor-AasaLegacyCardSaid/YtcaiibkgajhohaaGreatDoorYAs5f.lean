/- Texts put together. -/
import Derived.Test.YtcaiibkgajhohaaGreatDoorYJrP0sf
import Derived.Test.YtcaiibkgajhohaaGreatDoorYAsG3f
import Derived.Test.YtcaiibkgajhohaaGreatDoorYAsJ5f
import Derived.BigQuiet
namespace Go.Proofs.YtcaiibkgajhohaaGreatDoor
open Go.RowKit
def globK (s : ByteArray) : Int × Int := match globE s with
 | [] => (0, 0)
 | x :: _ => x
set_option maxRecDepth 100000 in
/-- ref15.Check -/
theorem rgcheck_any (s : ByteArray) (w : World) (hm : s.size ≤ 1100000) : Calls Tryz.prog 35 #[.string s] w fun e w' => e = .returned (.tuple #[.int .i64 (globK s).1, .int .i64 (globK s).2]) ∧ Below w.heap.size w w' := by
 by_cases hz : 1024 < s.size
 · have t1 : decide ((1024 : Int) < (s.size : Int)) = true := decide_eq_true (by omega)
   have t1' : decide (1024 < s.size) = true := decide_eq_true hz
   have hg : globK s = (14, 1024) := by unfold globK globE; rw [if_pos hz]
   rw [hg]
   clear hz hg
   go_enter Tryz.func35, Tryz.ntmps35
   go_wp2
   go_ret2
   exact ⟨rfl, Below.refl _ _⟩
 · have t1 : decide ((1024 : Int) < (s.size : Int)) = false := decide_eq_false (by omega)
   have t1' : decide (1024 < s.size) = false := decide_eq_false hz
   obtain ⟨W0, cap, hcv, hcap, hb0, hz0, hcell⟩ := bytes_of_string s w
   have L := rd_of_cells (S := Own W0) (B := s) (b := w.heap.size) hz0 hcap hcell
   have RC := rchars_any _ s W0 L hm
   have hg : globK s = match (motive := Sc (List Nat) → Int × Int) charsS s 0 [] with | .ok _ => (0, 0) | .no _ p => (12, p) := by
    unfold globK globE utfE
    rw [if_neg hz]
    cases hc : charsS s 0 [] with
    | ok l => rfl
    | no k p => obtain ⟨rfl, _⟩ := charsSA_no hc; rfl
   obtain ⟨R, hR⟩ : ∃ R, charsS s 0 [] = R := ⟨_, rfl⟩
   have hpos : ∀ k p, R = .no k p → 0 ≤ p := fun k p h => (charsSA_no (hR.trans h)).2
   rw [hR] at RC hg
   rw [hg]
   have RC := Lib.hid RC; have HB0 := Lib.hid hb0
   clear hm L hb0 hz0 hcell hcap hR hz hg
   go_enter Tryz.func35, Tryz.ntmps35
   go_wp2_with fail
   go_at_call 65
   refine RC.out.mono ?_
   rintro e w1 ⟨hb, hp⟩
   have HB := Lib.hid (HB0.out.trans (hb.mono HB0.out.size))
   clear hb
   cases R with
   | ok l =>
     obtain ⟨v, rfl⟩ := hp
     go_wp2
     go_ret2
     exact ⟨rfl, HB.out⟩
   | no k p =>
     obtain ⟨v, rfl⟩ := hp
     have hp0 := hpos k p rfl
     have t3 : decide ((0 : Int) ≤ p) = true := decide_eq_true hp0
     clear hp0 hpos
     go_wp2
     go_ret2
     exact ⟨rfl, HB.out⟩
end Go.Proofs.YtcaiibkgajhohaaGreatDoor
namespace Go.Proofs.YtcaiibkgajhohaaGreatDoor
open Go.RowKit
theorem sl_fr20 (S : ByteArray) (i : Nat) (h : i ≤ S.size) (x : ByteArray) (hx : S.extract i S.size = x) (W : World) : (Instr.slice 9 (.string S) (some (.int .i64 (i : Int))) none none).run Tryz.prog W = .ok (.string x) W := by
 simp [Instr.slice, run_underlying Tryz.underlying9, Instr.sliceBounds, run_sliceBound, h, hx]
theorem sl_to20 (S : ByteArray) (j : Nat) (h : j ≤ S.size) (x : ByteArray) (hx : S.extract 0 j = x) (W : World) : (Instr.slice 9 (.string S) none (some (.int .i64 (j : Int))) none).run Tryz.prog W = .ok (.string x) W := by
 simp [Instr.slice, run_underlying Tryz.underlying9, Instr.sliceBounds, run_sliceBound, h, hx]
theorem not_list : (⟨#[78, 79, 84, 32]⟩ : ByteArray).toList = [78, 79, 84, 32] := by decide +kernel
theorem globE_cases (t : ByteArray) : globE t = [] ∨ ∃ x : Int × Int, x.1 ≠ 0 ∧ globE t = [x] := by
 unfold globE
 split
 · exact .inr ⟨_, by decide, rfl⟩
 · unfold utfE
   cases h : charsS t 0 [] with
   | ok l => exact .inl rfl
   | no k p =>
     obtain ⟨rfl, _⟩ := charsSA_no h
     exact .inr ⟨_, by simp, rfl⟩
theorem lgA_eq (t : ByteArray) : lgA t = if globE (notR t) = [] then { ru0 with path := notR t, hasPath := true, exclude := notB t } else ru0 := by
 unfold lgA
 rcases globE_cases (notR t) with h | ⟨x, _, h⟩
 · rw [(lg_ok h).2, if_pos h]; rfl
 · rw [(lg_no h).2, if_neg (by rw [h]; simp)]; rfl
theorem globK_of (p : ByteArray) (h : globE p = []) : globK p = (0, 0) := by unfold globK; rw [h]
theorem globK_no (p : ByteArray) {x : Int × Int} (h : globE p = [x]) : globK p = x := by unfold globK; rw [h]
/-- The three ways into the path. -/
theorem not_ways (t : ByteArray) : (t.size < 4 ∧ notB t = false) ∨ (4 ≤ t.size ∧ notB t = false ∧ t.extract 0 4 ≠ ⟨#[78, 79, 84, 32]⟩) ∨ (4 ≤ t.size ∧ notB t = true ∧ t.extract 0 4 = ⟨#[78, 79, 84, 32]⟩) := by
 unfold notB
 by_cases h : t.extract 0 4 = ⟨#[78, 79, 84, 32]⟩
 · have hz : 4 ≤ t.size := by
     have := congrArg ByteArray.size h
     rw [ByteArray.size_extract] at this
     have h2 : (⟨#[78, 79, 84, 32]⟩ : ByteArray).size = 4 := rfl
     omega
   exact .inr (.inr ⟨hz, decide_eq_true h, h⟩)
 · by_cases hz : t.size < 4
   · exact .inl ⟨hz, decide_eq_false h⟩
   · exact .inr (.inl ⟨by omega, decide_eq_false h, h⟩)
def RgPost (w : World) (t : ByteArray) (e : Ending) (w' : World) : Prop := e = .returned (.tuple #[.agg (ruC (lgA t) (.slice none 0 0)), .int .i64 (kindI (lgE t)), .int .i64 (globK (notR t)).1]) ∧ Below w.heap.size w w'
set_option maxRecDepth 100000 in
set_option maxHeartbeats 4000000 in
/-- ref20.Legacy -/
theorem rlegacy20_any (t : ByteArray) (w : World) (ht : t.size ≤ 1100000) : Calls Tryz.prog 14 #[.string t] w (RgPost w t) := by
 obtain ⟨p, hp⟩ : ∃ p, notR t = p := ⟨_, rfl⟩
 obtain ⟨ex, hex⟩ : ∃ ex, notB t = ex := ⟨_, rfl⟩
 have hps : p.size ≤ 1100000 := by rw [← hp]; exact Nat.le_trans (notR_size t) ht
 have X1 := heap_alloc_new w (.cells (ruC ru0 (.slice none 0 0)) 40)
 have B1 := ext_alloc (Below.refl _ w) (.cells (ruC ru0 (.slice none 0 0)) 40)
 obtain ⟨W1, hW1⟩ : ∃ W, w.alloc (.cells (ruC ru0 (.slice none 0 0)) 40) = W := ⟨_, rfl⟩
 rw [hW1] at X1 B1
 have X2 := heap_alloc_new W1 (.cells (ruC { ru0 with path := p, hasPath := true, exclude := ex } (.slice none 0 0)) 40)
 have B2 := ext_alloc (Below.refl _ W1) (.cells (ruC { ru0 with path := p, hasPath := true, exclude := ex } (.slice none 0 0)) 40)
 obtain ⟨W2, hW2⟩ : ∃ W, W1.alloc (.cells (ruC { ru0 with path := p, hasPath := true, exclude := ex } (.slice none 0 0)) 40) = W := ⟨_, rfl⟩
 rw [hW2] at X2 B2
 have RC := Lib.hid (rgcheck_any p W2 hps)
 have HL := Lib.hid (lgA_eq t)
 have hk : ∀ x, globE p = [x] → kindI (lgE t) = 11 := fun x h => by unfold lgE; rw [hp, h]; rfl
 have hk0 : globE p = [] → kindI (lgE t) = 0 := fun h => by unfold lgE; rw [hp, h]; rfl
 have HK := Lib.hid hk; have HK0 := Lib.hid hk0
 have HW1 := Lib.hid hW1; have HW2 := Lib.hid hW2
 have HWE : Hid ((w.alloc (.cells #[.string ⟨#[]⟩, .string ⟨#[]⟩, .string ⟨#[]⟩, .bool false, .bool false, .bool false, .slice none 0 0, .bool false, .bool false, .bool false] 40)).alloc (.cells #[.string p, .string ⟨#[]⟩, .string ⟨#[]⟩, .bool true, .bool false, .bool false, .slice none 0 0, .bool ex, .bool false, .bool false] 40) = W2) := Lib.hid (by rw [← hW2, ← hW1]; rfl)
 have HX1 := Lib.hid ((B2.block _ (heap_lt X1)).trans X1); have HX2 := Lib.hid X2; have HB := Lib.hid (ext_trans B1 B2)
 have HS := Lib.hid (show (w.alloc (.cells #[.string ⟨#[]⟩, .string ⟨#[]⟩, .string ⟨#[]⟩, .bool false, .bool false, .bool false, .slice none 0 0, .bool false, .bool false, .bool false] 40)).heap.size = W1.heap.size by rw [← hW1]; rfl)
 have hne : W1.heap.size = w.heap.size + 1 := by rw [← hW1]; simp
 have HNE := Lib.hid hne
 unfold RgPost
 obtain ⟨R, hRR⟩ : ∃ R, lgA t = R := ⟨_, rfl⟩
 obtain ⟨gk, hgk⟩ : ∃ gk, (globK p).1 = gk := ⟨_, rfl⟩
 have HRR : Hid (R = if globE p = [] then { ru0 with path := p, hasPath := true, exclude := ex } else ru0) := Lib.hid (by rw [← hRR, HL.out, hp, hex])
 have HGK := Lib.hid hgk
 rw [hRR, hp, hgk]
 have ways := not_ways t
 rw [hex] at ways
 have hR : p = if ex = true then t.extract 4 t.size else t := by rw [← hp, ← hex]; rfl
 clear X1 X2 B1 B2 hW1 hW2 hps HL hk hk0 ht hex hne hRR hgk
 obtain ⟨kk, hkk⟩ : ∃ kk, kindI (lgE t) = kk := ⟨_, rfl⟩
 rw [hkk] at HK HK0 ⊢
 clear hkk hp
 rcases ways with ⟨h1, rfl⟩ | ⟨h1, rfl, h2⟩ | ⟨h1, rfl, h2⟩
 case' inl =>
  rw [if_neg (by simp)] at hR
  subst hR
  have t1 : decide ((4 : Int) ≤ (p.size : Int)) = false := decide_eq_false (by omega)
  have t1' : decide (4 ≤ p.size) = false := decide_eq_false (by omega)
  clear h1
 case' inr.inl =>
  rw [if_neg (by simp)] at hR
  subst hR
  have t1 : decide ((4 : Int) ≤ (p.size : Int)) = true := decide_eq_true (by omega)
  have t1' : decide (4 ≤ p.size) = true := decide_eq_true h1
  obtain ⟨P, hP⟩ : ∃ P, p.extract 0 4 = P := ⟨_, rfl⟩
  have sl : ∀ W, (Instr.slice 9 (.string p) none (some (.int .i64 4)) none).run Tryz.prog W = .ok (.string P) W := sl_to20 p 4 h1 P hP
  rw [hP] at h2
  have t2 : (P.toList == [78, 79, 84, 32]) = false := by
   have h := beqS_f h2
   rwa [not_list] at h
  have t2' : (P.toList = [78, 79, 84, 32]) = False := eq_false (by simpa using t2)
  clear hP h1 h2
 case' inr.inr =>
  rw [if_pos rfl] at hR
  have t1 : decide ((4 : Int) ≤ (t.size : Int)) = true := decide_eq_true (by omega)
  have t1' : decide (4 ≤ t.size) = true := decide_eq_true h1
  obtain ⟨P, hP⟩ : ∃ P, t.extract 0 4 = P := ⟨_, rfl⟩
  have sl : ∀ W, (Instr.slice 9 (.string t) none (some (.int .i64 4)) none).run Tryz.prog W = .ok (.string P) W := sl_to20 t 4 h1 P hP
  have sl2 : ∀ W, (Instr.slice 9 (.string t) (some (.int .i64 4)) none none).run Tryz.prog W = .ok (.string p) W := sl_fr20 t 4 h1 p hR.symm
  rw [hP] at h2
  have t2 : P.toList = [78, 79, 84, 32] := by rw [h2, not_list]
  clear hP h1 h2 hR
 all_goals
  go_enter Tryz.func14, Tryz.ntmps14
  go_wp2_with fail
 all_goals
  rw [HWE.out, ← HNE.out]
  refine RC.out.mono ?_
  rintro e w3 ⟨rfl, hb3⟩
  have B3 := Lib.hid (ext_trans HB.out hb3)
  have Y1 := (hb3.block _ (heap_lt HX1.out)).trans HX1.out
  have Y2 := (hb3.block _ (heap_lt HX2.out)).trans HX2.out
  clear hb3
  rcases globE_cases p with hg | ⟨x, hx0, hg⟩
  · have hkk := HK0.out hg
    have hGG := HGK.out
    have hRE := HRR.out
    rw [globK_of p hg] at hGG
    rw [if_pos hg] at hRE
    have hld := ru_load Y2
    have hst := fun c : RuA => ru_store (x := c) (v := .slice none 0 0) Y1 rfl
    have hle := fun c : RuA => ru_load (setRow_heap (c := ruC c (.slice none 0 0)) Y1)
    have HBR := Lib.hid (fun c => setRow_below (c := c) B3.out (Nat.le_refl _))
    rw [globK_of p hg]
    subst hkk hGG hRE
    clear hg Y1 Y2
    go_wp2_with ((with_reducible show wpList _ _ _ (_ :: _) _ _); first | (refine ld_arr 40 W1.heap.size _ hld _ rfl rfl rfl ?_) | (refine st_arr 40 w.heap.size _ (hst _) _ _ rfl rfl rfl rfl ?_))
    (try simp only [Exit.inBlock, Exit.then])
    exact bodyPost_ret (by simp [results, Tryz.results14, asAddr, Result.andThen, hle]) rfl ⟨rfl, HBR.out _⟩
  · have hkk := HK.out x hg
    have hGG := HGK.out
    have hRE := HRR.out
    rw [globK_no p hg] at hGG
    rw [if_neg (by rw [hg]; simp)] at hRE
    rw [globK_no p hg]
    have tx : (x.1 != 0) = true := by simpa using hx0
    have hst := ru_store (x := ru0) (v := .slice none 0 0) Y1 rfl
    rw [row_same Y1] at hst
    have hle := ru_load Y1
    subst hkk hGG hRE
    clear hg Y1 Y2 hx0
    go_wp2_with ((with_reducible show wpList _ _ _ (_ :: _) _ _); refine st_arr 40 w.heap.size _ hst _ _ rfl rfl rfl rfl ?_)
    (try simp only [Exit.inBlock, Exit.then])
    exact bodyPost_ret (by simp [results, Tryz.results14, asAddr, Result.andThen, hle]) rfl ⟨rfl, B3.out⟩
end Go.Proofs.YtcaiibkgajhohaaGreatDoor
namespace Go.Proofs.YtcaiibkgajhohaaGreatDoor
open Go.RowKit
/-- A row of wanted items in memory. -/
def ItRow (w : World) (v : Value) (l : List ItA) : Prop := ∃ a c, v = .slice a l.length c ∧ ∀ (j : Nat) x, l[j]? = some x → ∃ b o, a = some ⟨b, o, none⟩ ∧ b < w.heap.size ∧ w.cell? ⟨b, o + j * 3, none⟩ = some (.string x.name) ∧ w.cell? ⟨b, o + j * 3 + 1, none⟩ = some (.string x.value) ∧ w.cell? ⟨b, o + j * 3 + 2, none⟩ = some (.bool true)
theorem ItRow.ext {w w' : World} {v : Value} {l : List ItA} (h : ItRow w v l) (hb : Below w.heap.size w w') : ItRow w' v l := by
 obtain ⟨a, c, hv, h⟩ := h
 refine ⟨a, c, hv, fun j x hx => ?_⟩
 obtain ⟨b, o, ha, hl, h0, h1, h2⟩ := h j x hx
 exact ⟨b, o, ha, Nat.lt_of_lt_of_le hl hb.size, (bcell1 hb hl _).trans h0, (bcell1 hb hl _).trans h1, (bcell1 hb hl _).trans h2⟩
theorem ItRow.nil (w : World) : ItRow w (.slice none 0 0) [] := ⟨none, 0, rfl, fun j x hx => by simp at hx⟩
def SrRel (n : Nat) (W : World) (i : Value) (wr : World) : Prop := ∃ j nq : Nat, i = .int .i64 j ∧ j ≤ n ∧ wr = W.drewN nq
set_option maxRecDepth 100000 in
set_option maxHeartbeats 4000000 in
/-- ref20.SameRule at one rule twice -/
theorem sameRule_any (w : World) (x : RuA) (v1 v2 : Value) (h1 : ItRow w v1 x.items) (h2 : ItRow w v2 x.items) (hm : x.items.length ≤ 1100000) :
    Calls Tryz.prog 18 #[.agg (ruC x v1), .agg (ruC x v2)] w fun e w' => e = .returned (.bool true) ∧ Below w.heap.size w w' := by
 obtain ⟨a1, k1, rfl, r1⟩ := h1
 obtain ⟨a2, k2, rfl, r2⟩ := h2
 obtain ⟨n, hn⟩ : ∃ n, x.items.length = n := ⟨_, rfl⟩
 have HN := Lib.hid hn
 rw [hn] at hm ⊢
 have X1 := heap_alloc_new w (.cells (ruC x (.slice a1 n k1)) 40)
 have B1 := ext_alloc (Below.refl _ w) (.cells (ruC x (.slice a1 n k1)) 40)
 obtain ⟨W1, hW1⟩ : ∃ W, w.alloc (.cells (ruC x (.slice a1 n k1)) 40) = W := ⟨_, rfl⟩
 rw [hW1] at X1 B1
 have X2 := heap_alloc_new W1 (.cells (ruC x (.slice a2 n k2)) 40)
 have B2 := ext_alloc (Below.refl _ W1) (.cells (ruC x (.slice a2 n k2)) 40)
 obtain ⟨W2, hW2⟩ : ∃ W, W1.alloc (.cells (ruC x (.slice a2 n k2)) 40) = W := ⟨_, rfl⟩
 rw [hW2] at X2 B2
 have hne : W1.heap.size = w.heap.size + 1 := by rw [← hW1]; simp
 rw [hne] at X2
 have Y1 := (B2.block _ (heap_lt X1)).trans X1
 simp only [ruC] at Y1 X2
 have cc := fun i => Lib.cell_of_heap Y1 i
 have dd := fun i => Lib.cell_of_heap X2 i
 have c0 := cc 0; have c1 := cc 1; have c2 := cc 2; have c3 := cc 3; have c4 := cc 4; have c5 := cc 5; have c6 := cc 6; have c7 := cc 7; have c8 := cc 8; have c9 := cc 9
 have d0 := dd 0; have d1 := dd 1; have d2 := dd 2; have d3 := dd 3; have d4 := dd 4; have d5 := dd 5; have d6 := dd 6; have d7 := dd 7; have d8 := dd 8; have d9 := dd 9
 have BB := ext_trans B1 B2
 have R1 := Lib.hid (fun (j : Nat) (y : ItA) (hy : x.items[j]? = some y) => (show ∃ b o, a1 = some ⟨b, o, none⟩ ∧ W2.cell? ⟨b, o + j * 3, none⟩ = some (.string y.name) ∧ W2.cell? ⟨b, o + j * 3 + 1, none⟩ = some (.string y.value) ∧ W2.cell? ⟨b, o + j * 3 + 2, none⟩ = some (.bool true) from by
  obtain ⟨b, o, ha, hl, h0, h1, h2⟩ := r1 j y hy
  exact ⟨b, o, ha, (bcell1 BB hl _).trans h0, (bcell1 BB hl _).trans h1, (bcell1 BB hl _).trans h2⟩))
 have R2 := Lib.hid (fun (j : Nat) (y : ItA) (hy : x.items[j]? = some y) => (show ∃ b o, a2 = some ⟨b, o, none⟩ ∧ W2.cell? ⟨b, o + j * 3, none⟩ = some (.string y.name) ∧ W2.cell? ⟨b, o + j * 3 + 1, none⟩ = some (.string y.value) ∧ W2.cell? ⟨b, o + j * 3 + 2, none⟩ = some (.bool true) from by
  obtain ⟨b, o, ha, hl, h0, h1, h2⟩ := r2 j y hy
  exact ⟨b, o, ha, (bcell1 BB hl _).trans h0, (bcell1 BB hl _).trans h1, (bcell1 BB hl _).trans h2⟩))
 have HB := Lib.hid BB
 have t : ((n : Int) != n) = false := by simp
 have HW := Lib.hid (show (w.alloc (.cells (ruC x (.slice a1 n k1)) 40)).alloc (.cells (ruC x (.slice a2 n k2)) 40) = W2 by rw [← hW2, ← hW1])
 have e0 := beqS_t (show x.path = x.path from rfl)
 have e1 := beqS_t (show x.query = x.query from rfl)
 have e2 := beqS_t (show x.frag = x.frag from rfl)
 clear hn X1 B1 hW1 X2 B2 hW2 hne Y1 cc dd BB r1 r2
 simp only [ruC] at HW ⊢
 go_enter Tryz.func18, Tryz.ntmps18
 go_upto_region 1 with (fail)
 rw [HW.out]
 clear HW
 go_wp2_with fail
 go_loopw [5] (SrRel n W2) (fun i _ => n - (intOf i).toNat)
 case atStart => exact ⟨0, 0, rfl, Nat.zero_le _, rfl⟩
 case round =>
  obtain ⟨j, nq, rfl, hj, rfl⟩ := hrel
  by_cases hlt : j < n
  · have t1 : decide ((j : Int) < (n : Int)) = true := decide_eq_true (by omega)
    have t1' : decide (j < n) = true := decide_eq_true hlt
    have q1 : IntKind.i64.wrap ((j : Int) + 1) = (j : Int) + 1 := IntWalk.i64_in _ (by omega)
    obtain ⟨y, hy⟩ := get_ex x.items j (by rw [HN.out]; exact hlt)
    obtain ⟨b1, o1, rfl, x0, x1, x2⟩ := R1.out j y hy
    obtain ⟨b2, o2, rfl, y0, y1, y2⟩ := R2.out j y hy
    have f0 := beqS_t (show y.name = y.name from rfl)
    have f1 := beqS_t (show y.value = y.value from rfl)
    clear hy
    go_wp2
    go_quiet (fail)
    go_wp2
    refine ⟨?_, by simp [intOf]; omega⟩
    have R : ∀ W k, SrRel n W (.int .i64 (j + 1)) (W.drewN k) := fun W k => ⟨j + 1, k, by go_num, by omega, rfl⟩
    first | exact R _ _ | ((repeat apply Exists.intro); exact ⟨R _ _, rfl⟩)
  · have t1 : decide ((j : Int) < (n : Int)) = false := decide_eq_false (by omega)
    have t1' : decide (j < n) = false := decide_eq_false hlt
    go_wp2
    go_ret
    exact ⟨by simp, ext_drewN _ HB.out⟩
theorem isKind_snd (x : Int × Int) : isKind [(11, 0), x] x.1 = true := by
 unfold isKind
 simp
set_option maxRecDepth 100000 in
set_option maxHeartbeats 4000000 in
/-- waybilllaw20.AasaLegacy -/
theorem aasaLegacy_any (t : ByteArray) (w : World) (he : E20 w) (hg : Glob w) : Calls Tryz.prog 5 #[.string t] w fun e w' => e = .returned (.bool true) ∧ Below w.heap.size w w' := by
 have SP := Lib.hid (speaks20 w he)
 by_cases hz : 1500 < t.size
 · have t1 : decide ((1500 : Int) < (t.size : Int)) = true := decide_eq_true (by omega)
   have t1' : decide (1500 < t.size) = true := decide_eq_true hz
   clear hz he hg
   go_enter Tryz.func5, Tryz.ntmps5
   go_wp2_with fail
   refine SP.out.mono ?_
   rintro e w1 ⟨rfl, hb1⟩
   have HB := Lib.hid hb1
   clear hb1
   go_wp2
   go_ret
   exact ⟨rfl, HB.out⟩
 · have t1 : decide ((1500 : Int) < (t.size : Int)) = false := decide_eq_false (by omega)
   have t1' : decide (1500 < t.size) = false := decide_eq_false hz
   have hz2 : t.size ≤ 1100000 := by omega
   have LG := Lib.hid (fun W (hW : Below w.heap.size w W) => legacy_any t W (he.ext hW).s hz2)
   have RG := Lib.hid (fun W => rlegacy20_any t W hz2)
   have GL := Lib.hid (fun W (hW : Below w.heap.size w W) => hg.ext hW)
   have hEQ := lgA_eq t
   have hItems : (lgA t).items = [] := by rw [hEQ]; split <;> rfl
   have SR := Lib.hid (fun W x (hx : x.items = []) => sameRule_any W x (.slice none 0 0) (.slice none 0 0) (by rw [hx]; exact ItRow.nil W) (by rw [hx]; exact ItRow.nil W) (by rw [hx]; exact Nat.zero_le _))
   have HE : Hid ((lgE t = [] ∧ True) ∨ ∃ x : Int × Int, lgE t = [(11, 0), x] ∧ (globK (notR t)).1 = x.1 ∧ lgA t = ru0) := Lib.hid (by
    rcases globE_cases (notR t) with h | ⟨x, hx, h⟩
    · exact .inl ⟨by unfold lgE; rw [h], trivial⟩
    · exact .inr ⟨x, by unfold lgE; rw [h], by rw [globK_no _ h], by rw [hEQ, if_neg (by rw [h]; simp)]⟩)
   have HI := Lib.hid hItems
   unfold LgPost at LG
   unfold RgPost at RG
   obtain ⟨R, hR⟩ : ∃ R, lgA t = R := ⟨_, rfl⟩
   obtain ⟨c, hc⟩ : ∃ c, lgE t = c := ⟨_, rfl⟩
   obtain ⟨gk, hgk⟩ : ∃ gk, (globK (notR t)).1 = gk := ⟨_, rfl⟩
   rw [hR, hc] at LG
   rw [hR, hc, hgk] at RG
   rw [hR, hc, hgk] at HE
   rw [hR] at HI
   clear hR hc hgk hEQ hItems hz hz2 he hg
   go_enter Tryz.func5, Tryz.ntmps5
   go_wp2_with fail
   refine SP.out.mono ?_
   rintro e w1 ⟨rfl, hb1⟩
   have HB := Lib.hid hb1
   have LG1 := Lib.hid (LG.out w1 hb1)
   clear hb1 LG
   go_wp2_with fail
   refine LG1.out.mono ?_
   rintro e w2 ⟨u, rfl, hu, hb2⟩
   have HU := Lib.hid hu
   have B2 := Lib.hid (ext_trans HB.out hb2)
   have X3 := heap_alloc_new w2 (.cells (ruC R (.slice none 0 0)) 40)
   have B3 := ext_alloc (Below.refl _ w2) (.cells (ruC R (.slice none 0 0)) 40)
   have RG1 := RG.out (w2.alloc (.cells (ruC R (.slice none 0 0)) 40))
   clear hu hb2 LG1 RG
   have HB3 := Lib.hid B3; have HX3 := Lib.hid X3; have RG1 := Lib.hid RG1
   clear B3 X3
   simp only [ruC]
   go_wp2_with fail
   refine RG1.out.mono ?_
   rintro e w4 ⟨rfl, hb4⟩
   obtain ⟨A, hA⟩ : ∃ A, w2.heap.size = A := ⟨_, rfl⟩
   have Y3 := (hb4.block _ (heap_lt HX3.out)).trans HX3.out
   have E4 := ext_trans HB3.out hb4
   have B4 := Lib.hid (B2.out.trans (E4.mono B2.out.size))
   have U4 : ErA w4 u c := HU.out.ext E4
   have X5 := heap_alloc_new w4 (.cells (ruC R (.slice none 0 0)) 40)
   have B5 := ext_alloc (Below.refl _ w4) (.cells (ruC R (.slice none 0 0)) 40)
   obtain ⟨W5, hW5⟩ : ∃ W, w4.alloc (.cells (ruC R (.slice none 0 0)) 40) = W := ⟨_, rfl⟩
   rw [hW5] at X5 B5
   have HW5 := Lib.hid (show w4.alloc (.cells #[.string R.path, .string R.query, .string R.frag, .bool R.hasPath, .bool R.hasQuery, .bool R.hasFrag, .slice none 0 0, .bool R.exclude, .bool R.fold, .bool R.decoded] 40) = W5 from hW5)
   have U5 := Lib.hid (U4.ext B5)
   have Y5 := Lib.hid ((B5.block _ (heap_lt Y3)).trans Y3)
   have HX5 := Lib.hid X5
   have E5 := Lib.hid (B4.out.trans (B5.mono B4.out.size))
   clear hb4 Y3 E4 U4 X5 B5 hW5 RG1 HB3 HX3 HU B2
   clear hA A
   simp only [ruC]
   go_upto_region 7 with (fail)
   rw [HW5.out]
   have hl1 := ru_load Y5.out; have hl2 := ru_load HX5.out
   simp only [ruC] at hl1 hl2
   rcases HE.out with ⟨hc, _⟩ | ⟨x, hc, hgk, hR⟩
   · subst hc
     obtain ⟨_, rfl⟩ | ⟨h, _⟩ := erA_inv U5.out
     · have S5 := SR.out W5 R HI.out
       simp only [ruC] at S5
       have HS5 := Lib.hid S5
       clear S5
       simp only [kindI]
       go_wp2_with ((with_reducible show wpList _ _ _ (_ :: _) _ _); first | (refine ld_arrG 40 w2.heap.size _ hl1 _ rfl rfl rfl ?_) | (refine ld_arrG 40 w4.heap.size _ hl2 _ rfl rfl rfl ?_))
       refine HS5.out.mono ?_
       rintro e w6 ⟨rfl, hb6⟩
       have HE6 := Lib.hid (E5.out.trans (hb6.mono E5.out.size))
       clear hb6
       go_wp2
       go_ret
       exact ⟨rfl, HE6.out⟩
     · exact absurd rfl h
   · subst hc hgk hR
     clear hl1 hl2
     have KN := Lib.hid (kind_any u [(11, 0), x] W5 (GL.out W5 E5.out) U5.out)
     obtain ⟨h, _⟩ | ⟨_, pf, rfl⟩ := erA_inv U5.out
     · cases h
     simp only [kindI] at KN ⊢
     go_wp2_with fail
     refine KN.out.mono ?_
     rintro e w6 ⟨rfl, hb6⟩
     have E6 := Lib.hid (E5.out.trans (hb6.mono E5.out.size))
     have U6 := Lib.hid (U5.out.ext hb6)
     have Y6 := Lib.hid ((hb6.block _ (heap_lt Y5.out)).trans Y5.out)
     have AT := Lib.hid (at_any _ [(11, 0), x] w6 (GL.out w6 E6.out) U6.out)
     simp only [atI] at AT
     clear hb6
     go_wp2_with fail
     refine AT.out.mono ?_
     rintro e w7 ⟨rfl, hb7⟩
     have E7 := Lib.hid (E6.out.trans (hb7.mono E6.out.size))
     have HS := Lib.hid (has_any _ x.1 [(11, 0), x] w7 (U6.out.ext hb7))
     rw [isKind_snd] at HS
     have hl1 : (loadVar 40 ⟨w2.heap.size, 0, none⟩).run Tryz.prog w7 = .ok (.agg #[.string ⟨#[]⟩, .string ⟨#[]⟩, .string ⟨#[]⟩, .bool false, .bool false, .bool false, .slice none 0 0, .bool false, .bool false, .bool false]) w7 := ru_load (x := ru0) ((hb7.block _ (heap_lt Y6.out)).trans Y6.out)
     have HL1 := Lib.hid hl1
     have S5 := Lib.hid (show Calls Tryz.prog 18 #[.agg #[.string ⟨#[]⟩, .string ⟨#[]⟩, .string ⟨#[]⟩, .bool false, .bool false, .bool false, .slice none 0 0, .bool false, .bool false, .bool false], .agg #[.string ⟨#[]⟩, .string ⟨#[]⟩, .string ⟨#[]⟩, .bool false, .bool false, .bool false, .slice none 0 0, .bool false, .bool false, .bool false]] w7 fun e w' => e = .returned (.bool true) ∧ Below w7.heap.size w7 w' from SR.out w7 ru0 rfl)
     clear hb7 hl1
     go_wp2_with fail
     go_at_call 17
     refine HS.out.mono ?_
     rintro e w8 ⟨rfl, rfl⟩
     have hl1 := HL1.out
     go_wp2_with ((with_reducible show wpList _ _ _ (_ :: _) _ _); refine ld_arrG 40 w2.heap.size _ hl1 _ rfl rfl rfl ?_)
     refine S5.out.mono ?_
     rintro e w9 ⟨rfl, hb9⟩
     have E9 := Lib.hid (E7.out.trans (hb9.mono E7.out.size))
     clear hb9 hl1
     go_wp2
     go_ret
     exact ⟨rfl, E9.out⟩
end Go.Proofs.YtcaiibkgajhohaaGreatDoor
