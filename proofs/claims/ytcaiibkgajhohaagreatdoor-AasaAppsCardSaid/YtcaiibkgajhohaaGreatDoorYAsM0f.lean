/- Texts put together. -/
import Derived.Test.YtcaiibkgajhohaaGreatDoorYAppAt0f
import Derived.Test.YtcaiibkgajhohaaGreatDoorYAsG3f
import Derived.BigQuiet
namespace Go.Proofs.YtcaiibkgajhohaaGreatDoor
open Go.RowKit
def apEq (x y : AppA) : Bool := decide (x.team = y.team) && decide (x.bundle = y.bundle)
theorem apEq_comm (x y : AppA) : apEq x y = apEq y x := by
 unfold apEq
 rw [decide_eq_decide.2 (⟨Eq.symm, Eq.symm⟩ : x.team = y.team ↔ y.team = x.team), decide_eq_decide.2 (⟨Eq.symm, Eq.symm⟩ : x.bundle = y.bundle ↔ y.bundle = x.bundle)]
def onceA (acc : List AppA) (x : AppA) : List AppA := if acc.any (apEq x) = true then acc else acc ++ [x]
def rowOnce (acc : List AppA) (l : List AppA) : List AppA := l.foldl onceA acc
def allOnce (acc : List AppA) (d : List DeA) : List AppA := d.foldl (fun acc x => rowOnce acc x.apps) acc
theorem onceA_len (acc : List AppA) (x : AppA) : (onceA acc x).length ≤ acc.length + 1 := by
 unfold onceA
 split
 · omega
 · simp
theorem take_step {α β : Type} (f : β → α → β) (b : β) (l : List α) {i : Nat} {x : α} (h : l[i]? = some x) : (l.take (i + 1)).foldl f b = f ((l.take i).foldl f b) x := by
 rw [List.take_add_one, h]
 simp
theorem any_step {α : Type} (p : α → Bool) (l : List α) {i : Nat} {x : α} (h : l[i]? = some x) : (l.take (i + 1)).any p = ((l.take i).any p || p x) := by
 rw [List.take_add_one, h]
 simp
theorem take_all {α : Type} {l : List α} {i : Nat} (h : i ≤ l.length) (h2 : ¬ i < l.length) : l.take i = l := List.take_of_length_le (by omega)
theorem rowOnce_len : ∀ (l : List AppA) (acc : List AppA), (rowOnce acc l).length ≤ acc.length + l.length
 | [], acc => Nat.le_refl _
 | x :: l, acc => by
   have h := rowOnce_len l (onceA acc x)
   have h2 := onceA_len acc x
   show (rowOnce (onceA acc x) l).length ≤ _
   rw [List.length_cons]; omega
theorem allOnce_len (k : Nat) : ∀ (d : List DeA) (acc : List AppA), (∀ x ∈ d, x.apps.length ≤ k) → (allOnce acc d).length ≤ acc.length + d.length * k
 | [], acc, _ => by simp [allOnce]
 | x :: d, acc, h => by
   have h1 := allOnce_len k d (rowOnce acc x.apps) (fun y hy => h y (List.mem_cons_of_mem _ hy))
   have h2 := rowOnce_len x.apps acc
   have h3 := h x (List.mem_cons_self ..)
   show (allOnce (rowOnce acc x.apps) d).length ≤ _
   rw [List.length_cons, Nat.add_mul]; omega
end Go.Proofs.YtcaiibkgajhohaaGreatDoor
namespace Go.Proofs.YtcaiibkgajhohaaGreatDoor
open Go.RowKit
/-- A row of apps in memory. -/
def ApRow (w : World) (v : Value) (l : List AppA) : Prop := ∃ a c, v = .slice a l.length c ∧ ∀ (j : Nat) x, l[j]? = some x → ∃ b o, a = some ⟨b, o, none⟩ ∧ b < w.heap.size ∧ w.cell? ⟨b, o + j * 2, none⟩ = some (.string x.team) ∧ w.cell? ⟨b, o + j * 2 + 1, none⟩ = some (.string x.bundle)
theorem ApRow.ext {w w' : World} {v : Value} {l : List AppA} (h : ApRow w v l) (hb : Below w.heap.size w w') : ApRow w' v l := by
 obtain ⟨a, c, hv, h⟩ := h
 refine ⟨a, c, hv, fun j x hx => ?_⟩
 obtain ⟨b, o, ha, hl, h0, h1⟩ := h j x hx
 exact ⟨b, o, ha, Nat.lt_of_lt_of_le hl hb.size, (bcell1 hb hl _).trans h0, (bcell1 hb hl _).trans h1⟩
theorem RowA.ap {B : Nat} {w : World} {v : Value} {l : List AppA} (h : RowA B w v l) : ApRow w v l := by
 obtain ⟨ao, cap, rfl, ha⟩ := aown_form h
 refine ⟨ao, cap, rfl, fun j x hx => ?_⟩
 have hj := (List.getElem?_eq_some_iff.1 hx).1
 rcases ha with ⟨h0, _⟩ | ⟨g, rfl, h1, h2⟩
 · omega
 · refine ⟨g, 0, rfl, h2, ?_, ?_⟩
   · rw [Nat.zero_add]; exact row_cell (enc := appC) (k := 2) (j := 0) (fun _ => rfl) h hx (by decide)
   · rw [Nat.zero_add]; exact row_cell (enc := appC) (k := 2) (fun _ => rfl) h hx (by decide)
def IxRel (l : List AppA) (x : AppA) (W : World) (i : Value) (wr : World) : Prop := ∃ j nq : Nat, i = .int .i64 j ∧ j ≤ l.length ∧ wr = W.drewN nq ∧ (l.take j).any (apEq x) = false
theorem apEq_bool (x y : AppA) : apEq x y = ((x.team.toList == y.team.toList) && (x.bundle.toList == y.bundle.toList)) := by
 unfold apEq
 by_cases h1 : x.team = y.team <;> by_cases h2 : x.bundle = y.bundle
 · rw [decide_eq_true h1, decide_eq_true h2, beqS_t h1, beqS_t h2]
 · rw [decide_eq_true h1, decide_eq_false h2, beqS_t h1, beqS_f h2]
 · rw [decide_eq_false h1, beqS_f h1]; rfl
 · rw [decide_eq_false h1, beqS_f h1]; rfl
set_option maxRecDepth 100000 in
set_option maxHeartbeats 2000000 in
theorem apIdx_any (w : World) (v : Value) (l : List AppA) (x : AppA) (hr : ApRow w v l) (hm : l.length ≤ 1100000) :
    Calls Tryz.prog 62 #[v, .agg #[.string x.team, .string x.bundle]] w fun e w' => (∃ j : Int, e = .returned (.int .i64 j) ∧ decide (j ≥ 0) = l.any (apEq x)) ∧ Below w.heap.size w w' := by
 obtain ⟨a, cap, rfl, hr⟩ := hr
 have XB := heap_alloc_new w (.cells #[.string x.team, .string x.bundle] 37)
 have BB := ext_alloc (Below.refl _ w) (.cells #[.string x.team, .string x.bundle] 37)
 obtain ⟨W, hW⟩ : ∃ W, w.alloc (.cells #[.string x.team, .string x.bundle] 37) = W := ⟨_, rfl⟩
 rw [hW] at XB BB
 have c0 := (show W.cell? ⟨w.heap.size, 0, none⟩ = some (.string x.team) from Lib.cell_of_heap XB 0)
 have c1 := (show W.cell? ⟨w.heap.size, 1, none⟩ = some (.string x.bundle) from Lib.cell_of_heap XB 1)
 have HR := Lib.hid (fun (j : Nat) y (hy : l[j]? = some y) => (show ∃ b o, a = some ⟨b, o, none⟩ ∧ W.cell? ⟨b, o + j * 2, none⟩ = some (.string y.team) ∧ W.cell? ⟨b, o + j * 2 + 1, none⟩ = some (.string y.bundle) from by
  obtain ⟨b, o, ha, hl, h0, h1⟩ := hr j y hy
  exact ⟨b, o, ha, (bcell1 BB hl _).trans h0, (bcell1 BB hl _).trans h1⟩))
 have HB := Lib.hid BB
 obtain ⟨n, hn⟩ : ∃ n, l.length = n := ⟨_, rfl⟩
 have HN := Lib.hid hn
 rw [hn] at hm ⊢
 clear hr XB BB hn
 go_enter Tryz.func62, Tryz.ntmps62
 go_wp2_with fail
 try rw [hW]
 clear hW
 go_loopw [8] (IxRel l x W) (fun i _ => n - (intOf i).toNat)
 case atStart => exact ⟨0, 0, rfl, Nat.zero_le _, rfl, rfl⟩
 case round =>
  obtain ⟨j, nq, rfl, hj, rfl, hno⟩ := hrel
  rw [HN.out] at hj
  have HNO := Lib.hid hno
  clear hno
  by_cases hlt : j < n
  · have t1 : decide ((j : Int) < (n : Int)) = true := decide_eq_true (by omega)
    have t1' : decide (j < n) = true := decide_eq_true hlt
    have q1 : IntKind.i64.wrap ((j : Int) + 1) = (j : Int) + 1 := IntWalk.i64_in _ (by omega)
    obtain ⟨y, hy⟩ := get_ex l j (by rw [HN.out]; exact hlt)
    obtain ⟨b, o, rfl, y0, y1⟩ := HR.out j y hy
    have HY := Lib.hid hy
    obtain ⟨p, hp⟩ : ∃ p, (x.team.toList == y.team.toList) = p := ⟨_, rfl⟩
    obtain ⟨q, hq⟩ : ∃ q, (x.bundle.toList == y.bundle.toList) = q := ⟨_, rfl⟩
    have HE := Lib.hid (show apEq x y = (p && q) by rw [apEq_bool, hp, hq])
    clear hy
    have R : ∀ k, (p && q) = false → IxRel l x W (.int .i64 ((j : Int) + 1)) (W.drewN k) := fun k h => ⟨j + 1, k, by go_num, by rw [HN.out]; exact hlt, rfl, by rw [any_step _ _ HY.out, HNO.out, HE.out, h]; rfl⟩
    have F : (p && q) = true → decide ((j : Int) ≥ 0) = l.any (apEq x) := fun h => by
     rw [List.any_eq_true.2 ⟨y, List.mem_of_getElem? HY.out, by rw [HE.out]; exact h⟩]
     exact decide_eq_true (by omega)
    have HR2 := Lib.hid R; have HF := Lib.hid F
    clear R F
    cases p <;> cases q
    all_goals go_wp2
    all_goals go_quiet (fail)
    all_goals go_wp2
    all_goals first
     | (refine ⟨?_, by simp [intOf]; omega⟩; first | exact HR2.out _ rfl | ((repeat apply Exists.intro); exact ⟨HR2.out _ rfl, rfl⟩))
     | (go_ret; exact ⟨⟨_, rfl, HF.out rfl⟩, by first | exact ext_drewN _ HB.out | exact ext_drewN _ (ext_drewN _ HB.out)⟩)
  · have t1 : decide ((j : Int) < (n : Int)) = false := decide_eq_false (by omega)
    have t1' : decide (j < n) = false := decide_eq_false hlt
    have HM := Lib.hid (show l.any (apEq x) = false by
     have := HNO.out
     rwa [take_all (l := l) (by rw [HN.out]; exact hj) (by rw [HN.out]; exact hlt)] at this)
    clear c0 c1
    go_wp2
    go_ret
    exact ⟨⟨_, rfl, by rw [HM.out]; rfl⟩, ext_drewN _ HB.out⟩
set_option maxRecDepth 100000 in
theorem apHas_any (w : World) (v : Value) (l : List AppA) (x : AppA) (hr : ApRow w v l) (hm : l.length ≤ 1100000) :
    Calls Tryz.prog 32 #[v, .agg #[.string x.team, .string x.bundle]] w fun e w' => e = .returned (.bool (l.any (apEq x))) ∧ Below w.heap.size w w' := by
 have XB := heap_alloc_new w (.cells #[.string x.team, .string x.bundle] 37)
 have BB := ext_alloc (Below.refl _ w) (.cells #[.string x.team, .string x.bundle] 37)
 obtain ⟨W, hW⟩ : ∃ W, w.alloc (.cells #[.string x.team, .string x.bundle] 37) = W := ⟨_, rfl⟩
 rw [hW] at XB BB
 have K := Lib.hid (apIdx_any W v l x (hr.ext BB) hm)
 have c0 := Lib.cell_of_heap XB 0
 have c1 := Lib.cell_of_heap XB 1
 obtain ⟨t, ht⟩ : ∃ t, l.any (apEq x) = t := ⟨_, rfl⟩
 rw [ht] at K ⊢
 have HB := Lib.hid BB
 clear ht hr hm XB BB
 go_enter Tryz.func32, Tryz.ntmps32
 go_wp2_with fail
 refine K.out.mono ?_
 rintro _ w2 ⟨⟨j, rfl, hj⟩, hb⟩
 have HB2 := Lib.hid (ext_trans HB.out hb)
 clear hb
 go_wp2
 go_ret
 exact ⟨by rw [← hj]; rfl, HB2.out⟩
def SaRel (n : Nat) (W : World) (i : Value) (wr : World) : Prop := ∃ j nq : Nat, i = .int .i64 j ∧ j ≤ n ∧ wr = W.drewN nq
set_option maxRecDepth 100000 in
set_option maxHeartbeats 2000000 in
/-- ref20.SameApps at one row twice -/
theorem sameAp_any (w : World) (v1 v2 : Value) (l : List AppA) (h1 : ApRow w v1 l) (h2 : ApRow w v2 l) (hm : l.length ≤ 1100000) :
    Calls Tryz.prog 10 #[v1, v2] w fun e w' => e = .returned (.bool true) ∧ Below w.heap.size w w' := by
 obtain ⟨a1, k1, rfl, r1⟩ := h1
 obtain ⟨a2, k2, rfl, r2⟩ := h2
 have R1 := Lib.hid r1; have R2 := Lib.hid r2
 obtain ⟨n, hn⟩ : ∃ n, l.length = n := ⟨_, rfl⟩
 have HN := Lib.hid hn
 rw [hn] at hm ⊢
 have t : ((n : Int) != n) = false := by simp
 clear r1 r2 hn
 go_enter Tryz.func10, Tryz.ntmps10
 go_wp2_with fail
 go_loopw [5] (SaRel n w) (fun i _ => n - (intOf i).toNat)
 case atStart => exact ⟨0, 0, rfl, Nat.zero_le _, rfl⟩
 case round =>
  obtain ⟨j, nq, rfl, hj, rfl⟩ := hrel
  by_cases hlt : j < n
  · have t1 : decide ((j : Int) < (n : Int)) = true := decide_eq_true (by omega)
    have t1' : decide (j < n) = true := decide_eq_true hlt
    have q1 : IntKind.i64.wrap ((j : Int) + 1) = (j : Int) + 1 := IntWalk.i64_in _ (by omega)
    obtain ⟨y, hy⟩ := get_ex l j (by rw [HN.out]; exact hlt)
    obtain ⟨b1, o1, rfl, _, x0, x1⟩ := R1.out j y hy
    obtain ⟨b2, o2, rfl, _, y0, y1⟩ := R2.out j y hy
    have e0 := beqS_t (show y.team = y.team from rfl)
    have e1 := beqS_t (show y.bundle = y.bundle from rfl)
    clear hy
    go_wp2
    go_quiet (fail)
    go_wp2
    refine ⟨?_, by simp [intOf]; omega⟩
    have R : ∀ W k, SaRel n W (.int .i64 (j + 1)) (W.drewN k) := fun W k => ⟨j + 1, k, by go_num, by omega, rfl⟩
    first | exact R _ _ | ((repeat apply Exists.intro); exact ⟨R _ _, rfl⟩)
  · have t1 : decide ((j : Int) < (n : Int)) = false := decide_eq_false (by omega)
    have t1' : decide (j < n) = false := decide_eq_false hlt
    go_wp2
    go_ret
    exact ⟨rfl, ext_drewN _ (Below.refl _ _)⟩
end Go.Proofs.YtcaiibkgajhohaaGreatDoor
namespace Go.Proofs.YtcaiibkgajhohaaGreatDoor
open Go.RowKit
/-- Details in memory: their apps. -/
def DeRow (w : World) (a : Option Addr) (d : List DeA) : Prop := ∀ (j : Nat) x, d[j]? = some x → ∃ b o a0 n0 k0 a1 n1 k1, a = some ⟨b, o, none⟩ ∧ b < w.heap.size ∧ w.cell? ⟨b, o + j * 2, none⟩ = some (.slice a0 n0 k0) ∧ w.cell? ⟨b, o + j * 2 + 1, none⟩ = some (.slice a1 n1 k1) ∧ ApRow w (.slice a0 n0 k0) x.apps
theorem DeRow.ext {w w' : World} {a : Option Addr} {d : List DeA} (h : DeRow w a d) (hb : Below w.heap.size w w') : DeRow w' a d := by
 intro j x hx
 obtain ⟨b, o, a0, n0, k0, a1, n1, k1, ha, hl, h0, h1, h2⟩ := h j x hx
 exact ⟨b, o, a0, n0, k0, a1, n1, k1, ha, Nat.lt_of_lt_of_le hl hb.size, (bcell1 hb hl _).trans h0, (bcell1 hb hl _).trans h1, h2.ext hb⟩
theorem ApRow.slice {w : World} {a : Option Addr} {n c : Nat} {l : List AppA} (h : ApRow w (.slice a n c) l) : n = l.length ∧ ∀ (j : Nat) x, l[j]? = some x → ∃ b o, a = some ⟨b, o, none⟩ ∧ b < w.heap.size ∧ w.cell? ⟨b, o + j * 2, none⟩ = some (.string x.team) ∧ w.cell? ⟨b, o + j * 2 + 1, none⟩ = some (.string x.bundle) := by
 obtain ⟨a', c', h1, h2⟩ := h
 cases h1
 exact ⟨rfl, h2⟩
/-- A row of apps whose length has a name. -/
abbrev RowN (B : Nat) (w : World) (v : Value) (n : Nat) (l : List AppA) : Prop := w.ownsRow B 37 2 v n (l.flatMap appC)
theorem RowA.n {B n : Nat} {w : World} {v : Value} {l : List AppA} (h : RowA B w v l) (hn : l.length = n) : RowN B w v n l := hn ▸ h
theorem RowN.a {B n : Nat} {w : World} {v : Value} {l : List AppA} (h : RowN B w v n l) (hn : l.length = n) : RowA B w v l := by subst hn; exact h
def AoRel (d : List DeA) (W : World) (v k : Value) (wr : World) : Prop := ∃ j : Nat, k = .int .i64 j ∧ j ≤ d.length ∧ Below W.heap.size W wr ∧ RowA W.heap.size wr v (allOnce [] (d.take j))
def AiRel (l : List AppA) (acc : List AppA) (W : World) (v k : Value) (wr : World) : Prop := ∃ i : Nat, k = .int .i64 i ∧ i ≤ l.length ∧ Below W.heap.size W wr ∧ RowA W.heap.size wr v (rowOnce acc (l.take i))
set_option maxRecDepth 100000 in
set_option maxHeartbeats 4000000 in
/-- aasa.Apps -/
theorem apps_any (w : World) (a a2 : Option Addr) (c n2 c2 : Nat) (d : List DeA) (h : DeRow w a d) (hl : d.length ≤ 60) (hk : ∀ x ∈ d, x.apps.length ≤ 20) :
    Calls Tryz.prog 11 #[.agg #[.slice a d.length c, .slice a2 n2 c2]] w fun e w' => ∃ v, e = .returned v ∧ RowA w.heap.size w' v (allOnce [] d) ∧ Below w.heap.size w w' := by
 have XB := heap_alloc_new w (.cells #[.slice a d.length c, .slice a2 n2 c2] 27)
 have BB := ext_alloc (Below.refl _ w) (.cells #[.slice a d.length c, .slice a2 n2 c2] 27)
 obtain ⟨W, hW⟩ : ∃ W, w.alloc (.cells #[.slice a d.length c, .slice a2 n2 c2] 27) = W := ⟨_, rfl⟩
 rw [hW] at XB BB
 have c0 := Lib.cell_of_heap XB 0
 have c1 := Lib.cell_of_heap XB 1
 have DR := Lib.hid (h.ext BB)
 have HB := Lib.hid BB
 obtain ⟨n, hn⟩ : ∃ n, d.length = n := ⟨_, rfl⟩
 have HN := Lib.hid hn
 have HK := Lib.hid hk
 rw [hn] at hl hW c0 ⊢
 clear h XB BB hn hk c1
 have L20 := Lib.hid (fun j => Nat.le_trans (allOnce_len 20 (d.take j) [] (fun x hx => HK.out x (List.mem_of_mem_take hx))) (show ([] : List AppA).length + (d.take j).length * 20 ≤ 1200 by
  have := List.length_take_le' j d
  rw [HN.out] at this
  simp only [List.length_nil]; omega))
 go_enter Tryz.func11, Tryz.ntmps11
 go_wp2_with fail
 try rw [hW]
 clear hW
 go_loopw [2, 10] (AoRel d W) (fun _ i _ => n - (intOf i).toNat)
 case atStart => exact ⟨0, rfl, Nat.zero_le _, Below.refl _ _, World.ownsRow_nil _ _ _ _⟩
 case round =>
  obtain ⟨j, rfl, hj, hbr, ho⟩ := hrel
  rw [HN.out] at hj
  obtain ⟨acc, hacc⟩ : ∃ acc, allOnce [] (d.take j) = acc := ⟨_, rfl⟩
  have hL := L20.out j
  rw [hacc] at ho hL
  obtain ⟨na, hna⟩ : ∃ na, acc.length = na := ⟨_, rfl⟩
  have HNA := Lib.hid hna
  rw [hna] at hL
  have ho := ho.n hna
  obtain ⟨ao, lcap, rfl, _⟩ := aown_form ho
  have HO := Lib.hid ho
  have HBR := Lib.hid hbr
  have HL := Lib.hid hL
  have HAC := Lib.hid hacc
  clear ho hbr hna hL hacc
  by_cases hlt : j < n
  · have t1 : decide ((j : Int) < (n : Int)) = true := decide_eq_true (by omega)
    have t1' : decide (j < n) = true := decide_eq_true hlt
    have q1 : IntKind.i64.wrap ((j : Int) + 1) = (j : Int) + 1 := IntWalk.i64_in _ (by omega)
    obtain ⟨x, hx⟩ := get_ex d j (by rw [HN.out]; exact hlt)
    obtain ⟨b, o, a0, n0, k0, a1, n1, k1, rfl, hbl, z0, z1, hap⟩ := DR.out j x hx
    have x0 := (bcell1 HBR.out hbl _).trans z0
    have x1 := (bcell1 HBR.out hbl _).trans z1
    obtain ⟨hn0, hap2⟩ := hap.slice
    have hxl := HK.out x (List.mem_of_getElem? hx)
    have HN0 := Lib.hid hn0
    rw [← hn0] at hxl
    have HST := Lib.hid (show allOnce [] (d.take (j + 1)) = rowOnce acc x.apps by rw [← HAC.out]; exact take_step _ _ _ hx)
    have E4 := ext_alloc (Below.refl _ wr) (.cells #[.slice a0 n0 k0, .slice a1 n1 k1] 35)
    have AP4 := Lib.hid hap
    have HE4 := Lib.hid E4
    have HB4 := Lib.hid (HBR.out.trans (E4.mono HBR.out.size))
    have HO4 := Lib.hid (show RowN W.heap.size (wr.alloc (.cells #[.slice a0 n0 k0, .slice a1 n1 k1] 35)) (.slice ao na lcap) na acc from aown_ext HO.out (fun g hg => E4.block g (HO.out.lt g hg).2) (Nat.le_refl _))
    clear hx hap hap2 hn0 E4 c0 z0 z1
    go_wp2_with fail
    obtain ⟨w4, hw4⟩ : ∃ w4, wr.alloc (.cells #[.slice a0 n0 k0, .slice a1 n1 k1] 35) = w4 := ⟨_, rfl⟩
    rw [hw4] at HB4 HO4 HE4 ⊢
    clear hw4 x0 x1
    generalize hwo : wr = wo at *
    go_loopw [2, 17] (AiRel x.apps acc W) (fun _ i _ => n0 - (intOf i).toNat)
    case atStart => exact ⟨0, rfl, Nat.zero_le _, HB4.out, HO4.out.a HNA.out⟩
    case round =>
     obtain ⟨i, rfl, hi, hbi, ho⟩ := hrel
     rw [← HN0.out] at hi
     have hla := rowOnce_len (x.apps.take i) acc
     have hlb := List.length_take_le' i x.apps
     rw [HNA.out] at hla
     rw [← HN0.out] at hlb
     obtain ⟨ac2, hac2⟩ : ∃ ac2, rowOnce acc (x.apps.take i) = ac2 := ⟨_, rfl⟩
     rw [hac2] at ho hla
     have HL2 := Lib.hid (show ac2.length ≤ 1240 by have := HL.out; omega)
     have HA2 := Lib.hid hac2
     obtain ⟨nb, hnb⟩ : ∃ nb, ac2.length = nb := ⟨_, rfl⟩
     have HNB := Lib.hid hnb
     have ho := ho.n hnb
     obtain ⟨ao2, cp2, rfl, _⟩ := aown_form ho
     have HO2 := Lib.hid ho
     have HBI := Lib.hid hbi
     clear ho hla hlb hac2 hnb hbi
     by_cases hlt2 : i < n0
     · have t5 : decide ((i : Int) < (n0 : Int)) = true := decide_eq_true (by omega)
       have t5' : decide (i < n0) = true := decide_eq_true hlt2
       have q2 : IntKind.i64.wrap ((i : Int) + 1) = (i : Int) + 1 := IntWalk.i64_in _ (by omega)
       obtain ⟨y, hy⟩ := get_ex x.apps i (by rw [← HN0.out]; exact hlt2)
       obtain ⟨bb, oo, rfl, hbb, y0, y1⟩ := (AP4.out.ext HBI.out).slice.2 i y hy
       have E5 := ext_alloc (Below.refl _ wr) (.cells #[.string y.team, .string y.bundle] 37)
       have X5 := heap_alloc_new wr (.cells #[.string y.team, .string y.bundle] 37)
       have HS5 := Lib.hid (show onceA ac2 y = rowOnce acc (x.apps.take (i + 1)) by rw [← HA2.out]; exact (take_step _ _ _ hy).symm)
       obtain ⟨G, hG⟩ : ∃ G, wr.heap.size = G := ⟨_, rfl⟩
       obtain ⟨w5, hw5⟩ : ∃ w5, wr.alloc (.cells #[.string y.team, .string y.bundle] 37) = w5 := ⟨_, rfl⟩
       rw [hw5] at E5 X5
       have CH := Lib.hid (apHas_any w5 (.slice ao2 nb cp2) ac2 y ((HO2.out.a HNB.out).ap.ext E5) (by have := HL2.out; omega))
       obtain ⟨tb, htb⟩ : ∃ tb, ac2.any (apEq y) = tb := ⟨_, rfl⟩
       rw [htb] at CH
       have HTB := Lib.hid (show onceA ac2 y = if tb = true then ac2 else ac2 ++ [y] by unfold onceA; rw [htb])
       rw [hG] at X5
       have c0 := Lib.cell_of_heap X5 0; have c1 := Lib.cell_of_heap X5 1
       have HX5 := Lib.hid X5; have HE5 := Lib.hid E5
       clear X5 E5 hy htb
       go_wp2_with fail
       try rw [hw5]
       refine CH.out.mono ?_
       rintro e w6 ⟨rfl, hb6⟩
       have X6 := (hb6.block _ (heap_lt HX5.out)).trans HX5.out
       have d0 := Lib.cell_of_heap X6 0; have d1 := Lib.cell_of_heap X6 1
       have HB6 := Lib.hid (ext_trans HE5.out hb6)
       clear hw5 c0 c1 hb6 X6 y0 y1
       have HBW := Lib.hid (HBI.out.trans (HB6.out.mono HBI.out.size))
       have HO6 := Lib.hid (show RowN W.heap.size w6 (.slice ao2 nb cp2) nb ac2 from aown_ext HO2.out (fun g hg => HB6.out.block g (HO2.out.lt g hg).2) (Nat.le_refl _))
       cases tb with
       | true =>
         have hE := HTB.out
         rw [if_pos rfl] at hE
         have R : AiRel x.apps acc W (.slice ao2 nb cp2) (.int .i64 ((i : Int) + 1)) w6 := ⟨i + 1, by go_num, by rw [← HN0.out]; exact hlt2, HBW.out, by rw [← HS5.out, hE]; exact HO6.out.a HNB.out⟩
         have HR := Lib.hid R
         clear R hE
         go_wp2
         refine ⟨?_, by simp [intOf]; omega⟩
         first | exact HR.out | ((repeat apply Exists.intro); exact ⟨HR.out, rfl⟩)
       | false =>
         have hE := HTB.out
         rw [if_neg (by simp)] at hE
         have HE := Lib.hid hE
         have hnb : nb ≤ 1240 := by rw [← HNB.out]; exact HL2.out
         clear hE
         go_wp2_with (at_builtin; refine wpList_app1 w6 #[.string y.team, .string y.bundle] 37 rfl _ _ 32 rfl W.heap.size elApp _ _ _ rfl HO6.out rfl rfl ?c1 ?c2 ?c3 ?c4 ?_)
         case c1 => exact ⟨rfl, rfl⟩
         case c2 => unfold maxLen; omega
         case c3 => omega
         case c4 => exact HBW.out.size
         intro v2 w7 ho7 hg7
         have hb7 : Below W.heap.size W w7 := (ext_alloc HBW.out _).grown hg7 (ext_alloc HBW.out _).size (fun k hk => (HO6.out.lt k hk).1)
         have hl7 : (ac2 ++ [y]).length = nb + 1 := by rw [List.length_append, HNB.out]; rfl
         have ho8 : RowN W.heap.size w7 v2 (nb + 1) (ac2 ++ [y]) := by
          show w7.ownsRow _ _ 2 v2 (nb + 1) ((ac2 ++ [y]).flatMap appC)
          rw [List.flatMap_append]
          exact ho7
         have R : AiRel x.apps acc W v2 (.int .i64 ((i : Int) + 1)) w7 := ⟨i + 1, by go_num, by rw [← HN0.out]; exact hlt2, hb7, by rw [← HS5.out, HE.out]; exact ho8.a hl7⟩
         obtain ⟨a2, c2, rfl, _⟩ := aown_form ho8
         have HR := Lib.hid R
         clear R ho7 hg7 hb7 hl7 ho8
         go_wp2
         refine ⟨?_, by simp [intOf]; omega⟩
         first | exact HR.out | ((repeat apply Exists.intro); exact ⟨HR.out, rfl⟩)
     · have t5 : decide ((i : Int) < (n0 : Int)) = false := decide_eq_false (by omega)
       have t5' : decide (i < n0) = false := decide_eq_false hlt2
       have HF := Lib.hid (show x.apps.take i = x.apps from take_all (by rw [← HN0.out]; exact hi) (by rw [← HN0.out]; exact hlt2))
       go_wp2
       refine ⟨?_, by simp [intOf]; omega⟩
       have R : AoRel d W (.slice ao2 nb cp2) (.int .i64 ((j : Int) + 1)) wr := ⟨j + 1, by go_num, by rw [HN.out]; exact hlt, HBI.out, by rw [HST.out, ← HF.out, HA2.out]; exact HO2.out.a HNB.out⟩
       first | exact R | ((repeat apply Exists.intro); exact ⟨R, rfl⟩)
  · have t1 : decide ((j : Int) < (n : Int)) = false := decide_eq_false (by omega)
    have t1' : decide (j < n) = false := decide_eq_false hlt
    have HF := Lib.hid (show acc = allOnce [] d by rw [← HAC.out, take_all (l := d) (by rw [HN.out]; exact hj) (by rw [HN.out]; exact hlt)])
    go_wp2
    go_ret
    have h := HO.out.a HNA.out
    rw [HF.out] at h
    exact ⟨_, rfl, aown_ext h (fun _ _ => rfl) HB.out.size, ext_trans HB.out HBR.out⟩
end Go.Proofs.YtcaiibkgajhohaaGreatDoor
