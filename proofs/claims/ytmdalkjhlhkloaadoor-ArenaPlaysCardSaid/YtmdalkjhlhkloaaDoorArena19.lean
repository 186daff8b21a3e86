/- The document's tree: Add. -/
import Derived.Test.YtmdalkjhlhkloaaDoorArena16
import Derived.BigQuiet
import Derived.Lib.SmallJoins
import Derived.Deep.DeepCutAuto
namespace Go.Proofs.YtmdalkjhlhkloaaDoor
open Go.RowKit
section
variable {w w2 : World} {B : Nat} {vV vU v2 : Value} {vs us : List Int} {most x : Int} {ob : Obj}
theorem RTreeAt.geV (h : RTreeAt w B vV vU vs us most) : ∀ g, vV.ownBlock = some g → B < g ∧ g < w.heap.size := fun g hg => by have := h.ownV.lt g hg; omega
theorem RTreeAt.geU (h : RTreeAt w B vV vU vs us most) : ∀ g, vU.ownBlock = some g → B < g ∧ g < w.heap.size := fun g hg => by have := h.ownU.lt g hg; omega
theorem RTreeAt.boxV (h : RTreeAt w B vV vU vs us most) (hg : (w.alloc ob).grownBy w2 vV.ownBlock) : w2.heap[B]? = some (.cells #[vV, vU, .int .i64 most] 29 (0, 0)) := by
  have hB := h.lt
  rw [hg.block B (by simp; omega) (fun e => by have := (h.geV B e.symm).1; omega), Below.heap_alloc w ob B hB]; exact h.box
theorem RTreeAt.boxU (h : RTreeAt w B vV vU vs us most) (hg : (w.alloc ob).grownBy w2 vU.ownBlock) : w2.heap[B]? = some (.cells #[vV, vU, .int .i64 most] 29 (0, 0)) := by
  have hB := h.lt
  rw [hg.block B (by simp; omega) (fun e => by have := (h.geU B e.symm).1; omega), Below.heap_alloc w ob B hB]; exact h.box
theorem RTreeAt.pushV (h : RTreeAt w B vV vU vs us most) (ho2 : w2.ownsRow (B + 1) 3 1 v2 (vs.length + 1) (vs.map (Value.int .i64) ++ [.int .i64 x])) (hg : (w.alloc ob).grownBy w2 vV.ownBlock) (hat : v2.ownBlock = vV.ownBlock ∨ v2.ownBlock = some (w.heap.size + 1)) :
    RTreeAt (w2.setCell ⟨B, 0, none⟩ v2) B v2 vU (vs ++ [x]) us most ∧ Only (RB B vV vU) w (w2.setCell ⟨B, 0, none⟩ v2) ∧ (∀ g, v2.ownBlock = some g → vV.ownBlock = some g ∨ w.heap.size ≤ g) := by
  have hbox := h.boxV hg
  have hn : ∀ g, v2.ownBlock = some g → vV.ownBlock = some g ∨ w.heap.size ≤ g := fun g hg' => by
    rcases hat with e | e
    · exact .inl (e ▸ hg')
    · rw [e] at hg'; cases hg'; right; omega
  refine ⟨⟨?_, ?_, ?_, fun g hg' => ?_⟩, ?_, hn⟩
  · have := Go.Joins.block_setCell hbox (i := 0) v2
    simpa using this
  · have := aown_ext (w' := w2.setCell ⟨B, 0, none⟩ v2) ho2 (fun g hg' => Below.heap_setCell w2 ⟨B, 0, none⟩ v2 g (by have := (ho2.lt g hg').1; simp; omega)) (Nat.le_refl _)
    simpa using this
  · refine aown_ext h.ownU (fun g hg' => ?_) (Nat.le_refl _)
    have hU := h.geU g hg'
    rw [Below.heap_setCell w2 ⟨B, 0, none⟩ v2 g (by simp; omega), hg.block g (by simp; omega) (fun e => h.ne g e.symm hg'), Below.heap_alloc w ob g hU.2]
  · intro e
    rcases hn g hg' with h1 | h1
    · exact h.ne g h1 e
    · have := (h.geU g e).2; omega
  · have h1 : Only (RB B vV vU) w w2 := ((Only.refl (RB B vV vU) w).alloc ob).grown hg (fun k hk _ => .inr (.inl hk))
    exact h1.set (p := ⟨B, 0, none⟩) (fun _ => .inl rfl) v2
theorem RTreeAt.pushU (h : RTreeAt w B vV vU vs us most) (ho2 : w2.ownsRow (B + 1) 3 1 v2 (us.length + 1) (us.map (Value.int .i64) ++ [.int .i64 x])) (hg : (w.alloc ob).grownBy w2 vU.ownBlock) (hat : v2.ownBlock = vU.ownBlock ∨ v2.ownBlock = some (w.heap.size + 1)) :
    RTreeAt (w2.setCell ⟨B, 1, none⟩ v2) B vV v2 vs (us ++ [x]) most ∧ Only (RB B vV vU) w (w2.setCell ⟨B, 1, none⟩ v2) ∧ (∀ g, v2.ownBlock = some g → vU.ownBlock = some g ∨ w.heap.size ≤ g) := by
  have hbox := h.boxU hg
  have hn : ∀ g, v2.ownBlock = some g → vU.ownBlock = some g ∨ w.heap.size ≤ g := fun g hg' => by
    rcases hat with e | e
    · exact .inl (e ▸ hg')
    · rw [e] at hg'; cases hg'; right; omega
  refine ⟨⟨?_, ?_, ?_, fun g hg' e => ?_⟩, ?_, hn⟩
  · have := Go.Joins.block_setCell hbox (i := 1) v2
    simpa using this
  · refine aown_ext h.ownV (fun g hg' => ?_) (Nat.le_refl _)
    have hV := h.geV g hg'
    rw [Below.heap_setCell w2 ⟨B, 1, none⟩ v2 g (by simp; omega), hg.block g (by simp; omega) (fun e => h.ne g hg' e.symm), Below.heap_alloc w ob g hV.2]
  · have := aown_ext (w' := w2.setCell ⟨B, 1, none⟩ v2) ho2 (fun g hg' => Below.heap_setCell w2 ⟨B, 1, none⟩ v2 g (by have := (ho2.lt g hg').1; simp; omega)) (Nat.le_refl _)
    simpa using this
  · rcases hn g e with h1 | h1
    · exact h.ne g hg' h1
    · have := (h.geV g hg').2; omega
  · have h1 : Only (RB B vV vU) w w2 := ((Only.refl (RB B vV vU) w).alloc ob).grown hg (fun k hk _ => .inr (.inr hk))
    exact h1.set (p := ⟨B, 1, none⟩) (fun _ => .inl rfl) v2
end
def RAddPost (B : Nat) (vV vU : Value) (vs us : List Int) (most x up : Int) (w : World) (e : Ending) (w' : World) : Prop :=
  ∃ vV' vU', e = .returned (.tuple #[.int .i64 vs.length, .int .i64 0]) ∧ RTreeAt w' B vV' vU' (vs ++ [x]) (us ++ [up]) most ∧ Only (RB B vV vU) w w' ∧
    (∀ g, vV'.ownBlock = some g → vV.ownBlock = some g ∨ w.heap.size ≤ g) ∧ (∀ g, vU'.ownBlock = some g → vU.ownBlock = some g ∨ w.heap.size ≤ g)
set_option maxRecDepth 100000 in
set_option maxHeartbeats 8000000 in
theorem radd_name (B : Nat) (vV vU : Value) (vs us : List Int) (most up x : Int) (w : World) (h : RTreeAt w B vV vU vs us most) (hid : ¬ (0 ≤ up ∧ up < vs.length)) (h0 : 0 < vs.length ∨ up ≠ -1) :
    Calls Tryd.prog 21 #[.pointer (some ⟨B, 0, none⟩), .int .i64 up, .int .i64 x] w fun e w' => e = .returned (.tuple #[.int .i64 0, .int .i64 30]) ∧ w = w' := by
  have HH := rhas_any B vV vU vs us most up w h
  rw [decide_eq_false hid] at HH
  have HH := Lib.hid HH
  have c0 := h.cell0
  obtain ⟨aV, capV, rfl, _⟩ := aown_form h.ownV
  clear h hid
  by_cases hl : 0 < vs.length
  · have t1 : decide ((0 : Int) < (vs.length : Int)) = true := decide_eq_true (by omega)
    have t1' : decide (0 < vs.length) = true := decide_eq_true hl
    clear h0
    go_enter Tryd.func21, Tryd.ntmps21
    go_wp2_with fail
    refine HH.out.mono ?_
    rintro e w1 ⟨rfl, rfl⟩
    go_wp2
    go_ret2
    exact ⟨rfl, rfl⟩
  · have t1 : decide ((0 : Int) < (vs.length : Int)) = false := decide_eq_false (by omega)
    have t1' : decide (0 < vs.length) = false := decide_eq_false hl
    have t2 : (up != -1) = true := bne_iff_ne.2 (h0.resolve_left hl)
    clear h0
    go_enter Tryd.func21, Tryd.ntmps21
    go_wp2_with fail
    refine HH.out.mono ?_
    rintro e w1 ⟨rfl, rfl⟩
    go_wp2
    go_ret2
    exact ⟨rfl, rfl⟩
set_option maxRecDepth 100000 in
set_option maxHeartbeats 8000000 in
theorem radd_many (B : Nat) (vV vU : Value) (vs us : List Int) (most up x : Int) (w : World) (h : RTreeAt w B vV vU vs us most) (hid : (0 ≤ up ∧ up < vs.length) ∨ (vs.length = 0 ∧ up = -1)) (hmost : most ≤ vs.length) :
    Calls Tryd.prog 21 #[.pointer (some ⟨B, 0, none⟩), .int .i64 up, .int .i64 x] w fun e w' => e = .returned (.tuple #[.int .i64 0, .int .i64 15]) ∧ ∃ n, w' = w.drewN n := by
  have HH := rhas_any B vV vU vs us most up w h
  have c0 := h.cell0
  have c2 := h.cell2
  obtain ⟨aV, capV, rfl, _⟩ := aown_form h.ownV
  have t3 : decide (most ≤ (vs.length : Int)) = true := decide_eq_true hmost
  clear h
  rcases hid with h0 | ⟨h0, rfl⟩
  · rw [decide_eq_true h0] at HH
    have HH := Lib.hid HH
    clear h0
    go_enter Tryd.func21, Tryd.ntmps21
    go_wp2_with fail
    refine HH.out.mono ?_
    rintro e w1 ⟨rfl, rfl⟩
    go_wp2
    go_quiet (fail)
    go_wp2
    go_ret2
    exact ⟨rfl, _, rfl⟩
  · rw [decide_eq_false (by omega)] at HH
    have HH := Lib.hid HH
    rw [h0] at c0 t3 hmost
    have t4 : decide (most ≤ (0 : Int)) = true := decide_eq_true hmost
    clear h0
    go_enter Tryd.func21, Tryd.ntmps21
    go_wp2_with fail
    refine HH.out.mono ?_
    rintro e w1 ⟨rfl, rfl⟩
    go_wp2
    go_quiet (fail)
    go_wp2
    go_ret2
    exact ⟨rfl, _, rfl⟩
set_option maxRecDepth 100000 in
set_option maxHeartbeats 16000000 in
theorem radd_ok (B : Nat) (vV vU : Value) (vs us : List Int) (most up x : Int) (w : World) (h : RTreeAt w B vV vU vs us most) (hid : (0 ≤ up ∧ up < vs.length) ∨ (vs.length = 0 ∧ up = -1)) (hmost : (vs.length : Int) < most) (hm : vs.length ≤ 1000000) (hul : us.length = vs.length) :
    Calls Tryd.prog 21 #[.pointer (some ⟨B, 0, none⟩), .int .i64 up, .int .i64 x] w (RAddPost B vV vU vs us most x up w) := by
  have HH := rhas_any B vV vU vs us most up w h
  have c0 := h.cell0
  have c2 := h.cell2
  have hBw := h.lt
  obtain ⟨aV, capV, rfl, _⟩ := aown_form h.ownV
  obtain ⟨aU, capU, rfl, _⟩ := aown_form h.ownU
  have t3 : decide (most ≤ (vs.length : Int)) = false := decide_eq_false (by omega)
  have H := Lib.hid h
  have HUL := Lib.hid hul
  have HHV : Hid (Calls Tryd.prog 17 #[.pointer (some ⟨B, 0, none⟩), .int .i64 up] w fun e w' => e = .returned (.bool (decide (0 < vs.length))) ∧ w = w') := Lib.hid (by
    rcases hid with h0 | ⟨h0, rfl⟩
    · rw [decide_eq_true h0] at HH; rw [decide_eq_true (by omega)]; exact HH
    · rw [decide_eq_false (by omega)] at HH; rw [decide_eq_false (by omega)]; exact HH)
  have hup : 0 < vs.length ∨ up = -1 := by
    rcases hid with h0 | ⟨h0, h1⟩
    · left; omega
    · exact .inr h1
  clear h HH hid hul
  have hq : (decide (0 < vs.length) = true ∧ True) ∨ (decide (0 < vs.length) = false ∧ (up != -1) = false ∧ decide ((0 : Int) < (vs.length : Int)) = false) := by
    rcases hup with h1 | h1
    · exact .inl ⟨decide_eq_true h1, trivial⟩
    · by_cases h2 : 0 < vs.length
      · exact .inl ⟨decide_eq_true h2, trivial⟩
      · exact .inr ⟨decide_eq_false h2, by rw [h1]; rfl, decide_eq_false (by omega)⟩
  clear hup
  rcases hq with ⟨q1, _⟩ | ⟨q1, q2, q3⟩
  all_goals
    rw [q1] at HHV
    go_enter Tryd.func21, Tryd.ntmps21
    go_wp2_with fail
    refine HHV.out.mono ?_
    rintro e w1 ⟨rfl, rfl⟩
    go_wp2
    go_quiet (fail)
    generalize hW : w.drewN _ = W
    have h0 : RTreeAt W B (.slice aV vs.length capV) (.slice aU us.length capU) vs us most := by rw [← hW]; exact H.out.ext (fun _ _ _ => rfl)
    have o0 : Only (RB B (.slice aV vs.length capV) (.slice aU us.length capU)) w W := by rw [← hW]; exact .of (ext_drewN _ (Below.refl _ _))
    have hzW : w.heap.size = W.heap.size := by rw [← hW]; rfl
    have H0 := Lib.hid h0; have O0 := Lib.hid o0; have HZW := Lib.hid hzW; have HOV := Lib.hid h0.ownV
    have c0' := h0.cell0
    have hBW := h0.lt
    clear h0 o0 hzW hW c0 c2 HHV hBw
    have HONE : ∀ (y : Int), Hid (∀ u ∈ [Value.int .i64 y], u.oneCell' = true) := fun y => Lib.hid (by intro u hu; simp at hu; subst hu; rfl)
    have HM1 : Hid (vs.length + 1 ≤ maxLen) := Lib.hid (by simp [maxLen]; omega)
    have HM2 : Hid ((vs.length + 1) * 8 ≤ 140737488355328) := Lib.hid (by omega)
    have HM3 : Hid (us.length + 1 ≤ maxLen) := Lib.hid (by have := HUL.out; simp [maxLen]; omega)
    have HM4 : Hid ((us.length + 1) * 8 ≤ 140737488355328) := Lib.hid (by have := HUL.out; omega)
    have HBS : Hid (B + 1 ≤ (W.alloc (.cells #[.int .i64 x] 3)).heap.size) := Lib.hid (by simp; omega)
    go_wp2_with (at_builtin; refine wpList_appAt (W.alloc (.cells #[.int .i64 x] 3)) rfl _ _ 27 rfl (B + 1) elInt _ _ _ rfl (HOV.out.alloc _) ⟨W.heap.size, 0, none⟩ 1 1 [.int .i64 x] rfl rfl (Go.cell_one_new W _ _) (HONE x).out HM1.out HM2.out HBS.out ?_)
    intro v2 w2 ho2 hg2 hat2
    obtain ⟨a2, cap2, rfl, _⟩ := aown_form ho2
    have hp := H0.out.pushV ho2 hg2 hat2
    have hbx := H0.out.boxV hg2
    have c02 : w2.cell? ⟨B, 0, none⟩ = some (.slice aV vs.length capV) := by simp [World.cell?, hbx]
    have f02 : w2.frozen? ⟨B, 0, none⟩ = false := Go.Joins.unfrozen_of_block hbx 0
    generalize hW3 : w2.setCell ⟨B, 0, none⟩ (.slice a2 (vs.length + 1) cap2) = W3 at hp
    have HP := Lib.hid hp; have HW3 := Lib.hid hW3
    clear ho2 hg2 hat2 hbx hp hW3 c0'
    go_upto_region 6 with (fail)
    rw [HW3.out]
    clear HW3 c02 f02
    have c13 := HP.out.1.cell1
    have hB3 := HP.out.1.lt
    have HOU := Lib.hid HP.out.1.ownU
    have HBS3 : Hid (B + 1 ≤ (W3.alloc (.cells #[.int .i64 up] 3)).heap.size) := Lib.hid (by simp; omega)
    go_wp2_with (at_builtin; refine wpList_appAt (W3.alloc (.cells #[.int .i64 up] 3)) rfl _ _ 27 rfl (B + 1) elInt _ _ _ rfl (HOU.out.alloc _) ⟨W3.heap.size, 0, none⟩ 1 1 [.int .i64 up] rfl rfl (Go.cell_one_new W3 _ _) (HONE up).out HM3.out HM4.out HBS3.out ?_)
    intro v4 w4 ho4 hg4 hat4
    obtain ⟨a4, cap4, rfl, _⟩ := aown_form ho4
    have hp4 := HP.out.1.pushU ho4 hg4 hat4
    have hbx := HP.out.1.boxU hg4
    have c14 : w4.cell? ⟨B, 1, none⟩ = some (.slice aU us.length capU) := by simp [World.cell?, hbx]
    have f14 : w4.frozen? ⟨B, 1, none⟩ = false := Go.Joins.unfrozen_of_block hbx 1
    generalize hW5 : w4.setCell ⟨B, 1, none⟩ (.slice a4 (us.length + 1) cap4) = W5 at hp4
    have HP4 := Lib.hid hp4; have HW5 := Lib.hid hW5
    clear ho4 hg4 hat4 hbx hp4 hW5 c13
    go_upto_region 7 with (fail)
    rw [HW5.out]
    clear HW5 c14 f14
    have c05 := HP4.out.1.cell0
    have HF : Hid (RAddPost B (.slice aV vs.length capV) (.slice aU us.length capU) vs us most x up w (.returned (.tuple #[.int .i64 vs.length, .int .i64 0])) W5) := Lib.hid (by
      obtain ⟨p1, p2, p3⟩ := HP.out
      obtain ⟨r1, r2, r3⟩ := HP4.out
      have hzz := HZW.out
      have hz3 := p2.size
      refine ⟨_, _, rfl, r1, ⟨?_, ?_, ?_, ?_, fun k hk hn => ?_⟩, fun g hg => ?_, fun g hg => ?_⟩
      · exact (r2.os.trans p2.os).trans O0.out.os
      · exact (r2.tape.trans p2.tape).trans O0.out.tape
      · exact (r2.output.trans p2.output).trans O0.out.output
      · have := r2.size; omega
      · rw [r2.block k (by omega) (fun hT => ?_), p2.block k (by omega) hn, O0.out.block k hk hn]
        rcases hT with h1 | h1 | h1
        · exact hn (.inl h1)
        · rcases p3 k h1 with h2 | h2
          · exact hn (.inr (.inl h2))
          · omega
        · exact hn (.inr (.inr h1))
      · rcases p3 g hg with h2 | h2
        · exact .inl h2
        · right; omega
      · rcases r3 g hg with h2 | h2
        · exact .inl h2
        · right; omega)
    clear HP HP4 O0 H0
    go_wp2
    go_ret2
    first | exact HF.out | (have := HF.out; simpa using this)
end Go.Proofs.YtmdalkjhlhkloaaDoor
