/- The law's own comparison of lists; the document's example. -/
import Derived.Test.YtmdalkjhlhkloaaDoorArenaS6
namespace Go.Proofs.YtmdalkjhlhkloaaDoor
open Go.RowKit
def SmRel (n : Nat) (W : World) (i : Value) (wr : World) : Prop := ∃ j nq : Nat, i = .int .i64 j ∧ j ≤ n ∧ wr = W.drewN nq
set_option maxHeartbeats 4000000 in
theorem sameI_any {S1 S2 : Nat → Prop} (v1 v2 : Value) (l : List Nat) (w : World) (h1 : Rd S1 w v1 (S.intsD l)) (h2 : Rd S2 w v2 (S.intsD l)) (hm : l.length ≤ 1000000) :
    Calls Tryd.prog 52 #[v1, v2] w fun e w' => e = .returned (.bool true) ∧ Below w.heap.size w w' := by
  have e0 : l.map (fun x => Dat.int .i64 (x : Nat)) = (l.map fun x => ((x : Nat) : Int)).map (Dat.int .i64) := by simp
  simp only [S.intsD, e0] at h1 h2
  obtain ⟨a1, c1, rfl, _, _, hc1⟩ := h1.ints_inv
  obtain ⟨a2, c2, rfl, _, _, hc2⟩ := h2.ints_inv
  simp only [List.length_map] at hc1 hc2 ⊢
  have t : ((l.length : Int) != l.length) = false := by simp
  have H1 := Lib.hid hc1; have H2 := Lib.hid hc2
  clear h1 h2 hc1 hc2 e0
  go_enter Tryd.func52, Tryd.ntmps52
  go_wp2_with fail
  go_loopw [5] (SmRel l.length w) (fun i _ => l.length - (intOf i).toNat)
  case atStart => exact ⟨0, 0, rfl, Nat.zero_le _, rfl⟩
  case round =>
    obtain ⟨j, nq, rfl, hj, rfl⟩ := hrel
    by_cases hlt : j < l.length
    · obtain ⟨b1, o1, rfl, _, x1⟩ := H1.out (by omega)
      obtain ⟨b2, o2, rfl, _, x2⟩ := H2.out (by omega)
      obtain ⟨x, hx⟩ := get_ex l j hlt
      have y1 := x1 j (x : Nat) (by simp [hx])
      have y2 := x2 j (x : Nat) (by simp [hx])
      have t : ((x : Int) != x) = false := by simp
      clear x1 x2 hx
      go_wp2
      go_quiet (fail)
      go_wp2
      refine ⟨?_, by simp [intOf]; omega⟩
      have R : ∀ W k, SmRel l.length W (.int .i64 (j + 1)) (W.drewN k) := fun W k => ⟨j + 1, k, by go_num, by omega, rfl⟩
      first | exact R _ _ | ((repeat apply Exists.intro); exact ⟨R _ _, rfl⟩)
    · go_wp2
      go_ret
      exact ⟨rfl, ext_drewN _ (Below.refl _ _)⟩
theorem S.AddPost.below {B : Nat} {v : Value} {ns : List ANode} {most : Int} {w w' : World} {e : Ending} {n : Nat} (h : S.AddPost B v ns most w e w' n) (hv : ∀ g, v.ownBlock = some g → B ≤ g) (hB : B ≤ w.heap.size) :
    ∃ v', e = .returned (.tuple #[.int .i64 n, .nilIface]) ∧ S.TreeAt w' B v' ns most ∧ Below B w w' := by
  obtain ⟨v', he, ht, ho, _⟩ := h
  exact ⟨v', he, ht, ho.below hB (fun k hk => hk.elim (fun e => by omega) (hv k))⟩
theorem S.TreeAt.ge {B : Nat} {v : Value} {ns : List ANode} {most : Int} {w : World} (h : S.TreeAt w B v ns most) : ∀ g, v.ownBlock = some g → B ≤ g := fun g hg => by have := (h.own.lt g hg).1; omega
set_option maxRecDepth 100000 in
set_option maxHeartbeats 8000000 in
theorem speaks05 (w : World) : Calls Tryd.prog 14 #[] w fun e w' => e = .returned (.bool true) ∧ Below w.heap.size w w' := by
  go_enter Tryd.func14, Tryd.ntmps14
  go_wp2_with fail
  refine (S.new_any 9 w).mono ?_
  rintro e w0 ⟨rfl, hw0⟩
  have t0 := S.TreeAt.new 9 w
  rw [← hw0] at t0
  have hb0 : Below w.heap.size w w0 := by rw [hw0]; exact ext_alloc (Below.refl _ _) _
  have HB0 := Lib.hid hb0; have T0 := Lib.hid t0
  clear hw0 t0 hb0
  go_wp2_with fail
  refine (S.add_root w.heap.size 9 ⟨#[97]⟩ w0 T0.out (by decide)).mono ?_
  rintro e w1 h
  obtain ⟨v1, rfl, t1, hb1⟩ := h.below T0.out.ge HB0.out.size
  have T1 := Lib.hid t1; have HB1 := Lib.hid (HB0.out.trans hb1)
  have G1 := goodN_root (.string ⟨#[97]⟩)
  have W1 : WfUps [0] := fun i u h0 h => by cases i <;> simp at h0 h
  have W2 := wf_snoc W1 (by decide) (u := 0) (by decide)
  have W3 := wf_snoc W2 (by decide) (u := 1) (by decide)
  have W4 := wf_snoc W3 (by decide) (u := 0) (by decide)
  have G2 := goodN_add (u := 0) (.string ⟨#[98]⟩) W1 G1 (by decide)
  have G3 := goodN_add (u := 1) (.string ⟨#[99]⟩) W2 G2 (by decide)
  have G4 := goodN_add (u := 0) (.string ⟨#[100]⟩) W3 G3 (by decide)
  have GG := Lib.hid (And.intro (And.intro G1 G2) (And.intro G3 G4)); have WW := Lib.hid (And.intro (And.intro W1 W2) (And.intro W3 W4))
  have N1 := Lib.hid G1.len; have N2 := Lib.hid G2.len; have N3 := Lib.hid G3.len; have N4 := Lib.hid G4.len
  clear t1 hb1 h G1 G2 G3 G4 W1 W2 W3 W4
  go_wp2_with fail
  refine (S.add_ok w.heap.size v1 _ [0] 9 0 ⟨#[98]⟩ w1 T1.out GG.out.1.1 WW.out.1.1 (by decide) (by rw [N1.out]; decide) (by rw [N1.out]; decide)).mono ?_
  rintro e w2 h
  rw [N1.out] at h
  obtain ⟨v2, rfl, t2, hb2⟩ := h.below T1.out.ge HB1.out.size
  have T2 := Lib.hid t2; have HB2 := Lib.hid (HB1.out.trans hb2)
  clear t2 hb2 h
  go_wp2_with fail
  refine (S.add_ok w.heap.size v2 _ [0, 0] 9 1 ⟨#[99]⟩ w2 T2.out GG.out.1.2 WW.out.1.2 (by decide) (by rw [N2.out]; decide) (by rw [N2.out]; decide)).mono ?_
  rintro e w3 h
  rw [N2.out] at h
  obtain ⟨v3, rfl, t3, hb3⟩ := h.below T2.out.ge HB2.out.size
  have T3 := Lib.hid t3; have HB3 := Lib.hid (HB2.out.trans hb3)
  clear t3 hb3 h
  go_wp2_with fail
  refine (S.add_ok w.heap.size v3 _ [0, 0, 1] 9 0 ⟨#[100]⟩ w3 T3.out GG.out.2.1 WW.out.2.1 (by decide) (by rw [N3.out]; decide) (by rw [N3.out]; decide)).mono ?_
  rintro e w4 h
  rw [N3.out] at h
  obtain ⟨v4, rfl, t4, hb4⟩ := h.below T3.out.ge HB3.out.size
  have T4 := Lib.hid t4; have HB4 := Lib.hid (HB3.out.trans hb4)
  clear t4 hb4 h
  go_wp2_with fail
  refine (S.walk_any w.heap.size v4 _ [0, 0, 1, 0] 9 0 w4 T4.out GG.out.2.2 WW.out.2.2 (by decide) (by rw [N4.out]; decide)).mono ?_
  rintro e w5 ⟨v5, rfl, r5, hb5⟩
  rw [show pre [0, 0, 1, 0] ([0, 0, 1, 0] : List Nat).length 0 = [0, 1, 2, 3] from by decide] at r5
  have e0 : ([0, 1, 2, 3] : List Nat).map (fun x => Dat.int .i64 (x : Nat)) = ([0, 1, 2, 3] : List Int).map (Dat.int .i64) := by rfl
  have HB5 := Lib.hid (hb5 : Below w4.heap.size w4 w5)
  have R5 := Lib.hid (r5.alloc (fun b hb => hb.2) (.cells #[.int .i64 0, .int .i64 1, .int .i64 2, .int .i64 3] 3))
  have L5 : Rd (fun b => w5.heap.size ≤ b ∧ b < (w5.alloc (.cells #[.int .i64 0, .int .i64 1, .int .i64 2, .int .i64 3] 3)).heap.size) (w5.alloc (.cells #[.int .i64 0, .int .i64 1, .int .i64 2, .int .i64 3] 3)) (.slice (some ⟨w5.heap.size, 0, none⟩) 4 4) (S.intsD [0, 1, 2, 3]) := by
    have ho := World.ownsRow_lit (base := w5.heap.size) (e := 3) (size := 1) w5 #[.int .i64 0, .int .i64 1, .int .i64 2, .int .i64 3] 4 (Nat.le_refl _) (by decide) rfl
    exact rd_owned ho (S.ints_rds [0, 1, 2, 3]) (fun g hg => ho.lt g hg)
  have HL5 := Lib.hid L5
  obtain ⟨a5, c5, rfl, _⟩ : ∃ a c, v5 = .slice a 4 c ∧ True := by
    simp only [S.intsD, e0] at r5
    obtain ⟨a, c, h, _⟩ := r5.ints_inv
    exact ⟨a, c, h, trivial⟩
  clear e0 r5 hb5 L5
  go_wp2_with fail
  refine (sameI_any _ _ _ _ R5.out HL5.out (by decide)).mono ?_
  rintro e w6 ⟨rfl, hb6⟩
  have HB6 := Lib.hid (ext_trans HB5.out (ext_trans (ext_alloc (Below.refl _ _) _) hb6))
  have T6 := Lib.hid (T4.out.below HB6.out)
  go_wp2_with fail
  refine (S.kids_any w.heap.size v4 _ [0, 0, 1, 0] 9 0 w6 T6.out GG.out.2.2 (by decide) (by rw [N4.out]; decide)).mono ?_
  rintro e w7 ⟨v7, rfl, r7, hb7⟩
  rw [show kids [0, 0, 1, 0] 0 = [1, 3] from by decide] at r7
  have e0 : ([1, 3] : List Nat).map (fun x => Dat.int .i64 (x : Nat)) = ([1, 3] : List Int).map (Dat.int .i64) := by rfl
  have HB7 := Lib.hid (hb7 : Below w6.heap.size w6 w7)
  have R7 := Lib.hid (r7.alloc (fun b hb => hb.2) (.cells #[.int .i64 1, .int .i64 3] 3))
  have L7 : Rd (fun b => w7.heap.size ≤ b ∧ b < (w7.alloc (.cells #[.int .i64 1, .int .i64 3] 3)).heap.size) (w7.alloc (.cells #[.int .i64 1, .int .i64 3] 3)) (.slice (some ⟨w7.heap.size, 0, none⟩) 2 2) (S.intsD [1, 3]) := by
    have ho := World.ownsRow_lit (base := w7.heap.size) (e := 3) (size := 1) w7 #[.int .i64 1, .int .i64 3] 2 (Nat.le_refl _) (by decide) rfl
    exact rd_owned ho (S.ints_rds [1, 3]) (fun g hg => ho.lt g hg)
  have HL7 := Lib.hid L7
  obtain ⟨a7, c7, rfl, _⟩ : ∃ a c, v7 = .slice a 2 c ∧ True := by
    simp only [S.intsD, e0] at r7
    obtain ⟨a, c, h, _⟩ := r7.ints_inv
    exact ⟨a, c, h, trivial⟩
  clear e0 r7 hb7 L7
  go_wp2_with fail
  refine (sameI_any _ _ _ _ R7.out HL7.out (by decide)).mono ?_
  rintro e w8 ⟨rfl, hb8⟩
  have HB8 := Lib.hid (ext_trans HB7.out (ext_trans (ext_alloc (Below.refl _ _) _) hb8))
  clear hb6 hb8
  go_wp2
  go_ret
  exact ⟨rfl, HB4.out.trans ((ext_trans HB6.out HB8.out).mono HB4.out.size)⟩
end Go.Proofs.YtmdalkjhlhkloaaDoor
