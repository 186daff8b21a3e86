
/- utf.Text and ref01.Text: the bytes of characters. -/
import Derived.Test.YtmhfbdeeebbloaaDoorTxt0
import Derived.Test.YtmhfbdeeebbloaaDoorUtfW
import Derived.Test.YtmhfbdeeebbloaaDoorChr5
-- @auto
import Derived.Test.YtmhfbdeeebbloaaDoorShelf
namespace Go.Proofs.YtmhfbdeeebbloaaDoor
open Go.RowKit
set_option maxRecDepth 100000 in
theorem uright_any (n : Int) (w : World) : Calls Tryd.prog 89 #[.int .i64 n] w fun e w' => e = .returned (.bool (rightN n)) ∧ w = w' := by
  cases h1 : decide ((0 : Int) ≤ n) with
  | false =>
    have HE : Hid (rightN n = false) := Lib.hid (by unfold rightN; rw [h1]; rfl)
    go_enter Tryd.func89, Tryd.ntmps89
    go_wp2
    go_ret
    exact ⟨by rw [HE.out]; rfl, rfl⟩
  | true =>
    cases h2 : decide (n ≤ 1114111) with
    | false =>
      have HE : Hid (rightN n = false) := Lib.hid (by
        have : decide (n < 1114112) = false := by simp at h2 ⊢; omega
        unfold rightN; rw [h1, this]; rfl)
      go_enter Tryd.func89, Tryd.ntmps89
      go_wp2
      go_ret
      exact ⟨by rw [HE.out]; rfl, rfl⟩
    | true =>
      have HE : Hid (rightN n = (halfN n == 0)) := Lib.hid (by
        have : decide (n < 1114112) = true := by simp at h2 ⊢; omega
        unfold rightN; rw [h1, this]; rfl)
      go_enter Tryd.func89, Tryd.ntmps89
      go_wp2_with fail
      refine (half_any n w).mono ?_
      rintro e w' ⟨rfl, rfl⟩
      go_wp2
      go_ret
      exact ⟨by rw [HE.out]; rfl, rfl⟩
theorem Rd.nats_inv {S : Nat → Prop} {w : World} {v : Value} {acc : List Nat} (h : Rd S w v (intsD acc)) : ∃ a c, v = .slice a acc.length c ∧ (a = none → acc.length = 0 ∧ c = 0) ∧ acc.length ≤ c ∧
    (0 < acc.length → ∃ b off, a = some ⟨b, off, none⟩ ∧ S b ∧ ∀ j (hj : j < acc.length), w.cell? ⟨b, off + j, none⟩ = some (.int .i64 (acc[j] : Nat))) := by
  obtain ⟨a, n, c, rfl, hl, hac, hnc, h⟩ := h.list_inv
  simp only [List.length_map, Nat.mul_one] at hl
  subst hl
  refine ⟨a, c, rfl, hac, hnc, fun h0 => ?_⟩
  obtain ⟨b, off, rfl, hS, hc⟩ := h h0
  refine ⟨b, off, rfl, hS, fun j hj => ?_⟩
  obtain ⟨u, hu, hr⟩ := hc j (by simpa using hj)
  rw [List.getElem_map] at hr
  rw [hu, hr.int_inv]
def UtRel (acc : List Nat) (w : World) (o i : Value) (wr : World) : Prop := ∃ j : Nat, i = .int .i64 j ∧ j ≤ acc.length ∧ wr.ownsRow w.heap.size 5 1 o (strOf (acc.take j)).size (byV (strOf (acc.take j))) ∧ Below w.heap.size w wr
theorem UtRel.step {acc : List Nat} {w w2 : World} {v2 : Value} {j : Nat} (ha : AllRight acc) (hj : j < acc.length)
    (ho : w2.ownsRow w.heap.size 5 1 v2 ((strOf (acc.take j)).size + (putC acc[j]).length) (byV (strOf (acc.take j)) ++ putC acc[j])) (hb : Below w.heap.size w w2) : UtRel acc w v2 (.int .i64 (j + 1)) w2 := by
  refine ⟨j + 1, by go_num, hj, ?_, hb⟩
  have e := strOf_snoc (ha.take j) (ha.get hj)
  rw [← take_snoc hj] at e
  have el := congrArg List.length e
  rw [List.length_append, byV_length, byV_length] at el
  rw [e, el]; exact ho
def UtPost (acc : List Nat) (w : World) (r : Value) (e : Ending) (w' : World) : Prop := ∃ o, e = .returned (.tuple #[o, r]) ∧ Rd (Own w') w' o (bytesDB (strOf acc)) ∧ Below w.heap.size w w'
theorem UtRel.fin {acc : List Nat} {w wr : World} {o i : Value} (h : UtRel acc w o i wr) (hi : i = .int .i64 acc.length) (r : Value) : UtPost acc w r (.returned (.tuple #[o, r])) wr := by
  obtain ⟨j, rfl, hj, ho, hb⟩ := h
  cases hi
  refine ⟨o, rfl, ?_, hb⟩
  rw [List.take_of_length_le (Nat.le_refl _)] at ho
  rw [bytesDB_eq]
  exact rd_owned ho (byV_rds _) (fun g hg => (ho.lt g hg).2)
set_option maxRecDepth 100000 in
set_option maxHeartbeats 16000000 in
theorem utext_any (v : Value) (acc : List Nat) (w : World) (h : Rd (Own w) w v (intsD acc)) (ha : AllRight acc) (hl : acc.length ≤ 1000000) :
    Calls Tryd.prog 57 #[v] w (UtPost acc w .nilIface) := by
  obtain ⟨a, c, rfl, _, _, _⟩ := h.nats_inv
  have H := Lib.hid h; have HA := Lib.hid ha
  clear h ha
  go_enter Tryd.func57, Tryd.ntmps57
  go_wp2_with fail
  go_loopw [4, 9] (UtRel acc w) (fun _ i _ => acc.length - (intOf i).toNat)
  case atStart => exact ⟨0, rfl, Nat.zero_le _, World.ownsRow_nil _ _ _ _, Below.refl _ _⟩
  case round =>
    obtain ⟨j, rfl, hj, ho, hb⟩ := hrel
    obtain ⟨ao, cap, rfl, _⟩ := aown_form ho
    have hsz := strOf_le (acc.take j)
    rw [List.length_take] at hsz
    have HO := Lib.hid ho; have HB := Lib.hid hb
    by_cases hlt : j < acc.length
    · have t1 : decide ((j : Int) < (acc.length : Int)) = true := decide_eq_true (by omega)
      have t1' : decide (j < acc.length) = true := decide_eq_true hlt
      obtain ⟨a', c', e1, _, _, hc⟩ := (H.out.ext hb).nats_inv
      cases e1
      obtain ⟨b, off, rfl, _, x0⟩ := hc (by omega)
      have x1 := x0 j hlt
      have hrt := HA.out.get hlt
      have HST := Lib.hid (fun v2 w2 => UtRel.step (w := w) (w2 := w2) (v2 := v2) HA.out hlt)
      have hrc := rune_put hrt
      have hcl := right_lt hrt
      have HUR := uright_any (acc[j] : Nat) wr
      rw [hrt] at HUR
      have HAR := Tryd.utf8_AppendRune_plain w.heap.size _ _ _ ((acc[j] : Nat) : Int) (by omega) (by omega) wr ho (by omega) hb.size
      rw [hrc] at HAR
      generalize acc[j] = ch at *
      have HUR := Lib.hid HUR; have HAR := Lib.hid HAR
      clear x0 hc ho hb hrt hrc
      go_wp2_with fail
      refine HUR.out.mono ?_
      rintro e w1 ⟨rfl, rfl⟩
      go_wp2_with fail
      refine HAR.out.mono ?_
      rintro e w1 ⟨v2, rfl, ho2, ob, hg⟩
      have R := HST.out v2 w1 ho2 (grown_below (ext_alloc HB.out ob) (HO.out.alloc ob) hg (by have := HB.out.size; simp; omega) (Nat.le_refl _))
      have HR := Lib.hid R
      clear R ho2 hg
      go_wp2
      refine ⟨?_, by simp [intOf] <;> omega⟩
      have R := HR.out
      first | exact R | ((repeat apply Exists.intro); exact ⟨R, rfl⟩)
    · have t1 : decide ((j : Int) < (acc.length : Int)) = false := decide_eq_false (by omega)
      have t1' : decide (j < acc.length) = false := decide_eq_false hlt
      obtain rfl : j = acc.length := by omega
      have HF := Lib.hid (UtRel.fin (i := .int .i64 acc.length) ⟨acc.length, rfl, hj, HO.out, HB.out⟩ rfl .nilIface)
      clear ho hb hlt
      go_wp2
      go_ret2
      exact HF.out
end Go.Proofs.YtmhfbdeeebbloaaDoor
