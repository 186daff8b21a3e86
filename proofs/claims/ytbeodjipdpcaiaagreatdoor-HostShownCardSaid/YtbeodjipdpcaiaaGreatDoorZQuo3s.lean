
/- Quo3, Quo4 in one text (a claim holds at most 60 files). -/
import Derived.Test.YtbeodjipdpcaiaaGreatDoorZQuo0s
import Derived.Test.YtbeodjipdpcaiaaGreatDoorZTxtWs
import Derived.Test.YtbeodjipdpcaiaaGreatDoorZFold0s
import Derived.Test.YtbeodjipdpcaiaaGreatDoorZErrs1s
import Derived.BigQuiet
import Derived.Test.YtbeodjipdpcaiaaGreatDoorZLib0s
import Derived.Deep.DeepCutAuto
import Derived.Test.YtbeodjipdpcaiaaGreatDoorZScan4s
import Derived.Deep.RegionWith
import Derived.Deep.RegionHeld3
-- @auto
namespace Go.Proofs.YtbeodjipdpcaiaaGreatDoor
section
open Go.RowKit
def CsRel (B : ByteArray) (R : Sc (List Nat)) (w : World) (o i : Value) (wr : World) : Prop := ∃ (j : Nat) (acc : List Nat), i = .int .i64 j ∧ j ≤ B.size ∧ acc.length ≤ j ∧ wr.ownsRow w.heap.size 3 1 o acc.length (intsV acc) ∧ Below w.heap.size w wr ∧ charsS B j acc = R
theorem charS_dec {B : ByteArray} {i : Nat} (hi : i < B.size) : charS B i = if decU B i = (65533, 1) then .no 12 i else .ok (decU B i) := by
  unfold charS; rw [if_neg (by omega)]
def CsPost (w : World) (r : Sc (List Nat)) (e : Ending) (w' : World) : Prop := match r with
  | .ok l => ∃ v, e = .returned (.tuple #[v, .nilIface]) ∧ Rd (Fresh w w') w' v (intsD l) ∧ Below w.heap.size w w'
  | .no k i => ∃ u, e = .returned (.tuple #[.slice none 0 0, .iface 119 (.pointer (some u))]) ∧ Failed w k i (.iface 119 (.pointer (some u))) w'
set_option maxRecDepth 100000 in
set_option maxHeartbeats 16000000 in
theorem uchars_any (v : Value) (B : ByteArray) (w : World) (h : Rd (Own w) w v (bytesDB B)) (ht : Utf8T w) (hm : B.size ≤ 1000000) :
    Calls Tryz.prog 141 #[v] w (CsPost w (charsS B 0 [])) := by
  obtain ⟨R, hR⟩ : ∃ R, charsS B 0 [] = R := ⟨_, rfl⟩
  rw [hR]
  have HR := Lib.hid hR; have H := Lib.hid h; have HT := Lib.hid ht
  obtain ⟨a, c, rfl, _, _, _⟩ := h.by_inv
  clear h ht hR
  go_enter Tryz.func141, Tryz.ntmps141
  go_wp2_with fail
  go_loopw [4, 5] (CsRel B R w) (fun _ k _ => B.size - (intOf k).toNat)
  case atStart => exact ⟨0, [], rfl, Nat.zero_le _, Nat.zero_le _, World.ownsRow_nil _ _ _ _, Below.refl _ _, HR.out⟩
  case round =>
    obtain ⟨j, acc, rfl, hj, hA, ho, hb, hr⟩ := hrel
    obtain ⟨ao, cap, rfl, _⟩ := aown_form ho
    have HO := Lib.hid ho; have HB := Lib.hid hb
    by_cases hlt : j < B.size
    · have t1 : decide ((j : Int) < (B.size : Int)) = true := decide_eq_true (by omega)
      have t1' : decide (j < B.size) = true := decide_eq_true hlt
      have CN := unext_any _ B j wr (H.out.ext hb) (HT.out.ext hb) hm hlt
      rw [charS_dec hlt] at CN
      rw [charsS_step hlt] at hr
      have hz := decU_size hlt
      by_cases hd : decU B j = (65533, 1)
      · rw [if_pos hd] at hr CN
        have HRR := Lib.hid hr.symm
        have HCN := Lib.hid CN
        clear ho hb hr CN hd hz
        go_wp2_with fail
        refine HCN.out.mono ?_
        rintro e w1 ⟨u, rfl, hx⟩
        have HX := Lib.hid (hx.after HB.out)
        clear hx
        go_wp2
        go_ret2
        rw [HRR.out]
        exact ⟨_, rfl, HX.out⟩
      · rw [if_neg hd] at hr CN
        generalize decU B j = x at *
        obtain ⟨ch, n⟩ := x
        simp only at hr hz
        have HRR := Lib.hid hr
        have HCN := Lib.hid CN
        have q1 : IntKind.i64.wrap ((j : Int) + (n : Int)) = (j : Int) + (n : Int) := IntWalk.i64_in _ (by omega)
        clear ho hb hr CN hd
        go_wp2_with fail
        refine HCN.out.mono ?_
        rintro e w1 ⟨rfl, hb1⟩
        have HO1 := Lib.hid (aown_ext HO.out (fun g hg => hb1.block g (HO.out.lt g hg).2) (Nat.le_refl _))
        have HB1 := Lib.hid (ext_trans HB.out hb1)
        clear hb1
        go_wp2_with (at_builtin; refine wpList_app1 w1 _ _ rfl _ _ 144 rfl w.heap.size elInt _ _ _ rfl HO1.out rfl rfl ?c1 ?c2 ?c3 ?c4 ?_)
        case c1 => first | rfl | (intro u hu; simp at hu; subst hu; rfl)
        case c2 => simp [maxLen]; omega
        case c3 => omega
        case c4 => exact HB1.out.size
        intro v2 w2 ho2 hg2
        have R' : CsRel B R w v2 (.int .i64 (j + n)) w2 := by
          refine ⟨j + n, acc ++ [ch], by go_num, hz.2, by simp; omega, ?_, ?_, HRR.out⟩
          · simpa [intsV] using ho2
          · exact (ext_alloc HB1.out _).grown hg2 (ext_alloc HB1.out _).size (fun m hm => (HO1.out.lt m hm).1)
        have HRL := Lib.hid R'
        clear R' ho2 hg2
        go_wp2
        refine ⟨?_, by simp [intOf] <;> omega⟩
        have R := HRL.out
        first | exact R | ((repeat apply Exists.intro); exact ⟨R, rfl⟩)
    · have t1 : decide ((j : Int) < (B.size : Int)) = false := decide_eq_false (by omega)
      have t1' : decide (j < B.size) = false := decide_eq_false hlt
      rw [charsS_end hlt] at hr
      have HRR := Lib.hid hr.symm
      have HRD := Lib.hid (rd_owned (S := Fresh w wr) ho (intsV_rds acc) (fun g hg => ho.lt g hg))
      clear ho hb hr hlt
      go_wp2
      go_ret2
      rw [HRR.out]
      exact ⟨_, rfl, HRD.out, HB.out⟩
end
section
open Go.RowKit
end
end Go.Proofs.YtbeodjipdpcaiaaGreatDoor
