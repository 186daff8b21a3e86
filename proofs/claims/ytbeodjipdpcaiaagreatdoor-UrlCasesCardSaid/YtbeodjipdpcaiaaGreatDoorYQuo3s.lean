/- Texts put together. -/
import Derived.Test.YtbeodjipdpcaiaaGreatDoorYQuo0s
import Derived.Test.YtbeodjipdpcaiaaGreatDoorYTxtWs
import Derived.Test.YtbeodjipdpcaiaaGreatDoorYFold0s
import Derived.Test.YtbeodjipdpcaiaaGreatDoorYErrs1s
import Derived.Test.YtbeodjipdpcaiaaGreatDoorYLib0s
import Derived.Test.YtbeodjipdpcaiaaGreatDoorYScan4sf
import Derived.BigQuiet
import Derived.Deep.DeepCutAuto
import Derived.Deep.RegionWith
import Derived.Deep.RegionHeld3
namespace Go.Proofs.YtbeodjipdpcaiaaGreatDoor
section
open Go.RowKit
def CsRel (B : ByteArray) (R : Sc (List Nat)) (w : World) (o i : Value) (wr : World) : Prop := ∃ (j : Nat) (acc : List Nat), i = .int .i64 j ∧ j ≤ B.size ∧ acc.length ≤ j ∧ wr.ownsRow w.heap.size 3 1 o acc.length (intsV acc) ∧ Below w.heap.size w wr ∧ charsS B j acc = R
theorem charS_dec {B : ByteArray} {i : Nat} (hi : i < B.size) : charS B i = if decU B i = (65533, 1) then .no 12 i else .ok (decU B i) := by
 unfold charS; rw [if_neg (by omega)]
def CsPost (w : World) (r : Sc (List Nat)) (e : Ending) (w' : World) : Prop := match r with
 | .ok l => ∃ v, e = .returned (.tuple #[v, .nilIface]) ∧ Rd (Fresh w w') w' v (intsD l) ∧ Below w.heap.size w w'
 | .no k i => ∃ u, e = .returned (.tuple #[.slice none 0 0, .iface 119 (.pointer (some u))]) ∧ Failed w k i (.iface 119 (.pointer (some u))) w'
set_option maxRecDepth 100000 in
set_option maxHeartbeats 16000000 in
theorem uchars_any (v : Value) (B : ByteArray) (w : World) (h : Rd (Own w) w v (bytesDB B)) (ht : Utf8T w) (hm : B.size ≤ 1000000) :
    Calls Tryz.prog 141 #[v] w (CsPost w (charsS B 0 [])) := by
 obtain ⟨R, hR⟩ : ∃ R, charsS B 0 [] = R := ⟨_, rfl⟩
 rw [hR]
 have HR := Lib.hid hR; have H := Lib.hid h; have HT := Lib.hid ht
 obtain ⟨a, c, rfl, _, _, _⟩ := h.by_inv
 clear h ht hR
 go_enter Tryz.func141, Tryz.ntmps141
 go_wp2_with fail
 go_loopw [4, 5] (CsRel B R w) (fun _ k _ => B.size - (intOf k).toNat)
 case atStart => exact ⟨0, [], rfl, Nat.zero_le _, Nat.zero_le _, World.ownsRow_nil _ _ _ _, Below.refl _ _, HR.out⟩
 case round =>
  obtain ⟨j, acc, rfl, hj, hA, ho, hb, hr⟩ := hrel
  obtain ⟨ao, cap, rfl, _⟩ := aown_form ho
  have HO := Lib.hid ho; have HB := Lib.hid hb
  by_cases hlt : j < B.size
  · have t1 : decide ((j : Int) < (B.size : Int)) = true := decide_eq_true (by omega)
    have t1' : decide (j < B.size) = true := decide_eq_true hlt
    have CN := unext_any _ B j wr (H.out.ext hb) (HT.out.ext hb) hm hlt
    rw [charS_dec hlt] at CN
    rw [charsS_step hlt] at hr
    have hz := decU_size hlt
    by_cases hd : decU B j = (65533, 1)
    · rw [if_pos hd] at hr CN
      have HRR := Lib.hid hr.symm
      have HCN := Lib.hid CN
      clear ho hb hr CN hd hz
      go_wp2_with fail
      refine HCN.out.mono ?_
      rintro e w1 ⟨u, rfl, hx⟩
      have HX := Lib.hid (hx.after HB.out)
      clear hx
      go_wp2
      go_ret2
      rw [HRR.out]
      exact ⟨_, rfl, HX.out⟩
    · rw [if_neg hd] at hr CN
      generalize decU B j = x at *
      obtain ⟨ch, n⟩ := x
      simp only at hr hz
      have HRR := Lib.hid hr
      have HCN := Lib.hid CN
      have q1 : IntKind.i64.wrap ((j : Int) + (n : Int)) = (j : Int) + (n : Int) := IntWalk.i64_in _ (by omega)
      clear ho hb hr CN hd
      go_wp2_with fail
      refine HCN.out.mono ?_
      rintro e w1 ⟨rfl, hb1⟩
      have HO1 := Lib.hid (aown_ext HO.out (fun g hg => hb1.block g (HO.out.lt g hg).2) (Nat.le_refl _))
      have HB1 := Lib.hid (ext_trans HB.out hb1)
      clear hb1
      go_wp2_with (at_builtin; refine wpList_app1 w1 _ _ rfl _ _ 144 rfl w.heap.size elInt _ _ _ rfl HO1.out rfl rfl ?c1 ?c2 ?c3 ?c4 ?_)
      case c1 => first | rfl | (intro u hu; simp at hu; subst hu; rfl)
      case c2 => simp [maxLen]; omega
      case c3 => omega
      case c4 => exact HB1.out.size
      intro v2 w2 ho2 hg2
      have R' : CsRel B R w v2 (.int .i64 (j + n)) w2 := by
       refine ⟨j + n, acc ++ [ch], by go_num, hz.2, by simp; omega, ?_, ?_, HRR.out⟩
       · simpa [intsV] using ho2
       · exact (ext_alloc HB1.out _).grown hg2 (ext_alloc HB1.out _).size (fun m hm => (HO1.out.lt m hm).1)
      have HRL := Lib.hid R'
      clear R' ho2 hg2
      go_wp2
      refine ⟨?_, by simp [intOf] <;> omega⟩
      have R := HRL.out
      first | exact R | ((repeat apply Exists.intro); exact ⟨R, rfl⟩)
  · have t1 : decide ((j : Int) < (B.size : Int)) = false := decide_eq_false (by omega)
    have t1' : decide (j < B.size) = false := decide_eq_false hlt
    rw [charsS_end hlt] at hr
    have HRR := Lib.hid hr.symm
    have HRD := Lib.hid (rd_owned (S := Fresh w wr) ho (intsV_rds acc) (fun g hg => ho.lt g hg))
    clear ho hb hr hlt
    go_wp2
    go_ret2
    rw [HRR.out]
    exact ⟨_, rfl, HRD.out, HB.out⟩
def VdPost (w : World) (r : Sc (List Nat)) (e : Ending) (w' : World) : Prop := match r with
 | .ok _ => e = .returned .nilIface ∧ Below w.heap.size w w'
 | .no k i => ∃ u, e = .returned (.iface 119 (.pointer (some u))) ∧ Failed w k i (.iface 119 (.pointer (some u))) w'
set_option maxRecDepth 100000 in
theorem uvalid_any (v : Value) (B : ByteArray) (w : World) (h : Rd (Own w) w v (bytesDB B)) (ht : Utf8T w) (hm : B.size ≤ 1000000) :
    Calls Tryz.prog 73 #[v] w (VdPost w (charsS B 0 [])) := by
 have hc := uchars_any v B w h ht hm
 obtain ⟨a, c, rfl, _, _, _⟩ := h.by_inv
 generalize charsS B 0 [] = R at hc ⊢
 have HC := Lib.hid hc
 clear h ht hc
 go_enter Tryz.func73, Tryz.ntmps73
 go_wp2_with fail
 refine HC.out.mono ?_
 intro e w1 hp
 cases R with
 | ok l =>
   obtain ⟨v1, rfl, _, hb⟩ := hp
   have HB := Lib.hid hb
   clear hb
   go_wp2
   go_ret
   exact ⟨rfl, HB.out⟩
 | no k p =>
   obtain ⟨u, rfl, hf⟩ := hp
   have HF := Lib.hid hf
   clear hf
   go_wp2
   go_ret
   exact ⟨_, rfl, HF.out⟩
end
section
open Go.RowKit
structure WrAt (n : Nat) (w : World) (r m : Nat) (arr : Array Value) (wr : World) : Prop where
 box : wr.heap[w.heap.size]? = some (.cells arr 250 (0, 0))
 size : arr.size = 64
 below : Below w.heap.size w wr
 val : m = n / 16 ^ r
 one : 1 ≤ r → arr[63]? = some (.int .u8 (hexU (n % 16) : Nat))
 two : 2 ≤ r → arr[62]? = some (.int .u8 (hexU (n / 16 % 16) : Nat))
def WrRel2 (n : Nat) (w : World) (nv av : Value) (wr : World) : Prop := ∃ r m arr, nv = .int .u64 (m : Nat) ∧ av = .int .i64 ((64 - r : Nat) : Int) ∧ r ≤ 2 ∧ WrAt n w r m arr wr
theorem WrAt.cell {n r m : Nat} {w wr : World} {arr : Array Value} (h : WrAt n w r m arr wr) (j : Nat) (hj : j < 64) : ∃ x, wr.cell? ⟨w.heap.size, j, none⟩ = some x := by
 have hs := h.size
 refine ⟨arr[j], ?_⟩
 simp [World.cell?, h.box]
theorem WrAt.frozen {n r m : Nat} {w wr : World} {arr : Array Value} (h : WrAt n w r m arr wr) (j : Nat) : wr.frozen? ⟨w.heap.size, j, none⟩ = false := Go.Joins.unfrozen_of_block h.box j
theorem WrAt.step {n r m : Nat} {w wr : World} {arr : Array Value} (h : WrAt n w r m arr wr) (hr : r < 2) : WrRel2 n w (.int .u64 ((m / 16 : Nat) : Int)) (.int .i64 ((64 - (r + 1) : Nat) : Int)) (wr.setCell ⟨w.heap.size, 63 - r, none⟩ (.int .u8 (hexU (m % 16) : Nat))) := by
 have hs := h.size
 have hb := Go.Joins.block_setCell h.box (i := 63 - r) (.int .u8 (hexU (m % 16) : Nat))
 refine ⟨r + 1, m / 16, _, rfl, rfl, hr, ⟨hb, by simp [hs], h.below.setCell (Nat.le_refl _) _, by rw [h.val, Nat.pow_succ, Nat.div_div_eq_div_mul], fun _ => ?_, fun h2 => ?_⟩⟩
 · have hc : r = 0 ∨ r = 1 := by omega
   rcases hc with rfl | rfl
   · have := h.val
     simp at this
     subst this
     simp [hs]
   · have := h.one (by omega)
     simp [this]
 · obtain rfl : r = 1 := by omega
   have := h.val
   simp at this
   subst this
   simp [hs]
set_option maxRecDepth 100000 in
set_option maxHeartbeats 16000000 in
theorem written2_any (n : Nat) (w : World) (hn : n < 256) :
    Calls Tryz.prog 180 #[.int .u64 n, .int .u64 16, .int .i64 2] w fun e w' => e = .returned (.string ⟨#[UInt8.ofNat (hexU (n / 16)), UInt8.ofNat (hexU (n % 16))]⟩) ∧ Below w.heap.size w w' := by
 go_enter Tryz.func180, Tryz.ntmps180
 go_wp2_with fail
 go_loopw [0, 8] (WrRel2 n w) (fun _ a _ => (intOf a).toNat)
 case atStart => exact ⟨0, n, _, rfl, rfl, by decide, ⟨heap_alloc_new w _, rfl, ext_alloc (Below.refl _ _) _, by simp, fun h => by omega, fun h => by omega⟩⟩
 case round =>
  obtain ⟨r, m, arr, rfl, rfl, hr, hA⟩ := hrel
  have hL := (Array.getElem?_eq_some_iff.1 hA.box).1
  obtain ⟨S, hS⟩ : ∃ S : ByteArray, (⟨#[48, 49, 50, 51, 52, 53, 54, 55, 56, 57, 65, 66, 67, 68, 69, 70]⟩ : ByteArray) = S := ⟨_, rfl⟩
  have hzS : S.size = 16 := by rw [← hS]; rfl
  have HN : Hid (∀ d (h : d < S.size), (S[d]'h).toNat = hexU d) := Lib.hid (by
   subst hS
   intro d h
   have h' : d < 16 := h
   revert h
   have hj : d = 0 ∨ d = 1 ∨ d = 2 ∨ d = 3 ∨ d = 4 ∨ d = 5 ∨ d = 6 ∨ d = 7 ∨ d = 8 ∨ d = 9 ∨ d = 10 ∨ d = 11 ∨ d = 12 ∨ d = 13 ∨ d = 14 ∨ d = 15 := by omega
   rcases hj with rfl | rfl | rfl | rfl | rfl | rfl | rfl | rfl | rfl | rfl | rfl | rfl | rfl | rfl | rfl | rfl <;> exact fun _ => rfl)
  have HA := Lib.hid hA
  have hmv := hA.val
  have hm : m < 256 := by
   have : n / 16 ^ r ≤ n := Nat.div_le_self _ _
   omega
  have hr' : r = 0 ∨ r = 1 ∨ r = 2 := by omega
  rw [hS]
  have HS := Lib.hid hzS
  clear hA hS hzS hmv
  have hi1 : m % 16 < S.size := by rw [HS.out]; omega
  have hi2 : (m : Int) % 16 < (S.size : Int) := by rw [HS.out]; omega
  have hi3 : ((m : Int) % 16).toNat = m % 16 := by omega
  have hgx : (S[m % 16]'hi1).toNat = hexU (m % 16) := HN.out _ hi1
  have hm0 : r = 2 → m = 0 := fun e => by have := HA.out.val; rw [e] at this; omega
  rcases hr' with rfl | rfl | rfl
  · obtain ⟨x, hx⟩ := HA.out.cell 63 (by decide)
    have hf := HA.out.frozen 63
    have HST := HA.out.step (by decide)
    clear hm0
    rcases Nat.eq_zero_or_pos m with rfl | h0
    · have hz : S.size = 16 := HS.out
      have hg0 : (S[0]'(by omega)).toNat = hexU 0 := hgx
      have hi0 : 0 < S.size := by omega
      have HST := Lib.hid HST
      have HG := Lib.hid hg0
      clear hg0 hgx hi2 hi3
      have HSZ := Lib.hid hz
      clear hz
      go_wp2
      rw [HG.out]
      refine ⟨?_, by simp [intOf]⟩
      have R := HST.out
      first | exact R | ((repeat apply Exists.intro); exact ⟨R, rfl⟩)
    · have t1 : decide ((0 : Int) < (m : Int)) = true := decide_eq_true (by omega)
      have t1' : decide (0 < m) = true := decide_eq_true h0
      rw [show ((m / 16 : Nat) : Int) = (m : Int) / 16 by omega] at HST
      have HST := Lib.hid HST
      have HG := Lib.hid hgx
      clear hgx h0
      go_wp2
      rw [HG.out]
      refine ⟨?_, by simp [intOf]⟩
      have R := HST.out
      first | exact R | ((repeat apply Exists.intro); exact ⟨R, rfl⟩)
  · obtain ⟨x, hx⟩ := HA.out.cell 62 (by decide)
    have hf := HA.out.frozen 62
    have HST := HA.out.step (by decide)
    clear hm0
    rcases Nat.eq_zero_or_pos m with rfl | h0
    · have hz : S.size = 16 := HS.out
      have hg0 : (S[0]'(by omega)).toNat = hexU 0 := hgx
      have hi0 : 0 < S.size := by omega
      have HST := Lib.hid HST
      have HG := Lib.hid hg0
      clear hg0 hgx hi2 hi3
      have HSZ := Lib.hid hz
      clear hz
      go_wp2
      rw [HG.out]
      refine ⟨?_, by simp [intOf]⟩
      have R := HST.out
      first | exact R | ((repeat apply Exists.intro); exact ⟨R, rfl⟩)
    · have t1 : decide ((0 : Int) < (m : Int)) = true := decide_eq_true (by omega)
      have t1' : decide (0 < m) = true := decide_eq_true h0
      rw [show ((m / 16 : Nat) : Int) = (m : Int) / 16 by omega] at HST
      have HST := Lib.hid HST
      have HG := Lib.hid hgx
      clear hgx h0
      go_wp2
      rw [HG.out]
      refine ⟨?_, by simp [intOf]⟩
      have R := HST.out
      first | exact R | ((repeat apply Exists.intro); exact ⟨R, rfl⟩)
  · obtain rfl := hm0 rfl
    have h1 := HA.out.one (by decide)
    have h2 := HA.out.two (by decide)
    have hd : n / 16 % 16 = n / 16 := Nat.mod_eq_of_lt (by omega)
    rw [hd] at h2
    have hu : ∀ d, d < 16 → (UInt8.ofNat (hexU d)).toNat = hexU d := fun d h => by
     have : hexU d < 256 := by unfold hexU; split <;> omega
     simp; omega
    have e1 := hu (n / 16) (by omega)
    have e2 := hu (n % 16) (by omega)
    have cv := bytes_back wr w.heap.size 62 2 2 ⟨#[UInt8.ofNat (hexU (n / 16)), UInt8.ofNat (hexU (n % 16))]⟩ rfl (fun j hj => by
     have hc : j = 0 ∨ j = 1 := by omega
     rcases hc with rfl | rfl
     · have : byteAt ⟨#[UInt8.ofNat (hexU (n / 16)), UInt8.ofNat (hexU (n % 16))]⟩ 0 = hexU (n / 16) := e1
       rw [this]; simp [World.cell?, HA.out.box, h2]
     · have : byteAt ⟨#[UInt8.ofNat (hexU (n / 16)), UInt8.ofNat (hexU (n % 16))]⟩ 1 = hexU (n % 16) := e2
       rw [this]; simp [World.cell?, HA.out.box, h1])
    have HB := Lib.hid HA.out.below
    clear hgx h1 h2 hd hu e1 e2 hm0
    go_wp2
    go_ret
    exact ⟨rfl, HB.out⟩
set_option maxRecDepth 100000 in
theorem hexdig2_any (n : Nat) (w : World) (hn : n < 256) :
    Calls Tryz.prog 216 #[.int .u64 n, .int .i64 2] w fun e w' => e = .returned (.string ⟨#[UInt8.ofNat (hexU (n / 16)), UInt8.ofNat (hexU (n % 16))]⟩) ∧ Below w.heap.size w w' := by
 have HW := Lib.hid (written2_any n w hn)
 clear hn
 go_enter Tryz.func216, Tryz.ntmps216
 go_wp2_with fail
 refine HW.out.mono ?_
 rintro e w1 ⟨rfl, hb⟩
 have HB := Lib.hid hb
 clear hb
 go_wp2
 go_ret
 exact ⟨rfl, HB.out⟩
end
end Go.Proofs.YtbeodjipdpcaiaaGreatDoor
