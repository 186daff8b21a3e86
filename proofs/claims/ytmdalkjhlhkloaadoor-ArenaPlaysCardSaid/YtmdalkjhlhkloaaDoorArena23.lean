/- The law ArenaPlays: the walk. -/
import Derived.Test.YtmdalkjhlhkloaaDoorArena22
import Derived.Test.YtmdalkjhlhkloaaDoorArena5
import Derived.Deep.DeepCutAuto
import Derived.Deep.RegionHeld3
import Derived.RegionTactic
import Derived.BigRegion
namespace Go.Proofs.YtmdalkjhlhkloaaDoor
open Go.RowKit
structure AOp where
  up : Int
  val : Int
  set : Bool
def opD (o : AOp) : List Dat := [.int .i64 o.up, .int .i64 o.val, .bool o.set]
def opsD (l : List AOp) : Dat := .list 3 (l.flatMap opD)
theorem Rd.ops_inv {T : Nat → Prop} {w : World} {v : Value} {l : List AOp} (h : Rd T w v (opsD l)) : ∃ a c, v = .slice a l.length c ∧ (a = none → l.length = 0 ∧ c = 0) ∧ l.length ≤ c ∧
    (0 < l.length → ∃ b off, a = some ⟨b, off, none⟩ ∧ T b ∧ ∀ i o, l[i]? = some o → w.cell? ⟨b, off + i * 3, none⟩ = some (.int .i64 o.up) ∧ w.cell? ⟨b, off + i * 3 + 1, none⟩ = some (.int .i64 o.val) ∧ w.cell? ⟨b, off + i * 3 + 2, none⟩ = some (.bool o.set)) := by
  obtain ⟨a, c, rfl, h1, h2, hc⟩ := Rd.rows_inv (enc := opD) (k := 3) (fun _ => rfl) (by decide) h
  refine ⟨a, c, rfl, h1, h2, fun h0 => ?_⟩
  obtain ⟨b, off, rfl, hS, hx⟩ := hc h0
  refine ⟨b, off, rfl, hS, fun i o ho => ⟨?_, ?_, ?_⟩⟩
  · obtain ⟨u, hu, hr⟩ := hx i o ho 0 _ rfl
    rw [hr.int_inv] at hu; exact hu
  · obtain ⟨u, hu, hr⟩ := hx i o ho 1 _ rfl
    rw [hr.int_inv] at hu; exact hu
  · obtain ⟨u, hu, hr⟩ := hx i o ho 2 _ rfl
    rw [hr.bool_inv] at hu; exact hu
theorem RTreeAt.frozenV {w : World} {B g cap : Nat} {vU : Value} {vs us : List Int} {most : Int} (h : RTreeAt w B (.slice (some ⟨g, 0, none⟩) vs.length cap) vU vs us most) (q : Nat) : w.frozen? ⟨g, q, none⟩ = false := h.ownV.frozenAt q
def ApL (w0 : World) (B R : Nat) (most : Int) (n : Nat) (i : Value) (wr : World) : Prop := ∃ (j : Nat) (v : Value) (ns : List ANode) (vV vU : Value) (vs us : List Int) (ups : List Nat), i = .int .i64 j ∧ j ≤ n ∧ Ap w0 B R most j v ns vV vU vs us ups wr
/-- Behind a call of both: the op's own box still lies as it was. -/
def ApC (w0 : World) (B R : Nat) (most : Int) (j L : Nat) (up : Int) (wx : World) : Prop := ∃ (v : Value) (ns : List ANode) (vV vU : Value) (vs us : List Int) (ups : List Nat), Ap w0 B R most j v ns vV vU vs us ups wx ∧ wx.cell? ⟨L, 0, none⟩ = some (.int .i64 up) ∧ L < wx.heap.size
set_option maxRecDepth 100000 in
set_option maxHeartbeats 64000000 in
theorem arenaPlays_any (most : Int) (v1 : Value) (ops : List AOp) (id : Int) (w : World) (hg : Glob w) (h1 : Rd (Own w) w v1 (opsD ops)) :
    Calls Tryd.prog 3 #[.int .i64 most, v1, .int .i64 id] w fun e w' => e = .returned (.bool true) ∧ Below w.heap.size w w' := by
  obtain ⟨a1, c1, rfl, _, _, _⟩ := h1.ops_inv
  have SP := Lib.hid (speaks05 w)
  have HG := Lib.hid hg; have H1 := Lib.hid h1
  clear hg h1
  by_cases hbig : 60 < ops.length
  · have q : decide ((60 : Int) < (ops.length : Int)) = true := decide_eq_true (by omega)
    clear hbig
    go_enter Tryd.func3, Tryd.ntmps3
    go_wp2_with fail
    refine SP.out.mono ?_
    rintro e w1 ⟨rfl, hb⟩
    have HB := Lib.hid hb; clear hb
    go_wp2
    go_ret
    exact ⟨rfl, HB.out⟩
  · have t1 : decide ((60 : Int) < (ops.length : Int)) = false := decide_eq_false (by omega)
    have hl : ops.length ≤ 60 := by omega
    clear hbig
    go_enter Tryd.func3, Tryd.ntmps3
    go_wp2_with fail
    refine SP.out.mono ?_
    rintro e w1 ⟨rfl, hb⟩
    have HB1 := Lib.hid hb; clear hb
    go_wp2_with fail
    refine (new_any most w1).mono ?_
    rintro e w2 ⟨rfl, rfl⟩
    obtain ⟨W2, hW2⟩ : ∃ W, w1.alloc (.cells #[.slice none 0 0, .int .i64 most] 105) = W := ⟨_, rfl⟩
    obtain ⟨W3, hW3⟩ : ∃ W, W2.alloc (.cells #[.slice none 0 0, .slice none 0 0, .int .i64 most] 29) = W := ⟨_, rfl⟩
    have hz2 : W2.heap.size = w1.heap.size + 1 := by rw [← hW2]; simp
    have ht2 : TreeAt W2 w1.heap.size (.slice none 0 0) [] most := by rw [← hW2]; exact TreeAt.new most w1
    have hb12 : Below w1.heap.size w1 W2 := by rw [← hW2]; exact ext_alloc (Below.refl _ _) _
    have hb23 : Below W2.heap.size W2 W3 := by rw [← hW3]; exact ext_alloc (Below.refl _ _) _
    have hm3 : RTreeAt W3 W2.heap.size (.slice none 0 0) (.slice none 0 0) [] [] most :=
      ⟨by rw [← hW3]; show (W2.heap.push _)[W2.heap.size]? = _; simp, World.ownsRow_nil _ _ _ _, World.ownsRow_nil _ _ _ _, fun g hg => by cases hg⟩
    obtain ⟨R, hR⟩ : ∃ R, w1.heap.size + 1 = R := ⟨_, rfl⟩
    rw [hz2, hR] at hm3
    have hA : Ap w1 w1.heap.size R most 0 (.slice none 0 0) [] (.slice none 0 0) (.slice none 0 0) [] [] [] W3 := by
      refine ⟨⟨ht2.below hb23, hm3, ⟨rfl, ?_, ?_, ?_, ?_, ?_, ?_, ?_, ?_⟩, fun i u _ h => by simp at h, ⟨rfl, fun i u _ h => by simp at h, .inl rfl⟩, rfl, rfl, Nat.zero_le _⟩, Nat.le_refl _, Nat.zero_le _, fun k hT hR' => ?_, Nat.le_refl _, by omega, ext_trans hb12 hb23, fun _ => rfl⟩
      all_goals first | (intro i a h; simp at h) | (intro a h; simp at h) | (intro i u a h0 h; simp at h) | (intro i u a b h0 h; simp at h) | skip
      rcases hT with rfl | hT
      · rcases hR' with e | e | e
        · omega
        · cases e
        · cases e
      · cases hT
    have HA := Lib.hid hA; have HW2 := Lib.hid hW2; have HW3 := Lib.hid hW3; have HR := Lib.hid hR
    clear hW2 hW3 hz2 ht2 hb12 hb23 hm3 hA hR
    go_wp2_with fail
    rw [HW2.out, HW3.out, HR.out]
    clear HW2 HW3 HR
    go_loopw [30] (ApL w1 w1.heap.size R most ops.length) (fun i _ => ops.length - (intOf i).toNat)
    case atStart => exact ⟨0, _, _, _, _, _, _, _, rfl, Nat.zero_le _, HA.out⟩
    case round =>
      obtain ⟨j, v, ns, vV, vU, vs, us, ups, rfl, hj, hA⟩ := hrel
      have HAP := Lib.hid hA
      clear hA
      by_cases hlt : j < ops.length
      · have t2 : decide ((j : Int) < (ops.length : Int)) = true := decide_eq_true (by omega)
        have t2' : decide (j < ops.length) = true := decide_eq_true hlt
        have q2 : (j : Int) < (ops.length : Int) := by omega
        obtain ⟨o, ho⟩ := get_ex ops j hlt
        obtain ⟨_, _, e1, _, _, hx⟩ := ((H1.out.ext HB1.out).ext HAP.out.below).ops_inv
        cases e1
        obtain ⟨b, off, rfl, _, hx⟩ := hx (by omega)
        obtain ⟨x0, x1, x2⟩ := hx j o ho
        obtain ⟨up, val, st⟩ := o
        simp only at x0 x1 x2
        clear hx ho
        obtain ⟨Wo, hWo⟩ : ∃ W, wr.alloc (.cells #[.int .i64 up, .int .i64 val, .bool st] 31) = W := ⟨_, rfl⟩
        have hAo := HAP.out.ext (by rw [← hWo]; exact ext_alloc (Below.refl _ _) _ : Below wr.heap.size wr Wo)
        have hcL : ∀ q, Wo.cell? ⟨wr.heap.size, q, none⟩ = (#[Value.int .i64 up, .int .i64 val, .bool st] : Array Value)[q]? := fun q => by rw [← hWo]; simp
        have hzL : wr.heap.size < Wo.heap.size := by rw [← hWo]; simp
        have HAO := Lib.hid hAo; have HWO := Lib.hid hWo
        clear hAo hWo
        go_upto_if 35 with (fail)
        rw [HWO.out]
        clear HWO x0 x1 x2
        have hLT : ∀ k, TB w1.heap.size v k → k < wr.heap.size := fun k hk => (HAP.out.twin.t.geB k hk).2
        have hLR : ∀ k, RB R vV vU k → k < wr.heap.size := fun k hk => (HAP.out.twin.m.geR k hk).2
        have HLT := Lib.hid hLT; have HLR := Lib.hid hLR
        have hnl : ns.length = ups.length := HAP.out.twin.nlen
        have hul : ups.length ≤ 60 := by have := HAP.out.le; omega
        have hvl : vs.length = ups.length := HAP.out.twin.len
        clear hLT hLR
        go_cut [] (ApC w1 w1.heap.size R most (j + 1) wr.heap.size up)
        case first =>
          cases st with
          | true =>
            by_cases hid : 0 ≤ up ∧ up < ns.length
            · obtain ⟨i, rfl⟩ := Int.eq_ofNat_of_zero_le hid.1
              have hi : i < ns.length := by omega
              obtain ⟨a, ha⟩ := get_ex ns i hi
              obtain ⟨n, hvn, hav⟩ := HAO.out.twin.val ha
              have KS := Lib.hid (set_in w1.heap.size v ns most Wo i a n val HAO.out.twin.t ha hav (by omega))
              obtain ⟨gV, capV, rfl⟩ := HAO.out.twin.m.formV (by omega)
              have HSB := Lib.hid (fun (W : World) (ht : TreeAt W w1.heap.size v (ns.set i { a with val := .int .i64 val }) most) (ho : Only (TB w1.heap.size v) Wo W) => HAO.out.setBoth ha ht ho rfl)
              have HAN := Lib.hid ha; have HVN := Lib.hid hvn
              have hiv : (i : Int) < (vs.length : Int) := by omega
              clear hid ha hvn hav
              go_wp2_with fail
              refine KS.out.mono ?_
              rintro e w3 ⟨rfl, ht, ho⟩
              have hm3 := HAO.out.mAt ho
              have hLk := ho.block wr.heap.size hzL (fun hT => by have := HLT.out _ hT; omega)
              have hcL3 : ∀ q, w3.cell? ⟨wr.heap.size, q, none⟩ = (#[Value.int .i64 i, .int .i64 val, .bool true] : Array Value)[q]? := fun q => by rw [cell_keep hLk]; exact hcL q
              have hzL3 : wr.heap.size < w3.heap.size := Nat.lt_of_lt_of_le hzL ho.size
              have KH := Lib.hid (fun m => by
                have := rhas_any R _ _ vs us most i (w3.drewN m) (hm3.ext (fun _ _ _ => rfl))
                rw [decide_eq_true (by omega : 0 ≤ (i : Int) ∧ (i : Int) < (vs.length : Int))] at this; exact this)
              have HT3 := Lib.hid ht; have HO3 := Lib.hid ho
              have c03 := hm3.cell0
              have y03 := hm3.valCell rfl HVN.out
              have fz3 := RTreeAt.frozenV hm3 i
              have HM3 := Lib.hid hm3
              clear ht ho hm3 hLk
              go_wp2_with fail
              go_quiet ((go_at_call 17; exact quiet_eq (KH.out _)))
              go_wp2_with fail
              have HFIN : Hid (∀ m, ApC w1 w1.heap.size R most (j + 1) wr.heap.size i ((w3.drewN m).setCell ⟨gV, i, none⟩ (.int .i64 val))) := Lib.hid (fun m => by
                have h2 := (HSB.out (w3.drewN m) (HT3.out.ext (fun _ _ _ => rfl)) (HO3.out.trans (.of (ext_drewN m (Below.refl _ _))))).2
                refine ⟨_, _, _, _, _, _, _, h2.next (by omega), ?_, by simpa using hzL3⟩
                have hne : wr.heap.size ≠ gV := by have := HLR.out gV (.inr (.inl rfl)); omega
                rw [cell_keep (Below.heap_setCell (w3.drewN m) ⟨gV, i, none⟩ _ wr.heap.size hne)]
                exact hcL3 0)
              go_region
              all_goals go_wp2
              all_goals go_meet
              all_goals exact HFIN.out _
            · have KS := Lib.hid (set_out w1.heap.size v ns most Wo up val HAO.out.twin.t hid)
              obtain ⟨W3, hW3⟩ : ∃ W, Wo.alloc (.cells #[.int .i64 30, .int .i64 up, .nilIface] 113) = W := ⟨_, rfl⟩
              have hbo3 : Below Wo.heap.size Wo W3 := by rw [← hW3]; exact ext_alloc (Below.refl _ _) _
              have hcL3 : ∀ q, W3.cell? ⟨wr.heap.size, q, none⟩ = (#[Value.int .i64 up, .int .i64 val, .bool true] : Array Value)[q]? := fun q => by rw [bcell1 hbo3 hzL]; exact hcL q
              have hzL3 : wr.heap.size < W3.heap.size := Nat.lt_of_lt_of_le hzL hbo3.size
              have hA3 := HAO.out.ext hbo3
              have hG3 : Glob W3 := (HG.out.ext HB1.out).ext hA3.below
              have hU3 : Rd (Own W3) W3 (.iface 109 (.pointer (some ⟨Wo.heap.size, 0, none⟩))) (errD 109 [(30, up)]) := by rw [← hW3]; exact Rd.failed 30 up Wo
              have hidv : ¬ (0 ≤ up ∧ up < vs.length) := by omega
              have KH := Lib.hid (fun m => by
                have := rhas_any R _ _ vs us most up (W3.drewN m) (hA3.twin.m.ext (fun _ _ _ => rfl))
                rw [decide_eq_false hidv] at this; exact this)
              have KK : Hid (∀ W, Below W3.heap.size W3 W → Calls Tryd.prog 18 #[.iface 109 (.pointer (some ⟨Wo.heap.size, 0, none⟩))] W fun e w' => e = .returned (.int .i64 30) ∧ Below W.heap.size W w') := Lib.hid (fun W hW => kind_any _ [(30, up)] W (hG3.ext hW) (hU3.ext hW))
              have KA : Hid (∀ W, Below W3.heap.size W3 W → Calls Tryd.prog 19 #[.iface 109 (.pointer (some ⟨Wo.heap.size, 0, none⟩))] W fun e w' => e = .returned (.int .i64 up) ∧ Below W.heap.size W w') := Lib.hid (fun W hW => at_any _ [(30, up)] W (hG3.ext hW) (hU3.ext hW))
              have HFIN : Hid (∀ W, Below W3.heap.size W3 W → ApC w1 w1.heap.size R most (j + 1) wr.heap.size up W) := Lib.hid (fun W hW => by
                refine ⟨_, _, _, _, _, _, _, (hA3.next (by omega)).ext hW, ?_, Nat.lt_of_lt_of_le hzL3 hW.size⟩
                rw [bcell1 hW hzL3]; exact hcL3 0)
              have HW3 := Lib.hid hW3
              clear hid hidv hW3 hA3 hG3 hU3 hbo3
              go_wp2_with fail
              refine KS.out.mono ?_
              rintro e w3 ⟨rfl, rfl⟩
              go_upto_region 13 with (fail)
              rw [HW3.out]
              clear HW3
              go_region_held3 (fun W => ∀ q, W.cell? ⟨wr.heap.size, q, none⟩ = (#[Value.int .i64 up, .int .i64 val, .bool true] : Array Value)[q]?) (first | assumption | exact hcL3) (first
                | (go_at_call 17; refine (KH.out _).mono ?_; rintro e w' ⟨rfl, rfl⟩)
                | (go_at_call 18; refine (KK.out _ (ext_drewN _ (Below.refl _ _))).mono ?_; rintro e w5 ⟨rfl, hb5⟩; have hbx := ext_trans (ext_drewN _ (Below.refl _ W3)) hb5; have hkk : ∀ q, w5.cell? ⟨wr.heap.size, q, none⟩ = (#[Value.int .i64 up, .int .i64 val, .bool true] : Array Value)[q]? := fun q => (bcell1 hbx hzL3 q).trans (hcL3 q))
                | (go_at_call 19; refine (KA.out _ (by assumption)).mono ?_; rintro e w6 ⟨rfl, hb6⟩; have hby := ext_trans (by assumption : Below W3.heap.size W3 _) hb6; have hkk : ∀ q, w6.cell? ⟨wr.heap.size, q, none⟩ = (#[Value.int .i64 up, .int .i64 val, .bool true] : Array Value)[q]? := fun q => (bcell1 hby hzL3 q).trans (hcL3 q)))
              rename_i hHeld
              have HBX := Lib.hid hby
              clear hHeld hby hkk
              go_wp2
              go_meet
              exact HFIN.out _ HBX.out
          | false =>
            have hnn : ns.length = vs.length := by omega
            by_cases hok : ((0 ≤ up ∧ up < ns.length) ∨ (ns.length = 0 ∧ up = -1)) ∧ (ns.length : Int) < most
            · have hokv : (0 ≤ up ∧ up < (vs.length : Int)) ∨ (vs.length = 0 ∧ up = -1) := by
                rcases hok.1 with h | h
                · left; omega
                · right; omega
              -- what is added to the program's tree
              have hadd : ∃ ns' ups', Calls Tryd.prog 20 #[.pointer (some ⟨w1.heap.size, 0, none⟩), .int .i64 up, .int .i64 val] Wo (fun e w' => AddPost w1.heap.size v ns' most Wo e w' ns.length) ∧ GoodN ns' ups' ∧ WfUps ups' ∧ RUps (us ++ [up]) ups' ∧ ns'.map (·.val) = ns.map (·.val) ++ [.int .i64 val] ∧ ups'.length = ups.length + 1 := by
                rcases hok.1 with ⟨g1, g2⟩ | ⟨g1, g2⟩
                · obtain ⟨u, rfl⟩ := Int.eq_ofNat_of_zero_le g1
                  have hu : u < ups.length := by omega
                  obtain ⟨a, ha⟩ := get_ex ns u (by omega)
                  exact ⟨addN ns u (.int .i64 val), ups ++ [u], add_ok w1.heap.size v ns ups most u val Wo HAO.out.twin.t HAO.out.twin.good HAO.out.twin.wf hu hok.2 (by omega), goodN_add _ HAO.out.twin.wf HAO.out.twin.good hu, wf_snoc HAO.out.twin.wf (by omega) hu, rups_snoc HAO.out.twin.rups (by omega) u, addN_vals ha, by simp⟩
                · have hns : ns = [] := List.eq_nil_of_length_eq_zero g1
                  have hups : ups = [] := List.eq_nil_of_length_eq_zero (by omega)
                  have hus : us = [] := List.eq_nil_of_length_eq_zero (by have := HAO.out.twin.rups.len; omega)
                  have hv := HAO.out.nil hns
                  have ht := HAO.out.twin.t
                  have h2 := hok.2
                  subst hns hups hus hv g2
                  exact ⟨[root (.int .i64 val)], [0], add_root w1.heap.size most val Wo ht (by simpa using h2), goodN_root _, wf_root, rups_root, rfl, rfl⟩
              obtain ⟨ns', ups', KT, hg', hw', hru', hv', hl'⟩ := hadd
              have HKT := Lib.hid KT
              have KM := Lib.hid (fun W (ho : Only (TB w1.heap.size v) Wo W) => radd_ok R vV vU vs us most up val W (HAO.out.mAt ho) hokv (by rw [← hnn]; exact hok.2) (by omega) (by have := HAO.out.twin.rups.len; omega))
              have HAD := Lib.hid (fun e e' w3 w4 ha hr => HAO.out.addBoth (e := e) (e' := e') (w' := w3) (w2 := w4) (x := val) (up := up) (by omega) ha hr hg' hw' hru' hv' hl')
              clear KT hg' hw' hru' hv' hl' hok hokv
              go_wp2_with fail
              refine HKT.out.mono ?_
              intro e w3 ha
              obtain ⟨v', rfl, ht3, ho3, hn3⟩ := ha
              have hLk := ho3.block wr.heap.size hzL (fun hT => by have := HLT.out _ hT; omega)
              have hcL3 : ∀ q, w3.cell? ⟨wr.heap.size, q, none⟩ = (#[Value.int .i64 up, .int .i64 val, .bool false] : Array Value)[q]? := fun q => by rw [cell_keep hLk]; exact hcL q
              have hzL3 : wr.heap.size < w3.heap.size := Nat.lt_of_lt_of_le hzL ho3.size
              have HKM := Lib.hid (KM.out w3 ho3)
              have HA3 : Hid (AddPost w1.heap.size v ns' most Wo (.returned (.tuple #[.int .i64 ns.length, .nilIface])) w3 ns.length) := Lib.hid ⟨v', rfl, ht3, ho3, hn3⟩
              have HHM := Lib.hid (HAO.out.mAt ho3)
              clear ht3 ho3 hn3 hLk
              go_wp2_with fail
              refine HKM.out.mono ?_
              intro e w4 hr
              have hfin := HAD.out _ _ _ _ HA3.out hr
              obtain ⟨vV', vU', rfl, _, hor, _, _⟩ := hr
              obtain ⟨_, _, v4, vV4, vU4, hA4⟩ := hfin
              have hLk4 := hor.block wr.heap.size hzL3 (fun hT => by have := HLR.out _ hT; omega)
              have hcL4 : ∀ q, w4.cell? ⟨wr.heap.size, q, none⟩ = (#[Value.int .i64 up, .int .i64 val, .bool false] : Array Value)[q]? := fun q => by rw [cell_keep hLk4]; exact hcL3 q
              have hzL4 : wr.heap.size < w4.heap.size := Nat.lt_of_lt_of_le hzL3 hor.size
              have KK : Hid (∀ W, Below w4.heap.size w4 W → Calls Tryd.prog 18 #[.nilIface] W fun e w' => e = .returned (.int .i64 0) ∧ Below W.heap.size W w') := Lib.hid (fun W hW => kind_any .nilIface [] W (((HG.out.ext HB1.out).ext hA4.below).ext hW) (by show Rd _ _ _ .nilI; exact .nilI))
              have HFIN : Hid (∀ W, Below w4.heap.size w4 W → ApC w1 w1.heap.size R most (j + 1) wr.heap.size up W) := Lib.hid (fun W hW => by
                refine ⟨_, _, _, _, _, _, _, hA4.ext hW, ?_, Nat.lt_of_lt_of_le hzL4 hW.size⟩
                rw [bcell1 hW hzL4]; exact hcL4 0)
              clear hA4 hLk4 hor hcL3
              rw [← hnn]
              go_wp2_with fail
              refine wp_region_noPanic ?_
              refine wp_region_held_drew (S := (fun W => ∀ q, W.cell? ⟨wr.heap.size, q, none⟩ = (#[Value.int .i64 up, .int .i64 val, .bool false] : Array Value)[q]?)) (by kernel_rfl) hcL4 (fun hHeld => ?_)
              refine wpAnyH_take (i := 0) (oi := _) (v := .int .i64 ns.length) rfl (by kernel_rfl) (by kernel_rfl) (by kernel_rfl) (fun _ _ _ h => h) (Or.inl ⟨by rfl, ?_⟩) hHeld ?_
              · intro w hSw; go_simp
              try simp only [Act.put, List.setIfInBounds_toArray, List.set_cons_zero, List.set_cons_succ, List.getElem_toArray, List.getElem_cons_zero]
              refine wpAnyH_take (i := 1) (oi := _) (v := .int .i64 ns.length) rfl (by kernel_rfl) (by kernel_rfl) (by kernel_rfl) (fun _ _ _ h => h) (Or.inl ⟨by rfl, ?_⟩) hHeld ?_
              · intro w hSw; go_simp
              try simp only [Act.put, List.setIfInBounds_toArray, List.set_cons_zero, List.set_cons_succ, List.getElem_toArray, List.getElem_cons_zero, List.getElem_cons_succ]
              refine wpAnyH_take (i := 2) (oi := _) (v := .bool false) rfl (by kernel_rfl) (by kernel_rfl) (by kernel_rfl) (fun _ _ _ h => h) (Or.inl ⟨by rfl, ?_⟩) hHeld ?_
              · intro w hSw; go_simp
              try simp only [Act.put, List.setIfInBounds_toArray, List.set_cons_zero, List.set_cons_succ, List.getElem_toArray, List.getElem_cons_zero, List.getElem_cons_succ]
              refine wpAnyH_take (i := 3) (oi := _) (v := .bool false) rfl (by kernel_rfl) (by kernel_rfl) (by kernel_rfl) (fun _ _ _ h => h) (Or.inl ⟨by rfl, ?_⟩) hHeld ?_
              · intro w hSw; go_simp
              try simp only [Act.put, List.setIfInBounds_toArray, List.set_cons_zero, List.set_cons_succ, List.getElem_toArray, List.getElem_cons_zero, List.getElem_cons_succ]
              refine wpAnyH_take (i := 4) (oi := _) (v := .nilIface) rfl (by kernel_rfl) (by kernel_rfl) (by kernel_rfl) (fun _ _ _ h => h) (Or.inl ⟨by rfl, ?_⟩) hHeld ?_
              · intro w hSw; go_simp
              try simp only [Act.put, List.setIfInBounds_toArray, List.set_cons_zero, List.set_cons_succ, List.getElem_toArray, List.getElem_cons_zero, List.getElem_cons_succ]
              refine wpAnyH_take (i := 6) (oi := _) (v := .int .i64 0) rfl (by kernel_rfl) (by kernel_rfl) (by kernel_rfl) (fun _ _ _ h => h) (Or.inl ⟨by rfl, ?_⟩) hHeld ?_
              · intro w hSw; go_simp
              try simp only [Act.put, List.setIfInBounds_toArray, List.set_cons_zero, List.set_cons_succ, List.getElem_toArray, List.getElem_cons_zero, List.getElem_cons_succ]
              refine wpAnyH_ready (rs := [5]) (by kernel_rfl) (by simp) ?_
              refine AllReadyH.cons (o := _) rfl (fun K hK => ?_) AllReadyH.nil
              go_simp
              refine (KK.out _ (ext_drewN _ (Below.refl _ _))).mono ?_; rintro e w5 ⟨rfl, hb5⟩; have hbx := ext_trans (ext_drewN 1 (Below.refl _ w4)) hb5; have hkk : ∀ q, w5.cell? ⟨wr.heap.size, q, none⟩ = (#[Value.int .i64 up, .int .i64 val, .bool false] : Array Value)[q]? := fun q => (bcell1 hbx hzL4 q).trans (hcL4 q)
              go_wp2_with fail
              refine hK.out _ _ hkk (fun hHeld => ?_)
              clear hK K
              try simp only [Act.put, List.setIfInBounds_toArray, List.set_cons_zero, List.set_cons_succ, List.getElem_toArray, List.getElem_cons_zero, List.getElem_cons_succ]
              refine wpAnyH_take (i := 7) (oi := _) (v := .bool false) rfl (by kernel_rfl) (by kernel_rfl) (by kernel_rfl) (fun _ _ _ h => h) (Or.inl ⟨by rfl, ?_⟩) hHeld ?_
              · intro w hSw; go_simp
              try simp only [Act.put, List.setIfInBounds_toArray, List.set_cons_zero, List.set_cons_succ, List.getElem_toArray, List.getElem_cons_zero, List.getElem_cons_succ]
              refine wpAnyH_take (i := 8) (oi := _) (v := .bool false) rfl (by kernel_rfl) (by kernel_rfl) (by kernel_rfl) (fun _ _ _ h => h) (Or.inl ⟨by rfl, ?_⟩) hHeld ?_
              · intro w hSw; go_simp
              try simp only [Act.put, List.setIfInBounds_toArray, List.set_cons_zero, List.set_cons_succ, List.getElem_toArray, List.getElem_cons_zero, List.getElem_cons_succ]
              refine wpAnyH_take (i := 9) (oi := _) (v := .bool false) rfl (by kernel_rfl) (by kernel_rfl) (by kernel_rfl) (fun _ _ _ h => h) (Or.inl ⟨by rfl, ?_⟩) hHeld ?_
              · intro w hSw; go_simp
              try simp only [Act.put, List.setIfInBounds_toArray, List.set_cons_zero, List.set_cons_succ, List.getElem_toArray, List.getElem_cons_zero, List.getElem_cons_succ]
              refine wpAnyH_take (i := 10) (oi := _) (v := .nilIface) rfl (by kernel_rfl) (by kernel_rfl) (by kernel_rfl) (fun _ _ _ h => h) (Or.inl ⟨by rfl, ?_⟩) hHeld ?_
              · intro w hSw; go_simp
              try simp only [Act.put, List.setIfInBounds_toArray, List.set_cons_zero, List.set_cons_succ, List.getElem_toArray, List.getElem_cons_zero, List.getElem_cons_succ]
              refine wpAnyH_take (i := 11) (oi := _) (v := .bool false) rfl (by kernel_rfl) (by kernel_rfl) (by kernel_rfl) (fun _ _ _ h => h) (Or.inl ⟨by rfl, ?_⟩) hHeld ?_
              · intro w hSw; go_simp
              try simp only [Act.put, List.setIfInBounds_toArray, List.set_cons_zero, List.set_cons_succ, List.getElem_toArray, List.getElem_cons_zero, List.getElem_cons_succ]
              refine wpAnyH_take (i := 12) (oi := _) (v := .bool false) rfl (by kernel_rfl) (by kernel_rfl) (by kernel_rfl) (fun _ _ _ h => h) (Or.inl ⟨by rfl, ?_⟩) hHeld ?_
              · intro w hSw; go_simp
              try simp only [Act.put, List.setIfInBounds_toArray, List.set_cons_zero, List.set_cons_succ, List.getElem_toArray, List.getElem_cons_zero, List.getElem_cons_succ]
              refine wpAnyH_take (i := 13) (oi := _) (v := undef) rfl (by kernel_rfl) (by kernel_rfl) (by kernel_rfl) (fun _ _ _ h => h) (Or.inr ⟨by rfl, rfl⟩) hHeld ?_
              try simp only [Act.put, List.setIfInBounds_toArray, List.set_cons_zero, List.set_cons_succ, List.getElem_toArray, List.getElem_cons_zero, List.getElem_cons_succ]
              refine wpAnyH_take (i := 14) (oi := _) (v := undef) rfl (by kernel_rfl) (by kernel_rfl) (by kernel_rfl) (fun _ _ _ h => h) (Or.inr ⟨by rfl, rfl⟩) hHeld ?_
              try simp only [Act.put, List.setIfInBounds_toArray, List.set_cons_zero, List.set_cons_succ, List.getElem_toArray, List.getElem_cons_zero, List.getElem_cons_succ]
              refine wpAnyH_take (i := 15) (oi := _) (v := undef) rfl (by kernel_rfl) (by kernel_rfl) (by kernel_rfl) (fun _ _ _ h => h) (Or.inr ⟨by rfl, rfl⟩) hHeld ?_
              try simp only [Act.put, List.setIfInBounds_toArray, List.set_cons_zero, List.set_cons_succ, List.getElem_toArray, List.getElem_cons_zero, List.getElem_cons_succ]
              refine wpAnyH_take (i := 16) (oi := _) (v := undef) rfl (by kernel_rfl) (by kernel_rfl) (by kernel_rfl) (fun _ _ _ h => h) (Or.inr ⟨by rfl, rfl⟩) hHeld ?_
              try simp only [Act.put, List.setIfInBounds_toArray, List.set_cons_zero, List.set_cons_succ, List.getElem_toArray, List.getElem_cons_zero, List.getElem_cons_succ]
              refine wpAnyH_take (i := 17) (oi := _) (v := undef) rfl (by kernel_rfl) (by kernel_rfl) (by kernel_rfl) (fun _ _ _ h => h) (Or.inr ⟨by rfl, rfl⟩) hHeld ?_
              try simp only [Act.put, List.setIfInBounds_toArray, List.set_cons_zero, List.set_cons_succ, List.getElem_toArray, List.getElem_cons_zero, List.getElem_cons_succ]
              refine wpAnyH_take (i := 18) (oi := _) (v := .bool false) rfl (by kernel_rfl) (by kernel_rfl) (by kernel_rfl) (fun _ _ _ h => h) (Or.inl ⟨by rfl, ?_⟩) hHeld ?_
              · intro w hSw; go_simp
              try simp only [Act.put, List.setIfInBounds_toArray, List.set_cons_zero, List.set_cons_succ, List.getElem_toArray, List.getElem_cons_zero, List.getElem_cons_succ]
              refine wpAnyH_take (i := 19) (oi := _) (v := .bool false) rfl (by kernel_rfl) (by kernel_rfl) (by kernel_rfl) (fun _ _ _ h => h) (Or.inl ⟨by rfl, ?_⟩) hHeld ?_
              · intro w hSw; go_simp
              try simp only [Act.put, List.setIfInBounds_toArray, List.set_cons_zero, List.set_cons_succ, List.getElem_toArray, List.getElem_cons_zero, List.getElem_cons_succ]
              refine wpAnyH_done (by kernel_rfl) ?_ _
              refine NoPanic.normal ?_
              have HBX := Lib.hid hbx
              clear hbx hkk
              go_wp2
              go_meet
              exact HFIN.out _ HBX.out
            · obtain ⟨κ, KT, KM⟩ : ∃ κ : Int, Calls Tryd.prog 20 #[.pointer (some ⟨w1.heap.size, 0, none⟩), .int .i64 up, .int .i64 val] Wo (fun e w' => e = .returned (.tuple #[.int .i64 0, .iface 109 (.pointer (some ⟨Wo.heap.size, 0, none⟩))]) ∧ w' = Wo.alloc (.cells #[.int .i64 κ, .int .i64 up, .nilIface] 113)) ∧
                  ∀ W, RTreeAt W R vV vU vs us most → Calls Tryd.prog 21 #[.pointer (some ⟨R, 0, none⟩), .int .i64 up, .int .i64 val] W fun e w' => e = .returned (.tuple #[.int .i64 0, .int .i64 κ]) ∧ ∃ n, w' = W.drewN n := by
                by_cases hnm : (0 ≤ up ∧ up < ns.length) ∨ (ns.length = 0 ∧ up = -1)
                · have hmo : most ≤ (ns.length : Int) := by
                    by_cases h : most ≤ (ns.length : Int)
                    · exact h
                    · exact absurd ⟨hnm, by omega⟩ hok
                  refine ⟨15, add_many w1.heap.size v ns most Wo up val HAO.out.twin.t hnm hmo (by omega), fun W hW => radd_many R vV vU vs us most up val W hW ?_ (by omega)⟩
                  rcases hnm with h | h
                  · left; omega
                  · right; omega
                · have h1 : ¬ (0 ≤ up ∧ up < (ns.length : Int)) := fun h => hnm (.inl h)
                  have h2 : 0 < ns.length ∨ up ≠ -1 := by
                    by_cases h : 0 < ns.length
                    · exact .inl h
                    · exact .inr (fun e => hnm (.inr ⟨by omega, e⟩))
                  refine ⟨30, add_name w1.heap.size v ns most Wo up val HAO.out.twin.t h1 h2 (by omega), fun W hW => (radd_name R vV vU vs us most up val W hW (by omega) (by rcases h2 with h | h; exact .inl (by omega); exact .inr h)).mono fun e w' h => ⟨h.1, 0, h.2.symm⟩⟩
              obtain ⟨W3, hW3⟩ : ∃ W, Wo.alloc (.cells #[.int .i64 κ, .int .i64 up, .nilIface] 113) = W := ⟨_, rfl⟩
              have hbo3 : Below Wo.heap.size Wo W3 := by rw [← hW3]; exact ext_alloc (Below.refl _ _) _
              have hcL3 : ∀ q, W3.cell? ⟨wr.heap.size, q, none⟩ = (#[Value.int .i64 up, .int .i64 val, .bool false] : Array Value)[q]? := fun q => by rw [bcell1 hbo3 hzL]; exact hcL q
              have hzL3 : wr.heap.size < W3.heap.size := Nat.lt_of_lt_of_le hzL hbo3.size
              have hA3 := HAO.out.ext hbo3
              have hG3 : Glob W3 := (HG.out.ext HB1.out).ext hA3.below
              have hU3 : Rd (Own W3) W3 (.iface 109 (.pointer (some ⟨Wo.heap.size, 0, none⟩))) (errD 109 [(κ, up)]) := by rw [← hW3]; exact Rd.failed κ up Wo
              have KK : Hid (∀ W, Below W3.heap.size W3 W → Calls Tryd.prog 18 #[.iface 109 (.pointer (some ⟨Wo.heap.size, 0, none⟩))] W fun e w' => e = .returned (.int .i64 κ) ∧ Below W.heap.size W w') := Lib.hid (fun W hW => kind_any _ [(κ, up)] W (hG3.ext hW) (hU3.ext hW))
              have KA : Hid (∀ W, Below W3.heap.size W3 W → Calls Tryd.prog 19 #[.iface 109 (.pointer (some ⟨Wo.heap.size, 0, none⟩))] W fun e w' => e = .returned (.int .i64 up) ∧ Below W.heap.size W w') := Lib.hid (fun W hW => at_any _ [(κ, up)] W (hG3.ext hW) (hU3.ext hW))
              have HFIN : Hid (∀ W, Below W3.heap.size W3 W → ApC w1 w1.heap.size R most (j + 1) wr.heap.size up W) := Lib.hid (fun W hW => by
                refine ⟨_, _, _, _, _, _, _, (hA3.next (by omega)).ext hW, ?_, Nat.lt_of_lt_of_le hzL3 hW.size⟩
                rw [bcell1 hW hzL3]; exact hcL3 0)
              have HKM := Lib.hid (KM W3 hA3.twin.m)
              have HKT := Lib.hid KT; have HW3 := Lib.hid hW3
              clear hok hW3 hA3 hG3 hU3 hbo3 KT KM
              go_wp2_with fail
              refine HKT.out.mono ?_
              rintro e w3 ⟨rfl, rfl⟩
              go_wp2_with fail
              rw [HW3.out]
              refine HKM.out.mono ?_
              rintro e w4 ⟨rfl, nq, rfl⟩
              clear HW3
              go_wp2_with fail
              go_region_held3 (fun W => ∀ q, W.cell? ⟨wr.heap.size, q, none⟩ = (#[Value.int .i64 up, .int .i64 val, .bool false] : Array Value)[q]?) (first | assumption | exact hcL3) (first
                | (go_at_call 18; refine (KK.out _ (ext_drewN _ (Below.refl _ _))).mono ?_; rintro e w5 ⟨rfl, hb5⟩; have hbx := ext_trans (ext_drewN _ (Below.refl _ W3)) hb5; have hkk : ∀ q, w5.cell? ⟨wr.heap.size, q, none⟩ = (#[Value.int .i64 up, .int .i64 val, .bool false] : Array Value)[q]? := fun q => (bcell1 hbx hzL3 q).trans (hcL3 q))
                | (go_at_call 19; refine (KA.out _ (by assumption)).mono ?_; rintro e w6 ⟨rfl, hb6⟩; have hby := ext_trans (by assumption : Below W3.heap.size W3 _) hb6; have hkk : ∀ q, w6.cell? ⟨wr.heap.size, q, none⟩ = (#[Value.int .i64 up, .int .i64 val, .bool false] : Array Value)[q]? := fun q => (bcell1 hby hzL3 q).trans (hcL3 q)))
              rename_i hHeld
              have HBX := Lib.hid hby
              clear hHeld hby hkk
              go_wp2
              go_meet
              exact HFIN.out _ HBX.out
        case rest =>
          obtain ⟨v', ns', vV', vU', vs', us', ups', hA', hc0, hL'⟩ := hcut
          have hAP := hA'
          have hc0R := hA'.twin.m.cell0
          obtain ⟨aV', capV', rfl, _⟩ := aown_form hA'.twin.m.ownV
          have hll : vs'.length = ns'.length := by rw [hA'.twin.len, hA'.twin.nlen]
          have hnl' : ns'.length ≤ 1000 := by have := hA'.twin.nlen; have := hA'.le; omega
          have t9 : ((ns'.length : Int) != (vs'.length : Int)) = false := by rw [hll]; simp
          have q9 : IntKind.i64.wrap ((ns'.length : Int) - 1) = (ns'.length : Int) - 1 := IntWalk.i64_in _ (by omega)
          have KL := Lib.hid (fun W (hW : Below wc.heap.size wc W) => len_any w1.heap.size v' ns' most W (hA'.twin.t.below hW))
          have KS := Lib.hid (fun (q : Int) W (hW : Below wc.heap.size wc W) => same_any w1.heap.size R v' _ vU' ns' vs' us' most ups' q W (hA'.twin.below hW))
          have HAX := Lib.hid (fun W (hW : Below wc.heap.size wc W) => hA'.ext hW)
          have hRz := hA'.twin.m.lt
          have hkeep : Hid (∀ W, Below wc.heap.size wc W → W.cell? ⟨wr.heap.size, 0, none⟩ = some (.int .i64 up) ∧ W.cell? ⟨R, 0, none⟩ = some (.slice aV' vs'.length capV')) := Lib.hid (fun W hW => ⟨by rw [bcell1 hW hL']; exact hc0, by rw [bcell1 hW hRz]; exact hc0R⟩)
          have hS0 : wc.cell? ⟨wr.heap.size, 0, none⟩ = some (.int .i64 up) ∧ wc.cell? ⟨R, 0, none⟩ = some (.slice aV' vs'.length capV') := ⟨hc0, hc0R⟩
          clear hA' hAP hll hRz hnl' hnl hul hvl
          go_wp2_with fail
          go_region_held3 (fun W => W.cell? ⟨wr.heap.size, 0, none⟩ = some (.int .i64 up) ∧ W.cell? ⟨R, 0, none⟩ = some (.slice aV' vs'.length capV')) (first | assumption | exact hS0 | exact hkeep.out _ (by first | assumption | exact ext_drewN _ (Below.refl _ _))) (first
            | (go_at_call 22; refine (KL.out _ (by first | assumption | exact ext_drewN _ (Below.refl _ _))).mono ?_; rintro e w' ⟨rfl, rfl⟩)
            | (go_at_call 23; refine (KS.out _ _ (by first | assumption | exact ext_drewN _ (Below.refl _ _))).mono ?_; rintro e w5 ⟨rfl, hb5⟩; have hbx := ext_trans ((by first | assumption | exact ext_drewN _ (Below.refl _ _)) : Below wc.heap.size wc _) hb5))
          rename_i hHeld
          have HRL : Hid (ApL w1 w1.heap.size R most ops.length (.int .i64 (j + 1)) w5) := Lib.hid ⟨j + 1, _, _, _, _, _, _, _, by go_num, hlt, HAX.out _ hbx⟩
          clear hHeld hS0 hbx
          go_wp2
          refine ⟨?_, by simp [intOf] <;> omega⟩
          have R' := HRL.out
          first | exact R' | ((repeat apply Exists.intro); exact ⟨R', rfl⟩)
      · have t2 : decide ((j : Int) < (ops.length : Int)) = false := decide_eq_false (by omega)
        have t2' : decide (j < ops.length) = false := decide_eq_false hlt
        have HS := Lib.hid (same_any w1.heap.size R v vV vU ns vs us most ups 0 wr HAP.out.twin)
        have HBW := Lib.hid (ext_trans HB1.out HAP.out.below)
        clear hlt
        go_wp2_with fail
        refine HS.out.mono ?_
        rintro e w5 ⟨rfl, hb⟩
        have HF := Lib.hid (ext_trans HBW.out hb); clear hb
        go_wp2
        go_ret
        exact ⟨rfl, HF.out⟩
end Go.Proofs.YtmdalkjhlhkloaaDoor
