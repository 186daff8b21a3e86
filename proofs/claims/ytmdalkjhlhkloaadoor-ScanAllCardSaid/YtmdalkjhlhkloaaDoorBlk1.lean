/- The law ScanBlanks: the walk. -/
import Derived.Test.YtmdalkjhlhkloaaDoorScan9
import Derived.Test.YtmdalkjhlhkloaaDoorScanSh
import Derived.Test.YtmdalkjhlhkloaaDoorScanLe
import Derived.LoopN
import Derived.Deep.DeepCutAuto
namespace Go.Proofs.YtmdalkjhlhkloaaDoor
open Go.RowKit
theorem elByte : ElemTy Tryd.prog 45 5 1 1 (.int .u8 0) := ⟨Tryd.underlying45, by kernel_rfl, rfl, by decide⟩
def byV (B : ByteArray) : List Value := B.data.toList.map fun x => Value.int .u8 (x.toNat : Nat)
def byD (B : ByteArray) : List Dat := B.data.toList.map fun x => Dat.int .u8 (x.toNat : Nat)
theorem bytesDB_eq (B : ByteArray) : bytesDB B = .list 1 (byD B) := rfl
theorem byV_rds {S : Nat → Prop} {w : World} (B : ByteArray) : Rds S w (byV B) (byD B) :=
  ⟨by simp [byV, byD], fun i u d hu hd => by
    simp only [byV, byD, List.getElem?_map, Option.map_eq_some_iff] at hu hd
    obtain ⟨x, hx, rfl⟩ := hu
    obtain ⟨y, hy, rfl⟩ := hd
    rw [hx] at hy; cases hy; exact .int _ _⟩
theorem byD_app (P B : ByteArray) : byD (P ++ B) = byD P ++ byD B := by simp [byD, ByteArray.data_append]
theorem byD_length (B : ByteArray) : (byD B).length = B.size := by simp [byD]
theorem byV_push (P : ByteArray) (x : UInt8) : byV (P.push x) = byV P ++ [.int .u8 (x.toNat : Nat)] := by simp [byV, ByteArray.push]
theorem size_push (P : ByteArray) (x : UInt8) : (P.push x).size = P.size + 1 := by
  show (P.data.push x).size = P.data.size + 1
  exact Array.size_push _
set_option maxRecDepth 100000 in
theorem and3 : ∀ X : Fin 256, bits .and .u8 ((X.val : Nat) : Int) 3 = ((X.val % 4 : Nat) : Int) := by decide
theorem byteAt_push_lt (P : ByteArray) (x : UInt8) (i : Nat) (h : i < P.size) : byteAt (P.push x) i = byteAt P i := by
  have h' : i < P.data.size := h
  unfold byteAt ByteArray.push
  simp only
  rw [Array.getElem?_push_lt h', Array.getElem?_eq_getElem h']
theorem byteAt_push_eq (P : ByteArray) (x : UInt8) : byteAt (P.push x) P.size = x.toNat := by
  unfold byteAt ByteArray.push
  show ((P.data.push x)[P.data.size]?.getD 0).toNat = _
  rw [Array.getElem?_push_size]; rfl
def BkRel (n : Nat) (W : World) (v k : Value) (wr : World) : Prop := ∃ (j : Nat) (P : ByteArray), k = .int .i64 j ∧ j ≤ n ∧ P.size = j ∧ wr.ownsRow W.heap.size 5 1 v P.size (byV P) ∧ Below W.heap.size W wr ∧ ∀ i, i < P.size → isBlank (byteAt P i) = true
theorem bk_step {n : Nat} {W w2 : World} {j : Nat} {P : ByteArray} {v2 : Value} {x : UInt8} (hj : j < n) (hP : P.size = j) (ho : w2.ownsRow W.heap.size 5 1 v2 (P.size + 1) (byV P ++ [.int .u8 (x.toNat : Nat)])) (hb : Below W.heap.size W w2) (hbl : ∀ i, i < P.size → isBlank (byteAt P i) = true) (hx : isBlank x.toNat = true) : BkRel n W v2 (.int .i64 (j + 1)) w2 := by
  refine ⟨j + 1, P.push x, by go_num, by omega, by rw [size_push, hP], by rw [size_push, byV_push]; exact ho, hb, fun i hi => ?_⟩
  rw [size_push] at hi
  by_cases e : i < P.size
  · rw [byteAt_push_lt P x i e]; exact hbl i e
  · obtain rfl : i = P.size := by omega
    rw [byteAt_push_eq]; exact hx
theorem ys_eq {S : Nat → Prop} {w : World} {ys : List Value} {B : ByteArray} (h : Rds S w ys (byD B)) : ys = byV B := by
  apply List.ext_getElem?
  intro i
  by_cases hi : i < ys.length
  · have hi2 : i < (byD B).length := by rw [← h.1]; exact hi
    have := h.2 i ys[i] (byD B)[i] (List.getElem?_eq_getElem hi) (List.getElem?_eq_getElem hi2)
    have hb : i < B.data.toList.length := by simpa [byD] using hi2
    have e1 : (byD B)[i] = Dat.int .u8 ((B.data.toList[i]).toNat : Nat) := by simp [byD]
    rw [e1] at this
    rw [List.getElem?_eq_getElem hi, this.int_inv, byV, List.getElem?_map, List.getElem?_eq_getElem hb]; rfl
  · rw [List.getElem?_eq_none (by omega), List.getElem?_eq_none (by have := h.1; simp only [byV, List.length_map, byD] at *; omega)]
set_option maxRecDepth 100000 in
set_option maxHeartbeats 16000000 in
theorem scanBlanks_any (v1 v2 : Value) (B L : ByteArray) (w : World) (he : ScEnv w) (hg : Glob w) (h1 : Rd (Own w) w v1 (bytesDB B)) (h2 : Rd (Own w) w v2 (bytesDB L)) (_hmx : B.size ≤ maxLen) (_hmy : L.size ≤ maxLen) :
    Calls Tryd.prog 7 #[v1, v2] w fun e w' => e = .returned (.bool true) ∧ Below w.heap.size w w' := by
  obtain ⟨a1, c1, rfl, _, _, _⟩ := h1.by_inv
  obtain ⟨a2, c2, rfl, _, _, _⟩ := h2.by_inv
  have SP := Lib.hid (speaks06 w he)
  have HE := Lib.hid he; have HG := Lib.hid hg; have H1 := Lib.hid h1; have H2 := Lib.hid h2
  clear he hg h1 h2
  by_cases hbig : 2000 < B.size ∨ 200 < L.size
  · have q : decide ((2000 : Int) < (B.size : Int)) = true ∨ (decide ((2000 : Int) < (B.size : Int)) = false ∧ decide ((200 : Int) < (L.size : Int)) = true) := by
      by_cases h : 2000 < B.size
      · exact .inl (decide_eq_true (by omega))
      · exact .inr ⟨decide_eq_false (by omega), decide_eq_true (by omega)⟩
    clear hbig
    rcases q with q | ⟨q, q2⟩
    all_goals
      go_enter Tryd.func7, Tryd.ntmps7
      go_wp2_with fail
      refine SP.out.mono ?_
      rintro e w1 ⟨rfl, hb⟩
      have HB := Lib.hid hb; clear hb
      go_wp2
      go_ret
      exact ⟨rfl, HB.out⟩
  · have t1 : decide ((2000 : Int) < (B.size : Int)) = false := decide_eq_false (by omega)
    have t2 : decide ((200 : Int) < (L.size : Int)) = false := decide_eq_false (by omega)
    have hB : B.size ≤ 2000 := by omega
    have hL : L.size ≤ 200 := by omega
    clear hbig
    go_enter Tryd.func7, Tryd.ntmps7
    go_wp2_with fail
    refine SP.out.mono ?_
    rintro e w1 ⟨rfl, hb⟩
    have HB := Lib.hid hb; clear hb
    go_wp2_with fail
    have R0 : BkRel L.size w1 (.slice (some ⟨w1.heap.size, 0, none⟩) 0 0) (.int .i64 0) (w1.alloc (.cells #[] 5)) := by
      refine ⟨0, ByteArray.empty, rfl, Nat.zero_le _, rfl, ?_, ext_alloc (Below.refl _ _) _, fun i hi => by simp at hi⟩
      have := World.ownsRow_lit (base := w1.heap.size) (e := 5) (size := 1) w1 #[] 0 (Nat.le_refl _) (by decide) rfl
      simpa [byV] using this
    have HR0 := Lib.hid R0
    clear R0
    go_loopw [5, 25] (BkRel L.size w1) (fun _ k _ => L.size - (intOf k).toNat)
    case atStart => exact HR0.out
    case round =>
      obtain ⟨j, P, rfl, hj, hP, ho, hb, hbl⟩ := hrel
      by_cases hlt : j < L.size
      · have hr2 := (H2.out.ext HB.out).ext hb
        obtain ⟨a', c', e1, _, _, hc⟩ := hr2.by_inv
        cases e1
        obtain ⟨b, off, rfl, _, x0⟩ := hc (by omega)
        have x1 := x0 j hlt
        have hbl2 := byteAt_lt L j
        obtain ⟨ao, cap, rfl, _⟩ := aown_form ho
        have HO := Lib.hid ho; have HBB := Lib.hid hb; have HBL := Lib.hid hbl; have HP := Lib.hid hP
        clear ho hb hbl hr2 hc x0 hP
        have hm4 : ∃ m : Nat, m < 4 ∧ bits .and .u8 (byteAt L j : Int) 3 = (m : Int) := ⟨byteAt L j % 4, Nat.mod_lt _ (by decide), and3 ⟨byteAt L j, hbl2⟩⟩
        obtain ⟨m, hm, hbits⟩ := hm4
        have hPj : P.size ≤ 200 := by have := HP.out; omega
        have hm' : m = 0 ∨ m = 1 ∨ m = 2 ∨ m = 3 := by omega
        clear hm
        rcases hm' with rfl | rfl | rfl | rfl
        all_goals
          go_wp2_with (at_builtin; refine wpList_app1 wr _ _ rfl _ _ 45 rfl w1.heap.size elByte _ _ _ rfl HO.out rfl rfl ?c1 ?c2 ?c3 ?c4 ?_)
          case c1 => first | rfl | (intro u hu; simp at hu; subst hu; rfl)
          case c2 => simp [maxLen]; omega
          case c3 => omega
          case c4 => exact HBB.out.size
          intro v2 w2 ho2 hg2
          have hb2 : Below w1.heap.size w1 w2 := (ext_alloc HBB.out _).grown hg2 (ext_alloc HBB.out _).size (fun q hq => (HO.out.lt q hq).1)
          have R := bk_step hlt HP.out ho2 hb2 HBL.out (by decide)
          have HRR := Lib.hid R
          clear R ho2 hg2 hb2
          go_wp2
          refine ⟨?_, by simp [intOf] <;> omega⟩
          have R := HRR.out
          first | exact R | ((repeat apply Exists.intro); exact ⟨R, rfl⟩)
      · obtain rfl : j = L.size := by omega
        have hb1 := ext_trans HB.out hb
        have hr1 := H1.out.ext hb1
        have N1 := Lib.hid (next_any _ B 0 wr hr1 (HE.out.ext hb1) (by omega))
        have sh := next_blanks P B hbl
        have hPs : P.size ≤ 200 := by omega
        obtain ⟨ao, cap, rfl, _⟩ := aown_form ho
        have hown0 : ∀ g, (Value.slice ao P.size cap).ownBlock = some g → w1.heap.size ≤ g ∧ g < wr.heap.size := fun g hg => ho.lt g hg
        have HO := Lib.hid ho; have HBB := Lib.hid hb; have HP := Lib.hid hP; have HSH := Lib.hid sh; have HB1 := Lib.hid hb1; have HOW := Lib.hid hown0
        clear ho hb hbl hP sh hb1 hr1 hown0
        go_wp2_with fail
        refine N1.out.mono ?_
        intro e w2 hsc
        cases hx : nextI B 0 with
        | no k i =>
          rw [hx] at hsc
          obtain ⟨u1, rfl, hf1⟩ := hsc
          have hsh := HSH.out
          rw [hx] at hsh
          obtain ⟨W3, hW3⟩ : ∃ W, w2.alloc (.cells #[.int .i64 0, .int .i64 0, .int .i64 0] 50) = W := ⟨_, rfl⟩
          have hb23 : Below w2.heap.size w2 W3 := by rw [← hW3]; exact ext_alloc (Below.refl _ _) _
          have hb13 : Below w1.heap.size w1 W3 := ext_trans HBB.out (ext_trans hf1.2 hb23)
          have ho3 : W3.ownsRow w1.heap.size 5 1 (.slice ao P.size cap) P.size (byV P) := aown_ext HO.out (fun g hg => (ext_trans hf1.2 hb23).block g (HOW.out g hg).2) (Nat.le_refl _)
          have hr3 : Rd (Own W3) W3 (.slice a1 B.size c1) (.list 1 (byD B)) := H1.out.ext (ext_trans HB.out hb13)
          have hu3 : Rd (Fresh wr W3) W3 _ (errD 109 [((k : Int), i)]) := hf1.1.mono (fun b hb => hb23.block b hb.2) (fun b hb => ⟨hb.1, Nat.lt_of_lt_of_le hb.2 hb23.size⟩)
          have HX := Lib.hid hx
          have HO3 := Lib.hid ho3; have HR3 := Lib.hid hr3; have HB13 := Lib.hid hb13; have HU3 := Lib.hid hu3; have HS2 := Lib.hid hsh
          have hz3 : wr.heap.size ≤ W3.heap.size := (ext_trans hf1.2 hb23).size
          have HW3 := Lib.hid hW3
          clear ho3 hr3 hb13 hu3 hf1 hb23 hx hsh hW3
          go_upto_region 12 with (fail)
          rw [HW3.out]
          go_wp2_with (at_builtin; refine wpList_appD W3 rfl _ _ 45 rfl w1.heap.size elByte _ _ _ rfl HO3.out _ rfl _ B.size HR3.out ?c1 ?c2 ?c3 ?c4 ?_)
          case c1 => simp [byD]
          case c2 => simp [maxLen]; omega
          case c3 => omega
          case c4 => exact HB13.out.size
          intro v4 w4 ys ho4 hys hg4
          have hys' := ys_eq hys
          subst hys'
          have hb34 : Below w1.heap.size W3 w4 := (Below.refl _ _).grown hg4 HB13.out.size (fun q hq => (HOW.out q hq).1)
          have hb14 : Below w1.heap.size w1 w4 := HB13.out.trans hb34
          have hr4 : Rd (Own w4) w4 v4 (bytesDB (P ++ B)) := by
            rw [bytesDB_eq, byD_app]
            exact rd_owned ho4 ((byV_rds P).append (byV_rds B)) (fun g hg => (ho4.lt g hg).2)
          have N2 := next_any _ (P ++ B) 0 w4 hr4 (HE.out.ext (ext_trans HB.out hb14)) (by rw [ByteArray.size_append]; omega)
          rw [HS2.out] at N2
          obtain ⟨ao4, cap4, rfl, _⟩ := aown_form ho4
          have hpb : (P ++ B).size = P.size + B.size := ByteArray.size_append
          have HN2 := Lib.hid N2; have HB14 := Lib.hid hb14; have HB34 := Lib.hid hb34
          have hu4 : Rd (Own w4) w4 _ (errD 109 [((k : Int), i)]) := HU3.out.mono (fun b hb => hg4.block b hb.2 (fun e => by have := HOW.out b e.symm; have := hb.1; omega)) (fun b hb => Nat.lt_of_lt_of_le hb.2 hg4.size)
          have HU4 := Lib.hid hu4
          have hile := leB_nextI (B := B) k i HX.out
          obtain ⟨hi0, hi1⟩ := hile
          clear hu4 N2 hb14 hb34 hr4 ho4 hys hg4 hpb
          go_wp2_with fail
          refine HN2.out.mono ?_
          rintro e w5 ⟨u2, rfl, hf2⟩
          have hu5 := HU4.out.ext hf2.2
          have hu2 : Rd (Own w5) w5 _ (errD 109 [((k : Int), ((P.size : Nat) : Int) + i)]) := hf2.1.wide (fun b hb => hb.2)
          have hb5 : Below w.heap.size w w5 := ext_trans HB.out (HB14.out.trans (hf2.2.mono HB14.out.size))
          have HU5 := Lib.hid hu5; have HU2 := Lib.hid hu2; have HB5 := Lib.hid hb5
          have hz1 : W3.heap.size ≤ w4.heap.size := HB34.out.size
          clear hf2 hu5 hu2 hb5
          have bx := ext_alloc (Below.refl w5.heap.size w5) (.cells #[.int .i64 0, .int .i64 0, .int .i64 0] 50)
          have BX := Lib.hid bx; clear bx
          go_wp2_with fail
          refine (kind_any _ [((k : Int), ((P.size : Nat) : Int) + i)] _ (HG.out.ext (ext_trans HB5.out BX.out)) (HU2.out.ext BX.out)).mono ?_
          rintro e w6 ⟨rfl, hb⟩
          rw [show kindI [((k : Int), ((P.size : Nat) : Int) + i)] = (k : Int) from rfl]
          have B6 := Lib.hid (ext_trans BX.out hb); clear hb
          go_wp2_with fail
          refine (kind_any _ [((k : Int), i)] _ (HG.out.ext (ext_trans HB5.out B6.out)) (HU5.out.ext B6.out)).mono ?_
          rintro e w7 ⟨rfl, hb⟩
          rw [show kindI [((k : Int), i)] = (k : Int) from rfl]
          have B7 := Lib.hid (ext_trans B6.out hb); clear hb
          have tk : ((k : Int) == (k : Int)) = true := beq_self_eq_true _
          go_wp2_with fail
          refine (at_any _ [((k : Int), ((P.size : Nat) : Int) + i)] _ (HG.out.ext (ext_trans HB5.out B7.out)) (HU2.out.ext B7.out)).mono ?_
          rintro e w8 ⟨rfl, hb⟩
          rw [show atI [((k : Int), ((P.size : Nat) : Int) + i)] = ((P.size : Nat) : Int) + i from rfl]
          have B8 := Lib.hid (ext_trans B7.out hb); clear hb
          go_wp2_with fail
          refine (at_any _ [((k : Int), i)] _ (HG.out.ext (ext_trans HB5.out B8.out)) (HU5.out.ext B8.out)).mono ?_
          rintro e w9 ⟨rfl, hb⟩
          rw [show atI [((k : Int), i)] = i from rfl]
          have B9 := Lib.hid (ext_trans HB5.out (ext_trans B8.out hb)); clear hb
          have ta : (((P.size : Nat) : Int) + i == i + ((P.size : Nat) : Int)) = true := beq_iff_eq.2 (by omega)
          go_wp2
          go_ret
          exact ⟨rfl, B9.out⟩
        | ok t =>
          have hxs : nextS B 0 = .ok t := by
            have := hx
            unfold nextI at this
            rwa [if_neg (by omega)] at this
          obtain ⟨k, f, e2, rfl, q1, q2, q3, _⟩ := nextS_ok (Nat.zero_le _) hxs
          rw [hx] at hsc
          obtain ⟨rfl, hb12⟩ := hsc
          have hsh := HSH.out
          rw [hx] at hsh
          obtain ⟨W3, hW3⟩ : ∃ W, w2.alloc (.cells #[.int .i64 k, .int .i64 f, .int .i64 e2] 50) = W := ⟨_, rfl⟩
          have hb23 : Below w2.heap.size w2 W3 := by rw [← hW3]; exact ext_alloc (Below.refl _ _) _
          have hb13 : Below w1.heap.size w1 W3 := ext_trans HBB.out (ext_trans hb12 hb23)
          have ho3 : W3.ownsRow w1.heap.size 5 1 (.slice ao P.size cap) P.size (byV P) := aown_ext HO.out (fun g hg => (ext_trans hb12 hb23).block g (HOW.out g hg).2) (Nat.le_refl _)
          have hr3 : Rd (Own W3) W3 (.slice a1 B.size c1) (.list 1 (byD B)) := H1.out.ext (ext_trans HB.out hb13)
          have hc3 : ∀ o, W3.cell? ⟨w2.heap.size, o, none⟩ = #[Value.int .i64 k, .int .i64 f, .int .i64 e2][o]? := fun o => by rw [← hW3]; simp
          have hz23 : w2.heap.size < W3.heap.size := by rw [← hW3]; simp
          have hzr2 : wr.heap.size ≤ w2.heap.size := hb12.size
          have HO3 := Lib.hid ho3; have HR3 := Lib.hid hr3; have HB13 := Lib.hid hb13; have HS2 := Lib.hid hsh; have HC3 := Lib.hid hc3
          have HW3 := Lib.hid hW3
          unfold tokV
          clear ho3 hr3 hb13 hb23 hx hsh hW3 hxs hc3 hb12
          go_upto_region 12 with (fail)
          rw [HW3.out]
          go_wp2_with (at_builtin; refine wpList_appD W3 rfl _ _ 45 rfl w1.heap.size elByte _ _ _ rfl HO3.out _ rfl _ B.size HR3.out ?c1 ?c2 ?c3 ?c4 ?_)
          case c1 => simp [byD]
          case c2 => simp [maxLen]; omega
          case c3 => omega
          case c4 => exact HB13.out.size
          intro v4 w4 ys ho4 hys hg4
          have hys' := ys_eq hys
          subst hys'
          have hb34 : Below w1.heap.size W3 w4 := (Below.refl _ _).grown hg4 HB13.out.size (fun q hq => (HOW.out q hq).1)
          have hb14 : Below w1.heap.size w1 w4 := HB13.out.trans hb34
          have hr4 : Rd (Own w4) w4 v4 (bytesDB (P ++ B)) := by
            rw [bytesDB_eq, byD_app]
            exact rd_owned ho4 ((byV_rds P).append (byV_rds B)) (fun g hg => (ho4.lt g hg).2)
          have N2 := next_any _ (P ++ B) 0 w4 hr4 (HE.out.ext (ext_trans HB.out hb14)) (by rw [ByteArray.size_append]; omega)
          rw [HS2.out] at N2
          obtain ⟨ao4, cap4, rfl, _⟩ := aown_form ho4
          have hpb : (P ++ B).size = P.size + B.size := ByteArray.size_append
          have HN2 := Lib.hid N2; have HB14 := Lib.hid hb14; have HB34 := Lib.hid hb34
          have hc4 : ∀ o, w4.cell? ⟨w2.heap.size, o, none⟩ = #[Value.int .i64 k, .int .i64 f, .int .i64 e2][o]? := fun o => by
            rw [hg4.cell_far ⟨w2.heap.size, o, none⟩ hz23 (fun e => by have h := (HOW.out _ e.symm).2; simp at h; omega)]; exact HC3.out o
          have HC4 := Lib.hid hc4
          have hz34 : W3.heap.size ≤ w4.heap.size := hg4.size
          clear hc4 N2 hb14 hb34 hr4 ho4 hys hg4 hpb
          go_wp2_with fail
          refine HN2.out.mono ?_
          rintro e w5 ⟨rfl, hb45⟩
          have hc5 : ∀ o, w5.cell? ⟨w2.heap.size, o, none⟩ = #[Value.int .i64 k, .int .i64 f, .int .i64 e2][o]? := fun o => by
            rw [bcell1 hb45 (b := w2.heap.size) (by omega)]; exact HC4.out o
          have hz45 : w4.heap.size ≤ w5.heap.size := hb45.size
          have hb5 : Below w.heap.size w w5 := ext_trans HB.out (HB14.out.trans (hb45.mono HB14.out.size))
          have HB5 := Lib.hid hb5
          have ta : (((P.size : Nat) : Int) + ((f : Nat) : Int) == ((f : Nat) : Int) + ((P.size : Nat) : Int)) = true := beq_iff_eq.2 (by omega)
          have tb : (((P.size : Nat) : Int) + ((e2 : Nat) : Int) == ((e2 : Nat) : Int) + ((P.size : Nat) : Int)) = true := beq_iff_eq.2 (by omega)
          have tk : ((k : Int) == (k : Int)) = true := beq_self_eq_true _
          have hlt2 : w2.heap.size < w5.heap.size := by omega
          unfold tokV
          clear hb45 hb5
          go_wp2
          go_ret
          exact ⟨rfl, ext_alloc HB5.out _⟩
end Go.Proofs.YtmdalkjhlhkloaaDoor
