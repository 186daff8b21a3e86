/- The walk of PickRefused: the law itself. -/
import Derived.Test.YtjbbpmjbohedkaaDoorRef1
namespace Go.Proofs.YtjbbpmjbohedkaaDoor
open Go.RowKit
set_option maxRecDepth 100000 in
set_option maxHeartbeats 8000000 in
/-- The last comparison, at any error of the right chain. -/
theorem refused_same (v : Value) (c : List (Int × Int)) (k f : Int) (w : World) (h : Rd (Own w) w v (errD 86 c)) (he : refR c = rrefR k f) :
    (∀ W, Below w.heap.size w W → Calls Tryd.prog 23 #[v] W fun e w' => e = .returned (.agg #[.int .i64 1, .slice none 0 0, .int .i64 (rrefR k f)]) ∧ Below W.heap.size W w') ∧
    (∀ W, Calls Tryd.prog 24 #[.int .i64 k, .int .i64 f] W fun e w' => e = .returned (.agg #[.int .i64 1, .slice none 0 0, .int .i64 (rrefR k f)]) ∧ Below W.heap.size W w') ∧
    (∀ W, Calls Tryd.prog 13 #[.agg #[.int .i64 1, .slice none 0 0, .int .i64 (rrefR k f)], .agg #[.int .i64 1, .slice none 0 0, .int .i64 (rrefR k f)]] W fun e w' => e = .returned (.bool true) ∧ Below W.heap.size W w') := by
  refine ⟨fun W hW => ?_, fun W => rrefused_any k f W, fun W => ?_⟩
  · have := refused_any v c W (h.ext hW) (fun _ h => h)
    rwa [he] at this
  · have := same_any (.slice none 0 0) (.slice none 0 0) [] [] 1 (rrefR k f) 1 (rrefR k f) W (.list0 _ _ _ (fun _ => rfl)) (.list0 _ _ _ (fun _ => rfl)) (by simp)
    rwa [show sameB 1 [] (rrefR k f) 1 [] (rrefR k f) = true from decide_eq_true ⟨rfl, rfl, rfl⟩] at this
set_option maxRecDepth 100000 in
set_option maxHeartbeats 8000000 in
theorem pickRefused_any (k i a : Int) (d : Bool) (w : World) (ht : Tables w) (h2 : 2 ≤ w.heap.size) :
    Calls Tryd.prog 7 #[.int .i64 k, .int .i64 i, .int .i64 a, .bool d] w fun e w' => e = .returned (.bool true) ∧ Below w.heap.size w w' := by
  cases d with
  | false =>
    go_enter Tryd.func7, Tryd.ntmps7
    go_wp2_with fail
    refine (speaks28 _ ht h2).mono ?_
    rintro e w1 ⟨rfl, hb1⟩
    have HB1 := Lib.hid hb1; clear hb1
    go_wp2_with fail
    refine (fail_any k a _).mono ?_
    rintro e w2 ⟨rfl, hw2⟩
    have r := Rd.failed k a w1
    rw [← hw2] at r
    have hb2 : Below w1.heap.size w1 w2 := by rw [hw2]; exact ext_alloc (Below.refl _ _) _
    obtain ⟨R1, R2, R3⟩ := refused_same _ _ k 0 w2 r (ref_eq1 k a)
    have H1 := Lib.hid R1; have H2 := Lib.hid R2; have H3 := Lib.hid R3; have HB2 := Lib.hid (ext_trans HB1.out hb2)
    clear R1 R2 R3 hb2 hw2 r
    go_wp2_with fail
    refine (H1.out _ (Below.refl _ _)).mono ?_
    rintro e w3 ⟨rfl, hb3⟩
    have HB3 := Lib.hid hb3; clear hb3
    go_wp2_with fail
    refine (H2.out _).mono ?_
    rintro e w4 ⟨rfl, hb4⟩
    have HB4 := Lib.hid hb4; clear hb4
    go_wp2_with fail
    refine (H3.out _).mono ?_
    rintro e w5 ⟨rfl, hb5⟩
    have HB5 := Lib.hid hb5; clear hb5
    go_wp2
    go_ret
    exact ⟨rfl, ext_trans HB2.out (ext_trans HB3.out (ext_trans HB4.out HB5.out))⟩
  | true =>
    go_enter Tryd.func7, Tryd.ntmps7
    go_wp2_with fail
    refine (speaks28 _ ht h2).mono ?_
    rintro e w1 ⟨rfl, hb1⟩
    have HB1 := Lib.hid hb1; clear hb1
    go_wp2_with fail
    refine (fail_any k a _).mono ?_
    rintro e wa ⟨rfl, hwa⟩
    have hba : Below w1.heap.size w1 wa := by rw [hwa]; exact ext_alloc (Below.refl _ _) _
    have HBA := Lib.hid hba; clear hba hwa
    go_wp2_with fail
    refine (fail_any i 0 _).mono ?_
    rintro e wb ⟨rfl, hwb⟩
    have rb := Rd.failed i 0 wa
    rw [← hwb] at rb
    have hbb : Below wa.heap.size wa wb := by rw [hwb]; exact ext_alloc (Below.refl _ _) _
    have RB := Lib.hid rb; have HBB := Lib.hid hbb; clear rb hbb hwb
    go_wp2_with fail
    refine (wrap_any k a _ _ _ RB.out).mono ?_
    rintro e w2 ⟨rfl, hw2⟩
    have r := Rd.fault (k := k) (a := a) RB.out
    rw [← hw2] at r
    have hb2 : Below w1.heap.size w1 w2 := by rw [hw2]; exact ext_alloc (ext_trans HBA.out HBB.out) _
    obtain ⟨R1, R2, R3⟩ := refused_same _ _ k i w2 r (ref_eq2 k a i 0)
    have H1 := Lib.hid R1; have H2 := Lib.hid R2; have H3 := Lib.hid R3; have HB2 := Lib.hid (ext_trans HB1.out hb2)
    clear R1 R2 R3 hb2 hw2 r
    go_wp2_with fail
    refine (H1.out _ (Below.refl _ _)).mono ?_
    rintro e w3 ⟨rfl, hb3⟩
    have HB3 := Lib.hid hb3; clear hb3
    go_wp2_with fail
    refine (H2.out _).mono ?_
    rintro e w4 ⟨rfl, hb4⟩
    have HB4 := Lib.hid hb4; clear hb4
    go_wp2_with fail
    refine (H3.out _).mono ?_
    rintro e w5 ⟨rfl, hb5⟩
    have HB5 := Lib.hid hb5; clear hb5
    go_wp2
    go_ret
    exact ⟨rfl, ext_trans HB2.out (ext_trans HB3.out (ext_trans HB4.out HB5.out))⟩
end Go.Proofs.YtjbbpmjbohedkaaDoor
