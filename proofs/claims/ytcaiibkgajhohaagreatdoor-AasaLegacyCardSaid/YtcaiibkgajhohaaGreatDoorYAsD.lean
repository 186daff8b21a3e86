/- Texts put together. -/
import Derived.Test.YtcaiibkgajhohaaGreatDoorYAsCf
import Derived.Test.YtcaiibkgajhohaaGreatDoorYAppAt0f
import Derived.Test.YtcaiibkgajhohaaGreatDoorYJrP0sf
import Derived.Test.YtcaiibkgajhohaaGreatDoorZShelf
namespace Go.Proofs.YtcaiibkgajhohaaGreatDoor
open Go.RowKit
def pcC (p : Pc) : List Value := [.string p.text, .bool p.var, .int .i64 p.at_]
theorem elPc : ElemTy Tryz.prog 294 298 3 32 (.agg #[.string ⟨#[]⟩, .bool false, .int .i64 0]) := ⟨Tryz.underlying294, by kernel_rfl, rfl, by decide⟩
theorem ix_room {s : ByteArray} {i m : Nat} (h : ixOpen s i = (m : Nat)) (hi : i ≤ s.size) : i + m + 2 ≤ s.size := by
 have h1 := Go.Lib.index_room (s.extract i s.size).data.toList [36, 40] (by unfold ixOpen at h; omega)
 unfold ixOpen at h
 rw [h] at h1
 have h2 : (s.extract i s.size).data.toList.length = s.size - i := by
  show (s.extract i s.size).size = _
  rw [ByteArray.size_extract]; omega
 rw [h2] at h1
 simp only [List.length_cons, List.length_nil] at h1
 omega
theorem cut_room {s : ByteArray} {i : Nat} (h : (cutShut s i).2.2 = true) (hi : i ≤ s.size) : i + (cutShut s i).1.length + 1 ≤ s.size := by
 unfold cutShut Go.Lib.cut at h ⊢
 split at h
 · rename_i h0
   have h1 := Go.Lib.index_room (s.extract i s.size).data.toList [41] h0
   have h2 : (s.extract i s.size).data.toList.length = s.size - i := by
    show (s.extract i s.size).size = _
    rw [ByteArray.size_extract]; omega
   rw [if_pos h0, List.length_take]
   rw [h2] at h1
   simp only [List.length_cons, List.length_nil] at h1
   omega
 · cases h
/-- The places of the parts lie in the text. -/
def PcRel (s : ByteArray) (R : List Pc × Int) (w : World) (v k : Value) (wr : World) : Prop := ∃ (i f : Nat) (acc : List Pc), k = .int .i64 i ∧ i ≤ s.size ∧ acc.length ≤ i ∧ wr.ownsRow w.heap.size 298 3 v acc.length (acc.flatMap pcC) ∧ Below w.heap.size w wr ∧ s.size < i + f ∧ pcF f s i acc = R
/-- What subst.pieces leaves. -/
def PcPost (w : World) (R : List Pc × Int) (e : Ending) (w' : World) : Prop := ∃ v, e = .returned (.tuple #[v, .int .i64 R.2]) ∧ w'.ownsRow w.heap.size 298 3 v R.1.length (R.1.flatMap pcC) ∧ Below w.heap.size w w' ∧ R.1.length ≤ 1100000
theorem own_eq {w : World} {base : Nat} {e : TypeId} {v : Value} {acc' : List Pc} {xs : List Value} {n : Nat} (h : w.ownsRow base e 3 v n xs) (hn : n = acc'.length) (hx : xs = acc'.flatMap pcC) : w.ownsRow base e 3 v acc'.length (acc'.flatMap pcC) := by rw [← hn, ← hx]; exact h
set_option maxRecDepth 100000 in
set_option maxHeartbeats 8000000 in
/-- subst.pieces -/
theorem spieces_any (s : ByteArray) (w : World) (hM : MaxT w) (hs : s.size ≤ 1100000) : Calls Tryz.prog 192 #[.string s] w (PcPost w (piecesB s)) := by
 obtain ⟨R, hR⟩ : ∃ R, piecesB s = R := ⟨_, rfl⟩
 have IX := Lib.hid (fun (i : Nat) (x : ByteArray) (hx : s.extract i s.size = x) (W : World) (hW : MaxT W) => by
  obtain ⟨_, m, hm⟩ := hW
  have h0 : x.size ≤ s.size := by rw [← hx, ByteArray.size_extract]; omega
  have h := Tryz.strings_Index x ⟨#[36, 40]⟩ m W (by omega) hm
  rw [← hx] at h
  exact (show Calls Tryz.prog 195 #[.string x, .string ⟨#[36, 40]⟩] W fun e w' => e = .returned (.int .i64 (ixOpen s i)) ∧ w' = W from by rw [← hx]; exact h))
 have CU := Lib.hid (fun (i : Nat) (x : ByteArray) (hx : s.extract i s.size = x) (W : World) (hW : MaxT W) => by
  obtain ⟨_, m, hm⟩ := hW
  have h0 : x.size ≤ s.size := by rw [← hx, ByteArray.size_extract]; omega
  have h := Tryz.strings_Cut x ⟨#[41]⟩ m W (by omega) hm
  rw [← hx] at h
  exact (show Calls Tryz.prog 196 #[.string x, .string ⟨#[41]⟩] W fun e w' => e = .returned (.tuple #[.string ⟨(cutShut s i).1.toArray⟩, .string ⟨(cutShut s i).2.1.toArray⟩, .bool (cutShut s i).2.2]) ∧ ∃ n, w' = W.drewN n from by rw [← hx]; exact h))
 have H := Lib.hid hM
 have R0 : PcRel s R w (.slice none 0 0) (.int .i64 0) w := ⟨0, s.size + 1, [], rfl, Nat.zero_le _, Nat.zero_le _, ⟨by simp, .inl ⟨rfl, rfl⟩⟩, Below.refl _ _, by omega, hR⟩
 have HR0 := Lib.hid R0
 rw [hR]
 have S1 := Lib.hid (fun (i : Nat) (h : i ≤ s.size) (x : ByteArray) (hx : s.extract i s.size = x) => sl_from s i h x hx)
 have S2 := Lib.hid (fun (i j : Nat) (h : i ≤ j) (hj : j ≤ s.size) (x : ByteArray) (hx : s.extract i j = x) => sl_both s i j h hj x hx)
 clear hM R0 hR
 go_enter Tryz.func192, Tryz.ntmps192
 go_wp2_with fail
 go_loopw [2, 4] (PcRel s R w) (fun _ k _ => s.size - (intOf k).toNat)
 case atStart => exact HR0.out
 case round =>
  obtain ⟨i, f, acc, rfl, hi, hac, ho, hb, hf, hr⟩ := hrel
  obtain ⟨ao, cap, rfl, _⟩ := aown_form ho
  have HO := Lib.hid ho; have HB := Lib.hid hb
  cases f with
  | zero => exact absurd hf (by omega)
  | succ f =>
    rw [pcF] at hr
    by_cases hlt : i < s.size
    · rw [if_neg (by omega)] at hr
      have t1 : decide ((i : Int) < (s.size : Int)) = true := decide_eq_true (by omega)
      have t1' : decide (i < s.size) = true := decide_eq_true hlt
      obtain ⟨x, hx⟩ : ∃ x, s.extract i s.size = x := ⟨_, rfl⟩
      have s1 := S1.out i hi x hx
      have IXi := Lib.hid (IX.out i x hx wr (H.out.ext hb))
      by_cases hneg : ixOpen s i < 0
      · rw [if_pos hneg] at hr
        obtain ⟨q, hq⟩ : ∃ q, ixOpen s i = q := ⟨_, rfl⟩
        rw [hq] at IXi hneg
        have t2 : decide (q < 0) = true := decide_eq_true hneg
        have HR := Lib.hid hr; have HX := Lib.hid hx
        clear ho hb hr hx hq hneg IX CU S1 S2 HR0
        go_wp2_with fail
        refine IXi.out.mono ?_
        rintro e w1 ⟨rfl, rfl⟩
        go_wp2_with (at_builtin; refine wpList_app1 w1 #[.string x, .bool false, .int .i64 (i : Int)] 298 rfl _ _ 294 rfl w.heap.size elPc _ _ _ rfl HO.out rfl rfl ?c1 ?c2 ?c3 ?c4 ?_)
        case c1 => exact ⟨rfl, rfl, rfl⟩
        case c2 => unfold maxLen; omega
        case c3 => omega
        case c4 => exact HB.out.size
        intro v2 w2 ho2 hg2
        have hb2 : Below w.heap.size w w2 := (ext_alloc HB.out _).grown hg2 (ext_alloc HB.out _).size (fun k hk => (HO.out.lt k hk).1)
        have ho3 := own_eq (acc' := acc ++ [⟨x, false, i⟩]) ho2 (by simp) (by simp [pcC])
        have HO3 := Lib.hid ho3; have HB3 := Lib.hid hb2
        have hal : acc.length + 1 ≤ 1100000 := by omega
        clear ho2 hg2 hb2 ho3
        go_wp2
        go_ret2
        rw [← HR.out, HX.out]
        exact ⟨_, rfl, HO3.out, HB3.out, by simpa using hal⟩
      · rw [if_neg hneg] at hr
        obtain ⟨m, hm⟩ : ∃ m : Nat, ixOpen s i = (m : Nat) := ⟨(ixOpen s i).toNat, by omega⟩
        have hroom := ix_room hm hi
        rw [hm] at hr IXi
        rw [Int.toNat_natCast] at hr
        have t2 : decide ((m : Int) < 0) = false := decide_eq_false (by omega)
        have t2' : ¬ (m : Int) < 0 := by omega
        obtain ⟨p, hp⟩ : ∃ p, i + m = p := ⟨_, rfl⟩
        rw [hp] at hr hroom
        obtain ⟨p2, hp2⟩ : ∃ p2, p + 2 = p2 := ⟨_, rfl⟩
        rw [hp2] at hr hroom
        obtain ⟨y, hy⟩ : ∃ y, s.extract p2 s.size = y := ⟨_, rfl⟩
        have s2 := S1.out p2 hroom y hy
        obtain ⟨cc, hcc⟩ : ∃ cc, cutShut s p2 = cc := ⟨_, rfl⟩
        have CUi := Lib.hid (CU.out p2 y hy)
        have hcr := fun h => cut_room (s := s) (i := p2) h hroom
        rw [hcc] at CUi hcr hr
        have q1 : IntKind.i64.wrap ((i : Int) + (m : Int)) = (p : Int) := by rw [IntWalk.i64_in _ (by omega)]; omega
        have q2 : IntKind.i64.wrap ((p : Int) + 2) = (p2 : Int) := by rw [IntWalk.i64_in _ (by omega)]; omega
        by_cases hm0 : 0 < m
        · obtain ⟨z, hz⟩ : ∃ z, s.extract i p = z := ⟨_, rfl⟩
          have s3 := S2.out i p (by omega) (by omega) z hz
          have t3 : decide ((0 : Int) < (m : Int)) = true := decide_eq_true (by omega)
          have t3' : decide (0 < m) = true := decide_eq_true hm0
          have e0 : pcAcc s i (m : Int) acc = acc ++ [⟨z, false, i⟩] := by
           unfold pcAcc
           rw [if_pos (by omega), Int.toNat_natCast, hp, hz]
          rw [e0] at hr
          obtain ⟨bc, hbc⟩ : ∃ bc, acc ++ [(⟨z, false, i⟩ : Pc)] = bc := ⟨_, rfl⟩
          have hbl : bc.length = acc.length + 1 := by rw [← hbc]; simp
          have HBC := Lib.hid hbc
          have HBL := Lib.hid hbl
          have hbl2 : bc.length ≤ acc.length + 1 := by omega
          rw [hbc] at hr
          have HR := Lib.hid hr
          clear ho hb hr hx hm hy hcc hz e0 hbc hbl IX CU S1 S2 HR0
          go_wp2_with fail
          refine IXi.out.mono ?_
          rintro e w1 ⟨rfl, rfl⟩
          go_wp2_with (at_builtin; refine wpList_app1 w1 #[.string z, .bool false, .int .i64 (i : Int)] 298 rfl _ _ 294 rfl w.heap.size elPc _ _ _ rfl HO.out rfl rfl ?c1 ?c2 ?c3 ?c4 ?_)
          case c1 => exact ⟨rfl, rfl, rfl⟩
          case c2 => unfold maxLen; omega
          case c3 => omega
          case c4 => exact HB.out.size
          intro v2 w2 ho2 hg2
          have hb2 : Below w.heap.size w w2 := (ext_alloc HB.out _).grown hg2 (ext_alloc HB.out _).size (fun k hk => (HO.out.lt k hk).1)
          have ho3 := own_eq (acc' := bc) ho2 HBL.out.symm (by rw [← HBC.out]; simp [pcC])
          obtain ⟨a2, cap2, rfl, _⟩ := aown_form ho3
          have HO3 := Lib.hid ho3; have HB3 := Lib.hid hb2
          have CUj := Lib.hid (CUi.out w2 (H.out.ext hb2))
          clear ho2 hg2 hb2 ho3 CUi
          go_wp2_with fail
          refine CUj.out.mono ?_
          rintro e w4 ⟨rfl, dn, rfl⟩
          obtain ⟨nm, rest, okc⟩ := cc
          cases okc with
          | false =>
            have HQ := HR.out
            rw [if_pos rfl] at HQ
            have HQ := Lib.hid HQ
            have hal : bc.length ≤ 1100000 := by omega
            clear HR hcr
            go_wp2
            go_ret2
            rw [← HQ.out]
            exact ⟨_, rfl, aown_ext (w' := w2.drewN dn) HO3.out (fun g hg => rfl) (Nat.le_refl _), ext_drewN _ HB3.out, hal⟩
          | true =>
            have HQ := HR.out
            rw [if_neg (fun h => by cases h)] at HQ
            have hcr := hcr rfl
            dsimp only at HQ hcr
            obtain ⟨N, hN⟩ : ∃ N : ByteArray, (⟨nm.toArray⟩ : ByteArray) = N := ⟨_, rfl⟩
            have hNl : nm.length = N.size := by rw [← hN]; exact (List.size_toArray).symm
            rw [hN, hNl] at HQ
            rw [hNl] at hcr
            have HQ := Lib.hid HQ
            obtain ⟨a2, ha2⟩ : ∃ a2, 2 + N.size = a2 := ⟨_, rfl⟩
            obtain ⟨a3, ha3⟩ : ∃ a3, a2 + 1 = a3 := ⟨_, rfl⟩
            obtain ⟨n5, hn5⟩ : ∃ n5, p + N.size + 3 = n5 := ⟨_, rfl⟩
            have HQ := HQ.out
            rw [hn5] at HQ
            have HQ := Lib.hid HQ
            have q3 : IntKind.i64.wrap (2 + (N.size : Int)) = (a2 : Int) := by rw [IntWalk.i64_in _ (by omega)]; omega
            have q4 : IntKind.i64.wrap ((a2 : Int) + 1) = (a3 : Int) := by rw [IntWalk.i64_in _ (by omega)]; omega
            have q5 : IntKind.i64.wrap ((p : Int) + (a3 : Int)) = (n5 : Int) := by rw [IntWalk.i64_in _ (by omega)]; omega
            have HO4 := Lib.hid (aown_ext (w' := w2.drewN dn) HO3.out (fun g hg => rfl) (Nat.le_refl _))
            have HB4 := Lib.hid (ext_drewN dn HB3.out)
            obtain ⟨W5, hW5⟩ : ∃ W5, w2.drewN dn = W5 := ⟨_, rfl⟩
            rw [hW5] at HO4 HB4
            simp only [hN]
            rw [hW5]
            clear hW5 HO3 HB3 HR hN hNl
            go_wp2_with (at_builtin; refine wpList_app1 W5 #[.string N, .bool true, .int .i64 (p : Int)] 298 rfl _ _ 294 rfl w.heap.size elPc _ _ _ rfl HO4.out rfl rfl ?c1 ?c2 ?c3 ?c4 ?_)
            case c1 => exact ⟨rfl, rfl, rfl⟩
            case c2 => unfold maxLen; omega
            case c3 => omega
            case c4 => exact HB4.out.size
            intro v5 w5 ho5 hg5
            have hb5 : Below w.heap.size w w5 := (ext_alloc HB4.out _).grown hg5 (ext_alloc HB4.out _).size (fun k hk => (HO4.out.lt k hk).1)
            have ho6 := own_eq (acc' := bc ++ [⟨N, true, p⟩]) ho5 (by simp) (by simp [pcC])
            have RL : PcRel s R w v5 (.int .i64 (n5 : Int)) w5 := ⟨n5, f, _, rfl, by omega, by simp; omega, ho6, hb5, by omega, HQ.out⟩
            have HRL := Lib.hid RL
            have hlast : s.size - n5 < s.size - i := by omega
            clear RL ho5 hg5 hb5 ho6
            go_wp2
            refine ⟨?_, by simp [intOf]; omega⟩
            have R := HRL.out
            first | exact R | ((repeat apply Exists.intro); exact ⟨R, rfl⟩)
        · have hm00 : m = 0 := by omega
          subst hm00
          have hpi : p = i := by omega
          subst hpi
          have t3 : decide ((0 : Int) < ((0 : Nat) : Int)) = false := rfl
          have e0 : pcAcc s p ((0 : Nat) : Int) acc = acc := by
           unfold pcAcc
           rw [if_neg (by decide)]
          rw [e0] at hr
          have hbl : acc.length ≤ acc.length + 1 := by omega
          have HR := Lib.hid hr
          clear ho hb hr hx hm hy hcc e0 IX CU S1 S2 HR0
          go_wp2_with fail
          refine IXi.out.mono ?_
          rintro e w1 ⟨rfl, rfl⟩
          have HO3 := HO; have HB3 := HB
          have CUj := Lib.hid (CUi.out w1 (H.out.ext HB.out))
          clear CUi
          go_wp2_with fail
          refine CUj.out.mono ?_
          rintro e w4 ⟨rfl, dn, rfl⟩
          obtain ⟨nm, rest, okc⟩ := cc
          cases okc with
          | false =>
            have HQ := HR.out
            rw [if_pos rfl] at HQ
            have HQ := Lib.hid HQ
            have hal : acc.length ≤ 1100000 := by omega
            clear HR hcr
            go_wp2
            go_ret2
            rw [← HQ.out]
            exact ⟨_, rfl, aown_ext (w' := w1.drewN dn) HO3.out (fun g hg => rfl) (Nat.le_refl _), ext_drewN _ HB3.out, hal⟩
          | true =>
            have HQ := HR.out
            rw [if_neg (fun h => by cases h)] at HQ
            have hcr := hcr rfl
            dsimp only at HQ hcr
            obtain ⟨N, hN⟩ : ∃ N : ByteArray, (⟨nm.toArray⟩ : ByteArray) = N := ⟨_, rfl⟩
            have hNl : nm.length = N.size := by rw [← hN]; exact (List.size_toArray).symm
            rw [hN, hNl] at HQ
            rw [hNl] at hcr
            have HQ := Lib.hid HQ
            obtain ⟨a2, ha2⟩ : ∃ a2, 2 + N.size = a2 := ⟨_, rfl⟩
            obtain ⟨a3, ha3⟩ : ∃ a3, a2 + 1 = a3 := ⟨_, rfl⟩
            obtain ⟨n5, hn5⟩ : ∃ n5, p + N.size + 3 = n5 := ⟨_, rfl⟩
            have HQ := HQ.out
            rw [hn5] at HQ
            have HQ := Lib.hid HQ
            have q3 : IntKind.i64.wrap (2 + (N.size : Int)) = (a2 : Int) := by rw [IntWalk.i64_in _ (by omega)]; omega
            have q4 : IntKind.i64.wrap ((a2 : Int) + 1) = (a3 : Int) := by rw [IntWalk.i64_in _ (by omega)]; omega
            have q5 : IntKind.i64.wrap ((p : Int) + (a3 : Int)) = (n5 : Int) := by rw [IntWalk.i64_in _ (by omega)]; omega
            have HO4 := Lib.hid (aown_ext (w' := w1.drewN dn) HO3.out (fun g hg => rfl) (Nat.le_refl _))
            have HB4 := Lib.hid (ext_drewN dn HB3.out)
            obtain ⟨W5, hW5⟩ : ∃ W5, w1.drewN dn = W5 := ⟨_, rfl⟩
            rw [hW5] at HO4 HB4
            simp only [hN]
            rw [hW5]
            clear hW5 HO3 HB3 HR hN hNl
            go_wp2_with (at_builtin; refine wpList_app1 W5 #[.string N, .bool true, .int .i64 (p : Int)] 298 rfl _ _ 294 rfl w.heap.size elPc _ _ _ rfl HO4.out rfl rfl ?c1 ?c2 ?c3 ?c4 ?_)
            case c1 => exact ⟨rfl, rfl, rfl⟩
            case c2 => unfold maxLen; omega
            case c3 => omega
            case c4 => exact HB4.out.size
            intro v5 w5 ho5 hg5
            have hb5 : Below w.heap.size w w5 := (ext_alloc HB4.out _).grown hg5 (ext_alloc HB4.out _).size (fun k hk => (HO4.out.lt k hk).1)
            have ho6 := own_eq (acc' := acc ++ [⟨N, true, p⟩]) ho5 (by simp) (by simp [pcC])
            have RL : PcRel s R w v5 (.int .i64 (n5 : Int)) w5 := ⟨n5, f, _, rfl, by omega, by simp; omega, ho6, hb5, by omega, HQ.out⟩
            have HRL := Lib.hid RL
            have hlast : s.size - n5 < s.size - p := by omega
            clear RL ho5 hg5 hb5 ho6
            go_wp2
            refine ⟨?_, by simp [intOf]; omega⟩
            have R := HRL.out
            first | exact R | ((repeat apply Exists.intro); exact ⟨R, rfl⟩)
    · rw [if_pos (by omega)] at hr
      have t1 : decide ((i : Int) < (s.size : Int)) = false := decide_eq_false (by omega)
      have t1' : decide (i < s.size) = false := decide_eq_false hlt
      have HR := Lib.hid hr
      have hal : acc.length ≤ 1100000 := by omega
      clear ho hb hr
      go_wp2
      go_ret2
      rw [← HR.out]
      exact ⟨_, rfl, HO.out, HB.out, hal⟩
end Go.Proofs.YtcaiibkgajhohaaGreatDoor
