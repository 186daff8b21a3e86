/- Texts put together. -/
import Derived.Test.YtbeodjipdpcaiaaGreatDoorYLbw1s
import Derived.Test.YtbeodjipdpcaiaaGreatDoorYLab0s
import Derived.Test.YtbeodjipdpcaiaaGreatDoorYPnw4s
set_option maxRecDepth 100000
set_option maxHeartbeats 4000000
namespace Go.Proofs.YtbeodjipdpcaiaaGreatDoor
section
open Go.RowKit
theorem beneath_any (n a : ByteArray) (w : World) (hn : n.size ≤ 1000000) (ha : a.size ≤ 1000000) : Calls Tryz.prog 55 #[.string n, .string a] w fun e w' => e = .returned (.bool (decide (a.size + 1 < n.size) && Go.Lib.hasSuffix n.data.toList ((⟨#[46]⟩ : ByteArray) ++ a).data.toList)) ∧ w' = w := by
 have q1 : IntKind.i64.wrap ((a.size : Int) + 1) = (a.size : Int) + 1 := i64n _ (by omega)
 have K := hid (fun p W => Tryz.strings_HasSuffix n p W (by omega))
 obtain ⟨P, hP⟩ : ∃ P, (⟨#[46]⟩ : ByteArray) ++ a = P := ⟨_, rfl⟩
 rw [hP]
 obtain ⟨tb, htb⟩ : ∃ tb, Go.Lib.hasSuffix n.data.toList P.data.toList = tb := ⟨_, rfl⟩
 have K := hid (fun W => K.out P W)
 rw [htb] at K ⊢
 by_cases h : a.size + 1 < n.size
 · have t1 : decide ((a.size : Int) + 1 < (n.size : Int)) = true := dcT (by omega)
   have t1' : decide (a.size + 1 < n.size) = true := dcT h
   rw [t1', Bool.true_and]
   clear h htb
   go_enter Tryz.func55, Tryz.ntmps55
   go_wp2_with fail
   refine (K.out _).mono ?_
   rintro e w1 ⟨rfl, hw⟩
   have hw' := hw.symm
   subst hw'
   clear hw
   go_wp2
   go_ret
   exact ⟨rfl, rfl⟩
 · have t1 : decide ((a.size : Int) + 1 < (n.size : Int)) = false := dcF (by omega)
   have t1' : decide (a.size + 1 < n.size) = false := dcF h
   rw [t1', Bool.false_and]
   clear h htb
   go_enter Tryz.func55, Tryz.ntmps55
   go_wp2
   go_ret
   exact ⟨rfl, rfl⟩
end
section
open Go.RowKit
def LdPost (w : World) (r : Option (List Nat)) (e : Ending) (w' : World) : Prop := Below w.heap.size w w' ∧ match r with
 | some cs => ∃ v, e = .returned (.tuple #[v, .bool true]) ∧ Rd (Own w') w' v (intsD cs)
 | none => e = .returned (.tuple #[.slice none 0 0, .bool false])
theorem ldecode_no (s : ByteArray) (w : World) (hs : s.size ≤ 1000000) (h : ¬ (bytesN s).take 4 = xnL) : Calls Tryz.prog 119 #[.string s] w fun e w' => e = .returned (.tuple #[.slice none 0 0, .bool false]) ∧ Below w.heap.size w w' := by
 have K : ∀ W, Calls Tryz.prog 53 #[.string s, .string ⟨#[120, 110, 45, 45]⟩] W fun e w' => e = .returned (.tuple #[.string s, .bool false]) ∧ w' = W := fun W => by
  have := Tryz.strings_CutPrefix s ⟨#[120, 110, 45, 45]⟩ W
  rw [show ((⟨#[120, 110, 45, 45]⟩ : ByteArray).data.toList) = [120, 110, 45, 45] from rfl, xn_keep s h, xn_pre, dcF h] at this
  exact this
 have K := hid K
 have PD := hid (fun W => decode_any s W hs)
 clear h
 go_enter Tryz.func119, Tryz.ntmps119
 go_wp2_with fail
 refine (K.out _).mono ?_
 rintro e w1 ⟨rfl, hw⟩
 have hw' := hw.symm
 subst hw'
 clear hw
 go_wp2_with fail
 refine (PD.out _).mono ?_
 rintro e w2 ⟨hb, hp⟩
 have HB := hid hb
 clear hb
 cases hr : pdecS s with
 | ok l =>
   rw [hr] at hp
   obtain ⟨v, rfl, ho⟩ := hp
   clear ho hr
   go_wp2
   go_ret2
   exact ⟨rfl, HB.out⟩
 | no k p =>
   rw [hr] at hp
   obtain ⟨u, rfl, hE⟩ := hp
   clear hE hr
   go_wp2
   go_ret2
   exact ⟨rfl, HB.out⟩
def LdRel (cs : List Nat) (w1 : World) (wv kv : Value) (wr : World) : Prop := ∃ j : Nat, kv = .int .i64 j ∧ j ≤ cs.length ∧ wv = .bool ((cs.take j).any fun c => decide (128 ≤ c)) ∧ (∀ i, i < j → ∀ x, cs[i]? = some x → okN x = true) ∧ Below w1.heap.size w1 wr
theorem any_snoc (cs : List Nat) (j x : Nat) (h : cs[j]? = some x) : ((cs.take (j + 1)).any fun c => decide (128 ≤ c)) = (((cs.take j).any fun c => decide (128 ≤ c)) || decide (128 ≤ x)) := by
 rw [List.take_add_one, h, List.any_append]; simp
theorem ldecode_yes (s B : ByteArray) (w : World) (hs : s.size ≤ 1000000) (h : (bytesN s).take 4 = xnL) (hB : bytesL ((bytesN s).drop 4) = B) (hA : AllowT w) : Calls Tryz.prog 119 #[.string s] w (LdPost w (match pdecS B with
    | .ok cs => if decOk ((bytesN s).drop 4) cs = true then some cs else none
    | .no _ _ => none)) := by
 have K : ∀ W, Calls Tryz.prog 53 #[.string s, .string ⟨#[120, 110, 45, 45]⟩] W fun e w' => e = .returned (.tuple #[.string B, .bool true]) ∧ w' = W := fun W => by
  have := Tryz.strings_CutPrefix s ⟨#[120, 110, 45, 45]⟩ W
  rw [show ((⟨#[120, 110, 45, 45]⟩ : ByteArray).data.toList) = [120, 110, 45, 45] from rfl, xn_trim s h, xn_pre, dcT h, hB] at this
  exact this
 have hBz : B.size ≤ 1000000 := by rw [← hB, bytesL_size, List.length_drop, bytesN_len]; omega
 have K := hid K
 have PD := hid (fun W => decode_any B W hBz)
 have HA := hid hA
 have HBB := hid hB
 cases hr : pdecS B with
 | no k p =>
   rw [hr] at PD
   clear h hB hr hBz hA
   go_enter Tryz.func119, Tryz.ntmps119
   go_wp2_with fail
   refine (K.out _).mono ?_
   rintro e w1 ⟨rfl, hw⟩
   have hw' := hw.symm
   subst hw'
   clear hw
   go_wp2_with fail
   refine (PD.out _).mono ?_
   rintro e w2 ⟨hb, u, rfl, hE⟩
   obtain ⟨b, off, u2, rfl, _⟩ := fault_inv hE
   have HB := hid hb
   clear hb hE
   go_wp2
   go_ret2
   exact ⟨HB.out, rfl⟩
 | ok cs =>
   have hcs := pdecS_ok hr
   have HCS := hid hcs.1
   have hlen := hcs.2
   rw [hr] at PD
   obtain ⟨Q, hQ⟩ : ∃ Q, LdPost w (if decOk ((bytesN s).drop 4) cs = true then some cs else none) = Q := ⟨_, rfl⟩
   show Calls _ _ _ _ (LdPost w (if decOk ((bytesN s).drop 4) cs = true then some cs else none))
   rw [hQ]
   have HQ := hid hQ
   clear h hB hr hBz hA hcs hQ
   go_enter Tryz.func119, Tryz.ntmps119
   go_wp2_with fail
   refine (K.out _).mono ?_
   rintro e w1 ⟨rfl, hw⟩
   have hw' := hw.symm
   subst hw'
   clear hw
   go_wp2_with fail
   refine (PD.out _).mono ?_
   rintro e w2 ⟨hb, v, rfl, ho⟩
   have hrd : Rd (Own w2) w2 v (intsD cs) := rd_owned ho (intsV_rds cs) (fun g hg => (ho.lt g hg).2)
   have HRD := hid hrd
   obtain ⟨a, c, rfl, _, hcap, hx⟩ := hrd.nats_inv
   have HX := hid hx
   have HB := hid hb
   have HA2 := hid (HA.out.ext hb)
   obtain ⟨n0, hn0⟩ : ∃ n, cs.length = n := ⟨_, rfl⟩
   have HN := hid hn0
   rw [hn0] at hcap hlen ⊢
   have HNO : Hid (∀ W, Below w2.heap.size w2 W → decOk ((bytesN s).drop 4) cs = false → Q (.returned (.tuple #[.slice none 0 0, .bool false])) W) := hid (fun W hW hF => by
    rw [← HQ.out]
    exact ⟨xT HB.out hW, by rw [hF]; rfl⟩)
   clear hrd hx hb ho hn0
   go_wp2_with fail
   go_loopw [8, 31] (LdRel cs w2) (fun _ k _ => n0 - (intOf k).toNat)
   case atStart => exact ⟨0, rfl, Nat.zero_le _, rfl, fun i hi => by omega, Below.refl _ _⟩
   case round =>
    obtain ⟨j, rfl, hj, rfl, hok, hb⟩ := hrel
    rw [HN.out] at hj
    have HOK := hid hok; have HBR := hid hb
    obtain ⟨tw, htw⟩ : ∃ tw, ((cs.take j).any fun c => decide (128 ≤ c)) = tw := ⟨_, rfl⟩
    have HTW := hid htw
    rw [htw]
    clear hok hb htw
    by_cases hlt : j < n0
    · obtain ⟨t1, t1'⟩ := ltT j n0 hlt
      have q1 := inc j (by omega)
      obtain ⟨b1, o1, rfl, hb1, hc1⟩ := HX.out (by rw [HN.out]; omega)
      obtain ⟨x, hx⟩ := get_ex cs j (by rw [HN.out]; exact hlt)
      have hxv : cs[j]'(by rw [HN.out]; exact hlt) = x := (List.getElem?_eq_some_iff.1 hx).2
      have c0 : wr.cell? ⟨b1, o1 + j, none⟩ = some (.int .i64 (x : Int)) := by
       have := hc1 j (by rw [HN.out]; exact hlt)
       rw [hxv] at this
       exact (bcell1 HBR.out hb1 _).trans this
      have hxm := List.mem_of_getElem? hx
      have hxl := HCS.out x hxm
      have HXM := hid hxm
      have SM := hid (small_any x wr)
      have CH := hid (char_any x wr (HA2.out.ext HBR.out) (by omega))
      have HNXT : Hid (∀ W tv, okN x = true → Below w2.heap.size w2 W → (tw || decide (128 ≤ x)) = tv → LdRel cs w2 (.bool tv) (.int .i64 ((j : Int) + 1)) W) := hid (fun W tv hok hW htv => ⟨j + 1, by go_num, by rw [HN.out]; exact hlt, by rw [any_snoc cs j x hx, HTW.out, htv], fun i hi y hy => by
       by_cases e : i = j
       · subst e; rw [hx] at hy; cases hy; exact hok
       · exact HOK.out i (by omega) y hy, hW⟩)
      clear hc1 hx hxv hb1 hxm
      cases hl : lcN x with
      | true =>
        have hx1 := small_lt hl
        rw [hl] at SM
        have t2 : decide ((128 : Int) ≤ (x : Int)) = false := dcF (by omega)
        have t2' : decide (128 ≤ x) = false := dcF (by omega)
        have HRL : Hid (∀ W, Below w2.heap.size w2 W → LdRel cs w2 (.bool tw) (.int .i64 ((j : Int) + 1)) W) := hid (fun W hW => HNXT.out W tw (by unfold okN; rw [hl]; rfl) hW (by rw [t2', Bool.or_false]))
        clear hl
        cases tw with
        | true =>
          go_wp2_with fail
          refine SM.out.mono ?_
          rintro e w3 ⟨rfl, hw3⟩
          have hw3' := hw3.symm
          subst hw3'
          clear hw3
          go_wp2
          refine ⟨?_, by simp [intOf] <;> omega⟩
          have R1 := HRL.out _ HBR.out
          first | exact R1 | ((repeat apply Exists.intro); exact ⟨R1, rfl⟩)
        | false =>
          go_wp2_with fail
          refine SM.out.mono ?_
          rintro e w3 ⟨rfl, hw3⟩
          have hw3' := hw3.symm
          subst hw3'
          clear hw3
          go_wp2
          refine ⟨?_, by simp [intOf] <;> omega⟩
          have R1 := HRL.out _ HBR.out
          first | exact R1 | ((repeat apply Exists.intro); exact ⟨R1, rfl⟩)
      | false =>
        rw [hl] at SM
        cases hcn : charN x with
        | true =>
          have hx1 := (char_ge hcn).1
          rw [hcn] at CH
          have t2 : decide ((128 : Int) ≤ (x : Int)) = true := dcT (by omega)
          have t2' : decide (128 ≤ x) = true := dcT (by omega)
          have HRL : Hid (∀ W, Below w2.heap.size w2 W → LdRel cs w2 (.bool true) (.int .i64 ((j : Int) + 1)) W) := hid (fun W hW => HNXT.out W true (by unfold okN; rw [hcn, Bool.or_true]) hW (by rw [t2', Bool.or_true]))
          clear hl hcn
          cases tw with
          | true =>
            go_wp2_with fail
            refine SM.out.mono ?_
            rintro e w3 ⟨rfl, hw3⟩
            have hw3' := hw3.symm
            subst hw3'
            clear hw3
            go_wp2_with fail
            refine CH.out.mono ?_
            rintro e w4 ⟨rfl, hb4⟩
            have HB4 := hid (xT HBR.out hb4)
            clear hb4
            go_wp2
            refine ⟨?_, by simp [intOf] <;> omega⟩
            have R1 := HRL.out _ HB4.out
            first | exact R1 | ((repeat apply Exists.intro); exact ⟨R1, rfl⟩)
          | false =>
            go_wp2_with fail
            refine SM.out.mono ?_
            rintro e w3 ⟨rfl, hw3⟩
            have hw3' := hw3.symm
            subst hw3'
            clear hw3
            go_wp2_with fail
            refine CH.out.mono ?_
            rintro e w4 ⟨rfl, hb4⟩
            have HB4 := hid (xT HBR.out hb4)
            clear hb4
            go_wp2
            refine ⟨?_, by simp [intOf] <;> omega⟩
            have R1 := HRL.out _ HB4.out
            first | exact R1 | ((repeat apply Exists.intro); exact ⟨R1, rfl⟩)
        | false =>
          rw [hcn] at CH
          have hF : decOk ((bytesN s).drop 4) cs = false := by
           unfold decOk
           have : cs.all okN = false := by
            rw [List.all_eq_false]
            exact ⟨x, HXM.out, by unfold okN; rw [hl, hcn]; decide⟩
           rw [this, Bool.false_and, Bool.false_and]
          have HFF : Hid (∀ W, Below w2.heap.size w2 W → Q (.returned (.tuple #[.slice none 0 0, .bool false])) W) := hid (fun W hW => HNO.out W hW hF)
          clear hl hcn hF
          go_wp2_with fail
          refine SM.out.mono ?_
          rintro e w3 ⟨rfl, hw3⟩
          have hw3' := hw3.symm
          subst hw3'
          clear hw3
          go_wp2_with fail
          refine CH.out.mono ?_
          rintro e w4 ⟨rfl, hb4⟩
          have HB4 := hid (xT HBR.out hb4)
          clear hb4
          go_wp2
          exact HFF.out _ HB4.out
    · obtain ⟨t1, t1'⟩ := ltF j n0 hlt
      have hall : cs.all okN = true := by
       rw [List.all_eq_true]
       intro x hx
       obtain ⟨i, hi, he⟩ := List.getElem_of_mem hx
       exact HOK.out i (by rw [HN.out] at hi; omega) x (List.getElem?_eq_some_iff.2 ⟨hi, he⟩)
      have hright : AllRight cs := fun c hc => ok_right (List.all_eq_true.1 hall c hc)
      have htake : cs.take j = cs := List.take_of_length_le (by rw [HN.out]; omega)
      have htw := HTW.out
      rw [htake] at htw
      have hdec : decOk ((bytesN s).drop 4) cs = (tw && (decide (encL cs = (bytesN s).drop 4) && marksN cs)) := by
       unfold decOk; rw [hall, htw, Bool.true_and]
      have hEB : encL cs = (bytesN s).drop 4 ↔ bytesL (encL cs) = B := by
       rw [← HBB.out]
       constructor
       · intro h; rw [h]
       · intro h
         exact bytesL_inj (fun x hx => by have := encL_lt cs x hx; omega) (fun x hx => by
          have hx := List.mem_of_mem_drop hx
          unfold bytesN at hx
          obtain ⟨y, _, rfl⟩ := List.mem_map.1 hx
          exact y.toNat_lt) h
      have EN := hid (encode_ok _ cs wr (HRD.out.ext HBR.out) hright (by rw [HN.out]; exact hlen))
      have MK := hid (fun W (hW : Below w2.heap.size w2 W) => marks_any _ cs W (HRD.out.ext hW) (by rw [HN.out]; omega))
      obtain ⟨E, hE⟩ : ∃ E, bytesL (encL cs) = E := ⟨_, rfl⟩
      obtain ⟨mk, hmk⟩ : ∃ mk, marksN cs = mk := ⟨_, rfl⟩
      rw [hE] at EN hEB
      rw [hmk] at MK hdec
      rw [HN.out] at EN MK
      have HDEC := hid hdec; have HEB := hid hEB
      clear hall hright htake htw hdec hEB hE hmk hlt
      cases tw with
      | false =>
        have HFF : Hid (∀ W, Below w2.heap.size w2 W → Q (.returned (.tuple #[.slice none 0 0, .bool false])) W) := hid (fun W hW => HNO.out W hW (by rw [HDEC.out]; rfl))
        go_wp2_with fail
        refine EN.out.mono ?_
        rintro e w4 ⟨rfl, hb4⟩
        have HB4 := hid (xT HBR.out hb4)
        clear hb4
        go_wp2
        exact HFF.out _ HB4.out
      | true =>
        by_cases hEq : E = B
        · subst hEq
          have t3 : (E.toList != E.toList) = false := by unfold bne; rw [beqS_t rfl]; rfl
          cases mk with
          | false =>
            have HFF : Hid (∀ W, Below w2.heap.size w2 W → Q (.returned (.tuple #[.slice none 0 0, .bool false])) W) := hid (fun W hW => HNO.out W hW (by rw [HDEC.out, Bool.and_false, Bool.and_false]))
            go_wp2_with fail
            refine EN.out.mono ?_
            rintro e w4 ⟨rfl, hb4⟩
            have HB4 := hid (xT HBR.out hb4)
            clear hb4
            have MK4 := hid (MK.out w4 HB4.out)
            go_wp2_with fail
            refine MK4.out.mono ?_
            rintro e w5 ⟨rfl, hw5⟩
            have hw5' := hw5.symm
            subst hw5'
            clear hw5
            go_wp2
            exact HFF.out _ HB4.out
          | true =>
            have HYES : Hid (∀ W, Below w2.heap.size w2 W → Q (.returned (.tuple #[.slice a n0 c, .bool true])) W) := hid (fun W hW => by
             rw [← HQ.out, if_pos (by rw [HDEC.out, dcT (HEB.out.2 rfl)]; rfl)]
             refine ⟨xT HB.out hW, _, rfl, ?_⟩
             have := HRD.out.ext hW
             rw [HN.out] at this
             exact this)
            go_wp2_with fail
            refine EN.out.mono ?_
            rintro e w4 ⟨rfl, hb4⟩
            have HB4 := hid (xT HBR.out hb4)
            clear hb4
            have MK4 := hid (MK.out w4 HB4.out)
            go_wp2_with fail
            refine MK4.out.mono ?_
            rintro e w5 ⟨rfl, hw5⟩
            have hw5' := hw5.symm
            subst hw5'
            clear hw5
            go_wp2
            exact HYES.out _ HB4.out
        · have t3 : (E.toList != B.toList) = true := by unfold bne; rw [beqS_f hEq]; rfl
          have t3' : (E.toList == B.toList) = false := beqS_f hEq
          have HFF : Hid (∀ W, Below w2.heap.size w2 W → Q (.returned (.tuple #[.slice none 0 0, .bool false])) W) := hid (fun W hW => HNO.out W hW (by rw [HDEC.out, dcF (fun h => hEq (HEB.out.1 h))]; rfl))
          go_wp2_with fail
          refine EN.out.mono ?_
          rintro e w4 ⟨rfl, hb4⟩
          have HB4 := hid (xT HBR.out hb4)
          clear hb4
          go_wp2
          exact HFF.out _ HB4.out
theorem ldecode_any (s : ByteArray) (w : World) (hs : s.size ≤ 1000000) (hA : AllowT w) : Calls Tryz.prog 119 #[.string s] w (LdPost w (decodeN (bytesN s))) := by
 unfold decodeN
 by_cases h : (bytesN s).take 4 = xnL
 · rw [if_pos h]
   exact ldecode_yes s _ w hs h rfl hA
 · rw [if_neg h]
   exact (ldecode_no s w hs h).mono fun e w' hp => ⟨hp.2, hp.1⟩
end
section
open Go.RowKit
def RtPost (w : World) (r : Nat × Nat) (e : Ending) (w' : World) : Prop := Below w.heap.size w w' ∧ if r.1 = 0 then e = .returned .nilIface else ∃ u, e = .returned u ∧ Er w' u [((r.1 : Int), (r.2 : Int))]
theorem right_empty (w : World) : Calls Tryz.prog 117 #[.string ⟨#[]⟩] w (RtPost w (10, 0)) := by
 have HF := hid (failed_er (failed_of (w := w) (w0 := w) (k := 10) (i := 0) (Below.refl _ _) rfl))
 obtain ⟨Q, hQ⟩ : ∃ Q, RtPost w (10, 0) = Q := ⟨_, rfl⟩
 rw [hQ]
 have HQ := hid hQ
 clear hQ
 go_enter Tryz.func117, Tryz.ntmps117
 go_wp2_with fail
 go_at_call 44
 refine (fail_any _ _ _).mono ?_
 rintro e w3 ⟨rfl, rfl⟩
 go_wp2
 rw [← HQ.out]
 exact ⟨HF.out.2, _, rfl, HF.out.1⟩
theorem right_long (s : ByteArray) (w : World) (h : 63 < s.size) : Calls Tryz.prog 117 #[.string s] w (RtPost w (14, 63)) := by
 have HF := hid (failed_er (failed_of (w := w) (w0 := w) (k := 14) (i := 63) (Below.refl _ _) rfl))
 obtain ⟨Q, hQ⟩ : ∃ Q, RtPost w (14, 63) = Q := ⟨_, rfl⟩
 rw [hQ]
 have HQ := hid hQ
 have hne : s ≠ (⟨#[]⟩ : ByteArray) := fun e => by rw [e] at h; exact absurd h (by decide)
 have t0 : (s.toList == []) = false := by
  have h := beqS_f hne
  rw [show (⟨#[]⟩ : ByteArray).toList = [] by rw [ByteArray.toList_eq]] at h
  exact h
 have t1 : decide ((63 : Int) < (s.size : Int)) = true := dcT (by omega)
 have t1' : decide (63 < s.size) = true := dcT h
 clear hQ hne h
 go_enter Tryz.func117, Tryz.ntmps117
 go_wp2_with fail
 go_at_call 44
 refine (fail_any _ _ _).mono ?_
 rintro e w3 ⟨rfl, rfl⟩
 go_wp2
 rw [← HQ.out]
 exact ⟨HF.out.2, _, rfl, HF.out.1⟩
def RtRel (s : ByteArray) (W0 : World) (kv : Value) (wr : World) : Prop := ∃ j : Nat, kv = .int .i64 j ∧ j ≤ s.size ∧ (∀ i, i < j → lcN (byteAt s i) = true) ∧ Below W0.heap.size W0 wr
theorem right_find {s : ByteArray} {j : Nat} (hj : j < s.size) (h63 : s.size ≤ 63) (hb : lcN (byteAt s j) = false) (hl : ∀ i, i < j → lcN (byteAt s i) = true) : rightL (bytesN s) = (11, j) := by
 have gt : ∀ i, i < s.size → (bytesN s)[i]?.getD 0 = byteAt s i := fun i hi => by rw [bytesN_get hi]; rfl
 unfold rightL
 rw [if_neg (fun e => by have := bytesN_len s; rw [e] at this; simp at this; omega), if_neg (by rw [bytesN_len]; omega), bytesN_len, findR_at hj (by unfold notSmall; rw [gt j hj, hb]; rfl) (fun i hi => by unfold notSmall; rw [gt i (by omega), hl i hi]; rfl)]
theorem right_fin {s : ByteArray} (h0 : 0 < s.size) (h63 : s.size ≤ 63) (hl : ∀ i, i < s.size → lcN (byteAt s i) = true) : rightL (bytesN s) = if ((decide (byteAt s 0 ≠ 45) && decide (byteAt s (s.size - 1) ≠ 45)) && (!(codedN (bytesN s)) || (decodeN (bytesN s)).isSome)) = true then (0, 0) else (24, 0) := by
 have gt : ∀ i, i < s.size → (bytesN s)[i]?.getD 0 = byteAt s i := fun i hi => by rw [bytesN_get hi]; rfl
 have he : endsOk (bytesN s) = (decide (byteAt s 0 ≠ 45) && decide (byteAt s (s.size - 1) ≠ 45)) := by
  unfold endsOk lastN
  rw [gt 0 h0, List.getLast?_eq_getElem?, bytesN_len, gt (s.size - 1) (by omega)]
 rw [← he]
 unfold rightL
 rw [if_neg (fun e => by have := bytesN_len s; rw [e] at this; simp at this; omega), if_neg (by rw [bytesN_len]; omega), bytesN_len, findR_no (fun i hi => by unfold notSmall; rw [gt i hi, hl i hi]; rfl)]
theorem right_rest (s : ByteArray) (w : World) (h0 : 0 < s.size) (h63 : s.size ≤ 63) (hA : AllowT w) : Calls Tryz.prog 117 #[.string s] w (RtPost w (rightL (bytesN s))) := by
 obtain ⟨W0, cap, hcv, hcap, hb0, hz0, hcell⟩ := bytes_of_string s w
 have HC := hid hcell; have HB0 := hid hb0; have HA0 := hid (hA.ext hb0)
 obtain ⟨r, hr⟩ : ∃ r, rightL (bytesN s) = r := ⟨_, rfl⟩
 obtain ⟨Q, hQ⟩ : ∃ Q, RtPost w r = Q := ⟨_, rfl⟩
 rw [hr, hQ]
 have HR := hid hr; have HQ := hid hQ
 obtain ⟨X, hX⟩ : ∃ X, w.heap.size = X := ⟨_, rfl⟩
 have HX := hid hX
 rw [hX] at hcv HC hz0
 have hne : s ≠ (⟨#[]⟩ : ByteArray) := fun e => by rw [e] at h0; exact absurd h0 (by decide)
 have t0 : (s.toList == []) = false := by
  have h := beqS_f hne
  rw [show (⟨#[]⟩ : ByteArray).toList = [] by rw [ByteArray.toList_eq]] at h
  exact h
 have t00 : decide ((63 : Int) < (s.size : Int)) = false := dcF (by omega)
 have t00' : decide (63 < s.size) = false := dcF (by omega)
 clear hcell hb0 hcap hr hQ hX hne hA
 go_enter Tryz.func117, Tryz.ntmps117
 go_wp2_with fail
 go_loopw [18] (RtRel s W0) (fun k _ => s.size - (intOf k).toNat)
 case atStart => exact ⟨0, rfl, Nat.zero_le _, fun i hi => by omega, Below.refl _ _⟩
 case round =>
  obtain ⟨j, rfl, hj, hok, hb⟩ := hrel
  have HOK := hid hok; have HB := hid hb
  clear hok hcv
  by_cases hlt : j < s.size
  · obtain ⟨t1, t1'⟩ := ltT j s.size hlt
    have q1 := inc j (by omega)
    have c0 : wr.cell? ⟨X, j, none⟩ = some (.int .u8 (byteAt s j)) := (bcell1 hb hz0 _).trans (HC.out j hlt)
    have hx256 := byteAt_lt s j
    obtain ⟨x, hx⟩ : ∃ x, byteAt s j = x := ⟨_, rfl⟩
    rw [hx] at c0 hx256
    have qx : IntKind.i64.wrap (x : Int) = (x : Int) := i64n _ (by omega)
    have SM := hid (small_any x wr)
    have HXX := hid hx
    clear hx hb
    cases hl : lcN x with
    | true =>
      rw [hl] at SM
      have HRL : Hid (RtRel s W0 (.int .i64 ((j : Int) + 1)) wr) := hid ⟨j + 1, by go_num, hlt, fun i hi => by
       by_cases e : i = j
       · subst e; rw [HXX.out]; exact hl
       · exact HOK.out i (by omega), HB.out⟩
      clear hl
      go_wp2_with fail
      refine SM.out.mono ?_
      rintro e w3 ⟨rfl, hw3⟩
      have hw3' := hw3.symm
      subst hw3'
      clear hw3
      go_wp2
      refine ⟨?_, by simp [intOf] <;> omega⟩
      first | exact HRL.out | ((repeat apply Exists.intro); exact ⟨HRL.out, rfl⟩)
    | false =>
      rw [hl] at SM
      have hrr := right_find hlt h63 (by rw [HXX.out]; exact hl) HOK.out
      rw [HR.out] at hrr
      have HBX : Hid (Below w.heap.size w wr) := hid (xT HB0.out HB.out)
      have HF := hid (failed_er (failed_of (w := w) (w0 := wr) (k := 11) (i := j) HBX.out rfl))
      have HQQ : Hid (Q (.returned (.iface 119 (.pointer (some ⟨wr.heap.size, 0, none⟩)))) (wr.alloc (.cells #[.int .i64 11, .int .i64 j, .nilIface] 123))) := hid (by
       rw [← HQ.out, hrr]
       exact ⟨HF.out.2, _, rfl, HF.out.1⟩)
      clear hl hrr
      go_wp2_with fail
      refine SM.out.mono ?_
      rintro e w3 ⟨rfl, hw3⟩
      have hw3' := hw3.symm
      subst hw3'
      clear hw3
      go_wp2_with fail
      go_at_call 44
      refine (fail_any _ _ _).mono ?_
      rintro e w3 ⟨rfl, rfl⟩
      go_wp2
      exact HQQ.out
  · obtain ⟨t1, t1'⟩ := ltF j s.size hlt
    have hrr := right_fin h0 h63 (fun i hi => HOK.out i (by omega))
    rw [HR.out] at hrr
    have hg0 : (s[0]'h0).toNat = byteAt s 0 := (byteAt_get s 0 h0).symm
    obtain ⟨m, hm⟩ : ∃ m, s.size - 1 = m := ⟨_, rfl⟩
    have hml : m < s.size := by omega
    have hg1 : (s[m]'hml).toNat = byteAt s m := (byteAt_get s m hml).symm
    have q1 : IntKind.i64.wrap ((s.size : Int) - 1) = (m : Int) := by rw [show (s.size : Int) - 1 = (m : Int) by omega]; exact i64n _ (by omega)
    rw [hm] at hrr
    obtain ⟨x0, hx0⟩ : ∃ x, byteAt s 0 = x := ⟨_, rfl⟩
    obtain ⟨x1, hx1⟩ : ∃ x, byteAt s m = x := ⟨_, rfl⟩
    rw [hx0] at hg0 hrr
    rw [hx1] at hg1 hrr
    have CO := hid (coded_any s wr (by omega))
    have DE := hid (ldecode_any s wr (by omega) (HA0.out.ext HB.out))
    have HBX : Hid (Below w.heap.size w wr) := hid (xT HB0.out HB.out)
    have HNO : Hid (r = (24, 0) → ∀ W, Below w.heap.size w W → Q (.returned (.iface 119 (.pointer (some ⟨W.heap.size, 0, none⟩)))) (W.alloc (.cells #[.int .i64 24, .int .i64 0, .nilIface] 123))) := hid (fun e W hW => by
     have HF := failed_er (failed_of (w := w) (w0 := W) (k := 24) (i := 0) hW rfl)
     rw [← HQ.out, e]
     exact ⟨HF.2, _, rfl, HF.1⟩)
    have HYES : Hid (r = (0, 0) → ∀ W, Below w.heap.size w W → Q (.returned .nilIface) W) := hid (fun e W hW => by
     rw [← HQ.out, e]
     exact ⟨hW, rfl⟩)
    have tm0 : decide (0 < s.size) = true := dcT h0
    have tm1 : decide (m < s.size) = true := dcT hml
    clear hx0 hx1 hm hlt hb
    by_cases h45 : x0 = 45
    · have t2 : ((x0 : Int) != 45) = false := by rw [h45]; rfl
      have HN := hid (HNO.out (by rw [hrr, h45]; rfl))
      clear hrr h45
      go_wp2_with fail
      go_at_call 44
      refine (fail_any _ _ _).mono ?_
      rintro e w3 ⟨rfl, rfl⟩
      go_wp2
      exact HN.out _ HBX.out
    · have t2 : ((x0 : Int) != 45) = true := by simp; omega
      rw [dcT h45, Bool.true_and] at hrr
      by_cases h46 : x1 = 45
      · have t3 : ((x1 : Int) != 45) = false := by rw [h46]; rfl
        have HN := hid (HNO.out (by rw [hrr, h46]; rfl))
        clear hrr h45 h46
        go_wp2_with fail
        go_at_call 44
        refine (fail_any _ _ _).mono ?_
        rintro e w3 ⟨rfl, rfl⟩
        go_wp2
        exact HN.out _ HBX.out
      · have t3 : ((x1 : Int) != 45) = true := by simp; omega
        rw [dcT h46, Bool.true_and] at hrr
        cases hco : codedN (bytesN s) with
        | false =>
          rw [hco] at CO hrr
          have HY := hid (HYES.out (by rw [hrr]; rfl))
          clear hrr h45 h46 hco
          go_wp2_with fail
          refine CO.out.mono ?_
          rintro e w3 ⟨rfl, hw3⟩
          have hw3' := hw3.symm
          subst hw3'
          clear hw3
          go_wp2
          exact HY.out _ HBX.out
        | true =>
          rw [hco] at CO hrr
          cases hde : decodeN (bytesN s) with
          | none =>
            rw [hde] at DE hrr
            have HN := hid (HNO.out (by rw [hrr]; rfl))
            clear hrr h45 h46 hco hde
            go_wp2_with fail
            refine CO.out.mono ?_
            rintro e w3 ⟨rfl, hw3⟩
            have hw3' := hw3.symm
            subst hw3'
            clear hw3
            go_wp2_with fail
            refine DE.out.mono ?_
            rintro e w4 ⟨hb4, rfl⟩
            have HB4 := hid (HBX.out.trans (hb4.mono HBX.out.size))
            clear hb4
            go_wp2_with fail
            go_at_call 44
            refine (fail_any _ _ _).mono ?_
            rintro e w5 ⟨rfl, rfl⟩
            go_wp2
            exact HN.out _ HB4.out
          | some cs =>
            rw [hde] at DE hrr
            have HY := hid (HYES.out (by rw [hrr]; rfl))
            clear hrr h45 h46 hco hde
            go_wp2_with fail
            refine CO.out.mono ?_
            rintro e w3 ⟨rfl, hw3⟩
            have hw3' := hw3.symm
            subst hw3'
            clear hw3
            go_wp2_with fail
            refine DE.out.mono ?_
            rintro e w4 ⟨hb4, v, rfl, hv⟩
            have HB4 := hid (HBX.out.trans (hb4.mono HBX.out.size))
            clear hb4 hv
            go_wp2
            exact HY.out _ HB4.out
theorem lright_any (s : ByteArray) (w : World) (hA : AllowT w) : Calls Tryz.prog 117 #[.string s] w (RtPost w (rightL (bytesN s))) := by
 by_cases h0 : 0 < s.size
 · by_cases h63 : 63 < s.size
   · have : rightL (bytesN s) = (14, 63) := by
       unfold rightL
       rw [if_neg (fun e => by have := bytesN_len s; rw [e] at this; simp at this; omega), if_pos (by rw [bytesN_len]; exact h63)]
     rw [this]; exact right_long s w h63
   · exact right_rest s w h0 (by omega) hA
 · obtain rfl := size_zero h0
   exact right_empty w
end
end Go.Proofs.YtbeodjipdpcaiaaGreatDoor
