/- Texts put together. -/
import Derived.Test.YtcaiibkgajhohaaGreatDoorYAsM0f
import Derived.Test.YtcaiibkgajhohaaGreatDoorYAsJ5f
import Derived.Test.YtcaiibkgajhohaaGreatDoorYAsJ6
import Derived.Deep.RegionHeld3
namespace Go.Proofs.YtcaiibkgajhohaaGreatDoor
open Go.RowKit
def AnRel (ac2 : List AppA) (y : AppA) (w5 : World) (t k : Value) (wr : World) : Prop := ∃ m nq : Nat, k = .int .i64 m ∧ m ≤ ac2.length ∧ t = .bool ((ac2.take m).any (apEq y)) ∧ wr = w5.drewN nq
set_option maxRecDepth 100000 in
set_option maxHeartbeats 4000000 in
/-- ref20.Apps -/
theorem rapps20_any (w : World) (a a2 : Option Addr) (c n2 c2 : Nat) (d : List DeA) (h : DeRow w a d) (hl : d.length ≤ 60) (hk : ∀ x ∈ d, x.apps.length ≤ 20) :
    Calls Tryz.prog 12 #[.agg #[.slice a d.length c, .slice a2 n2 c2]] w fun e w' => ∃ v, e = .returned v ∧ RowA w.heap.size w' v (allOnce [] d) ∧ Below w.heap.size w w' := by
 have XB := heap_alloc_new w (.cells #[.slice a d.length c, .slice a2 n2 c2] 27)
 have BB := ext_alloc (Below.refl _ w) (.cells #[.slice a d.length c, .slice a2 n2 c2] 27)
 obtain ⟨W, hW⟩ : ∃ W, w.alloc (.cells #[.slice a d.length c, .slice a2 n2 c2] 27) = W := ⟨_, rfl⟩
 rw [hW] at XB BB
 have DR := Lib.hid (h.ext BB)
 have HB := Lib.hid BB
 obtain ⟨n, hn⟩ : ∃ n, d.length = n := ⟨_, rfl⟩
 have HN := Lib.hid hn
 have HK := Lib.hid hk
 rw [hn] at hl hW XB ⊢
 have C0 := Lib.hid (fun W' (hb : Below W.heap.size W W') => (bcell1 hb (b := w.heap.size) (heap_lt XB) 0).trans (Lib.cell_of_heap XB 0))
 clear h XB BB hn hk
 have L20 := Lib.hid (fun j => Nat.le_trans (allOnce_len 20 (d.take j) [] (fun x hx => HK.out x (List.mem_of_mem_take hx))) (show ([] : List AppA).length + (d.take j).length * 20 ≤ 1200 by
  have := List.length_take_le' j d
  rw [HN.out] at this
  simp only [List.length_nil]; omega))
 go_enter Tryz.func12, Tryz.ntmps12
 go_wp2_with fail
 try rw [hW]
 clear hW
 go_loopw [3, 4] (AoRel d W) (fun _ i _ => n - (intOf i).toNat)
 case atStart => exact ⟨0, rfl, Nat.zero_le _, ext_alloc (Below.refl _ _) _, World.ownsRow_lit (base := W.heap.size) (e := 37) (size := 2) W #[] 0 (Nat.le_refl _) (by decide) rfl⟩
 case round =>
  obtain ⟨j, rfl, hj, hbr, ho⟩ := hrel
  rw [HN.out] at hj
  obtain ⟨acc, hacc⟩ : ∃ acc, allOnce [] (d.take j) = acc := ⟨_, rfl⟩
  have hL := L20.out j
  rw [hacc] at ho hL
  obtain ⟨na, hna⟩ : ∃ na, acc.length = na := ⟨_, rfl⟩
  have HNA := Lib.hid hna
  rw [hna] at hL
  have ho := ho.n hna
  obtain ⟨ao, lcap, rfl, _⟩ := aown_form ho
  have HO := Lib.hid ho
  have HBR := Lib.hid hbr
  have HL := Lib.hid hL
  have HAC := Lib.hid hacc
  have c0 : wr.cell? ⟨w.heap.size, 0, none⟩ = some (.slice a n c) := C0.out wr hbr
  clear ho hbr hna hL hacc
  by_cases hlt : j < n
  · have t1 : decide ((j : Int) < (n : Int)) = true := decide_eq_true (by omega)
    have t1' : decide (j < n) = true := decide_eq_true hlt
    have q1 : IntKind.i64.wrap ((j : Int) + 1) = (j : Int) + 1 := IntWalk.i64_in _ (by omega)
    obtain ⟨x, hx⟩ := get_ex d j (by rw [HN.out]; exact hlt)
    obtain ⟨b, o, a0, n0, k0, a1, n1, k1, rfl, hbl, z0, z1, hap⟩ := DR.out j x hx
    obtain ⟨hn0, hap2⟩ := hap.slice
    have hxl := HK.out x (List.mem_of_getElem? hx)
    have HN0 := Lib.hid hn0
    rw [← hn0] at hxl
    have HST := Lib.hid (show allOnce [] (d.take (j + 1)) = rowOnce acc x.apps by rw [← HAC.out]; exact take_step _ _ _ hx)
    have AP4 := Lib.hid hap
    have Z0 := Lib.hid (fun W' (hb : Below W.heap.size W W') => (bcell1 hb hbl _).trans z0)
    clear hx hap hap2 hn0 z0 z1
    go_wp2_with fail
    clear c0
    go_loopw [3, 5] (AiRel x.apps acc W) (fun _ i _ => n0 - (intOf i).toNat)
    case atStart => exact ⟨0, rfl, Nat.zero_le _, HBR.out, HO.out.a HNA.out⟩
    case round =>
     obtain ⟨i, rfl, hi, hbi, ho⟩ := hrel
     rw [← HN0.out] at hi
     have hla := rowOnce_len (x.apps.take i) acc
     have hlb := List.length_take_le' i x.apps
     rw [HNA.out] at hla
     rw [← HN0.out] at hlb
     obtain ⟨ac2, hac2⟩ : ∃ ac2, rowOnce acc (x.apps.take i) = ac2 := ⟨_, rfl⟩
     rw [hac2] at ho hla
     have HA2 := Lib.hid hac2
     obtain ⟨nb, hnb⟩ : ∃ nb, ac2.length = nb := ⟨_, rfl⟩
     have HL2 := Lib.hid (show nb ≤ 1240 by have := HL.out; omega)
     have HNB := Lib.hid hnb
     have ho := ho.n hnb
     obtain ⟨ao2, cp2, rfl, _⟩ := aown_form ho
     have HO2 := Lib.hid ho
     have HBI := Lib.hid hbi
     have c0 : wr.cell? ⟨w.heap.size, 0, none⟩ = some (.slice (some ⟨b, o, none⟩) n c) := C0.out wr hbi
     have x0 := Z0.out wr hbi
     clear ho hla hlb hac2 hnb hbi
     by_cases hlt2 : i < n0
     · have t5 : decide ((i : Int) < (n0 : Int)) = true := decide_eq_true (by omega)
       have t5' : decide (i < n0) = true := decide_eq_true hlt2
       have q2 : IntKind.i64.wrap ((i : Int) + 1) = (i : Int) + 1 := IntWalk.i64_in _ (by omega)
       obtain ⟨y, hy⟩ := get_ex x.apps i (by rw [← HN0.out]; exact hlt2)
       obtain ⟨bb, oo, rfl, hbb, y0, y1⟩ := (AP4.out.ext HBI.out).slice.2 i y hy
       have HS5 := Lib.hid (show onceA ac2 y = rowOnce acc (x.apps.take (i + 1)) by rw [← HA2.out]; exact (take_step _ _ _ hy).symm)
       have CE := Lib.hid ((HO2.out.a HNB.out).ap.slice.2)
       clear hy
       go_wp2_with fail
       generalize hwi : wr = wi at *
       go_loopw [6, 7] (AnRel ac2 y wi) (fun _ i _ => nb - (intOf i).toNat)
       case atStart => exact ⟨0, 0, rfl, Nat.zero_le _, rfl, rfl⟩
       case round =>
        obtain ⟨m, nq, rfl, hm, rfl, rfl⟩ := hrel
        rw [HNB.out] at hm
        obtain ⟨tb, htb⟩ : ∃ tb, (ac2.take m).any (apEq y) = tb := ⟨_, rfl⟩
        rw [htb]
        have HTB := Lib.hid htb
        clear htb
        by_cases hlt3 : m < nb
        · have t6 : decide ((m : Int) < (nb : Int)) = true := decide_eq_true (by omega)
          have t6' : decide (m < nb) = true := decide_eq_true hlt3
          have q3 : IntKind.i64.wrap ((m : Int) + 1) = (m : Int) + 1 := IntWalk.i64_in _ (by have := HL2.out; omega)
          obtain ⟨z, hz⟩ := get_ex ac2 m (by rw [HNB.out]; exact hlt3)
          obtain ⟨b3, o3, rfl, _, e0, e1⟩ := CE.out m z hz
          obtain ⟨p, hp⟩ : ∃ p, (z.team.toList == y.team.toList) = p := ⟨_, rfl⟩
          obtain ⟨q, hq⟩ : ∃ q, (z.bundle.toList == y.bundle.toList) = q := ⟨_, rfl⟩
          have R : ∀ k r, r = (tb || (p && q)) → AnRel ac2 y wi (.bool r) (.int .i64 ((m : Int) + 1)) (wi.drewN k) := fun k r h => ⟨m + 1, k, by go_num, by rw [HNB.out]; exact hlt3, by rw [h, any_step _ _ hz, HTB.out, apEq_comm, apEq_bool, hp, hq], rfl⟩
          have HR := Lib.hid R
          clear R hz
          cases tb
          case' false => cases p <;> cases q
          all_goals go_wp2
          all_goals go_quiet (fail)
          all_goals go_wp2
          all_goals refine ⟨?_, by simp [intOf]; omega⟩
          all_goals first | exact HR.out _ _ rfl | ((repeat apply Exists.intro); exact ⟨HR.out _ _ rfl, rfl⟩) | (cases p <;> cases q <;> first | exact HR.out _ _ rfl | ((repeat apply Exists.intro); exact ⟨HR.out _ _ rfl, rfl⟩))
        · have t6 : decide ((m : Int) < (nb : Int)) = false := decide_eq_false (by omega)
          have t6' : decide (m < nb) = false := decide_eq_false hlt3
          have HTE := Lib.hid (show onceA ac2 y = if tb = true then ac2 else ac2 ++ [y] by
           unfold onceA
           have h := HTB.out
           rw [take_all (l := ac2) (by rw [HNB.out]; exact hm) (by rw [HNB.out]; exact hlt3)] at h
           rw [h])
          have HBQ := Lib.hid (show Below W.heap.size W (wi.drewN nq) from ext_drewN _ HBI.out)
          have HOQ := Lib.hid (show RowN W.heap.size (wi.drewN nq) (.slice ao2 nb cp2) nb ac2 from aown_ext HO2.out (fun _ _ => rfl) (Nat.le_refl _))
          have hnb : nb ≤ 1240 := HL2.out
          cases tb with
          | true =>
            have hE := HTE.out
            rw [if_pos rfl] at hE
            have HR := Lib.hid (show AiRel x.apps acc W (.slice ao2 nb cp2) (.int .i64 ((i : Int) + 1)) (wi.drewN nq) from ⟨i + 1, by go_num, by rw [← HN0.out]; exact hlt2, HBQ.out, by rw [← HS5.out, hE]; exact HOQ.out.a HNB.out⟩)
            clear hE
            go_wp2
            refine ⟨?_, by simp [intOf]; omega⟩
            first | exact HR.out | ((repeat apply Exists.intro); exact ⟨HR.out, rfl⟩)
          | false =>
            have hE := HTE.out
            rw [if_neg (by simp)] at hE
            have HE := Lib.hid hE
            clear hE
            go_wp2_with (at_builtin; refine wpList_app1 (wi.drewN nq) #[.string y.team, .string y.bundle] 37 rfl _ _ 32 rfl W.heap.size elApp _ _ _ rfl HOQ.out rfl rfl ?c1 ?c2 ?c3 ?c4 ?_)
            case c1 => exact ⟨rfl, rfl⟩
            case c2 => unfold maxLen; omega
            case c3 => omega
            case c4 => exact HBQ.out.size
            intro v2 w7 ho7 hg7
            have hb7 : Below W.heap.size W w7 := (ext_alloc HBQ.out _).grown hg7 (ext_alloc HBQ.out _).size (fun k hk => (HOQ.out.lt k hk).1)
            have hl7 : (ac2 ++ [y]).length = nb + 1 := by rw [List.length_append, HNB.out]; rfl
            have ho8 : RowN W.heap.size w7 v2 (nb + 1) (ac2 ++ [y]) := by
             show w7.ownsRow _ _ 2 v2 (nb + 1) ((ac2 ++ [y]).flatMap appC)
             rw [List.flatMap_append]
             exact ho7
            have R : AiRel x.apps acc W v2 (.int .i64 ((i : Int) + 1)) w7 := ⟨i + 1, by go_num, by rw [← HN0.out]; exact hlt2, hb7, by rw [← HS5.out, HE.out]; exact ho8.a hl7⟩
            obtain ⟨a2, c2, rfl, _⟩ := aown_form ho8
            have HR := Lib.hid R
            clear R ho7 hg7 hb7 hl7 ho8
            go_wp2
            refine ⟨?_, by simp [intOf]; omega⟩
            first | exact HR.out | ((repeat apply Exists.intro); exact ⟨HR.out, rfl⟩)
     · have t5 : decide ((i : Int) < (n0 : Int)) = false := decide_eq_false (by omega)
       have t5' : decide (i < n0) = false := decide_eq_false hlt2
       have HF := Lib.hid (show x.apps.take i = x.apps from take_all (by rw [← HN0.out]; exact hi) (by rw [← HN0.out]; exact hlt2))
       go_wp2
       refine ⟨?_, by simp [intOf]; omega⟩
       have R : AoRel d W (.slice ao2 nb cp2) (.int .i64 ((j : Int) + 1)) wr := ⟨j + 1, by go_num, by rw [HN.out]; exact hlt, HBI.out, by rw [HST.out, ← HF.out, HA2.out]; exact HO2.out.a HNB.out⟩
       first | exact R | ((repeat apply Exists.intro); exact ⟨R, rfl⟩)
  · have t1 : decide ((j : Int) < (n : Int)) = false := decide_eq_false (by omega)
    have t1' : decide (j < n) = false := decide_eq_false hlt
    have HF := Lib.hid (show acc = allOnce [] d by rw [← HAC.out, take_all (l := d) (by rw [HN.out]; exact hj) (by rw [HN.out]; exact hlt)])
    go_wp2
    go_ret
    have h := HO.out.a HNA.out
    rw [HF.out] at h
    exact ⟨_, rfl, aown_ext h (fun _ _ => rfl) HB.out.size, ext_trans HB.out HBR.out⟩
end Go.Proofs.YtcaiibkgajhohaaGreatDoor
namespace Go.Proofs.YtcaiibkgajhohaaGreatDoor
open Go.RowKit
def MaRel (d : List DeA) (w : World) (k : Value) (wr : World) : Prop := ∃ j : Nat, k = .int .i64 j ∧ j ≤ d.length ∧ Below w.heap.size w wr ∧ ∀ m x, m < j → d[m]? = some x → x.apps.length ≤ 20
/-- Rows of details, as data, in memory: their apps. -/
theorem deRow_of {α : Type} (f : α → List AppA) (g : α → List Dat) {w : World} {v : Value} {d : List α} (h : Rd (Own w) w v (.list 2 (d.flatMap fun x => [.list 2 ((f x).flatMap appD), .list 10 (g x)]))) : ∃ a c, v = .slice a (d.map fun x => (⟨f x, []⟩ : DeA)).length c ∧ DeRow w a (d.map fun x => ⟨f x, []⟩) := by
 obtain ⟨a, c, rfl, hr⟩ := flat_read (f := fun x => [.list 2 ((f x).flatMap appD), .list 10 (g x)]) (k := 2) (fun _ => rfl) (by decide) h
 refine ⟨a, c, by rw [List.length_map], fun j x hx => ?_⟩
 rw [List.getElem?_map] at hx
 obtain ⟨y, hy, rfl⟩ := Option.map_eq_some_iff.1 hx
 obtain ⟨b, o, ha, hS, hc⟩ := hr j y hy
 obtain ⟨u0, k0, r0⟩ := hc 0 _ rfl
 obtain ⟨u1, k1, r1⟩ := hc 1 _ rfl
 obtain ⟨a0, c0, rfl, hA⟩ := flat_read (f := appD) (k := 2) (fun _ => rfl) (by decide) r0
 obtain ⟨a1, n1, c1, rfl, _⟩ := r1.list_inv
 refine ⟨b, o, a0, _, c0, a1, n1, c1, ha, hS, k0, k1, a0, c0, rfl, fun i y hy => ?_⟩
 obtain ⟨bb, oo, ha0, hSS, hcc⟩ := hA i y hy
 obtain ⟨p0, g0, q0⟩ := hcc 0 _ rfl
 obtain ⟨p1, g1, q1⟩ := hcc 1 _ rfl
 obtain rfl := q0.str_inv
 obtain rfl := q1.str_inv
 exact ⟨bb, oo, ha0, hSS, g0, g1⟩
set_option maxRecDepth 100000 in
set_option maxHeartbeats 4000000 in
/-- waybilllaw20.AasaApps -/
theorem aasaApps_at (w : World) (a : Option Addr) (c : Nat) (d : List DeA) (h : DeRow w a d) (he : E20 w) : Calls Tryz.prog 4 #[.slice a d.length c] w fun e w' => e = .returned (.bool true) ∧ Below w.heap.size w w' := by
 have SP := Lib.hid (speaks20 w he)
 obtain ⟨n, hn⟩ : ∃ n, d.length = n := ⟨_, rfl⟩
 have HN := Lib.hid hn
 have HD := Lib.hid h
 have AP := Lib.hid (fun W (hW : Below w.heap.size w W) (hl : n ≤ 60) hk => apps_any W a none c 0 0 d (h.ext hW) (by rw [hn]; exact hl) hk)
 have RP := Lib.hid (fun W (hW : Below w.heap.size w W) (hl : n ≤ 60) hk => rapps20_any W a none c 0 0 d (h.ext hW) (by rw [hn]; exact hl) hk)
 rw [hn] at AP RP ⊢
 clear h he hn
 by_cases hz : 60 < n
 · have t1 : decide ((60 : Int) < (n : Int)) = true := decide_eq_true (by omega)
   have t1' : decide (60 < n) = true := decide_eq_true hz
   clear AP RP hz
   go_enter Tryz.func4, Tryz.ntmps4
   go_wp2_with fail
   refine SP.out.mono ?_
   rintro e w1 ⟨rfl, hb1⟩
   have HB := Lib.hid hb1
   clear hb1
   go_wp2
   go_ret
   exact ⟨rfl, HB.out⟩
 · have t1 : decide ((60 : Int) < (n : Int)) = false := decide_eq_false (by omega)
   have t1' : decide (60 < n) = false := decide_eq_false hz
   have hz2 : n ≤ 60 := Nat.le_of_not_lt hz
   go_enter Tryz.func4, Tryz.ntmps4
   go_wp2_with fail
   refine SP.out.mono ?_
   rintro e w1 ⟨rfl, hb1⟩
   have HB := Lib.hid hb1
   clear hb1 hz
   go_wp2_with fail
   go_loopw [13] (MaRel d w) (fun i _ => n - (intOf i).toNat)
   case atStart => exact ⟨0, rfl, Nat.zero_le _, HB.out, fun m x h => absurd h (Nat.not_lt_zero _)⟩
   case round =>
    obtain ⟨j, rfl, hj, hbr, hfew⟩ := hrel
    rw [HN.out] at hj
    have HF := Lib.hid hfew; have HBR := Lib.hid hbr
    clear hfew hbr
    by_cases hlt : j < n
    · have t5 : decide ((j : Int) < (n : Int)) = true := decide_eq_true (by omega)
      have t5' : decide (j < n) = true := decide_eq_true hlt
      have q1 : IntKind.i64.wrap ((j : Int) + 1) = (j : Int) + 1 := IntWalk.i64_in _ (by omega)
      obtain ⟨x, hx⟩ := get_ex d j (by rw [HN.out]; exact hlt)
      obtain ⟨b, o, a0, n0, k0, a1, n1, k1, rfl, hbl, z0, z1, hap⟩ := (HD.out.ext HBR.out) j x hx
      have HN0 := Lib.hid hap.slice.1
      have HX := Lib.hid hx
      have HBE := Lib.hid (ext_alloc HBR.out (.cells #[.slice a0 n0 k0, .slice a1 n1 k1] 35))
      clear hap hx
      by_cases h20 : 20 < n0
      · have t6 : decide ((20 : Int) < (n0 : Int)) = true := decide_eq_true (by omega)
        have t6' : decide (20 < n0) = true := decide_eq_true h20
        clear h20
        go_wp2
        go_ret
        exact ⟨rfl, HBE.out⟩
      · have t6 : decide ((20 : Int) < (n0 : Int)) = false := decide_eq_false (by omega)
        have t6' : decide (20 < n0) = false := decide_eq_false h20
        have HR := Lib.hid (show MaRel d w (.int .i64 ((j : Int) + 1)) (wr.alloc (.cells #[.slice a0 n0 k0, .slice a1 n1 k1] 35)) from ⟨j + 1, by go_num, by rw [HN.out]; exact hlt, HBE.out, fun m y hm hy => by
         by_cases e : m = j
         · subst e
           rw [HX.out] at hy
           cases hy
           rw [← HN0.out]; omega
         · exact HF.out m y (by omega) hy⟩)
        clear h20
        go_wp2
        refine ⟨?_, by simp [intOf]; omega⟩
        first | exact HR.out | ((repeat apply Exists.intro); exact ⟨HR.out, rfl⟩)
    · have t5 : decide ((j : Int) < (n : Int)) = false := decide_eq_false (by omega)
      have t5' : decide (j < n) = false := decide_eq_false hlt
      have hk : ∀ x ∈ d, x.apps.length ≤ 20 := fun x hx => by
       obtain ⟨m, hm, he⟩ := List.mem_iff_getElem.1 hx
       exact HF.out m x (by rw [HN.out] at hm; omega) (by rw [List.getElem?_eq_getElem hm, he])
      have X3 := heap_alloc_new wr (.cells #[.slice a n c, .slice none 0 0] 27)
      have B3 := ext_alloc HBR.out (.cells #[.slice a n c, .slice none 0 0] 27)
      obtain ⟨A, hA⟩ : ∃ A, wr.heap.size = A := ⟨_, rfl⟩
      obtain ⟨w3, hw3⟩ : ∃ w3, wr.alloc (.cells #[.slice a n c, .slice none 0 0] 27) = w3 := ⟨_, rfl⟩
      rw [hw3] at X3 B3
      rw [hA] at X3
      have hA3 := heap_lt X3
      have CA := fun W (hb : Below w3.heap.size w3 W) => (show W.cell? ⟨A, 0, none⟩ = some (.slice a n c) ∧ W.cell? ⟨A, 1, none⟩ = some (.slice none 0 0) from ⟨(bcell1 hb hA3 _).trans (Lib.cell_of_heap X3 0), (bcell1 hb hA3 _).trans (Lib.cell_of_heap X3 1)⟩)
      have S3 := CA w3 (Below.refl _ _)
      have HCA := Lib.hid CA
      have A1 := Lib.hid (AP.out (w3.drewN 1) (ext_drewN _ B3) hz2 hk)
      have A2 := Lib.hid (fun W (hb : Below w3.heap.size w3 W) => RP.out W (B3.trans (hb.mono B3.size)) hz2 hk)
      have HK := Lib.hid hk
      have LL := Lib.hid (show (allOnce [] d).length ≤ 1100000 by
       have h := allOnce_len 20 d [] hk
       rw [HN.out] at h
       simp only [List.length_nil] at h
       omega)
      have HB3 := Lib.hid B3
      have cA0 := S3.1; have cA1 := S3.2
      have HA := Lib.hid hA; have HW3 := Lib.hid hw3
      clear X3 B3 CA hk AP RP hA3 hw3 hA cA0 cA1
      go_wp2_with fail
      rw [HW3.out, HA.out]
      refine wp_region_noPanic ?_
      refine wp_region_held_drew (S := fun W => W.cell? ⟨A, 0, none⟩ = some (.slice a n c) ∧ W.cell? ⟨A, 1, none⟩ = some (.slice none 0 0)) (by kernel_rfl) S3 (fun hHeld => ?_)
      refine wpAnyH_take (i := 0) (oi := _) (v := .agg #[.slice a n c, .slice none 0 0]) rfl (by kernel_rfl) (by kernel_rfl) (by kernel_rfl) (fun _ _ _ h => h) (Or.inl ⟨by rfl, ?_⟩) hHeld ?_
      · intro w hSw; obtain ⟨y0, y1⟩ := hSw; go_simp
      try simp only [Act.put, List.setIfInBounds_toArray, List.set_cons_zero, List.set_cons_succ, List.getElem_toArray, List.getElem_cons_zero]
      refine wpAnyH_take (i := 2) (oi := _) (v := .agg #[.slice a n c, .slice none 0 0]) rfl (by kernel_rfl) (by kernel_rfl) (by kernel_rfl) (fun _ _ _ h => h) (Or.inl ⟨by rfl, ?_⟩) hHeld ?_
      · intro w hSw; obtain ⟨y0, y1⟩ := hSw; go_simp
      try simp only [Act.put, List.setIfInBounds_toArray, List.set_cons_zero, List.set_cons_succ, List.getElem_toArray, List.getElem_cons_zero, List.getElem_cons_succ]
      refine wpAnyH_ready (rs := [1]) (by kernel_rfl) (by simp) ?_
      refine AllReadyH.cons (o := _) rfl (fun K hK => ?_) AllReadyH.nil
      go_simp
      refine A1.out.mono ?_
      rintro e w4 ⟨v4, rfl, ho4, hb4⟩
      obtain ⟨g4, c4, rfl, _⟩ := aown_form ho4
      have B4 := Lib.hid (show Below w3.heap.size w3 w4 from (ext_drewN 1 (Below.refl _ w3)).trans hb4)
      have R4 := Lib.hid ho4.ap
      clear ho4 hb4
      go_wp2_with fail
      refine hK.out _ _ (HCA.out _ B4.out) (fun hHeld => ?_)
      clear hK K
      try simp only [Act.put, List.setIfInBounds_toArray, List.set_cons_zero, List.set_cons_succ, List.getElem_toArray, List.getElem_cons_zero, List.getElem_cons_succ]
      refine wpAnyH_ready (rs := [3]) (by kernel_rfl) (by simp) ?_
      refine AllReadyH.cons (o := _) rfl (fun K hK => ?_) AllReadyH.nil
      go_simp
      refine (A2.out _ B4.out).mono ?_
      rintro e w5 ⟨v5, rfl, ho5, hb5⟩
      obtain ⟨g5, c5, rfl, _⟩ := aown_form ho5
      have B5 := Lib.hid (ext_trans B4.out hb5)
      have SM := Lib.hid (sameAp_any w5 _ _ (allOnce [] d) (R4.out.ext hb5) ho5.ap LL.out)
      clear ho5 hb5
      go_wp2_with fail
      refine hK.out _ _ (HCA.out _ B5.out) (fun hHeld => ?_)
      clear hK K
      try simp only [Act.put, List.setIfInBounds_toArray, List.set_cons_zero, List.set_cons_succ, List.getElem_toArray, List.getElem_cons_zero, List.getElem_cons_succ]
      refine wpAnyH_ready (rs := [4]) (by kernel_rfl) (by simp) ?_
      refine AllReadyH.cons (o := _) rfl (fun K hK => ?_) AllReadyH.nil
      go_simp
      refine SM.out.mono ?_
      rintro e w6 ⟨rfl, hb6⟩
      have B6 := Lib.hid (ext_trans B5.out hb6)
      clear hb6
      go_wp2_with fail
      refine hK.out _ _ (HCA.out _ B6.out) (fun hHeld => ?_)
      clear hK K
      try simp only [Act.put, List.setIfInBounds_toArray, List.set_cons_zero, List.set_cons_succ, List.getElem_toArray, List.getElem_cons_zero, List.getElem_cons_succ]
      refine wpAnyH_ready (rs := [5]) (by kernel_rfl) (by simp) ?_
      refine AllReadyH.cons (o := _) rfl (fun K hK => ?_) AllReadyH.nil
      go_simp
      refine hK.out _ _ (HCA.out _ B6.out) (fun hHeld => ?_)
      clear hK K
      try simp only [Act.put, List.setIfInBounds_toArray, List.set_cons_zero, List.set_cons_succ, List.getElem_toArray, List.getElem_cons_zero, List.getElem_cons_succ]
      refine wpAnyH_done (by kernel_rfl) ?_ _
      refine NoPanic.normal ?_
      go_wp2
      go_ret
      exact ⟨rfl, HB3.out.trans (B6.out.mono HB3.out.size)⟩
theorem aasaApps_any {α : Type} (f : α → List AppA) (g : α → List Dat) (w : World) (v : Value) (d : List α) (h : Rd (Own w) w v (.list 2 (d.flatMap fun x => [.list 2 ((f x).flatMap appD), .list 10 (g x)]))) (he : E20 w) : Calls Tryz.prog 4 #[v] w fun e w' => e = .returned (.bool true) ∧ Below w.heap.size w w' := by
 obtain ⟨a, c, rfl, hd⟩ := deRow_of f g h
 exact aasaApps_at w a c _ hd he
end Go.Proofs.YtcaiibkgajhohaaGreatDoor
