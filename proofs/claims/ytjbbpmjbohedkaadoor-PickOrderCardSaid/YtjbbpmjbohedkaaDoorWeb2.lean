/- What becomes of a web URL: the walks. -/
import Derived.Test.YtjbbpmjbohedkaaDoorWeb1
namespace Go.Proofs.YtjbbpmjbohedkaaDoor
open Go.RowKit
def readyApps (cs : List Cand) : List ByteArray := (cs.filter Cand.ready).map Cand.app
theorem readyApps_snoc (cs : List Cand) (j : Nat) (x : Cand) (h : cs[j]? = some x) : readyApps (cs.take (j + 1)) = readyApps (cs.take j) ++ if x.ready then [x.app] else [] := by
  simp only [readyApps, List.take_add_one, h, Option.toList_some, List.filter_append, List.map_append]
  cases hx : x.ready <;> simp [hx]
theorem readyApps_le (cs : List Cand) : (readyApps cs).length ≤ cs.length := by simp only [readyApps, List.length_map]; exact List.length_filter_le _ _
def WebRel (cs : List Cand) (W : World) (v i : Value) (wr : World) : Prop := ∃ j : Nat, i = .int .i64 j ∧ j ≤ cs.length ∧ wr.ownsRow W.heap.size 9 1 v (readyApps (cs.take j)).length ((readyApps (cs.take j)).map Value.string) ∧ Below W.heap.size W wr
def webK (cs : List Cand) : Int := if (readyApps cs).length = 0 then 2 else chosenK (readyApps cs).length
def webR (cs : List Cand) : Int := if (readyApps cs).length = 0 then reasonN cs else chosenR (readyApps cs).length

set_option maxHeartbeats 1600000 in
theorem web_any (v : Value) (cs : List Cand) (w : World) (hs : Rd (Own w) w v (candsD cs)) (hm : cs.length ≤ 2000000) :
    Calls Tryd.prog 19 #[v] w fun e w' => ∃ v', e = .returned (.agg #[.int .i64 (webK cs), v', .int .i64 (webR cs)]) ∧ Rd (Fresh w w') w' v' (strsD (readyApps cs)) ∧ Below w.heap.size w w' := by
  obtain ⟨a, c, rfl, hac, _, hc⟩ := cands_inv hs
  have hb0 : Below w.heap.size w (w.alloc (.cells #[.int .i64 0, .slice none 0 0, .int .i64 0] 24)) := (Below.refl _ _).alloc (Nat.le_refl _) _
  have HC := Lib.hid hc; have HB0 := Lib.hid hb0
  clear hc hac hb0
  go_enter Tryd.func19, Tryd.ntmps19
  go_wp2_with fail
  go_loopw [3, 8] (WebRel cs (w.alloc (.cells #[.int .i64 0, .slice none 0 0, .int .i64 0] 24))) (fun _ i _ => cs.length - (intOf i).toNat)
  case atStart => exact ⟨0, rfl, Nat.zero_le _, World.ownsRow_nil _ _ _ _, Below.refl _ _⟩
  case round =>
    obtain ⟨j, rfl, hj, ho, hb⟩ := hrel
    have zr : w.heap.size + 1 ≤ wr.heap.size := by have := hb.size; simp at this; omega
    by_cases hlt : j < cs.length
    · obtain ⟨b, off, rfl, hSb, hc⟩ := HC.out (by omega)
      obtain ⟨x, hx⟩ := get_ex cs j hlt
      obtain ⟨x0, x1, x2, x3, x4⟩ := hc j x hx
      have hz : b < w.heap.size := hSb
      rw [← bcell1 (HB0.out.trans (hb.mono (by simp))) hz] at x0 x1 x2 x3 x4
      have hz1 : b < wr.heap.size := by omega
      have hsn := readyApps_snoc cs j x hx
      have hle := readyApps_le (cs.take j)
      have hle2 : (cs.take j).length ≤ j := List.length_take_le _ _
      have HO := Lib.hid ho; have HB := Lib.hid hb; have HS := Lib.hid hsn
      clear hx hc ho hb hsn
      obtain ⟨vo, capo, rfl, hform⟩ := owned_form HO.out
      have HF := Lib.hid hform; clear hform
      go_wp2_with fail
      refine (ready_any x _).mono ?_
      rintro e w1 ⟨rfl, hb1⟩
      have z1 : wr.heap.size < w1.heap.size := by have := hb1.size; simp at this; omega
      have d1 := bcell1 hb1 (b := wr.heap.size) (by simp)
      have hb1' : Below wr.heap.size wr w1 := ((Below.refl _ wr).alloc (Nat.le_refl _) _).trans (hb1.mono (by simp))
      have ho1 := owns_ext HO.out hb1' (Nat.le_refl _)
      have HB1 := Lib.hid hb1'; clear hb1 hb1'
      cases hr : x.ready with
      | true =>
        have HO1 := Lib.hid ho1
        go_wp2_with (at_builtin; refine wpList_app1 w1 #[.string x.app] _ rfl _ _ 22 rfl _ elStr _ _ _ rfl ho1 rfl rfl ?c1 ?c2 ?c3 ?c4 ?_)
        case c1 => first | rfl | (intro u hu; simp at hu; subst hu; rfl)
        case c2 => simp [maxLen]; omega
        case c3 => omega
        case c4 => exact Nat.le_trans HB.out.size HB1.out.size
        intro v2 w2 ho2 hg2
        have R : WebRel cs (w.alloc (.cells #[.int .i64 0, .slice none 0 0, .int .i64 0] 24)) v2 (.int .i64 (j + 1)) w2 := by
          refine ⟨j + 1, by go_num, by omega, ?_, ?_⟩
          · rw [HS.out, hr]; simpa using ho2
          · exact ((HB.out.trans (HB1.out.mono HB.out.size)).alloc (by have := HB1.out.size; have := HB.out.size; omega) _).grown hg2 (by have := HB1.out.size; have := HB.out.size; simp; omega) (fun k hk => (HO1.out.lt k hk).1)
        have HR := Lib.hid R; clear R ho1 ho2 hg2
        go_wp2
        refine ⟨?_, by simp [intOf]; omega⟩
        have R := HR.out
        first | exact R | ((repeat apply Exists.intro); exact ⟨R, rfl⟩)
      | false =>
        have R : WebRel cs (w.alloc (.cells #[.int .i64 0, .slice none 0 0, .int .i64 0] 24)) (.slice vo (readyApps (cs.take j)).length capo) (.int .i64 (j + 1)) w1 :=
          ⟨j + 1, by go_num, by omega, by rw [HS.out, hr]; simpa using ho1, HB.out.trans (HB1.out.mono HB.out.size)⟩
        have HR := Lib.hid R; clear R ho1
        go_wp2
        refine ⟨?_, by simp [intOf]; omega⟩
        have R := HR.out
        first | exact R | ((repeat apply Exists.intro); exact ⟨R, rfl⟩)
    · have ht : cs.take j = cs := List.take_of_length_le (by omega)
      rw [ht] at ho
      have hbw := HB0.out.trans (hb.mono (by simp))
      have hlt := ho.lt
      obtain ⟨vo, capo, rfl, hform⟩ := owned_form ho
      have q1 := bcell1 hb (b := w.heap.size) (by simp)
      have q2 := bfrozen1 hb (b := w.heap.size) (by simp)
      have hr : Rd (fun b => w.heap.size + 1 ≤ b ∧ b < wr.heap.size) wr (.slice vo (readyApps cs).length capo) (strsD (readyApps cs)) := by
        refine rd_owned ho ⟨by simp, fun i u d hu hd => ?_⟩ (fun g hg => by have := hlt g hg; simp at this; exact this)
        simp at hu hd
        obtain ⟨s, hs, rfl⟩ := hu
        rw [hs] at hd; simp at hd; subst hd; exact .str _
      have HR := Lib.hid hr; have HBW := Lib.hid hbw; have HBB := Lib.hid hb
      by_cases h0 : (readyApps cs).length = 0
      · have e1 : webK cs = 2 := if_pos h0
        have e2 : webR cs = reasonN cs := if_pos h0
        have e3 : readyApps cs = [] := List.eq_nil_of_length_eq_zero h0
        have hs' := hs.ext hbw
        have p0 : (((readyApps cs).length : Int) == 0) = true := beq_iff_eq.2 (by omega)
        have E1 := Lib.hid e1; have E2 := Lib.hid e2; have E3 := Lib.hid e3
        clear e1 e2 e3 h0 hr hb hbw ho hlt hform ht
        go_wp2_with fail
        refine (reason_any _ cs _ hs' (by omega)).mono ?_
        rintro e w1 ⟨rfl, hb1⟩
        have hz : w.heap.size < w1.heap.size := by have := hb1.size; omega
        have r1 := bcell1 hb1 (b := w.heap.size) (by omega)
        have r2 := bfrozen1 hb1 (b := w.heap.size) (by omega)
        have HB1 := Lib.hid hb1; clear hb1
        go_wp2
        have hbb := ext_trans HBW.out HB1.out
        refine bodyPost_ret (v := .agg #[.int .i64 2, .slice none 0 0, .int .i64 (reasonN cs)]) (by simp [results, Tryd.results19, go_sem, r1, q1]) rfl ⟨_, by rw [E1.out, E2.out], ?_, ((hbb.setCell (Nat.le_refl _) _).setCell (Nat.le_refl _) _).setCell (Nat.le_refl _) _⟩
        rw [E3.out]; exact .list0 _ _ _ (fun _ => rfl)
      · have e1 : webK cs = chosenK (readyApps cs).length := if_neg h0
        have e2 : webR cs = chosenR (readyApps cs).length := if_neg h0
        have p0 : (((readyApps cs).length : Int) == 0) = false := beq_eq_false_iff_ne.2 (by omega)
        have E1 := Lib.hid e1; have E2 := Lib.hid e2
        clear e1 e2 hr hb hbw ho hlt hform ht
        go_wp2_with fail
        refine (chosen_any _ _ _ _).mono ?_
        rintro e w1 ⟨rfl, hb1⟩
        have hz : w.heap.size < w1.heap.size := by have := hb1.size; omega
        have r1 := bcell1 hb1 (b := w.heap.size) (by omega)
        have r2 := bfrozen1 hb1 (b := w.heap.size) (by omega)
        have HB1 := Lib.hid hb1; clear hb1
        go_wp2
        have hbb := ext_trans HBW.out HB1.out
        refine bodyPost_ret (v := .agg #[.int .i64 (chosenK (readyApps cs).length), .slice vo (readyApps cs).length capo, .int .i64 (chosenR (readyApps cs).length)]) (by simp [results, Tryd.results19, go_sem, r1, q1]) rfl ⟨_, by rw [E1.out, E2.out], ?_, ((hbb.setCell (Nat.le_refl _) _).setCell (Nat.le_refl _) _).setCell (Nat.le_refl _) _⟩
        refine (HR.out.mono (S' := fun b => w.heap.size + 1 ≤ b ∧ b < wr.heap.size) (fun b hS => HB1.out.block b hS.2) (fun _ h => h)).only (B := w.heap.size) ?_ (fun b hS => by omega) (fun b hS => ⟨by omega, by have := HB1.out.size; simp; omega⟩)
        repeat apply OnlyB.set
        exact OnlyB.refl _ _
end Go.Proofs.YtjbbpmjbohedkaaDoor
