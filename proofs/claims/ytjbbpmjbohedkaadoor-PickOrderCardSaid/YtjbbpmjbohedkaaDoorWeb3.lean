/- The document's answer to a web URL: the walk. -/
import Derived.Test.YtjbbpmjbohedkaaDoorWeb2
namespace Go.Proofs.YtjbbpmjbohedkaaDoor
open Go.RowKit
def reasonB (a b c : Bool) : Int := if a then 7 else if b then 6 else if c then 5 else 4
def Cand.rank (c : Cand) : Int := reasonB c.t2 c.t3 c.t4
def stepW (y : Int) (c : Cand) : Int := if y < c.rank then c.rank else y
def whyN (cs : List Cand) : Int := cs.foldl stepW 4
theorem whyN_snoc (cs : List Cand) (j : Nat) (x : Cand) (h : cs[j]? = some x) : whyN (cs.take (j + 1)) = stepW (whyN (cs.take j)) x := by
  simp only [whyN, List.take_add_one, h, Option.toList_some, List.foldl_append, List.foldl_cons, List.foldl_nil]
theorem reasonN_B (cs : List Cand) : reasonN cs = reasonB (cs.any Cand.t2) (cs.any Cand.t3) (cs.any Cand.t4) := rfl
theorem reasonB_or : ∀ a2 a3 a4 b2 b3 b4 : Bool, reasonB (a2 || b2) (a3 || b3) (a4 || b4) = if reasonB a2 a3 a4 < reasonB b2 b3 b4 then reasonB b2 b3 b4 else reasonB a2 a3 a4 := by decide
theorem reasonB_bd : ∀ a b c : Bool, 4 ≤ reasonB a b c ∧ reasonB a b c ≤ 7 := by decide
theorem foldl_rank : ∀ (cs : List Cand) (y : Int), 4 ≤ y → y ≤ 7 → cs.foldl stepW y = if y < reasonN cs then reasonN cs else y
  | [], y, h, _ => by
    have : reasonN [] = 4 := rfl
    rw [this, if_neg (by omega)]; rfl
  | c :: cs, y, h, h7 => by
    have hr := reasonB_bd c.t2 c.t3 c.t4
    have hy : 4 ≤ stepW y c ∧ stepW y c ≤ 7 := by unfold stepW Cand.rank; split <;> omega
    rw [List.foldl_cons, foldl_rank cs _ hy.1 hy.2]
    have key : reasonN (c :: cs) = if c.rank < reasonN cs then reasonN cs else c.rank := by
      rw [reasonN_B, reasonN_B]; simp only [List.any_cons]; exact reasonB_or _ _ _ _ _ _
    rw [key]
    unfold stepW
    generalize reasonN cs = m
    generalize c.rank = r at *
    split <;> split <;> (try split) <;> (try split) <;> omega
theorem whyN_eq (cs : List Cand) : whyN cs = reasonN cs := by
  unfold whyN
  rw [foldl_rank cs 4 (by omega) (by omega)]
  have := reasonB_bd (cs.any Cand.t2) (cs.any Cand.t3) (cs.any Cand.t4)
  rw [← reasonN_B] at this
  split <;> omega
def RWebRel (cs : List Cand) (W : World) (v y i : Value) (wr : World) : Prop := ∃ j : Nat, i = .int .i64 j ∧ j ≤ cs.length ∧ y = .int .i64 (whyN (cs.take j)) ∧ wr.ownsRow W.heap.size 9 1 v (readyApps (cs.take j)).length ((readyApps (cs.take j)).map Value.string) ∧ Below W.heap.size W wr
def rwebK (cs : List Cand) : Int := if (readyApps cs).length = 0 then 2 else ofK (readyApps cs).length
def rwebR (cs : List Cand) : Int := if (readyApps cs).length = 0 then reasonN cs else ofR (readyApps cs).length

set_option maxHeartbeats 8000000 in
theorem rweb_any (v : Value) (cs : List Cand) (w : World) (hs : Rd (Own w) w v (candsD cs)) (hm : cs.length ≤ 2000000) :
    Calls Tryd.prog 20 #[v] w fun e w' => ∃ v', e = .returned (.agg #[.int .i64 (rwebK cs), v', .int .i64 (rwebR cs)]) ∧ Rd (Fresh w w') w' v' (strsD (readyApps cs)) ∧ Below w.heap.size w w' := by
  obtain ⟨a, c, rfl, hac, _, hc⟩ := cands_inv hs
  have hb0 : Below w.heap.size w (w.alloc (.cells #[.int .i64 0, .slice none 0 0, .int .i64 0] 24)) := (Below.refl _ _).alloc (Nat.le_refl _) _
  have HC := Lib.hid hc; have HB0 := Lib.hid hb0
  clear hc hac hb0
  go_enter Tryd.func20, Tryd.ntmps20
  go_wp2_with fail
  go_loopw [3, 4, 5] (RWebRel cs (w.alloc (.cells #[.int .i64 0, .slice none 0 0, .int .i64 0] 24))) (fun _ _ i _ => cs.length - (intOf i).toNat)
  case atStart => exact ⟨0, rfl, Nat.zero_le _, rfl, by have := World.ownsRow_lit (base := w.heap.size + 1) (e := 9) (size := 1) (w.alloc (.cells #[.int .i64 0, .slice none 0 0, .int .i64 0] 24)) #[] 0 (by simp) (by decide) rfl; simpa [readyApps] using this, ext_alloc (Below.refl _ _) _⟩
  case round =>
    obtain ⟨j, rfl, hj, rfl, ho, hb⟩ := hrel
    have zr : w.heap.size + 1 ≤ wr.heap.size := by have := hb.size; simp at this; omega
    by_cases hlt : j < cs.length
    · obtain ⟨b, off, rfl, hSb, hc⟩ := HC.out (by omega)
      obtain ⟨x, hx⟩ := get_ex cs j hlt
      obtain ⟨x0, x1, x2, x3, x4⟩ := hc j x hx
      have hz : b < w.heap.size := hSb
      rw [← bcell1 (HB0.out.trans (hb.mono (by simp))) hz] at x0 x1 x2 x3 x4
      have hz1 : b < wr.heap.size := by omega
      have hsn := readyApps_snoc cs j x hx
      have hwn := whyN_snoc cs j x hx
      have hle := readyApps_le (cs.take j)
      have hle2 : (cs.take j).length ≤ j := List.length_take_le _ _
      have HO := Lib.hid ho; have HB := Lib.hid hb; have HS := Lib.hid hsn; have HW := Lib.hid hwn
      clear hx hc ho hb hsn hwn
      obtain ⟨vo, capo, rfl, hform⟩ := owned_form HO.out
      have HF := Lib.hid hform; clear hform
      generalize hy : whyN (cs.take j) = y at *
      obtain ⟨app, ba, bb, bl, bo⟩ := x
      have key : (ba = false) ∨ (ba = true ∧ bb = false) ∨ (ba = true ∧ bb = true ∧ bl = false) ∨ (ba = true ∧ bb = true ∧ bl = true ∧ bo = true) ∨ (ba = true ∧ bb = true ∧ bl = true ∧ bo = false) := by
        cases ba <;> cases bb <;> cases bl <;> cases bo <;> simp
      have kst : stepW y ⟨app, ba, bb, bl, bo⟩ = if y < reasonB (ba && bb && bl && bo) (ba && bb) ba then reasonB (ba && bb && bl && bo) (ba && bb) ba else y := rfl
      have krd : Cand.ready ⟨app, ba, bb, bl, bo⟩ = (ba && bb && bl && !bo) := rfl
      have HY := Lib.hid hy; have HK := Lib.hid kst; have HR := Lib.hid krd; clear hy kst krd
      go_wp2_with fail
      refine (rready_any ⟨app, ba, bb, bl, bo⟩ _).mono ?_
      rintro e w1 ⟨rfl, hb1⟩
      have z1 : wr.heap.size < w1.heap.size := by have := hb1.size; simp at this; omega
      have d1 := bcell1 hb1 (b := wr.heap.size) (by simp)
      have hb1' : Below wr.heap.size wr w1 := ((Below.refl _ wr).alloc (Nat.le_refl _) _).trans (hb1.mono (by simp))
      have ho1 := owns_ext HO.out hb1' (Nat.le_refl _)
      have HB1 := Lib.hid hb1'; clear hb1 hb1'
      rw [HR.out]
      rcases key with rfl | ⟨rfl, rfl⟩ | ⟨rfl, rfl, rfl⟩ | ⟨rfl, rfl, rfl, rfl⟩ | ⟨rfl, rfl, rfl, rfl⟩
      · have HO1 := Lib.hid ho1; clear ho1
        go_wp2
        all_goals
          refine ⟨?_, by simp [intOf]; omega⟩
          have Y : ∀ q, q = stepW y _ → Value.int .i64 q = .int .i64 (whyN (cs.take (j + 1))) := fun q hq => by rw [HW.out, hq]
          have R : ∀ q, q = stepW y _ → RWebRel cs (w.alloc (.cells #[.int .i64 0, .slice none 0 0, .int .i64 0] 24)) (.slice vo (readyApps (cs.take j)).length capo) (.int .i64 q) (.int .i64 (j + 1)) w1 := fun q hq => ⟨j + 1, by go_num, by omega, Y q hq, by rw [HS.out, HR.out]; simpa using HO1.out, HB.out.trans (HB1.out.mono HB.out.size)⟩
          first | exact R _ (by rw [HK.out]; first | exact (if_pos ‹_›).symm | exact (if_neg (by simp only [reasonB]; simp; omega)).symm) | ((repeat apply Exists.intro); exact ⟨R _ (by rw [HK.out]; first | exact (if_pos ‹_›).symm | exact (if_neg (by simp only [reasonB]; simp; omega)).symm), rfl⟩)
      · have HO1 := Lib.hid ho1; clear ho1
        go_wp2
        all_goals
          refine ⟨?_, by simp [intOf]; omega⟩
          have Y : ∀ q, q = stepW y _ → Value.int .i64 q = .int .i64 (whyN (cs.take (j + 1))) := fun q hq => by rw [HW.out, hq]
          have R : ∀ q, q = stepW y _ → RWebRel cs (w.alloc (.cells #[.int .i64 0, .slice none 0 0, .int .i64 0] 24)) (.slice vo (readyApps (cs.take j)).length capo) (.int .i64 q) (.int .i64 (j + 1)) w1 := fun q hq => ⟨j + 1, by go_num, by omega, Y q hq, by rw [HS.out, HR.out]; simpa using HO1.out, HB.out.trans (HB1.out.mono HB.out.size)⟩
          first | exact R _ (by rw [HK.out]; first | exact (if_pos ‹_›).symm | exact (if_neg (by simp only [reasonB]; simp; omega)).symm) | ((repeat apply Exists.intro); exact ⟨R _ (by rw [HK.out]; first | exact (if_pos ‹_›).symm | exact (if_neg (by simp only [reasonB]; simp; omega)).symm), rfl⟩)
      · have HO1 := Lib.hid ho1; clear ho1
        go_wp2
        all_goals
          refine ⟨?_, by simp [intOf]; omega⟩
          have Y : ∀ q, q = stepW y _ → Value.int .i64 q = .int .i64 (whyN (cs.take (j + 1))) := fun q hq => by rw [HW.out, hq]
          have R : ∀ q, q = stepW y _ → RWebRel cs (w.alloc (.cells #[.int .i64 0, .slice none 0 0, .int .i64 0] 24)) (.slice vo (readyApps (cs.take j)).length capo) (.int .i64 q) (.int .i64 (j + 1)) w1 := fun q hq => ⟨j + 1, by go_num, by omega, Y q hq, by rw [HS.out, HR.out]; simpa using HO1.out, HB.out.trans (HB1.out.mono HB.out.size)⟩
          first | exact R _ (by rw [HK.out]; first | exact (if_pos ‹_›).symm | exact (if_neg (by simp only [reasonB]; simp; omega)).symm) | ((repeat apply Exists.intro); exact ⟨R _ (by rw [HK.out]; first | exact (if_pos ‹_›).symm | exact (if_neg (by simp only [reasonB]; simp; omega)).symm), rfl⟩)
      · have HO1 := Lib.hid ho1; clear ho1
        go_wp2
        all_goals
          refine ⟨?_, by simp [intOf]; omega⟩
          have Y : ∀ q, q = stepW y _ → Value.int .i64 q = .int .i64 (whyN (cs.take (j + 1))) := fun q hq => by rw [HW.out, hq]
          have R : ∀ q, q = stepW y _ → RWebRel cs (w.alloc (.cells #[.int .i64 0, .slice none 0 0, .int .i64 0] 24)) (.slice vo (readyApps (cs.take j)).length capo) (.int .i64 q) (.int .i64 (j + 1)) w1 := fun q hq => ⟨j + 1, by go_num, by omega, Y q hq, by rw [HS.out, HR.out]; simpa using HO1.out, HB.out.trans (HB1.out.mono HB.out.size)⟩
          first | exact R _ (by rw [HK.out]; first | exact (if_pos ‹_›).symm | exact (if_neg (by simp only [reasonB]; simp; omega)).symm) | ((repeat apply Exists.intro); exact ⟨R _ (by rw [HK.out]; first | exact (if_pos ‹_›).symm | exact (if_neg (by simp only [reasonB]; simp; omega)).symm), rfl⟩)
      · have HO1 := Lib.hid ho1
        go_wp2_with (at_builtin; refine wpList_app1 w1 #[.string app] _ rfl _ _ 22 rfl _ elStr _ _ _ rfl ho1 rfl rfl ?c1 ?c2 ?c3 ?c4 ?_)
        case c1 => first | rfl | (intro u hu; simp at hu; subst hu; rfl)
        case c2 => simp [maxLen]; omega
        case c3 => omega
        case c4 => exact Nat.le_trans HB.out.size HB1.out.size
        intro v2 w2 ho2 hg2
        have hb2 : Below (w.alloc (.cells #[.int .i64 0, .slice none 0 0, .int .i64 0] 24)).heap.size (w.alloc (.cells #[.int .i64 0, .slice none 0 0, .int .i64 0] 24)) w2 :=
          ((HB.out.trans (HB1.out.mono HB.out.size)).alloc (by have := HB1.out.size; have := HB.out.size; omega) _).grown hg2 (by have := HB1.out.size; have := HB.out.size; simp; omega) (fun k hk => (HO1.out.lt k hk).1)
        have z2 : w1.heap.size < w2.heap.size := by have := hg2.size; simp at this; omega
        have hb12 : Below w1.heap.size w1 (w1.alloc (.cells #[.string app] 9)) := (Below.refl _ _).alloc (Nat.le_refl _) _
        have d2 : ∀ o, w2.cell? ⟨wr.heap.size, o, none⟩ = w1.cell? ⟨wr.heap.size, o, none⟩ := fun o => by
          have hne : some wr.heap.size ≠ (Value.slice vo (readyApps (cs.take j)).length capo).ownBlock := fun e => by
            have := (HO.out.lt _ e.symm).2; omega
          rw [cell_keep (hg2.block wr.heap.size (by simp; omega) hne), bcell1 hb12 z1]
        have HO2 := Lib.hid ho2; have HB2 := Lib.hid hb2
        clear ho1 ho2 hb2 hb12 hg2
        go_wp2
        all_goals
          refine ⟨?_, by simp [intOf]; omega⟩
          have Y : ∀ q, q = stepW y _ → Value.int .i64 q = .int .i64 (whyN (cs.take (j + 1))) := fun q hq => by rw [HW.out, hq]
          have R : ∀ q, q = stepW y _ → RWebRel cs (w.alloc (.cells #[.int .i64 0, .slice none 0 0, .int .i64 0] 24)) v2 (.int .i64 q) (.int .i64 (j + 1)) w2 := fun q hq => ⟨j + 1, by go_num, by omega, Y q hq, by rw [HS.out, HR.out]; simpa using HO2.out, HB2.out⟩
          first | exact R _ (by rw [HK.out]; first | exact (if_pos ‹_›).symm | exact (if_neg (by simp only [reasonB]; simp; omega)).symm) | ((repeat apply Exists.intro); exact ⟨R _ (by rw [HK.out]; first | exact (if_pos ‹_›).symm | exact (if_neg (by simp only [reasonB]; simp; omega)).symm), rfl⟩)
    · have ht : cs.take j = cs := List.take_of_length_le (by omega)
      rw [ht] at ho
      rw [ht]
      have hbw := HB0.out.trans (hb.mono (by simp))
      have hlt := ho.lt
      obtain ⟨vo, capo, rfl, hform⟩ := owned_form ho
      have q1 := bcell1 hb (b := w.heap.size) (by simp)
      have q2 := bfrozen1 hb (b := w.heap.size) (by simp)
      have hr : Rd (fun b => w.heap.size + 1 ≤ b ∧ b < wr.heap.size) wr (.slice vo (readyApps cs).length capo) (strsD (readyApps cs)) := by
        refine rd_owned ho ⟨by simp, fun i u d hu hd => ?_⟩ (fun g hg => by have := hlt g hg; simp at this; exact this)
        simp at hu hd
        obtain ⟨s, hs, rfl⟩ := hu
        rw [hs] at hd; simp at hd; subst hd; exact .str _
      have HR := Lib.hid hr; have HBW := Lib.hid hbw; have HBB := Lib.hid hb
      by_cases h0 : (readyApps cs).length = 0
      · have e1 : rwebK cs = 2 := if_pos h0
        have e2 : rwebR cs = whyN cs := by rw [whyN_eq]; exact if_pos h0
        have e3 : readyApps cs = [] := List.eq_nil_of_length_eq_zero h0
        have p0 : ¬ (0 < (readyApps cs).length) := by omega
        have E1 := Lib.hid e1; have E2 := Lib.hid e2; have E3 := Lib.hid e3
        clear e1 e2 e3 h0 hr hb hbw ho hlt hform ht
        go_wp2
        refine bodyPost_ret (v := .agg #[.int .i64 2, .slice none 0 0, .int .i64 (whyN cs)]) (by simp [results, Tryd.results20, go_sem, q1]) rfl ⟨_, by rw [E1.out, E2.out], ?_, ((HBW.out.setCell (Nat.le_refl _) _).setCell (Nat.le_refl _) _).setCell (Nat.le_refl _) _⟩
        rw [E3.out]; exact .list0 _ _ _ (fun _ => rfl)
      · have e1 : rwebK cs = ofK (readyApps cs).length := if_neg h0
        have e2 : rwebR cs = ofR (readyApps cs).length := if_neg h0
        have p0 : 0 < (readyApps cs).length := by omega
        have E1 := Lib.hid e1; have E2 := Lib.hid e2
        clear e1 e2 hr hb hbw ho hlt hform ht h0
        go_wp2_with fail
        refine (of_any _ _ _ _).mono ?_
        rintro e w1 ⟨rfl, hb1⟩
        have hz : w.heap.size < w1.heap.size := by have := hb1.size; omega
        have r1 := bcell1 hb1 (b := w.heap.size) (by omega)
        have r2 := bfrozen1 hb1 (b := w.heap.size) (by omega)
        have HB1 := Lib.hid hb1; clear hb1
        go_wp2
        have hbb := ext_trans HBW.out HB1.out
        refine bodyPost_ret (v := .agg #[.int .i64 (ofK (readyApps cs).length), .slice vo (readyApps cs).length capo, .int .i64 (ofR (readyApps cs).length)]) (by simp [results, Tryd.results20, go_sem, r1, q1]) rfl ⟨_, by rw [E1.out, E2.out], ?_, ((hbb.setCell (Nat.le_refl _) _).setCell (Nat.le_refl _) _).setCell (Nat.le_refl _) _⟩
        refine (HR.out.mono (S' := fun b => w.heap.size + 1 ≤ b ∧ b < wr.heap.size) (fun b hS => HB1.out.block b hS.2) (fun _ h => h)).only (B := w.heap.size) ?_ (fun b hS => by omega) (fun b hS => ⟨by omega, by have := HB1.out.size; simp; omega⟩)
        repeat apply OnlyB.set
        exact OnlyB.refl _ _
end Go.Proofs.YtjbbpmjbohedkaaDoor
