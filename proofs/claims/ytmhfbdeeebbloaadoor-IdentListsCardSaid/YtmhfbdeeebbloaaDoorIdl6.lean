/- ref04.Prints: fingerprints put in order, one by one. -/
import Derived.Test.YtmhfbdeeebbloaaDoorIdl5
namespace Go.Proofs.YtmhfbdeeebbloaaDoor
open Go.RowKit
section
variable {α : Type} {p : α → Bool}
theorem tw_get : ∀ (l : List α) (k : Nat) (y : α), l[k]? = some y → k < (l.takeWhile p).length → p y = true
  | [], k, y, h, _ => by simp at h
  | x :: l, 0, y, h, hk => by
    simp at h; subst h
    by_cases hp : p x = true
    · exact hp
    · rw [List.takeWhile_cons, if_neg hp] at hk; simp at hk
  | x :: l, k + 1, y, h, hk => by
    by_cases hp : p x = true
    · rw [List.takeWhile_cons, if_pos hp] at hk; exact tw_get l k y (by simpa using h) (by simpa using hk)
    · rw [List.takeWhile_cons, if_neg hp] at hk; simp at hk
theorem tw_stop : ∀ (l : List α) (y : α), l[(l.takeWhile p).length]? = some y → p y = false
  | [], y, h => by simp at h
  | x :: l, y, h => by
    by_cases hp : p x = true
    · rw [List.takeWhile_cons, if_pos hp] at h; exact tw_stop l y (by simpa using h)
    · rw [List.takeWhile_cons, if_neg hp] at h
      simp at h; subst h; simpa using hp
theorem tw_len : ∀ (l : List α), (l.takeWhile p).length ≤ l.length
  | [] => by simp
  | x :: l => by
    rw [List.takeWhile_cons]
    split
    · have := tw_len l; simp; omega
    · simp
theorem tw_take : ∀ (l : List α), l.take (l.takeWhile p).length = l.takeWhile p
  | [] => by simp
  | x :: l => by
    rw [List.takeWhile_cons]
    split
    · rw [List.length_cons, List.take_succ_cons, tw_take l]
    · simp
theorem tw_drop : ∀ (l : List α), l.drop (l.takeWhile p).length = l.dropWhile p
  | [] => by simp
  | x :: l => by
    rw [List.takeWhile_cons, List.dropWhile_cons]
    split
    · rename_i h; rw [List.length_cons, List.drop_succ_cons, tw_drop l]
    · rename_i h; simp
end
def ltP (x y : Pr) : Bool := cB x.1 y.1
theorem insU_tw (out : List Pr) (x : Pr) (h : x ∉ out) : insU ltP out x = (out.take (out.takeWhile (fun y => ltP y x)).length ++ [x]) ++ out.drop (out.takeWhile (fun y => ltP y x)).length := by
  rw [insU, if_neg h, tw_take, tw_drop]; simp
theorem insU_len (out : List Pr) (x : Pr) : (insU ltP out x).length ≤ out.length + 1 := by
  by_cases h : x ∈ out
  · rw [insU, if_pos h]; omega
  · rw [insU_tw out x h]; simp [List.length_take]; omega
def outN (ps : List Pr) (j : Nat) : List Pr := refL ltP (ps.take j)
theorem outN_succ {ps : List Pr} {j : Nat} {x : Pr} (h : ps[j]? = some x) : outN ps (j + 1) = insU ltP (outN ps j) x := by
  obtain ⟨hj, rfl⟩ := List.getElem?_eq_some_iff.1 h
  unfold outN refL
  rw [List.take_succ_eq_append_getElem hj, List.foldl_append]; rfl
theorem outN_len (ps : List Pr) : ∀ j, (outN ps j).length ≤ j
  | 0 => by simp [outN, refL]
  | j + 1 => by
    by_cases hj : j < ps.length
    · rw [outN_succ (List.getElem?_eq_getElem hj)]
      have := insU_len (outN ps j) ps[j]
      have := outN_len ps j; omega
    · have : outN ps (j + 1) = outN ps j := by unfold outN; rw [List.take_of_length_le (by omega), List.take_of_length_le (by omega)]
      rw [this]; have := outN_len ps j; omega
def RpRel6 (ps : List Pr) (W : World) (vo vi : Value) (wr : World) : Prop := ∃ j g cap : Nat, vi = .int .i64 j ∧ j ≤ ps.length ∧ vo = .slice (some ⟨g, 0, none⟩) (outN ps j).length cap ∧ OwnP wr W.heap.size g cap (outN ps j) ∧ Below W.heap.size W wr
def RpRel7 (m : Nat) (W : World) (vk : Value) (wr : World) : Prop := ∃ k : Nat, vk = .int .i64 k ∧ k ≤ m ∧ Below W.heap.size W wr
set_option maxRecDepth 100000 in
set_option maxHeartbeats 16000000 in
theorem rprints_any (w : World) (a : Option Addr) (cap : Nat) (ps : List Pr) (hr : 0 < ps.length → ∃ b off, a = some ⟨b, off, none⟩ ∧ b < w.heap.size ∧ RowP w b off ps) (hm : ps.length ≤ 100000) :
    Calls Tryd.prog 13 #[.slice a ps.length cap] w fun e w' => ∃ g c, e = .returned (.slice (some ⟨g, 0, none⟩) (refL ltP ps).length c) ∧ OwnP w' w.heap.size g c (refL ltP ps) ∧ Below w.heap.size w w' := by
  have E := OwnP.empty w
  obtain ⟨W1, hW1⟩ : ∃ W, w.alloc (.cells #[] 23) = W := ⟨_, rfl⟩
  have hb1 : Below w.heap.size w W1 := by rw [← hW1]; exact ext_alloc (Below.refl _ _) _
  rw [hW1] at E
  have HB1 := Lib.hid hb1; have HE := Lib.hid E; have HR := Lib.hid hr
  have AH := Lib.hid rahead_any
  have HAS := Lib.hid rhasP_any
  clear hb1 E hr
  go_enter Tryd.func13, Tryd.ntmps13
  go_wp2_with fail
  clear hW1
  go_loopw [3, 4] (RpRel6 ps w) (fun _ i _ => ps.length - (intOf i).toNat)
  case atStart => exact ⟨0, w.heap.size, 0, rfl, Nat.zero_le _, rfl, HE.out, HB1.out⟩
  case round =>
    obtain ⟨j, g, c1, rfl, hj, rfl, ho, hb⟩ := hrel
    by_cases hlt : j < ps.length
    · obtain ⟨x, hx⟩ := get_ex ps j hlt
      obtain ⟨b, off, rfl, hbz, hrow⟩ := HR.out (by omega)
      have hrw := hrow.below hb hbz
      have hl1 := hrw.load hx
      have hzl := outN_len ps j
      have hns := outN_succ hx
      have H1 := HAS.out wr (some ⟨g, 0, none⟩) c1 (outN ps j) x (fun _ => ⟨g, 0, rfl, ho.parts.2, ho.row⟩) (by omega)
      have cz := ho.cap_le
      have HO := Lib.hid ho; have HB := Lib.hid hb; have HNS := Lib.hid hns; have HX := Lib.hid hx; have HRW := Lib.hid hrw; have HZL := Lib.hid hzl
      have t1 : decide ((j : Int) < (ps.length : Int)) = true := decide_eq_true (by omega)
      have t1' : decide (j < ps.length) = true := decide_eq_true hlt
      have q1 : IntKind.i64.wrap ((j : Int) + 1) = (j : Int) + 1 := IntWalk.i64_in _ (by omega)
      have hbr : b < wr.heap.size := Nat.lt_of_lt_of_le hbz hb.size
      obtain ⟨cx, hcx⟩ : ∃ cx, prV x = cx := ⟨_, rfl⟩
      rw [hcx] at hl1 H1
      have HCX := Lib.hid hcx
      clear ho hb hns hx hrw hcx hrow
      by_cases hin : x ∈ outN ps j
      · rw [decide_eq_true hin] at H1
        have hsame : outN ps (j + 1) = outN ps j := by rw [HNS.out, insU, if_pos hin]
        have HH := Lib.hid H1; have HS := Lib.hid hsame
        clear H1 hsame hin
        go_wp2_with ((with_reducible show wpList _ _ _ (_ :: _) _ _); refine wpList_loadRowP 23 ⟨b, off + j * 32, none⟩ (.agg cx) hl1 _ rfl rfl rfl ?_)
        go_at_call 15
        refine HH.out.mono ?_
        rintro _ w2 ⟨rfl, h2⟩
        have HB2 := Lib.hid h2
        clear h2
        go_wp2
        refine ⟨?_, by simp [intOf]; omega⟩
        have ho2 := HO.out
        have hz2 := ho2.parts.2
        exact ⟨j + 1, g, c1, by go_num, hlt, by rw [HS.out], by rw [HS.out]; exact ho2.ext (HB2.out.block g hz2) (Nat.le_refl _), HB.out.trans (HB2.out.mono HB.out.size)⟩
      · rw [decide_eq_false hin] at H1
        have HH := Lib.hid H1; have HIN := Lib.hid hin
        clear H1 hin
        go_wp2_with ((with_reducible show wpList _ _ _ (_ :: _) _ _); refine wpList_loadRowP 23 ⟨b, off + j * 32, none⟩ (.agg cx) hl1 _ rfl rfl rfl ?_)
        go_at_call 15
        refine HH.out.mono ?_
        rintro _ w2 ⟨rfl, h2⟩
        have HB2 := Lib.hid h2
        clear h2
        have hzg := HO.out.parts.2
        have ho2 : OwnP w2 w.heap.size g c1 (outN ps j) := HO.out.ext (HB2.out.block g hzg) (Nat.le_refl _)
        have hrw2 : RowP w2 b off ps := HRW.out.below HB2.out hbr
        have hb2 : Below w.heap.size w w2 := HB.out.trans (HB2.out.mono HB.out.size)
        have zg2 : g < w2.heap.size := Nat.lt_of_lt_of_le hzg HB2.out.size
        have zb2 : b < w2.heap.size := Nat.lt_of_lt_of_le hbr HB2.out.size
        have HO2 := Lib.hid ho2; have HRW2 := Lib.hid hrw2; have HBW2 := Lib.hid hb2
        clear ho2 hrw2 hb2 hzg hl1
        go_wp2_with fail
        go_loopw [5] (RpRel7 ((outN ps j).takeWhile fun y => ltP y x).length w2) (fun k _ => (outN ps j).length - (intOf k).toNat)
        case atStart => exact ⟨0, rfl, Nat.zero_le _, Below.refl _ _⟩
        case round =>
          obtain ⟨k, rfl, hk, hb3⟩ := hrel
          have htl := tw_len (p := fun y => ltP y x) (outN ps j)
          have HB3 := Lib.hid hb3
          have zg3 : g < wr.heap.size := Nat.lt_of_lt_of_le zg2 hb3.size
          have zb3 : b < wr.heap.size := Nat.lt_of_lt_of_le zb2 hb3.size
          have ho3 : OwnP wr w.heap.size g c1 (outN ps j) := HO2.out.ext (hb3.block g zg2) (Nat.le_refl _)
          have hrw3 : RowP wr b off ps := HRW2.out.below hb3 zb2
          have hq1 : ∀ w', (∃ n : BW wr.heap.size wr, w' = n.w) → (loadVar 23 ⟨b, off + j * 32, none⟩).run Tryd.prog w' = .ok (.agg cx) w' := fun w' h => by
            obtain ⟨n, rfl⟩ := h
            rw [← HCX.out]; exact (hrw3.below n.below zb3).load HX.out
          have q2 : IntKind.i64.wrap ((k : Int) + 1) = (k : Int) + 1 := IntWalk.i64_in _ (by have := HZL.out; omega)
          clear hb3
          by_cases hkl : k < (outN ps j).length
          · obtain ⟨y, hy⟩ := get_ex (outN ps j) k hkl
            have t2 : decide ((k : Int) < ((outN ps j).length : Int)) = true := decide_eq_true (by omega)
            have t2' : decide (k < (outN ps j).length) = true := decide_eq_true hkl
            obtain ⟨cy, hcy⟩ : ∃ cy, prV y = cy := ⟨_, rfl⟩
            have hq2 : ∀ w', (∃ n : BW wr.heap.size wr, w' = n.w) → (loadVar 23 ⟨g, k * 32, none⟩).run Tryd.prog w' = .ok (.agg cy) w' := fun w' h => by
              obtain ⟨n, rfl⟩ := h
              have h1 := (ho3.row.below n.below zg3).load hy
              rw [Nat.zero_add, hcy] at h1; exact h1
            have AH1 := fun n : BW wr.heap.size wr => AH.out y x n.w
            rw [hcy, HCX.out] at AH1
            have HO3 := Lib.hid ho3; have HRW3 := Lib.hid hrw3; have HY := Lib.hid hy
            clear ho3 hrw3 hcy hy
            by_cases hay : ltP y x = true
            · rw [show cB y.1 x.1 = true from hay] at AH1
              have AHY := Lib.hid AH1
              have hkm : k < ((outN ps j).takeWhile fun y => ltP y x).length := Nat.lt_of_le_of_ne hk (fun e => by
                have hs := tw_stop (p := fun y => ltP y x) (outN ps j) y (by rw [← e]; exact HY.out)
                simp only [hay] at hs; cases hs)
              clear AH1 hay
              go_wp2
              refine wp_region_quietB wr.heap.size (by kernel_rfl) (by kernel_rfl) ?_
              repeat (first | (go_big_quiet_want; refine quiet_loadRow 23 _ _ hq1 _ rfl rfl ?_; go_big_quiet_on; simp only [Act.put, List.setIfInBounds_toArray, List.set_cons_zero, List.set_cons_succ]) | (go_big_quiet_want; refine quiet_loadRow 23 _ _ hq2 _ rfl rfl ?_; go_big_quiet_on; simp only [Act.put, List.setIfInBounds_toArray, List.set_cons_zero, List.set_cons_succ]) | go_big_quiet_step ((go_at_call 45; exact quiet_callB (AHY.out _) (Nat.le_refl _))))
              refine wpQuiet_nil ?_
              intro _ hw'
              obtain ⟨nb, hw4⟩ := hw'
              subst hw4
              go_wp2
              refine ⟨⟨k + 1, by go_num, hkm, HB3.out.trans (nb.below.mono HB3.out.size)⟩, by simp [intOf]; omega⟩
            · rw [show cB y.1 x.1 = false from Bool.eq_false_iff.2 hay] at AH1
              have AHY := Lib.hid AH1
              have hkm : k = ((outN ps j).takeWhile fun y => ltP y x).length := Nat.le_antisymm hk (Nat.le_of_not_lt fun e => hay (tw_get (p := fun y => ltP y x) (outN ps j) k y HY.out e))
              have HKM := Lib.hid hkm
              clear AH1 hay hkm
              go_wp2
              refine wp_region_quietB wr.heap.size (by kernel_rfl) (by kernel_rfl) ?_
              repeat (first | (go_big_quiet_want; refine quiet_loadRow 23 _ _ hq1 _ rfl rfl ?_; go_big_quiet_on; simp only [Act.put, List.setIfInBounds_toArray, List.set_cons_zero, List.set_cons_succ]) | (go_big_quiet_want; refine quiet_loadRow 23 _ _ hq2 _ rfl rfl ?_; go_big_quiet_on; simp only [Act.put, List.setIfInBounds_toArray, List.set_cons_zero, List.set_cons_succ]) | go_big_quiet_step ((go_at_call 45; exact quiet_callB (AHY.out _) (Nat.le_refl _))))
              refine wpQuiet_nil ?_
              intro _ hw'
              obtain ⟨nb, hw4⟩ := hw'
              subst hw4
              have zg4 : g < nb.w.heap.size := Nat.lt_of_lt_of_le zg3 nb.below.size
              have zb4 : b < nb.w.heap.size := Nat.lt_of_lt_of_le zb3 nb.below.size
              have ho4 : OwnP nb.w w.heap.size g c1 (outN ps j) := HO3.out.ext (nb.below.block g zg3) (Nat.le_refl _)
              have hrw4 : RowP nb.w b off ps := HRW3.out.below nb.below zb3
              have hb4 : Below w.heap.size w nb.w := HBW2.out.trans ((HB3.out.trans (nb.below.mono HB3.out.size)).mono HBW2.out.size)
              clear HO3 HRW3 HB3 hq1 hq2
              generalize nb.w = W4 at *
              have HR4 := Lib.hid hrw4; have HO4 := Lib.hid ho4; have HB4 := Lib.hid hb4
              have q1 : IntKind.i64.wrap ((j : Int) + 1) = (j : Int) + 1 := IntWalk.i64_in _ (by omega)
              clear hrw4 ho4 hb4
              have kc : k ≤ c1 := Nat.le_trans (by rw [HKM.out]; exact tw_len _) cz
              have kl : k ≤ (outN ps j).length := by rw [HKM.out]; exact tw_len _
              go_wp2_with (at_builtin; refine wpList_appP (W4.alloc (.cells #[] 23)) rfl _ _ rfl W4.heap.size W4.heap.size 0 0 [] ((outN ps j).take k) rfl rfl (OwnP.empty W4) _ k _ ?c1 rfl ?c2 ?c3 ?c4 ?c5 _ rfl k ?c6 ?_)
              case c1 => simp; omega
              case c2 => nofun
              case c3 => exact fun _ => ⟨g, 0, rfl, (HO4.out.row.below (ext_alloc (Below.refl W4.heap.size W4) _) zg4).take k⟩
              case c4 => have := HZL.out; simp; omega
              case c5 => simp
              case c6 => simp; omega
              intro g5 cap5 w5 ho5 hg5 _
              have hb5 : Below W4.heap.size W4 w5 := (ext_alloc (Below.refl W4.heap.size W4) _).grown hg5 (by simp) (fun q e => by cases e; exact Nat.le_refl _)
              have hl5 : (loadVar 23 ⟨b, off + j * 32, none⟩).run Tryd.prog w5 = .ok (.agg cx) w5 := by
                rw [← HCX.out]; exact (HR4.out.below hb5 zb4).load HX.out
              have HO5 := Lib.hid ho5; have HB5 := Lib.hid hb5
              clear ho5 hg5 hb5
              go_wp2_with ((with_reducible show wpList _ _ _ (_ :: _) _ _); first | (refine wpList_loadRowP 23 ⟨b, off + j * 32, none⟩ (.agg cx) hl5 _ rfl rfl rfl ?_) | (refine wpList_buildP1 rfl _ rfl x cx HCX.out.symm rfl _ rfl ?_) | (at_builtin; refine Hid.out ?_))
              refine Lib.hid ?_
              refine wpList_appP (w5.alloc (.cells cx 23)) rfl _ _ rfl W4.heap.size g5 cap5 k ([] ++ (outN ps j).take k) [x] ?d0 rfl (HO5.out.ext (Below.heap_alloc w5 _ _ HO5.out.parts.2) (Nat.le_refl _)) (some ⟨w5.heap.size, 0, none⟩) 1 1 rfl rfl nofun ?d3 ?d4 ?d5 _ rfl (k + 1) ?d6 ?_
              case d0 => simp; omega
              case d3 => exact fun _ => ⟨w5.heap.size, 0, rfl, RowP.one (by rw [HCX.out]; exact heap_alloc_new w5 _)⟩
              case d4 => have := HZL.out; simp; omega
              case d5 => have := HB5.out.size; simp; omega
              case d6 => simp; omega
              intro g6 cap6 w6 ho6 hg6 _
              have hb6 : Below W4.heap.size W4 w6 := (ext_alloc HB5.out _).grown hg6 (by have := HB5.out.size; simp; omega) (fun q e => by cases e; exact HO5.out.parts.1)
              have HO6 := Lib.hid ho6; have HB6 := Lib.hid hb6
              clear ho6 hg6 hb6 hl5
              have hE : outN ps (j + 1) = ([] ++ (outN ps j).take k ++ [x]) ++ (outN ps j).drop k := by
                rw [HNS.out, insU_tw _ _ HIN.out, ← HKM.out]; rfl
              have HEE := Lib.hid hE
              clear hE
              have HRK : Hid (RowP w6 g (k * 32) ((outN ps j).drop k)) := Lib.hid (by
                have := (HO4.out.row.below HB6.out zg4).drop k
                rw [Nat.zero_add] at this; exact this)
              by_cases hck : c1 = k
              · go_wp2_with (at_builtin; refine Hid.out ?_)
                refine Lib.hid ?_
                refine wpList_appP w6 rfl _ _ rfl W4.heap.size g6 cap6 (k + 1) ([] ++ (outN ps j).take k ++ [x]) ((outN ps j).drop k) ?e0 rfl HO6.out _ _ _ ?e1 rfl ?e2 ?e3 ?e4 ?e5 _ rfl (outN ps (j + 1)).length ?e6 ?_
                case e0 => simp; omega
                case e1 => simp
                case e2 => nofun
                case e3 => exact fun h => absurd h (by simp; omega)
                case e4 => have := HZL.out; simp; omega
                case e5 => exact HB6.out.size
                case e6 => rw [HEE.out]; simp; omega
                intro g7 cap7 w7 ho7 hg7 _
                have hb7 : Below W4.heap.size W4 w7 := HB6.out.grown hg7 HB6.out.size (fun q e => by cases e; exact HO6.out.parts.1)
                have R : RpRel6 ps w (.slice (some ⟨g7, 0, none⟩) (outN ps (j + 1)).length cap7) (.int .i64 ((j : Int) + 1)) w7 := by
                  refine ⟨j + 1, g7, cap7, by go_num, hlt, rfl, ?_, HB4.out.trans (hb7.mono HB4.out.size)⟩
                  have : OwnP w7 w.heap.size g7 cap7 (([] ++ (outN ps j).take k ++ [x]) ++ (outN ps j).drop k) := ho7.ext rfl HB4.out.size
                  rw [HEE.out]; exact this
                have HRR := Lib.hid R
                clear R ho7 hg7 hb7
                go_wp2
                refine ⟨?_, by simp [intOf]; omega⟩
                have R := HRR.out
                exact R
              · go_wp2_with (at_builtin; refine Hid.out ?_)
                refine Lib.hid ?_
                refine wpList_appP w6 rfl _ _ rfl W4.heap.size g6 cap6 (k + 1) ([] ++ (outN ps j).take k ++ [x]) ((outN ps j).drop k) ?e0 rfl HO6.out _ _ _ ?e1 rfl ?e2 ?e3 ?e4 ?e5 _ rfl (outN ps (j + 1)).length ?e6 ?_
                case e0 => simp; omega
                case e1 => simp
                case e2 => nofun
                case e3 => exact fun _ => ⟨g, k * 32, rfl, HRK.out⟩
                case e4 => have := HZL.out; simp; omega
                case e5 => exact HB6.out.size
                case e6 => rw [HEE.out]; simp; omega
                intro g7 cap7 w7 ho7 hg7 _
                have hb7 : Below W4.heap.size W4 w7 := HB6.out.grown hg7 HB6.out.size (fun q e => by cases e; exact HO6.out.parts.1)
                have R : RpRel6 ps w (.slice (some ⟨g7, 0, none⟩) (outN ps (j + 1)).length cap7) (.int .i64 ((j : Int) + 1)) w7 := by
                  refine ⟨j + 1, g7, cap7, by go_num, hlt, rfl, ?_, HB4.out.trans (hb7.mono HB4.out.size)⟩
                  have : OwnP w7 w.heap.size g7 cap7 (([] ++ (outN ps j).take k ++ [x]) ++ (outN ps j).drop k) := ho7.ext rfl HB4.out.size
                  rw [HEE.out]; exact this
                have HRR := Lib.hid R
                clear R ho7 hg7 hb7
                go_wp2
                refine ⟨?_, by simp [intOf]; omega⟩
                have R := HRR.out
                exact R
          · have hkm : k = ((outN ps j).takeWhile fun y => ltP y x).length := by omega
            have HKM := Lib.hid hkm
            have t2 : decide ((k : Int) < ((outN ps j).length : Int)) = false := decide_eq_false (by omega)
            have t2' : decide (k < (outN ps j).length) = false := decide_eq_false hkl
            have HO3 := Lib.hid ho3; have HRW3 := Lib.hid hrw3
            clear ho3 hrw3 hkm
            go_wp2
            refine wp_region_quietB wr.heap.size (by kernel_rfl) (by kernel_rfl) ?_
            repeat (first | go_big_quiet_step (fail))
            refine wpQuiet_nil ?_
            intro _ hw'
            obtain ⟨nb, hw4⟩ := hw'
            subst hw4
            have zg4 : g < nb.w.heap.size := Nat.lt_of_lt_of_le zg3 nb.below.size
            have zb4 : b < nb.w.heap.size := Nat.lt_of_lt_of_le zb3 nb.below.size
            have ho4 : OwnP nb.w w.heap.size g c1 (outN ps j) := HO3.out.ext (nb.below.block g zg3) (Nat.le_refl _)
            have hrw4 : RowP nb.w b off ps := HRW3.out.below nb.below zb3
            have hb4 : Below w.heap.size w nb.w := HBW2.out.trans ((HB3.out.trans (nb.below.mono HB3.out.size)).mono HBW2.out.size)
            clear HO3 HRW3 HB3 hq1
            generalize nb.w = W4 at *
            have HR4 := Lib.hid hrw4; have HO4 := Lib.hid ho4; have HB4 := Lib.hid hb4
            have q1 : IntKind.i64.wrap ((j : Int) + 1) = (j : Int) + 1 := IntWalk.i64_in _ (by omega)
            clear hrw4 ho4 hb4
            have kc : k ≤ c1 := Nat.le_trans (by rw [HKM.out]; exact tw_len _) cz
            have kl : k ≤ (outN ps j).length := by rw [HKM.out]; exact tw_len _
            go_wp2_with (at_builtin; refine wpList_appP (W4.alloc (.cells #[] 23)) rfl _ _ rfl W4.heap.size W4.heap.size 0 0 [] ((outN ps j).take k) rfl rfl (OwnP.empty W4) _ k _ ?c1 rfl ?c2 ?c3 ?c4 ?c5 _ rfl k ?c6 ?_)
            case c1 => simp; omega
            case c2 => nofun
            case c3 => exact fun _ => ⟨g, 0, rfl, (HO4.out.row.below (ext_alloc (Below.refl W4.heap.size W4) _) zg4).take k⟩
            case c4 => have := HZL.out; simp; omega
            case c5 => simp
            case c6 => simp; omega
            intro g5 cap5 w5 ho5 hg5 _
            have hb5 : Below W4.heap.size W4 w5 := (ext_alloc (Below.refl W4.heap.size W4) _).grown hg5 (by simp) (fun q e => by cases e; exact Nat.le_refl _)
            have hl5 : (loadVar 23 ⟨b, off + j * 32, none⟩).run Tryd.prog w5 = .ok (.agg cx) w5 := by
              rw [← HCX.out]; exact (HR4.out.below hb5 zb4).load HX.out
            have HO5 := Lib.hid ho5; have HB5 := Lib.hid hb5
            clear ho5 hg5 hb5
            go_wp2_with ((with_reducible show wpList _ _ _ (_ :: _) _ _); first | (refine wpList_loadRowP 23 ⟨b, off + j * 32, none⟩ (.agg cx) hl5 _ rfl rfl rfl ?_) | (refine wpList_buildP1 rfl _ rfl x cx HCX.out.symm rfl _ rfl ?_) | (at_builtin; refine Hid.out ?_))
            refine Lib.hid ?_
            refine wpList_appP (w5.alloc (.cells cx 23)) rfl _ _ rfl W4.heap.size g5 cap5 k ([] ++ (outN ps j).take k) [x] ?d0 rfl (HO5.out.ext (Below.heap_alloc w5 _ _ HO5.out.parts.2) (Nat.le_refl _)) (some ⟨w5.heap.size, 0, none⟩) 1 1 rfl rfl nofun ?d3 ?d4 ?d5 _ rfl (k + 1) ?d6 ?_
            case d0 => simp; omega
            case d3 => exact fun _ => ⟨w5.heap.size, 0, rfl, RowP.one (by rw [HCX.out]; exact heap_alloc_new w5 _)⟩
            case d4 => have := HZL.out; simp; omega
            case d5 => have := HB5.out.size; simp; omega
            case d6 => simp; omega
            intro g6 cap6 w6 ho6 hg6 _
            have hb6 : Below W4.heap.size W4 w6 := (ext_alloc HB5.out _).grown hg6 (by have := HB5.out.size; simp; omega) (fun q e => by cases e; exact HO5.out.parts.1)
            have HO6 := Lib.hid ho6; have HB6 := Lib.hid hb6
            clear ho6 hg6 hb6 hl5
            have hE : outN ps (j + 1) = ([] ++ (outN ps j).take k ++ [x]) ++ (outN ps j).drop k := by
              rw [HNS.out, insU_tw _ _ HIN.out, ← HKM.out]; rfl
            have HEE := Lib.hid hE
            clear hE
            have HRK : Hid (RowP w6 g (k * 32) ((outN ps j).drop k)) := Lib.hid (by
              have := (HO4.out.row.below HB6.out zg4).drop k
              rw [Nat.zero_add] at this; exact this)
            by_cases hck : c1 = k
            · go_wp2_with (at_builtin; refine Hid.out ?_)
              refine Lib.hid ?_
              refine wpList_appP w6 rfl _ _ rfl W4.heap.size g6 cap6 (k + 1) ([] ++ (outN ps j).take k ++ [x]) ((outN ps j).drop k) ?e0 rfl HO6.out _ _ _ ?e1 rfl ?e2 ?e3 ?e4 ?e5 _ rfl (outN ps (j + 1)).length ?e6 ?_
              case e0 => simp; omega
              case e1 => simp
              case e2 => nofun
              case e3 => exact fun h => absurd h (by simp; omega)
              case e4 => have := HZL.out; simp; omega
              case e5 => exact HB6.out.size
              case e6 => rw [HEE.out]; simp; omega
              intro g7 cap7 w7 ho7 hg7 _
              have hb7 : Below W4.heap.size W4 w7 := HB6.out.grown hg7 HB6.out.size (fun q e => by cases e; exact HO6.out.parts.1)
              have R : RpRel6 ps w (.slice (some ⟨g7, 0, none⟩) (outN ps (j + 1)).length cap7) (.int .i64 ((j : Int) + 1)) w7 := by
                refine ⟨j + 1, g7, cap7, by go_num, hlt, rfl, ?_, HB4.out.trans (hb7.mono HB4.out.size)⟩
                have : OwnP w7 w.heap.size g7 cap7 (([] ++ (outN ps j).take k ++ [x]) ++ (outN ps j).drop k) := ho7.ext rfl HB4.out.size
                rw [HEE.out]; exact this
              have HRR := Lib.hid R
              clear R ho7 hg7 hb7
              go_wp2
              refine ⟨?_, by simp [intOf]; omega⟩
              have R := HRR.out
              exact R
            · go_wp2_with (at_builtin; refine Hid.out ?_)
              refine Lib.hid ?_
              refine wpList_appP w6 rfl _ _ rfl W4.heap.size g6 cap6 (k + 1) ([] ++ (outN ps j).take k ++ [x]) ((outN ps j).drop k) ?e0 rfl HO6.out _ _ _ ?e1 rfl ?e2 ?e3 ?e4 ?e5 _ rfl (outN ps (j + 1)).length ?e6 ?_
              case e0 => simp; omega
              case e1 => simp
              case e2 => nofun
              case e3 => exact fun _ => ⟨g, k * 32, rfl, HRK.out⟩
              case e4 => have := HZL.out; simp; omega
              case e5 => exact HB6.out.size
              case e6 => rw [HEE.out]; simp; omega
              intro g7 cap7 w7 ho7 hg7 _
              have hb7 : Below W4.heap.size W4 w7 := HB6.out.grown hg7 HB6.out.size (fun q e => by cases e; exact HO6.out.parts.1)
              have R : RpRel6 ps w (.slice (some ⟨g7, 0, none⟩) (outN ps (j + 1)).length cap7) (.int .i64 ((j : Int) + 1)) w7 := by
                refine ⟨j + 1, g7, cap7, by go_num, hlt, rfl, ?_, HB4.out.trans (hb7.mono HB4.out.size)⟩
                have : OwnP w7 w.heap.size g7 cap7 (([] ++ (outN ps j).take k ++ [x]) ++ (outN ps j).drop k) := ho7.ext rfl HB4.out.size
                rw [HEE.out]; exact this
              have HRR := Lib.hid R
              clear R ho7 hg7 hb7
              go_wp2
              refine ⟨?_, by simp [intOf]; omega⟩
              have R := HRR.out
              exact R
    · have hje : ps.length = j := by omega
      have t1 : decide ((j : Int) < (ps.length : Int)) = false := decide_eq_false (by omega)
      have t1' : decide (j < ps.length) = false := decide_eq_false hlt
      have hO : outN ps j = refL ltP ps := by unfold outN; rw [List.take_of_length_le (by omega)]
      rw [hO] at ho ⊢
      have HO := Lib.hid ho; have HB := Lib.hid hb
      clear ho hb hje hO
      go_wp2
      go_ret
      exact ⟨g, c1, rfl, HO.out, HB.out⟩
end Go.Proofs.YtmhfbdeeebbloaaDoor
