/- The walk of PickCustom. -/
import Derived.Test.YtjbbpmjbohedkaaDoorPick4
import Derived.Deep.RegionWith
import Derived.Deep.DeepCutAuto
namespace Go.Proofs.YtjbbpmjbohedkaaDoor
open Go.RowKit
/-- Nothing but the row that a value owns has turned. -/
structure OnlyV (v : Value) (W wr : World) : Prop where
  size : wr.heap.size = W.heap.size
  block : ∀ k, v.ownBlock ≠ some k → wr.heap[k]? = W.heap[k]?
  os : wr.os = W.os
  tape : wr.tape = W.tape
  output : wr.output = W.output
theorem OnlyV.refl (v : Value) (W : World) : OnlyV v W W := ⟨rfl, fun _ _ => rfl, rfl, rfl, rfl⟩
theorem OnlyV.rd {v u : Value} {W wr : World} {d : Dat} {S S' : Nat → Prop} (h : OnlyV v W wr) (hr : Rd S W u d) (hne : ∀ b, S b → v.ownBlock ≠ some b) (hS : ∀ b, S b → S' b) : Rd S' wr u d :=
  hr.mono (fun b hb => h.block b (hne b hb)) hS
theorem owned_form {w : World} {base : Nat} {e : TypeId} {sz n : Nat} {v : Value} {xs : List Value} (h : w.ownsRow base e sz v n xs) :
    ∃ ao cap, v = .slice ao n cap ∧ (n = 0 ∧ ao = none ∨ ∃ g, ao = some ⟨g, 0, none⟩ ∧ base ≤ g ∧ g < w.heap.size) := by
  have hlt := h.lt
  rcases h.2 with ⟨rfl, rfl⟩ | ⟨g, cap, cur, rfl, _⟩
  · exact ⟨none, 0, rfl, .inl ⟨rfl, rfl⟩⟩
  · exact ⟨_, cap, rfl, .inr ⟨g, rfl, hlt g rfl⟩⟩
theorem owns_ext {w w' : World} {base base' : Nat} {e : TypeId} {sz n : Nat} {v : Value} {xs : List Value} (h : w.ownsRow base e sz v n xs) (hb : Below w.heap.size w w') (hB : base' ≤ base) : w'.ownsRow base' e sz v n xs := by
  refine ⟨h.1, ?_⟩
  rcases h.2 with h2 | ⟨g, cap, cur, rfl, h3, hg, h4⟩
  · exact .inl h2
  · exact .inr ⟨g, cap, cur, rfl, Nat.le_trans hB h3, by rw [hb.block g (Array.getElem?_eq_some_iff.1 hg).1]; exact hg, h4⟩
/-- The loop that writes over what was handed in. -/
def BangRel (v : Value) (n : Nat) (W : World) (i : Value) (wr : World) : Prop := ∃ k : Nat, ∃ xs, i = .int .i64 k ∧ k ≤ n ∧ wr.ownsRow 0 9 1 v n xs ∧ OnlyV v W wr
theorem bang_step {g n cap k : Nat} {W wr : World} {xs : List Value} (u : Value) (hown : wr.ownsRow 0 9 1 (.slice (some ⟨g, 0, none⟩) n cap) n xs) (h : OnlyV (.slice (some ⟨g, 0, none⟩) n cap) W wr) (hk : k < n) :
    BangRel (.slice (some ⟨g, 0, none⟩) n cap) n W (.int .i64 (k + 1)) (wr.setCell ⟨g, k, none⟩ u) :=
  ⟨k + 1, _, by go_num, by omega, (hown.stored k u).1, ⟨by rw [← h.size]; simp, fun j hj => (Below.heap_setCell wr ⟨g, k, none⟩ u j (fun e => hj (by rw [e]; rfl))).trans (h.block j hj), h.os, h.tape, h.output⟩⟩

theorem rd_nilIf {S : Nat → Prop} {w : World} {v : Value} {ss : List ByteArray} (h : Rd S w v (strsD ss)) : Rd S w (nilIf ss.length v) (strsD ss) := by
  unfold nilIf
  split
  · rename_i h0
    obtain rfl := List.eq_nil_of_length_eq_zero h0
    exact .list0 _ _ _ (fun _ => rfl)
  · exact h
theorem custom_eq (n : Nat) : customK n = rcustomK n ∧ customR n = rcustomR n := by
  unfold customK rcustomK customR rcustomR chosenK chosenR ofK ofR
  by_cases h0 : n = 0
  · simp [h0]
  · by_cases h1 : n = 1
    · simp [h1]
    · have : 1 < n := by omega
      simp [h0, h1, this]
theorem words_eq (k r : Int) (ss : List ByteArray) : wordsB k r ss = firstB k r ++ tailB ss := join_tail (firstB k r) ss
theorem firstB_size (k r : Int) : (firstB k r).size ≤ 41 := by
  have h1 := wordB_size kindsL k (by decide)
  have h2 := wordB_size reasonsL r (by decide)
  have h3 : (bs [58]).size = 1 := rfl
  simp only [firstB, ByteArray.size_append]; omega

set_option maxHeartbeats 1600000 in
theorem pickCustom_any (v v2 : Value) (apps ss : List ByteArray) (k r : Int) (w : World) (ht : Tables w) (h2 : 2 ≤ w.heap.size) (hs : Rd (Own w) w v (strsD apps)) (hs2 : Rd (Own w) w v2 (strsD ss)) (hlen : lensB ss ≤ 140737488355000) (hlen2 : apps.length ≤ 8000000000000) (hlen3 : ss.length ≤ 2000000) :
    Calls Tryd.prog 3 #[v, .agg #[.int .i64 k, v2, .int .i64 r]] w fun e w' => e = .returned (.bool true) ∧ Below w.heap.size w w' := by
  obtain ⟨a, c, rfl, hac, hnc, hc⟩ := hs.strs_inv
  obtain ⟨a2, c2, rfl, hac2, hnc2, hc2⟩ := hs2.strs_inv
  have hb0 := (Below.refl w.heap.size w).alloc (Nat.le_refl _) (.cells #[.int .i64 k, .slice a2 ss.length c2, .int .i64 r] 24)
  have ht0 := ht.below hb0 h2
  have HB0 := Lib.hid hb0; clear hb0
  by_cases hl : apps.length ≤ 200 ∧ ss.length ≤ 200
  · obtain ⟨hl1, hl2⟩ := hl
    go_enter Tryd.func3, Tryd.ntmps3
    go_wp2_with fail
    refine (speaks28 _ ht0 (by simp; omega)).mono ?_
    rintro e w1 ⟨rfl, hb1⟩
    have z1 : w.heap.size < w1.heap.size := by have := hb1.size; simp at this; omega
    have q1 := bcell1 hb1 (b := w.heap.size) (by simp)
    have hb01 := HB0.out.trans (hb1.mono (by simp))
    have HB1 := Lib.hid hb1; clear hb1
    have hr1 := (hs.ext hb01).alloc (fun _ h => h) (.cells #[] 9)
    have HB01 := Lib.hid hb01; clear hb01
    go_wp2_with (at_builtin; refine wpList_appD _ rfl _ _ 22 rfl w1.heap.size elStr _ 0 [] rfl (World.ownsRow_lit w1 #[] 0 (Nat.le_refl _) ?c0 rfl) _ rfl _ apps.length hr1 ?c1 ?c2 ?c3 ?c4 ?_)
    case c0 => decide
    case c1 => simp
    case c2 => simp [maxLen]; omega
    case c3 => omega
    case c4 => simp
    intro v' w2 ys hown hys hgr
    obtain ⟨ao, cap, rfl, hform⟩ := owned_form hown
    try simp only [Nat.zero_add, List.nil_append] at hown hform
    have hr2 : Rd (Own w2) w2 (.slice ao (0 + apps.length) cap) (strsD apps) := rd_owned (by simpa using hown) hys.strs (fun g hg => (hown.lt g (by simpa using hg)).2)
    try simp only [Nat.zero_add] at hr2
    have hb2 : Below w1.heap.size w1 w2 := grown_below ((Below.refl _ w1).alloc (Nat.le_refl _) _) (World.ownsRow_lit w1 #[] 0 (e := 9) (size := 1) (Nat.le_refl _) (by decide) rfl) hgr (by simp) (Nat.le_refl _)
    have z2 : w1.heap.size ≤ w2.heap.size := hb2.size
    have HB2 := Lib.hid hb2
    have HOWN := Lib.hid hown
    have q2 : ∀ o, w2.cell? ⟨w.heap.size, o, none⟩ = w1.cell? ⟨w.heap.size, o, none⟩ := bcell1 hb2 (by omega)
    clear hb2 hown hgr hys hr1
    have HFORM := Lib.hid hform; clear hform
    try simp only [Nat.zero_add]
    go_wp2_with fail
    refine (custom_any _ _ _ hr2 (fun _ h => h) (by omega)).mono ?_
    rintro e w3 ⟨vx, rfl, hr3, hb3⟩
    obtain ⟨ax, cx, rfl, _, _, _⟩ := hr3.strs_inv
    have z3 : w2.heap.size ≤ w3.heap.size := hb3.size
    have q3 : ∀ o, w3.cell? ⟨w.heap.size, o, none⟩ = w2.cell? ⟨w.heap.size, o, none⟩ := bcell1 hb3 (by omega)
    have HB3 := Lib.hid hb3; have HR3 := Lib.hid hr3
    clear hb3 hr3 hr2
    go_wp2_with fail
    go_loopw [26] (BangRel (.slice ao apps.length cap) apps.length (w3.alloc (.cells #[.int .i64 (customK apps.length), .slice ax apps.length cx, .int .i64 (customR apps.length)] 24))) (fun i _ => apps.length - (intOf i).toNat)
    case atStart => exact ⟨0, _, rfl, Nat.zero_le _, owns_ext HOWN.out (ext_trans HB3.out (ext_alloc (Below.refl _ _) _)) (Nat.zero_le _), OnlyV.refl _ _⟩
    case round =>
      obtain ⟨j, xs, rfl, hj, ho, hv⟩ := hrel
      by_cases hlt : j < apps.length
      · obtain ⟨g, rfl, hg⟩ := HFORM.out.resolve_left (fun h => by have := h.1; omega)
        obtain ⟨u, hu⟩ := get_ex xs j (by rw [ho.1]; omega)
        have p1 := (ho.cellAt j (by omega)).trans hu
        have p2 := ho.frozenAt j
        have R := bang_step (.string { data := #[33] }) ho hv hlt
        have HR := Lib.hid R; clear R ho hv hu
        go_wp2
        refine ⟨?_, by simp [intOf]; omega⟩
        have R := HR.out
        first | exact R | ((repeat apply Exists.intro); exact ⟨R, rfl⟩)
      · have hv0 : ∀ b, (Value.slice ao apps.length cap).ownBlock = some b → w1.heap.size ≤ b ∧ b < w2.heap.size := fun b hb => by
          rcases HFORM.out with ⟨_, rfl⟩ | ⟨g, rfl, hg⟩
          · simp [Value.ownBlock] at hb
          · simp [Value.ownBlock] at hb; subst hb; exact hg
        have zr : wr.heap.size = w3.heap.size + 1 := by rw [hv.size]; simp
        have nx : ∀ b, b < w1.heap.size ∨ w2.heap.size ≤ b → (Value.slice ao apps.length cap).ownBlock ≠ some b := fun b hb e => by have := hv0 b e; omega
        have hx3 := HR3.out.alloc (fun b hb => hb.2) (.cells #[.int .i64 (customK apps.length), .slice ax apps.length cx, .int .i64 (customR apps.length)] 24)
        have R1 : Rd (Own wr) wr (.slice ax apps.length cx) (strsD apps) := hv.rd hx3 (fun b hb => nx b (.inr hb.1)) (fun b hb => by have := hb.2; show b < wr.heap.size; omega)
        have hbW := ext_trans HB01.out (ext_trans HB2.out (ext_trans HB3.out (ext_alloc (Below.refl _ _) (.cells #[.int .i64 (customK apps.length), .slice ax apps.length cx, .int .i64 (customR apps.length)] 24))))
        have hbr : Below w.heap.size w wr := ⟨hv.os.trans hbW.os, hv.tape.trans hbW.tape, hv.output.trans hbW.output, by rw [hv.size]; exact hbW.size, fun b hb => (hv.block b (nx b (.inl (by omega)))).trans (hbW.block b hb)⟩
        have R2 := hs.ext hbr
        have R3 := hs2.ext hbr
        have T := ht.below hbr h2
        have e1 : ∀ o, wr.cell? ⟨w3.heap.size, o, none⟩ = #[.int .i64 (customK apps.length), .slice ax apps.length cx, .int .i64 (customR apps.length)][o]? := fun o => by
          rw [cell_keep (hv.block w3.heap.size (nx _ (.inr z3)))]; simp
        have e2 : ∀ o, wr.cell? ⟨w.heap.size, o, none⟩ = #[.int .i64 k, .slice a2 ss.length c2, .int .i64 r][o]? := fun o => by
          rw [cell_keep (hv.block w.heap.size (nx _ (.inl z1))), World.cell?_alloc_lt _ _ _ (by show w.heap.size < _; omega), q3, q2, q1]; simp
        have SAME : ∀ W, Below wr.heap.size wr W → Calls Tryd.prog 13 #[.agg #[.int .i64 (customK apps.length), .slice ax apps.length cx, .int .i64 (customR apps.length)], .agg #[.int .i64 (rcustomK apps.length), nilIf apps.length (.slice a apps.length c), .int .i64 (rcustomR apps.length)]] W fun e w' => e = .returned (.bool true) ∧ Below W.heap.size W w' := fun W hW => by
          have := same_any (.slice ax apps.length cx) (nilIf apps.length (.slice a apps.length c)) apps apps (customK apps.length) (customR apps.length) (rcustomK apps.length) (rcustomR apps.length) W (R1.ext hW) (rd_nilIf (R2.ext hW)) (by omega)
          rwa [show sameB (customK apps.length) apps (customR apps.length) (rcustomK apps.length) apps (rcustomR apps.length) = true from decide_eq_true ⟨(custom_eq _).1, (custom_eq _).2, rfl⟩] at this
        have WORDS : ∀ W, Below wr.heap.size wr W → Calls Tryd.prog 15 #[.agg #[.int .i64 k, .slice a2 ss.length c2, .int .i64 r]] W fun e w' => e = .returned (.string (wordsB k r ss)) ∧ Below W.heap.size W w' := fun W hW =>
          words_any _ ss k r W (T.below hW (by have := hbr.size; omega)) (by have := hbr.size; have := hW.size; omega) (R3.ext hW) (by omega) (by rw [words_eq, ByteArray.size_append, tailB_size]; have := firstB_size k r; omega)
        have RWORDS : ∀ W, Below wr.heap.size wr W → Calls Tryd.prog 16 #[.agg #[.int .i64 k, .slice a2 ss.length c2, .int .i64 r]] W fun e w' => e = .returned (.string (wordsB k r ss)) ∧ Below W.heap.size W w' := fun W hW => by
          rw [words_eq]
          exact rwords_any _ ss k r W (R3.ext hW) (by omega) (by omega)
        have y1 : w3.heap.size < wr.heap.size := by omega
        have y2 : w.heap.size < wr.heap.size := by omega
        have HS := Lib.hid SAME; have HWO := Lib.hid WORDS; have HRW := Lib.hid RWORDS; have HBR := Lib.hid hbr
        clear SAME WORDS RWORDS hbr hbW hv0 nx hx3 R1 R2 R3 T hv ho q1 q2 q3 zr z1 z2 z3 hs hs2 hac hac2 hc hc2 ht0 ht
        go_wp2_with fail
        go_region_with (first | (go_at_call 14; refine (rcustom_any _ _ _ _).mono ?_; rintro e w' ⟨rfl, hb⟩; have hq : Below wr.heap.size wr w' := ⟨hb.os, hb.tape, hb.output, hb.size, hb.block⟩; have d1 := bcell1 hq y1; have d2 := bcell1 hq y2; clear hb) | (go_at_call 13; refine (HS.out _ ‹_›).mono ?_; rintro e w' ⟨rfl, hb⟩; have hq' : Below wr.heap.size wr w' := ext_trans ‹Below wr.heap.size wr _› hb; have d1 := bcell1 hq' y1; have d2 := bcell1 hq' y2; clear hb) | (go_at_call 15; refine (HWO.out _ ‹_›).mono ?_; rintro e w' ⟨rfl, hb⟩; have hq' : Below wr.heap.size wr w' := ext_trans ‹Below wr.heap.size wr _› hb; have d1 := bcell1 hq' y1; have d2 := bcell1 hq' y2; clear hb) | (go_at_call 16; refine (HRW.out _ ‹_›).mono ?_; rintro e w' ⟨rfl, hb⟩; have hq' : Below wr.heap.size wr w' := ext_trans ‹Below wr.heap.size wr _› hb; have d1 := bcell1 hq' y1; have d2 := bcell1 hq' y2; clear hb))
        all_goals go_wp2
        all_goals go_ret
        all_goals exact ⟨rfl, ext_trans HBR.out ‹_›⟩
  · have key : 200 < apps.length ∨ (apps.length ≤ 200 ∧ 200 < ss.length) := by omega
    rcases key with q | ⟨q, q'⟩
    all_goals
      go_enter Tryd.func3, Tryd.ntmps3
      go_wp2_with fail
      refine (speaks28 _ ht0 (by simp; omega)).mono ?_
      rintro e w1 ⟨rfl, hb1⟩
      have q1 := bcell1 hb1 (b := w.heap.size) (by simp)
      have hb01 := HB0.out.trans (hb1.mono (by simp))
      clear hb1
      go_wp2
      go_ret
      exact ⟨rfl, hb01⟩
end Go.Proofs.YtjbbpmjbohedkaaDoor
