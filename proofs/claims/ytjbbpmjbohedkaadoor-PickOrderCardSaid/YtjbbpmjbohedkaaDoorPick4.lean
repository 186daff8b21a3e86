/- The walks of the law of the package pick: its example. -/
import Derived.Test.YtjbbpmjbohedkaaDoorPick3
namespace Go.Proofs.YtjbbpmjbohedkaaDoor
open Go.RowKit
theorem Tables.below {w w' : World} (h : Tables w) (hb : Below w.heap.size w w') (h2 : 2 ≤ w.heap.size) : Tables w' :=
  ⟨h.kinds.under (hb.mono h2), h.reasons.under (hb.mono h2)⟩
theorem join_tail (f : ByteArray) (ss : List ByteArray) : (⟨(Lib.join ((f :: ss).map (·.data.toList)) [32]).toArray⟩ : ByteArray) = f ++ tailB ss := by
  have h : ∀ l : List ByteArray, (tailB l).data.toList = Lib.joinTail [32] (l.map (·.data.toList)) := fun l => by
    induction l with
    | nil => rfl
    | cons s l ih => simp only [tailB, List.map_cons, Lib.joinTail, List.flatten_cons] at ih ⊢; simp [ByteArray.data_append, ih, bs]
  apply ByteArray.ext
  apply Array.toList_inj.1
  simp only [List.map_cons, Lib.join_cons, ByteArray.data_append, Array.toList_append, h]

set_option maxHeartbeats 800000 in
theorem speaks28 (w : World) (ht : Tables w) (h2 : 2 ≤ w.heap.size) :
    Calls Tryd.prog 11 #[] w fun e w' => e = .returned (.bool true) ∧ Below w.heap.size w w' := by
  have hb0 := (Below.refl w.heap.size w).alloc (Nat.le_refl _) (.cells #[.string { data := #[97] }, .string { data := #[98] }] 9)
  have hr0 : Rd (Own (w.alloc (.cells #[.string { data := #[97] }, .string { data := #[98] }] 9))) (w.alloc (.cells #[.string { data := #[97] }, .string { data := #[98] }] 9)) (.slice (some ⟨w.heap.size, 0, none⟩) 2 2) (strsD [{ data := #[97] }, { data := #[98] }]) :=
    rd_owned (World.ownsRow_lit (base := w.heap.size) (e := 9) (size := 1) w #[.string { data := #[97] }, .string { data := #[98] }] 2 (Nat.le_refl _) (by decide) rfl) (.cons (.str _) (.cons (.str _) .nil)) (fun g hg => by simp [Value.ownBlock] at hg; subst hg; simp [Own])
  have HB0 := Lib.hid hb0; clear hb0
  go_enter Tryd.func11, Tryd.ntmps11
  go_wp2_with fail
  refine (custom_any _ _ _ hr0 (fun _ h => h) (by decide)).mono ?_
  rintro e w1 ⟨v, rfl, hr1, hb1⟩
  obtain ⟨a, c, rfl, _, _, _⟩ := hr1.strs_inv
  have hz : w.heap.size + 1 ≤ w1.heap.size := by have := hb1.size; simp at this; omega
  have HR1 := Lib.hid hr1; have HB1 := Lib.hid hb1
  clear hr0 hr1 hb1
  go_wp2_with fail
  have ht2 : Tables (w1.alloc (.cells #[.int .i64 4, .slice a 2 c, .int .i64 9] 24)) :=
    ht.below (HB0.out.trans ((HB1.out.mono (by simp)).trans ((Below.refl _ w1).alloc (by omega) _))) h2
  refine (words_any _ [{ data := #[97] }, { data := #[98] }] 4 9 _ ht2 (by simp; omega) ?_ (by decide) (by decide +kernel)).mono ?_
  · exact (HR1.out.wide (S' := Own w1) (fun b hb => hb.2)).ext ((Below.refl _ w1).alloc (Nat.le_refl _) _)
  rintro e w2 ⟨rfl, hb2⟩
  go_wp2
  go_ret
  refine ⟨?_, HB0.out.trans ((HB1.out.mono (by simp)).trans (((Below.refl _ w1).alloc (by omega) _).trans (hb2.mono (by simp; omega))))⟩
  exact congrArg (fun b => Ending.returned (.bool b)) (by decide +kernel : ((wordsB 4 9 [{ data := #[97] }, { data := #[98] }]).toList == [99, 104, 111, 111, 115, 101, 58, 115, 101, 118, 101, 114, 97, 108, 32, 97, 32, 98]) = true)
end Go.Proofs.YtjbbpmjbohedkaaDoor
