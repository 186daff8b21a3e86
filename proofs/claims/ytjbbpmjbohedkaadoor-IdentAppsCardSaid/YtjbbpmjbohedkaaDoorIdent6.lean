/- The law IdentApps: what names are, and the walk. -/
import Derived.Test.YtjbbpmjbohedkaaDoorIdent5
import Derived.Laws.StructEq
namespace Go.Proofs.YtjbbpmjbohedkaaDoor
open Go.RowKit
theorem appR_all {s : ByteArray} (h : appR s = []) : ∀ m, m < s.size → badAt s 166 appB m = false := by
  unfold appR readR at h
  split at h
  · simp at h
  · rename_i hx
    rw [List.find?_range_eq_none] at hx
    intro m hm
    simpa using hx m hm
theorem appR_bad {s : ByteArray} (m : Nat) (hm : m < s.size) (hb : badAt s 166 appB m = true) : appR s ≠ [] := fun h => by
  rw [appR_all h m hm] at hb; cases hb
theorem byteAt_bang (s : ByteArray) : byteAt (s ++ ⟨#[33]⟩) s.size = 33 := by
  have : (s ++ (⟨#[33]⟩ : ByteArray)).data[s.size]? = some 33 := by
    rw [ByteArray.data_append, Array.getElem?_append_right (by exact Nat.le_refl _)]
    show (#[33] : Array UInt8)[s.data.size - s.data.size]? = some 33
    simp
  rw [byteAt, this]; rfl
theorem long_bad (s : ByteArray) (h : 11 < s.size) : appR (s ++ ⟨#[33]⟩) ≠ [] := by
  refine appR_bad s.size ?_ ?_
  · rw [ByteArray.size_append]; show s.size < s.size + 1; omega
  · unfold badAt
    rw [byteAt_bang]
    have : appB s.size 33 = false := by
      unfold appB
      rw [if_neg (by omega), if_neg (by omega)]; decide
    rw [this]; simp
theorem byteAt_cut (s : ByteArray) (m : Nat) (hm : m < 10) (hs : 10 ≤ s.size) : byteAt (s.extract 0 10) m = byteAt s m := by
  unfold byteAt
  have : (s.extract 0 10).data[m]? = s.data[m]? := by
    rw [ByteArray.data_extract, Array.getElem?_extract]
    have hsz : s.size = s.data.size := rfl
    rw [if_pos (by omega), Nat.zero_add]
  rw [this]
theorem cut_size (s : ByteArray) (hs : 10 ≤ s.size) : (s.extract 0 10).size = 10 := by
  rw [ByteArray.size_extract]; omega
theorem rest_size (s : ByteArray) (hs : 11 ≤ s.size) : (s.extract 11 s.size).size = s.size - 11 := by
  rw [ByteArray.size_extract]; omega
theorem cut_short (s : ByteArray) (h : appR s = []) : appR (s.extract 0 10) = [(10, 10)] := by
  have h11 := appR_size h
  have hs := cut_size s (by omega)
  unfold appR
  rw [readR_end]
  · rw [hs]; rfl
  · intro m hm
    rw [hs] at hm
    have := appR_all h m (by omega)
    unfold badAt at this ⊢
    rw [byteAt_cut s m hm (by omega)]; exact this
theorem point_at (s : ByteArray) (h : appR s = []) : byteAt s 10 = 46 := by
  have := appR_all h 10 (by have := appR_size h; omega)
  unfold badAt appB at this
  simpa using this
theorem text_back (s : ByteArray) (h : appR s = []) : s.extract 0 10 ++ ⟨#[46]⟩ ++ s.extract 11 s.size = s := by
  have h11 := appR_size h
  have hp := point_at s h
  have hsz : s.size = s.data.size := rfl
  have h10 : s.data[10]'(by omega) = 46 := by
    unfold byteAt at hp
    rw [Array.getElem?_eq_getElem (by omega)] at hp
    exact UInt8.toNat_inj.1 hp
  apply ByteArray.ext
  rw [ByteArray.data_append, ByteArray.data_append, ByteArray.data_extract, ByteArray.data_extract]
  apply Array.ext_getElem?
  intro i
  by_cases h1 : i < 10
  · rw [Array.getElem?_append_left (by simp; omega), Array.getElem?_append_left (by simp; omega), Array.getElem?_extract, if_pos (by omega), Nat.zero_add]
  · by_cases h2 : i = 10
    · subst h2
      rw [Array.getElem?_append_left (by simp; omega), Array.getElem?_append_right (by simp; omega), Array.getElem?_eq_getElem (xs := s.data) (by omega), h10]
      simp [show min 10 s.data.size = 10 by omega, show min 10 s.size = 10 by omega]
    · rw [Array.getElem?_append_right (by simp; omega), Array.getElem?_extract]
      by_cases h3 : i < s.data.size
      · rw [if_pos (by simp; omega)]
        congr 1
        simp; omega
      · rw [if_neg (by simp; omega), Array.getElem?_eq_none (by omega)]
/-- All that the law asks of a right name, in one word (the walk is slow where these lie open, even hidden one by one). -/
structure AppFacts (s : ByteArray) : Prop where
  nil : appR s = []
  big : 11 < s.size
  team : appTeam s = s.extract 0 10
  bundle : appBundle s = s.extract 11 s.size
  z1 : (s.extract 0 10).size = 10
  z2 : (s.extract 11 s.size).size = s.size - 11
  long : appR (s ++ ⟨#[33]⟩) ≠ []
  cut : appR (s.extract 0 10) = [(10, 10)]
  text : s.extract 0 10 ++ ⟨#[46]⟩ ++ s.extract 11 s.size = s
theorem AppFacts.of {s : ByteArray} (h : appR s = []) : AppFacts s :=
  have h11 := appR_size h
  ⟨h, h11, if_pos h, if_pos h, cut_size s (by omega), rest_size s (by omega), long_bad s h11, cut_short s h, text_back s h⟩
theorem bang_bad (s X : ByteArray) (hX : X.data.toList = [33]) (h : 11 < s.size) : appR (s ++ X) ≠ [] := by
  have e : X = ⟨#[33]⟩ := by
    apply ByteArray.ext
    exact Array.toList_inj.1 hX
  rw [e]; exact long_bad s h
theorem app_bang {s X : ByteArray} (hX : X.data.toList = [33]) (h : 11 < s.size) (w : World) (hs : (s ++ X).size ≤ 1000000) :
    Calls Tryd.prog 26 #[.string (s ++ X)] w fun e w' => ∃ a b p, e = .returned (.tuple #[.agg #[.string a, .string b], .iface 86 (.pointer (some p))]) ∧ Below w.heap.size w w' := by
  refine (app_any (s ++ X) w hs).mono ?_
  rintro e w' ⟨v, rfl, hr, hb⟩
  obtain ⟨x, hx⟩ := appR_cons (bang_bad s X hX h)
  rw [hx] at hr
  obtain ⟨k, a⟩ := x
  obtain ⟨b, off, u, rfl, _⟩ := fault_inv hr
  exact ⟨_, _, _, rfl, hb⟩
theorem app_cut {s T : ByteArray} (hT : T = s.extract 0 10) (h : AppFacts s) (w : World) :
    Calls Tryd.prog 26 #[.string T] w fun e w' => ∃ a b v, e = .returned (.tuple #[.agg #[.string a, .string b], v]) ∧ Rd (Fresh w w') w' v (errD 86 [(10, 10)]) ∧ Below w.heap.size w w' := by
  subst hT
  refine (app_any (s.extract 0 10) w (by rw [h.z1]; decide)).mono ?_
  rintro e w' ⟨v, rfl, hr, hb⟩
  rw [h.cut] at hr
  exact ⟨_, _, _, rfl, hr, hb⟩
set_option maxRecDepth 100000 in
set_option maxHeartbeats 8000000 in
theorem identApps_any (s : ByteArray) (w : World) (hg : Glob w) : Calls Tryd.prog 8 #[.string s] w fun e w' => e = .returned (.bool true) ∧ Below w.heap.size w w' := by
  by_cases hl : s.size ≤ 1000
  · have A := fun W => app_any s W (by omega)
    have HA := Lib.hid A; have HG := Lib.hid hg
    clear A hg
    by_cases hR : appR s = []
    · have HF := AppFacts.of hR
      clear hR
      go_enter Tryd.func8, Tryd.ntmps8
      go_wp2_with fail
      refine (speaks04 _ HG.out).mono ?_
      rintro e w1 ⟨rfl, hb1⟩
      have HB1 := Lib.hid hb1; clear hb1
      go_wp2_with fail
      refine (HA.out _).mono ?_
      rintro e w2 ⟨v, rfl, hr, hb2⟩
      rw [HF.nil] at hr
      simp only [errD] at hr
      have ev := hr.nilI_inv
      subst ev
      rw [HF.team, HF.bundle]
      have HB2 := Lib.hid (ext_trans HB1.out hb2)
      clear hr hb2
      go_wp2_with fail
      refine (app_bang (by rfl) HF.big _ (by rw [ByteArray.size_append]; show s.size + 1 ≤ 1000000; omega)).mono ?_
      rintro e w3 ⟨t2, t3, ⟨pb, po, ps⟩, rfl, hb3⟩
      have q3 := bcell1 hb3 (b := w2.heap.size) (by simp)
      have y3 := hb3.size
      simp at y3
      have HB3 := Lib.hid (ext_trans (ext_alloc HB2.out _) hb3)
      have Q3 : ∀ o, w3.cell? ⟨w2.heap.size, o, none⟩ = #[Value.string (s.extract 0 10), Value.string (s.extract 11 s.size)][o]? := fun o => by rw [q3]; simp
      clear hb3 q3
      have i1 : (10 : Int) ≤ (s.size : Int) := by have := HF.big; omega
      go_wp2_with fail
      refine (app_cut rfl HF _).mono ?_
      rintro e w4 ⟨t4, t5, v4, rfl, hr4, hb4⟩
      obtain ⟨b4, off4, u4, rfl, _⟩ := fault_inv hr4
      have y4 := hb4.size
      simp at y4
      have q4 := bcell1 hb4 (b := w2.heap.size) (by simp; omega)
      have Q4 : ∀ o, w4.cell? ⟨w2.heap.size, o, none⟩ = #[Value.string (s.extract 0 10), Value.string (s.extract 11 s.size)][o]? := fun o => by
        rw [q4, World.cell?_alloc_lt _ _ _ (by show w2.heap.size < w3.heap.size; omega)]; exact Q3 o
      have HS := Lib.hid (has_any (S := Own (w4.alloc (.cells #[.string t4, .string t5] 46))) _ 10 [(10, 10)] (w4.alloc (.cells #[.string t4, .string t5] 46)) ((hr4.alloc (fun b hb => hb.2) _).wide (fun b hb => Nat.lt_of_lt_of_le hb.2 (by simp))))
      have R4 := Lib.hid ((hr4.alloc (fun b hb => hb.2) (.cells #[.string t4, .string t5] 46)).wide (S' := Own (w4.alloc (.cells #[.string t4, .string t5] 46))) (fun b hb => Nat.lt_of_lt_of_le hb.2 (by simp)))
      have HB4 := Lib.hid (ext_alloc (ext_trans (ext_alloc HB3.out _) hb4) (.cells #[.string t4, .string t5] 46))
      have y34 : w2.heap.size < w4.heap.size := by omega
      clear hr4 hb4 q4 Q3
      go_wp2_with fail
      refine (appText_any _ _ _ (by have := HF.z1; omega) (by have := HF.z2; omega)).mono ?_
      rintro e w5 ⟨rfl, hb5⟩
      rw [HF.text]
      have y5 := hb5.size
      simp at y5
      have q5 := bcell1 hb5 (b := w2.heap.size) (by simp; omega)
      have Q5 : ∀ o, w5.cell? ⟨w2.heap.size, o, none⟩ = #[Value.string (s.extract 0 10), Value.string (s.extract 11 s.size)][o]? := fun o => by
        rw [q5, World.cell?_alloc_lt _ _ _ (by show w2.heap.size < w4.heap.size; omega)]; exact Q4 o
      have HAS := Lib.hid (has_any _ 10 [(10, 10)] w5 (R4.out.ext hb5))
      have HB5 := Lib.hid (ext_trans HB4.out hb5)
      have z1 := HF.z1
      have z2 : ((s.extract 11 s.size).size : Int) = (s.size : Int) - 11 := by have := HF.z2; have := HF.big; omega
      have y35 : w2.heap.size < w5.heap.size := by omega
      clear hb5 q5 Q4
      go_wp2_with fail
      refine HAS.out.mono ?_
      rintro e w6 ⟨rfl, rfl⟩
      rw [show isKind [(10, 10)] 10 = true from rfl]
      go_wp2
      go_ret
      exact ⟨rfl, HB5.out⟩
    · obtain ⟨x, hx⟩ := appR_cons hR
      have e1 : appTeam s = ⟨#[]⟩ := if_neg hR
      have e2 : appBundle s = ⟨#[]⟩ := if_neg hR
      have HX := Lib.hid hx
      have E := Lib.hid (And.intro e1 e2)
      clear e1 e2 hR hx
      go_enter Tryd.func8, Tryd.ntmps8
      go_wp2_with fail
      refine (speaks04 _ HG.out).mono ?_
      rintro e w1 ⟨rfl, hb1⟩
      have HB1 := Lib.hid hb1; clear hb1
      go_wp2_with fail
      refine (HA.out _).mono ?_
      rintro e w2 ⟨v, rfl, hr, hb2⟩
      rw [HX.out] at hr
      obtain ⟨k, a⟩ := x
      obtain ⟨b, off, u, rfl, _⟩ := fault_inv hr
      rw [E.out.1, E.out.2]
      have HB2 := Lib.hid (ext_alloc (ext_trans HB1.out hb2) (.cells #[.string ⟨#[]⟩, .string ⟨#[]⟩] 46))
      clear hr hb2
      go_wp2
      go_ret
      exact ⟨rfl, HB2.out⟩
  · go_enter Tryd.func8, Tryd.ntmps8
    go_wp2_with fail
    refine (speaks04 _ hg).mono ?_
    rintro e w1 ⟨rfl, hb1⟩
    go_wp2
    go_ret
    exact ⟨rfl, hb1⟩
end Go.Proofs.YtjbbpmjbohedkaaDoor
