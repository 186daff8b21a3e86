/- The walk of PickMore. -/
import Derived.Test.YtjbbpmjbohedkaaDoorWeb5
import Derived.Laws.OwnMore
namespace Go.Proofs.YtjbbpmjbohedkaaDoor
open Go.RowKit
def addC (id : ByteArray) (o : Bool) : Cand := ⟨id, true, true, true, o⟩
theorem readyApps_add (cs : List Cand) (id : ByteArray) : readyApps (cs ++ [addC id false]) = readyApps cs ++ [id] := by simp [readyApps, List.filter_append, addC, Cand.ready]
theorem readyApps_off (cs : List Cand) (id : ByteArray) : readyApps (cs ++ [addC id true]) = readyApps cs := by simp [readyApps, List.filter_append, addC, Cand.ready]
theorem reason_off (cs : List Cand) (id : ByteArray) : reasonN (cs ++ [addC id true]) = 7 := by simp [reasonN, addC, Cand.t2]
theorem candsD_set {cs : List Cand} (id : ByteArray) : ((cs ++ [addC id false]).flatMap Cand.d).set (cs.length * 5 + 4) (.bool true) = (cs ++ [addC id true]).flatMap Cand.d := by
  have hl : (cs.flatMap Cand.d).length = cs.length * 5 := flat_length (enc := Cand.d) (k := 5) (fun _ => rfl) cs
  rw [List.flatMap_append, List.flatMap_append, List.set_append_right _ _ (by omega), hl]
  congr 1
  rw [show cs.length * 5 + 4 - cs.length * 5 = 4 by omega]
  rfl
theorem Rds.set {S : Nat → Prop} {w : World} {vs : List Value} {ds : List Dat} (h : Rds S w vs ds) (j : Nat) {u : Value} {d : Dat} (hu : Rd S w u d) : Rds S w (vs.set j u) (ds.set j d) :=
  ⟨by simp [h.1], fun i x y hx hy => by
    by_cases e : j = i
    · subst e
      by_cases hj : j < vs.length
      · rw [List.getElem?_set_self hj] at hx; rw [List.getElem?_set_self (by rw [← h.1]; exact hj)] at hy
        cases hx; cases hy; exact hu
      · rw [List.getElem?_eq_none (by simpa using hj)] at hx; cases hx
    · rw [List.getElem?_set_ne e] at hx; rw [List.getElem?_set_ne e] at hy; exact h.2 i x y hx hy⟩
set_option maxRecDepth 100000 in
set_option maxHeartbeats 8000000 in
theorem pickMore_any (v : Value) (id : ByteArray) (cs : List Cand) (w : World) (ht : Tables w) (h2 : 2 ≤ w.heap.size) (hs : Rd (Own w) w v (candsD cs)) :
    Calls Tryd.prog 6 #[v, .string id] w fun e w' => e = .returned (.bool true) ∧ Below w.heap.size w w' := by
  obtain ⟨a, c, rfl, hac, _, hc⟩ := cands_inv hs
  by_cases hl : cs.length ≤ 200
  · go_enter Tryd.func6, Tryd.ntmps6
    go_wp2_with fail
    refine (speaks28 _ ht h2).mono ?_
    rintro e w1 ⟨rfl, hb1⟩
    have HB1 := Lib.hid hb1; have HS := Lib.hid (hs.ext hb1)
    clear hb1 hs hac hc
    go_wp2_with fail
    refine (web_any _ cs _ HS.out (by omega)).mono ?_
    rintro e w2 ⟨va, rfl, ha, hb2⟩
    obtain ⟨aa, ca, rfl, _, _, _⟩ := ha.strs_inv
    obtain ⟨W2, hW2⟩ : ∃ W, w2.alloc (.cells #[.int .i64 (webK cs), .slice aa (readyApps cs).length ca, .int .i64 (webR cs)] 24) = W := ⟨_, rfl⟩
    have z2 : w2.heap.size < W2.heap.size := by rw [← hW2]; simp
    have d2 : ∀ o, W2.cell? ⟨w2.heap.size, o, none⟩ = #[.int .i64 (webK cs), .slice aa (readyApps cs).length ca, .int .i64 (webR cs)][o]? := fun o => by rw [← hW2]; simp
    have ra : Rd (· < W2.heap.size) W2 (.slice aa (readyApps cs).length ca) (strsD (readyApps cs)) := by
      rw [← hW2]; exact (ha.alloc (fun b hb => hb.2) _).wide (fun b hb => Nat.lt_of_lt_of_le hb.2 (by simp))
    have hb2' : Below w1.heap.size w1 W2 := by rw [← hW2]; exact ext_alloc hb2 _
    have hr2 := HS.out.ext hb2'
    have HB2 := Lib.hid hb2'; have HRA := Lib.hid ra; have HR2 := Lib.hid hr2; have HD2 := Lib.hid d2
    clear hb2 hb2' ra hr2 ha d2
    have hrx := HR2.out.alloc (fun _ h => h) (.cells #[] 32)
    go_wp2_with (at_builtin; refine wpList_appD _ rfl _ _ 30 rfl W2.heap.size elCand _ 0 [] rfl (World.ownsRow_lit W2 #[] 0 (Nat.le_refl _) ?c0 rfl) _ rfl _ cs.length hrx ?c1 ?c2 ?c3 ?c4 ?_)
    case c0 => decide
    case c1 => exact flat_length (enc := Cand.d) (k := 5) (fun _ => rfl) cs
    case c2 => simp [maxLen]; omega
    case c3 => omega
    case c4 => simp
    intro v3 w3 ys hown3 hys hgr3
    have hb3 : Below W2.heap.size W2 w3 := grown_below ((Below.refl _ W2).alloc (Nat.le_refl _) _) (World.ownsRow_lit W2 #[] 0 (e := 32) (size := 5) (Nat.le_refl _) (by decide) rfl) hgr3 (by simp) (Nat.le_refl _)
    try simp only [Nat.zero_add, List.nil_append] at hown3
    have HO3 := Lib.hid hown3; have HB3 := Lib.hid hb3; have HY := Lib.hid hys
    clear hys hgr3 hb3 hrx
    obtain ⟨vo3, cap3, rfl, _⟩ := owned_form HO3.out
    go_wp2_with (at_builtin; refine wpList_app1 w3 #[.string id, .bool true, .bool true, .bool true, .bool false] _ rfl _ _ 30 rfl W2.heap.size elCand _ _ _ rfl HO3.out rfl rfl ?c1 ?c2 ?c3 ?c4 ?_)
    case c1 => first | exact ⟨rfl, rfl, rfl⟩ | (intro u hu; simp at hu; rcases hu with rfl | rfl | rfl <;> rfl)
    case c2 => simp [maxLen]; omega
    case c3 => omega
    case c4 => exact HB3.out.size
    intro v4 w4 hown4 hgr4
    have hb4 : Below W2.heap.size W2 w4 := (ext_alloc HB3.out (.cells #[.string id, .bool true, .bool true, .bool true, .bool false] 32)).grown hgr4 (ext_alloc HB3.out (.cells #[.string id, .bool true, .bool true, .bool true, .bool false] 32)).size (fun k hk => (HO3.out.lt k hk).1)
    clear hgr4 hown3
    obtain ⟨vo4, cap4, rfl, hf4⟩ := owned_form hown4
    obtain ⟨g, rfl, hg1, hg2⟩ : ∃ g, vo4 = some ⟨g, 0, none⟩ ∧ W2.heap.size ≤ g ∧ g < w4.heap.size := by
      rcases hf4 with ⟨h, _⟩ | h
      · omega
      · exact h
    have hrd4 : Rds (Own w4) w4 (ys ++ [.string id, .bool true, .bool true, .bool true, .bool false]) ((cs ++ [addC id false]).flatMap Cand.d) := by
      rw [List.flatMap_append]
      exact Rds.append (HY.out.prim (cands_prim cs)) (.cons (.str _) (.cons (.bool _) (.cons (.bool _) (.cons (.bool _) (.cons (.bool _) .nil)))))
    have hlen4 : (cs ++ [addC id false]).length = cs.length + 1 := by simp
    have r4 : Rd (Own w4) w4 (.slice (some ⟨g, 0, none⟩) (cs.length + 1) cap4) (candsD (cs ++ [addC id false])) := rd_owned hown4 hrd4 (fun k hk => (hown4.lt k hk).2)
    have HO4 := Lib.hid hown4; have HB4 := Lib.hid hb4; have HR4 := Lib.hid r4; have HRD4 := Lib.hid hrd4
    clear hown4 hb4 r4 hrd4 hf4
    have WB := web_any _ (cs ++ [addC id false]) w4 HR4.out (by omega)
    rw [readyApps_add] at WB
    have HWB := Lib.hid WB; clear WB hlen4
    go_wp2_with fail
    refine HWB.out.mono ?_
    rintro e w5 ⟨vb, rfl, hvb, hb5⟩
    obtain ⟨ab, cb, rfl, _, _, hcb⟩ := hvb.strs_inv
    have hlb : (readyApps cs ++ [id]).length = (readyApps cs).length + 1 := by simp
    obtain ⟨bb, ob, rfl, hSb, hcb⟩ := hcb (by omega)
    have hel : w5.cell? ⟨bb, ob + (readyApps cs).length, none⟩ = some (.string id) := hcb _ id (by simp)
    rw [hlb]
    have hbb1 : w4.heap.size ≤ bb := hSb.1
    have hbb2 : bb < w5.heap.size := hSb.2
    clear hvb hcb hSb
    obtain ⟨W5, hW5⟩ : ∃ W, w5.alloc (.cells #[.int .i64 (webK (cs ++ [addC id false])), .slice (some ⟨bb, ob, none⟩) ((readyApps cs).length + 1) cb, .int .i64 (webR (cs ++ [addC id false]))] 24) = W := ⟨_, rfl⟩
    have z5 : w5.heap.size < W5.heap.size := by rw [← hW5]; simp
    have d5 : ∀ o, W5.cell? ⟨w5.heap.size, o, none⟩ = #[.int .i64 (webK (cs ++ [addC id false])), .slice (some ⟨bb, ob, none⟩) ((readyApps cs).length + 1) cb, .int .i64 (webR (cs ++ [addC id false]))][o]? := fun o => by rw [← hW5]; simp
    have hel5 : W5.cell? ⟨bb, ob + (readyApps cs).length, none⟩ = some (.string id) := by rw [← hW5]; exact cell_alloc _ hel
    have hb5' : Below w4.heap.size w4 W5 := by rw [← hW5]; exact ext_alloc hb5 _
    have ho5 := owns_ext HO4.out hb5' (Nat.le_refl W2.heap.size)
    have hsz5 := hb5'.size
    have hcell5 : W5.cell? ⟨g, cs.length * 5 + 4, none⟩ = some (.bool false) := by
      rw [ho5.cellAt _ (by omega), List.getElem?_append_right (by have := HY.out.1; rw [this, flat_length (enc := Cand.d) (k := 5) (fun _ => rfl) cs]; omega)]
      have := HY.out.1
      rw [this, flat_length (enc := Cand.d) (k := 5) (fun _ => rfl) cs, show cs.length * 5 + 4 - cs.length * 5 = 4 by omega]
      rfl
    have hfz5 : W5.frozen? ⟨g, cs.length * 5 + 4, none⟩ = false := ho5.frozenAt _
    have hbw5 : Below W2.heap.size W2 W5 := ext_trans HB4.out hb5'
    have HO5 := Lib.hid ho5; have HBW5 := Lib.hid hbw5; have HD5 := Lib.hid d5; have HEL := Lib.hid hel5
    clear hel d5 hel5 hb5 hb5' ho5 hbw5 hlb
    obtain ⟨W8, hW8⟩ : ∃ W, W5.setCell ⟨g, cs.length * 5 + 4, none⟩ (.bool true) = W := ⟨_, rfl⟩
    have hst := (HO5.out.stored (cs.length * 5 + 4) (.bool true)).1
    rw [hW8] at hst
    have r8 : Rd (Own W8) W8 (.slice (some ⟨g, 0, none⟩) (cs.length + 1) cap4) (candsD (cs ++ [addC id true])) := by
      refine rd_owned hst ?_ (fun k hk => (hst.lt k hk).2)
      rw [← candsD_set]
      exact (HRD4.out.prim (cands_prim _)).set _ (.bool true)
    have hbw8 : Below W2.heap.size W2 W8 := by rw [← hW8]; exact HBW5.out.setCell hg1 _
    have z8 : W8.heap.size = W5.heap.size := by rw [← hW8]; simp
    have k8 : ∀ b, b ≠ g → W8.heap[b]? = W5.heap[b]? := fun b hb => by rw [← hW8]; exact Below.heap_setCell _ _ _ _ hb
    have d8 : ∀ o, W8.cell? ⟨w5.heap.size, o, none⟩ = #[.int .i64 (webK (cs ++ [addC id false])), .slice (some ⟨bb, ob, none⟩) ((readyApps cs).length + 1) cb, .int .i64 (webR (cs ++ [addC id false]))][o]? := fun o => by
      rw [cell_keep (k8 w5.heap.size (by omega))]; exact HD5.out o
    have el8 : W8.cell? ⟨bb, ob + (readyApps cs).length, none⟩ = some (.string id) := by
      rw [cell_keep (k8 bb (by omega))]; exact HEL.out
    have WC := web_any _ (cs ++ [addC id true]) W8 r8 (by simp; omega)
    rw [readyApps_off] at WC
    have HWC := Lib.hid WC; have HBW8 := Lib.hid hbw8; have HD8 := Lib.hid d8; have HEL8 := Lib.hid el8
    clear WC hbw8 d8 el8 k8 r8 hst hcb
    go_wp2_with fail
    refine HWC.out.mono ?_
    rintro e w6 ⟨vc, rfl, hvc, hb6⟩
    obtain ⟨ac, cc, rfl, _, _, _⟩ := hvc.strs_inv
    have z6 := hb6.size
    obtain ⟨W9, hW9⟩ : ∃ W, w6.alloc (.cells #[.int .i64 (webK (cs ++ [addC id true])), .slice ac (readyApps cs).length cc, .int .i64 (webR (cs ++ [addC id true]))] 24) = W := ⟨_, rfl⟩
    have hb9 : Below W8.heap.size W8 W9 := by rw [← hW9]; exact ext_alloc hb6 _
    have z9 : w6.heap.size < W9.heap.size := by rw [← hW9]; simp
    have e8 : ∀ o, W9.cell? ⟨w6.heap.size, o, none⟩ = #[.int .i64 (webK (cs ++ [addC id true])), .slice ac (readyApps cs).length cc, .int .i64 (webR (cs ++ [addC id true]))][o]? := fun o => by rw [← hW9]; simp
    have e7 : ∀ o, W9.cell? ⟨w5.heap.size, o, none⟩ = #[.int .i64 (webK (cs ++ [addC id false])), .slice (some ⟨bb, ob, none⟩) ((readyApps cs).length + 1) cb, .int .i64 (webR (cs ++ [addC id false]))][o]? := fun o => by
      rw [bcell1 hb9 (by omega)]; exact HD8.out o
    have e5 : ∀ o, W9.cell? ⟨w2.heap.size, o, none⟩ = #[.int .i64 (webK cs), .slice aa (readyApps cs).length ca, .int .i64 (webR cs)][o]? := fun o => by
      rw [bcell1 (HBW8.out.trans (hb9.mono HBW8.out.size)) z2]; exact HD2.out o
    have el9 : W9.cell? ⟨bb, ob + (readyApps cs).length, none⟩ = some (.string id) := by rw [bcell1 hb9 (by omega)]; exact HEL8.out
    have hbw9 : Below W2.heap.size W2 W9 := HBW8.out.trans (hb9.mono HBW8.out.size)
    have rc : Rd (Own W9) W9 (.slice ac (readyApps cs).length cc) (strsD (readyApps cs)) := by
      rw [← hW9]; exact (hvc.alloc (fun b hb => hb.2) _).wide (fun b hb => Nat.lt_of_lt_of_le hb.2 (by simp))
    have ra : Rd (Own W9) W9 (.slice aa (readyApps cs).length ca) (strsD (readyApps cs)) := (HRA.out.under hbw9).wide (fun b hb => Nat.lt_of_lt_of_le hb hbw9.size)
    have HBW9 := Lib.hid (ext_trans HB1.out (ext_trans HB2.out hbw9))
    have HRAC := Lib.hid (And.intro ra rc)
    have hle := readyApps_le cs
    clear hb9 hb6 hvc hbw9 ra rc hW8 z8
    by_cases h0 : (readyApps cs).length = 0
    · have f1 : webK (cs ++ [addC id false]) = 3 := by rw [webK, readyApps_add]; simp [h0, chosenK]
      have f2 : webK (cs ++ [addC id true]) = 2 := by rw [webK, readyApps_off]; simp [h0]
      have f3 : webR (cs ++ [addC id true]) = 7 := by rw [webR, readyApps_off]; simp [h0, reason_off]
      rw [f2, f3, h0] at hW9
      rw [h0, Nat.add_zero] at el9
      go_wp2
      go_ret
      exact ⟨rfl, HBW9.out⟩
    · have f1 : webK (cs ++ [addC id false]) = 4 := by rw [webK, readyApps_add]; simp [h0, chosenK]
      have f2 : webK (cs ++ [addC id true]) = webK cs := by simp only [webK, readyApps_off]
      have f3 : webR (cs ++ [addC id true]) = webR cs := by simp only [webR, readyApps_off, if_neg h0]
      rw [f2, f3] at hW9
      have p0 : (((readyApps cs).length : Int) == 0) = false := beq_eq_false_iff_ne.2 (by omega)
      have p1 : 0 < (readyApps cs).length := Nat.pos_of_ne_zero h0
      have S := same_any _ _ _ _ (webK cs) (webR cs) (webK cs) (webR cs) W9 HRAC.out.1 HRAC.out.2 (by omega)
      rw [show sameB (webK cs) (readyApps cs) (webR cs) (webK cs) (readyApps cs) (webR cs) = true from decide_eq_true ⟨rfl, rfl, rfl⟩] at S
      have HSA := Lib.hid S
      clear S h0
      go_wp2_with fail
      refine HSA.out.mono ?_
      rintro e w7 ⟨rfl, hb7⟩
      have HB7 := Lib.hid hb7; clear hb7
      go_wp2
      go_ret
      exact ⟨rfl, ext_trans HBW9.out HB7.out⟩
  · clear hac hc hs
    go_enter Tryd.func6, Tryd.ntmps6
    go_wp2_with fail
    refine (speaks28 _ ht h2).mono ?_
    rintro e w1 ⟨rfl, hb1⟩
    go_wp2
    go_ret
    exact ⟨rfl, hb1⟩
end Go.Proofs.YtjbbpmjbohedkaaDoor
