/- Texts put together. -/
import Derived.Test.YtbeodjipdpcaiaaGreatDoorYUrw8
import Derived.Test.YtbeodjipdpcaiaaGreatDoorYQb1s
namespace Go.Proofs.YtbeodjipdpcaiaaGreatDoor
section
open Go.RowKit
def equalU (a b : Ch UrlP) : Bool := match a, b with
 | .ok x, .ok y => eqU x y
 | _, _ => false
/-- A URL read is stored in a box of its own. -/
theorem url_box (cs : Array Value) (hcs : ∃ s k t p pa q f hq hf, cs = urlA s k t p pa q f hq hf) (v a : World) (hA : v.alloc (.cells #[.string ⟨#[]⟩, .int .i64 0, .string ⟨#[]⟩, .int .i64 0, .string ⟨#[]⟩, .string ⟨#[]⟩, .string ⟨#[]⟩, .bool false, .bool false] 50) = a) :
    (storeVar 50 ⟨v.heap.size, 0, none⟩ (.agg cs)).run Tryz.prog a = .ok () (a.setRow v.heap.size cs) ∧ (a.setRow v.heap.size cs).heap[v.heap.size]? = some (.cells cs 50 (0, 0)) ∧ Below v.heap.size v (a.setRow v.heap.size cs) := by
 have hba : Below v.heap.size v a := by rw [← hA]; exact ext_alloc (Below.refl _ _) _
 have hxa : a.heap[v.heap.size]? = some (.cells #[.string ⟨#[]⟩, .int .i64 0, .string ⟨#[]⟩, .int .i64 0, .string ⟨#[]⟩, .string ⟨#[]⟩, .string ⟨#[]⟩, .bool false, .bool false] 50 (0, 0)) := by rw [← hA]; exact heap_alloc_new v _
 obtain ⟨s, k, t, p, pa, q, f, hq, hf, rfl⟩ := hcs
 exact ⟨ur_store s k t p pa q f hq hf _ rfl _ a hxa, setRow_heap hxa, setRow_below hba (Nat.le_refl _)⟩
theorem url_ld {b : Nat} {cs : Array Value} {W : World} (hcs : ∃ s k t p pa q f hq hf, cs = urlA s k t p pa q f hq hf) (h : W.heap[b]? = some (.cells cs 50 (0, 0))) : (loadVar 50 ⟨b, 0, none⟩).run Tryz.prog W = .ok (.agg cs) W := by
 obtain ⟨s, k, t, p, pa, q, f, hq, hf, rfl⟩ := hcs
 exact ur_load s k t p pa q f hq hf b W h
theorem urlCells_form (u : UrlP) : ∃ s k t p pa q f hq hf, urlCells u = urlA s k t p pa q f hq hf := ⟨_, _, _, _, _, _, _, _, _, rfl⟩
theorem urlZ_form : ∃ s k t p pa q f hq hf, urlZ = urlA s k t p pa q f hq hf := ⟨_, _, _, _, _, _, _, _, _, rfl⟩
/-- What url.Parse gives, with its cells as they stand. -/
def UcPost (w : World) (cs : Array Value) (r : Ch UrlP) (e : Ending) (w' : World) : Prop := Below w.heap.size w w' ∧ match r with
 | .ok u => cs = urlCells u ∧ e = .returned (.tuple #[.agg cs, .nilIface])
 | .er c => cs = urlZ ∧ ∃ v, e = .returned (.tuple #[.agg cs, v]) ∧ Er w' v c ∧ ((∃ x, v = .iface 119 x) ∨ c = [])
theorem parse_c (s : ByteArray) (hs : s.size ≤ 800000) : ∃ cs : Array Value, (∃ s k t p pa q f hq hf, cs = urlA s k t p pa q f hq hf) ∧ ∀ W, HEnv W → Calls Tryz.prog 29 #[.string s] W (UcPost W cs (urlL (bytesN s))) := by
 cases hr : urlL (bytesN s) with
 | ok u =>
   refine ⟨urlCells u, urlCells_form u, fun W h => ?_⟩
   have := uparse_any s W hs h
   rw [hr] at this
   exact this.mono (fun e w' h => ⟨h.1, rfl, h.2⟩)
 | er c =>
   refine ⟨urlZ, urlZ_form, fun W h => ?_⟩
   have := uparse_any s W hs h
   rw [hr] at this
   refine this.mono (fun e w' h => ?_)
   obtain ⟨hb, v, he, hE⟩ := h
   refine ⟨hb, rfl, v, he, hE, ?_⟩
   by_cases hc : c = []
   · exact .inr hc
   · obtain ⟨b, off, rfl⟩ := fault_form hE hc
     exact .inl ⟨_, rfl⟩
theorem fin_er_ne {sch : List Nat} {p : UParts} {x : (Nat × List Nat) × Int} {c : List (Int × Int)} (h : finishU sch p x = .er c) : c ≠ [] := by
 unfold finishU at h
 split at h
 · rename_i h1; cases h; exact normal_er_ne h1
 · split at h
   · rename_i h1; cases h; exact normal_er_ne h1
   · split at h
     · rename_i h1; cases h; exact normal_er_ne h1
     · cases h
theorem urlL_er_ne {b : List Nat} {c : List (Int × Int)} (h : urlL b = .er c) : c ≠ [] := by
 unfold urlL at h
 split at h
 · injection h with h; rw [← h]; simp
 · split at h
   · rename_i h1; cases h; exact scheme_er_ne h1
   · split at h
     · rename_i h1
       cases h
       unfold hostU at h1
       split at h1
       · exact auth_er_ne h1
       · split at h1
         · injection h1 with h1; rw [← h1]; simp
         · cases h1
     · exact fin_er_ne h
set_option maxRecDepth 100000 in
set_option maxHeartbeats 8000000 in
/-- url.Equal -/
theorem uequal_any (a b : ByteArray) (w : World) (ha : a.size ≤ 800000) (hb : b.size ≤ 800000) (hEn : HEnv w) : Calls Tryz.prog 37 #[.string a, .string b] w fun e w' => e = .returned (.bool (equalU (urlL (bytesN a)) (urlL (bytesN b)))) ∧ Below w.heap.size w w' := by
 obtain ⟨ca, fa, PA⟩ := parse_c a ha
 obtain ⟨cb, fb, PB⟩ := parse_c b hb
 have na := fun c => @urlL_er_ne (bytesN a) c
 have nb := fun c => @urlL_er_ne (bytesN b) c
 obtain ⟨ra, hra⟩ : ∃ r, urlL (bytesN a) = r := ⟨_, rfl⟩
 obtain ⟨rb, hrb⟩ : ∃ r, urlL (bytesN b) = r := ⟨_, rfl⟩
 rw [hra] at PA na ⊢
 rw [hrb] at PB nb ⊢
 have HPA := Lib.hid PA; have HPB := Lib.hid PB; have HEN := Lib.hid hEn
 have HFA := Lib.hid fa; have HFB := Lib.hid fb; have HNA := Lib.hid na; have HNB := Lib.hid nb
 clear PA PB hEn fa fb hra hrb ha hb na nb
 go_enter Tryz.func37, Tryz.ntmps37
 go_wp2_with fail
 refine (HPA.out _ HEN.out).mono ?_
 intro e v1 hp
 have hp1 : Below w.heap.size w v1 ∧ ∃ u, e = .returned (.tuple #[.agg ca, u]) ∧ ((u = .nilIface ∧ ∃ x, ra = .ok x ∧ ca = urlCells x) ∨ ((∃ y, u = .iface 119 y) ∧ ∃ c, ra = .er c)) := by
  obtain ⟨h1, h2⟩ := hp
  refine ⟨h1, ?_⟩
  cases ra with
  | ok x => exact ⟨_, h2.2, .inl ⟨rfl, x, rfl, h2.1⟩⟩
  | er c =>
    obtain ⟨h3, u, he, _, hu⟩ := h2
    exact ⟨u, he, .inr ⟨hu.resolve_right (HNA.out c rfl), c, rfl⟩⟩
 obtain ⟨hb1, u1, rfl, hu1⟩ := hp1
 obtain ⟨a1, hA1⟩ : ∃ W, v1.alloc (.cells #[.string ⟨#[]⟩, .int .i64 0, .string ⟨#[]⟩, .int .i64 0, .string ⟨#[]⟩, .string ⟨#[]⟩, .string ⟨#[]⟩, .bool false, .bool false] 50) = W := ⟨_, rfl⟩
 obtain ⟨hst1, hx1, hbb1⟩ := url_box ca HFA.out v1 a1 hA1
 obtain ⟨w1, hW1⟩ : ∃ W, a1.setRow v1.heap.size ca = W := ⟨_, rfl⟩
 rw [hW1] at hst1 hx1 hbb1
 have HB1 := Lib.hid (ext_trans hb1 hbb1); have HX1 := Lib.hid hx1; have HU1 := Lib.hid hu1
 have hform1 : u1 = .nilIface ∨ ∃ y, u1 = .iface 119 y := hu1.imp (fun h => h.1) (fun h => h.1)
 clear hp hb1 hx1 hbb1 hW1 hu1
 go_wp2_with ((with_reducible show wpList _ _ _ (_ :: _) _ _); refine st_arr 50 v1.heap.size _ hst1 _ _ rfl rfl rfl rfl ?_)
 clear hst1 hA1
 refine (HPB.out _ (HEN.out.ext HB1.out)).mono ?_
 intro e v2 hp
 have hp2 : Below w1.heap.size w1 v2 ∧ ∃ u, e = .returned (.tuple #[.agg cb, u]) ∧ ((u = .nilIface ∧ ∃ x, rb = .ok x ∧ cb = urlCells x) ∨ ((∃ y, u = .iface 119 y) ∧ ∃ c, rb = .er c)) := by
  obtain ⟨h1, h2⟩ := hp
  refine ⟨h1, ?_⟩
  cases rb with
  | ok x => exact ⟨_, h2.2, .inl ⟨rfl, x, rfl, h2.1⟩⟩
  | er c =>
    obtain ⟨h3, u, he, _, hu⟩ := h2
    exact ⟨u, he, .inr ⟨hu.resolve_right (HNB.out c rfl), c, rfl⟩⟩
 obtain ⟨hb2, u2, rfl, hu2⟩ := hp2
 obtain ⟨a2, hA2⟩ : ∃ W, v2.alloc (.cells #[.string ⟨#[]⟩, .int .i64 0, .string ⟨#[]⟩, .int .i64 0, .string ⟨#[]⟩, .string ⟨#[]⟩, .string ⟨#[]⟩, .bool false, .bool false] 50) = W := ⟨_, rfl⟩
 obtain ⟨hst2, hx2, hbb2⟩ := url_box cb HFB.out v2 a2 hA2
 obtain ⟨w2, hW2⟩ : ∃ W, a2.setRow v2.heap.size cb = W := ⟨_, rfl⟩
 rw [hW2] at hst2 hx2 hbb2
 have HB2 := Lib.hid (ext_trans HB1.out (ext_trans hb2 hbb2))
 have hl1 := url_ld HFA.out (((ext_trans hb2 hbb2).block _ (heap_lt HX1.out)).trans HX1.out)
 have hl2 := url_ld HFB.out hx2
 have HU2 := Lib.hid hu2
 have hform2 : u2 = .nilIface ∨ ∃ y, u2 = .iface 119 y := hu2.imp (fun h => h.1) (fun h => h.1)
 clear hp hb2 hx2 hbb2 hW2 hu2
 rcases hform1 with rfl | ⟨y1, rfl⟩
 · rcases hform2 with rfl | ⟨y2, rfl⟩
   · obtain ⟨x, rfl, rfl⟩ : ∃ x, ra = .ok x ∧ ca = urlCells x := by
       rcases HU1.out with ⟨_, h⟩ | ⟨⟨y, h⟩, _⟩
       · exact h
       · cases h
     obtain ⟨y, rfl, rfl⟩ : ∃ x, rb = .ok x ∧ cb = urlCells x := by
      rcases HU2.out with ⟨_, h⟩ | ⟨⟨y, h⟩, _⟩
      · exact h
      · cases h
     have hq := run_eqU x y w2
     have HE : Hid (equalU (.ok x) (.ok y) = eqU x y) := Lib.hid rfl
     generalize urlCells x = c1 at *
     generalize urlCells y = c2 at *
     go_wp2_with ((with_reducible show wpList _ _ _ (_ :: _) _ _); first | (refine st_arr 50 v2.heap.size _ hst2 _ _ rfl rfl rfl rfl ?_) | (refine ld_arrG 50 v1.heap.size _ hl1 _ rfl rfl rfl ?_) | (refine ld_arrG 50 v2.heap.size _ hl2 _ rfl rfl rfl ?_) | (refine eq_arrG 50 _ _ _ _ url_noGuard hq _ _ rfl rfl rfl rfl ?_))
     go_ret
     exact ⟨by rw [HE.out]; rfl, HB2.out⟩
   · have HE : Hid (equalU ra rb = false) := Lib.hid (by
       rcases HU2.out with ⟨h, _⟩ | ⟨_, c, h⟩
       · cases h
       · rw [h]; cases ra <;> rfl)
     go_wp2_with ((with_reducible show wpList _ _ _ (_ :: _) _ _); first | (refine st_arr 50 v2.heap.size _ hst2 _ _ rfl rfl rfl rfl ?_))
     go_ret
     exact ⟨by rw [HE.out]; rfl, HB2.out⟩
 · have HE : Hid (equalU ra rb = false) := Lib.hid (by
     rcases HU1.out with ⟨h, _⟩ | ⟨_, c, h⟩
     · cases h
     · rw [h]; rfl)
   rcases hform2 with rfl | ⟨y2, rfl⟩
   all_goals
    go_wp2_with ((with_reducible show wpList _ _ _ (_ :: _) _ _); first | (refine st_arr 50 v2.heap.size _ hst2 _ _ rfl rfl rfl rfl ?_))
    go_ret
    exact ⟨by rw [HE.out]; rfl, HB2.out⟩
end
section
open Go.RowKit
def spA : List Nat := [72, 84, 84, 80, 83, 58, 47, 47, 69, 120, 97, 109, 112, 108, 101, 46, 99, 111, 109, 58, 52, 52, 51, 47, 37, 55, 101, 97, 63, 120, 35]
def spB : List Nat := [104, 116, 116, 112, 115, 58, 47, 47, 117, 64, 120, 47]
def spU : UrlP := ⟨httpsL, 1, [101, 120, 97, 109, 112, 108, 101, 46, 99, 111, 109], 443, [47, 126, 97], [120], [], true, true⟩
theorem sp14_a : urlL spA = .ok spU := by kernel_rfl
theorem sp14_b : urlL spB = .er [(21, 9)] := by kernel_rfl
theorem sp14_ok : urlCells spU = #[.string ⟨#[104, 116, 116, 112, 115]⟩, .int .i64 1, .string ⟨#[101, 120, 97, 109, 112, 108, 101, 46, 99, 111, 109]⟩, .int .i64 443, .string ⟨#[47, 126, 97]⟩, .string ⟨#[120]⟩, .string ⟨#[]⟩, .bool true, .bool true] := rfl
set_option maxRecDepth 100000 in
set_option maxHeartbeats 8000000 in
/-- waybilllaw14.speaks -/
theorem speaks14 (w : World) (hE : HEnv w) : Calls Tryz.prog 28 #[] w fun e w' => e = .returned (.bool true) ∧ Below w.heap.size w w' := by
 have PA : ∀ W, HEnv W → Calls Tryz.prog 29 #[.string (⟨#[72, 84, 84, 80, 83, 58, 47, 47, 69, 120, 97, 109, 112, 108, 101, 46, 99, 111, 109, 58, 52, 52, 51, 47, 37, 55, 101, 97, 63, 120, 35]⟩ : ByteArray)] W fun e w' => Below W.heap.size W w' ∧ e = .returned (.tuple #[.agg (urlCells spU), .nilIface]) := fun W h => by
  have := uparse_any (⟨#[72, 84, 84, 80, 83, 58, 47, 47, 69, 120, 97, 109, 112, 108, 101, 46, 99, 111, 109, 58, 52, 52, 51, 47, 37, 55, 101, 97, 63, 120, 35]⟩ : ByteArray) W (by decide) h
  rw [show bytesN (⟨#[72, 84, 84, 80, 83, 58, 47, 47, 69, 120, 97, 109, 112, 108, 101, 46, 99, 111, 109, 58, 52, 52, 51, 47, 37, 55, 101, 97, 63, 120, 35]⟩ : ByteArray) = spA from rfl, sp14_a] at this
  exact this
 have PB : ∀ W, HEnv W → Calls Tryz.prog 29 #[.string (⟨#[104, 116, 116, 112, 115, 58, 47, 47, 117, 64, 120, 47]⟩ : ByteArray)] W fun e w' => Below W.heap.size W w' ∧ ∃ v, e = .returned (.tuple #[.agg urlZ, v]) ∧ Er w' v [(21, 9)] := fun W h => by
  have := uparse_any (⟨#[104, 116, 116, 112, 115, 58, 47, 47, 117, 64, 120, 47]⟩ : ByteArray) W (by decide) h
  rw [show bytesN (⟨#[104, 116, 116, 112, 115, 58, 47, 47, 117, 64, 120, 47]⟩ : ByteArray) = spB from rfl, sp14_b] at this
  exact this
 obtain ⟨S1, hS1⟩ : ∃ x, (⟨#[72, 84, 84, 80, 83, 58, 47, 47, 69, 120, 97, 109, 112, 108, 101, 46, 99, 111, 109, 58, 52, 52, 51, 47, 37, 55, 101, 97, 63, 120, 35]⟩ : ByteArray) = x := ⟨_, rfl⟩
 obtain ⟨S2, hS2⟩ : ∃ x, (⟨#[104, 116, 116, 112, 115, 58, 47, 47, 117, 64, 120, 47]⟩ : ByteArray) = x := ⟨_, rfl⟩
 obtain ⟨H, hH⟩ : ∃ x, (⟨#[101, 120, 97, 109, 112, 108, 101, 46, 99, 111, 109]⟩ : ByteArray) = x := ⟨_, rfl⟩
 have hU := sp14_ok
 rw [hH] at hU
 rw [hS1] at PA
 rw [hS2] at PB
 have hq := fun W => eqHost 9998 1 H 1 H W
 simp only [and_self, decide_true] at hq
 obtain ⟨C, hC⟩ : ∃ c, urlCells spU = c := ⟨_, rfl⟩
 rw [hC] at PA hU
 have hCF : ∃ s k t p pa q f hq hf, C = urlA s k t p pa q f hq hf := ⟨_, _, _, _, _, _, _, _, _, hC.symm⟩
 obtain ⟨Z, hZ⟩ : ∃ c, urlZ = c := ⟨_, rfl⟩
 rw [hZ] at PB
 have hZF : ∃ s k t p pa q f hq hf, Z = urlA s k t p pa q f hq hf := ⟨_, _, _, _, _, _, _, _, _, hZ.symm⟩
 have HPA := Lib.hid PA; have HPB := Lib.hid PB; have HE := Lib.hid hE; have HU := Lib.hid hU; have HCF := Lib.hid hCF; have HZF := Lib.hid hZF
 clear PA PB hE hU hC hZ hCF hZF
 go_enter Tryz.func28, Tryz.ntmps28
 go_wp2_with fail
 refine (HPA.out _ HE.out).mono ?_
 rintro e v1 ⟨hb1, rfl⟩
 obtain ⟨a1, hA1⟩ : ∃ W, v1.alloc (.cells #[.string ⟨#[]⟩, .int .i64 0, .string ⟨#[]⟩, .int .i64 0, .string ⟨#[]⟩, .string ⟨#[]⟩, .string ⟨#[]⟩, .bool false, .bool false] 50) = W := ⟨_, rfl⟩
 obtain ⟨hst1, hx1, hbb1⟩ := url_box C HCF.out v1 a1 hA1
 obtain ⟨w1, hW1⟩ : ∃ W, a1.setRow v1.heap.size C = W := ⟨_, rfl⟩
 rw [hW1] at hst1 hx1 hbb1
 have HB1 := Lib.hid (ext_trans hb1 hbb1); have HX1 := Lib.hid hx1
 clear hb1 hx1 hbb1 hW1
 go_wp2_with ((with_reducible show wpList _ _ _ (_ :: _) _ _); refine st_arr 50 v1.heap.size _ hst1 _ _ rfl rfl rfl rfl ?_)
 clear hst1 hA1
 refine (HPB.out _ (HE.out.ext HB1.out)).mono ?_
 rintro e v2 ⟨hb2, u, rfl, hEr⟩
 obtain ⟨a2, hA2⟩ : ∃ W, v2.alloc (.cells #[.string ⟨#[]⟩, .int .i64 0, .string ⟨#[]⟩, .int .i64 0, .string ⟨#[]⟩, .string ⟨#[]⟩, .string ⟨#[]⟩, .bool false, .bool false] 50) = W := ⟨_, rfl⟩
 obtain ⟨hst2, hx2, hbb2⟩ := url_box Z HZF.out v2 a2 hA2
 obtain ⟨w2, hW2⟩ : ∃ W, a2.setRow v2.heap.size Z = W := ⟨_, rfl⟩
 rw [hW2] at hst2 hx2 hbb2
 have HB2 := Lib.hid (ext_trans HB1.out (ext_trans hb2 hbb2))
 have hy := ((ext_trans hb2 hbb2).block _ (heap_lt HX1.out)).trans HX1.out
 rw [HU.out] at hy
 have hE2 := hEr.ext hbb2
 obtain ⟨bb, off, rfl⟩ := fault_form hEr (by simp)
 have c0 : w2.cell? ⟨v1.heap.size, 0, none⟩ = some (.string ⟨#[104, 116, 116, 112, 115]⟩) := Lib.cell_of_heap hy 0
 have c1 : w2.cell? ⟨v1.heap.size, 1, none⟩ = some (.int .i64 1) := Lib.cell_of_heap hy 1
 have c2 : w2.cell? ⟨v1.heap.size, 2, none⟩ = some (.string H) := Lib.cell_of_heap hy 2
 have c3 : w2.cell? ⟨v1.heap.size, 3, none⟩ = some (.int .i64 443) := Lib.cell_of_heap hy 3
 have c4 : w2.cell? ⟨v1.heap.size, 4, none⟩ = some (.string ⟨#[47, 126, 97]⟩) := Lib.cell_of_heap hy 4
 have c5 : w2.cell? ⟨v1.heap.size, 5, none⟩ = some (.string ⟨#[120]⟩) := Lib.cell_of_heap hy 5
 have c6 : w2.cell? ⟨v1.heap.size, 6, none⟩ = some (.string ⟨#[]⟩) := Lib.cell_of_heap hy 6
 have c8 : w2.cell? ⟨v1.heap.size, 8, none⟩ = some (.bool true) := Lib.cell_of_heap hy 8
 have n0 : ((⟨#[104, 116, 116, 112, 115]⟩ : ByteArray).toList == [104, 116, 116, 112, 115]) = true := by rw [ByteArray.toList_eq]; rfl
 have n4 : ((⟨#[47, 126, 97]⟩ : ByteArray).toList == [47, 126, 97]) = true := by rw [ByteArray.toList_eq]; rfl
 have n5 : ((⟨#[120]⟩ : ByteArray).toList == [120]) = true := by rw [ByteArray.toList_eq]; rfl
 have n6 : ((⟨#[]⟩ : ByteArray).toList == []) = true := by rw [ByteArray.toList_eq]; rfl
 have HAS := Lib.hid (has_any (S := Own w2) _ 21 _ w2 hE2)
 have KAT := Lib.hid (at_any _ _ w2 (HE.out.ext HB2.out).glob hE2)
 have hq2 := hq w2
 clear hb2 hx2 hbb2 hW2 hEr hE2 hy hq
 go_wp2_with ((with_reducible show wpList _ _ _ (_ :: _) _ _); first | (refine st_arr 50 v2.heap.size _ hst2 _ _ rfl rfl rfl rfl ?_) | (refine eq_arrG 24 _ _ _ _ host_noGuard hq2 _ _ rfl rfl rfl rfl ?_))
 clear hst2 hA2 hH
 refine HAS.out.mono ?_
 rintro e w3 ⟨rfl, rfl⟩
 go_wp2_with fail
 refine KAT.out.mono ?_
 rintro e w4 ⟨rfl, hb4⟩
 have HF := Lib.hid (ext_trans HB2.out hb4)
 clear hb4
 go_wp2
 first
 | exact ⟨rfl, HF.out⟩
 | (go_ret; exact ⟨rfl, HF.out⟩)
end
end Go.Proofs.YtbeodjipdpcaiaaGreatDoor
