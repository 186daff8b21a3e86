/- Texts put together. -/
import Derived.Test.YtbeodjipdpcaiaaGreatDoorYUrx1s
import Derived.Test.YtbeodjipdpcaiaaGreatDoorYUrw9s
import Derived.Test.YtbeodjipdpcaiaaGreatDoorYUrl2s
namespace Go.Proofs.YtbeodjipdpcaiaaGreatDoor
open Go.RowKit
set_option maxRecDepth 100000 in
set_option maxHeartbeats 2000000 in
theorem back_long (s : ByteArray) (w : World) (hl : 4000 < s.size) (hEn : HEnv w) : Calls Tryz.prog 11 #[.string s] w fun e w' => e = .returned (.bool true) ∧ Below w.heap.size w w' := by
 have SPK := Lib.hid (speaks14 w hEn)
 have t1 : decide ((4000 : Int) < (s.size : Int)) = true := decide_eq_true (by omega)
 have t1' : decide (4000 < s.size) = true := decide_eq_true hl
 clear hl hEn
 go_enter Tryz.func11, Tryz.ntmps11
 go_wp2_with fail
 refine SPK.out.mono ?_
 rintro e w2 ⟨rfl, hb2⟩
 have HB2 := Lib.hid hb2
 clear hb2
 go_wp2
 go_ret
 exact ⟨rfl, HB2.out⟩
set_option maxRecDepth 100000 in
set_option maxHeartbeats 4000000 in
theorem back_bad (s : ByteArray) (w : World) (hl : s.size ≤ 4000) (hEn : HEnv w) {c : List (Int × Int)} (hr : urlL (bytesN s) = .er c) : Calls Tryz.prog 11 #[.string s] w fun e w' => e = .returned (.bool true) ∧ Below w.heap.size w w' := by
 have SPK := Lib.hid (speaks14 w hEn)
 have PA := fun W h => uparse_any s W (by omega) h
 have EQ := fun W h => uequal_any s s W (by omega) (by omega) h
 rw [hr] at PA EQ
 have hne := urlL_er_ne hr
 have HEN := Lib.hid hEn; have HPA := Lib.hid PA; have HEQ := Lib.hid EQ; have HNE := Lib.hid hne
 have t1 : decide ((4000 : Int) < (s.size : Int)) = false := decide_eq_false (by omega)
 have t1' : decide (4000 < s.size) = false := decide_eq_false (by omega)
 clear PA EQ hr hl hEn hne
 go_enter Tryz.func11, Tryz.ntmps11
 go_wp2_with fail
 refine SPK.out.mono ?_
 rintro e w2 ⟨rfl, hb2⟩
 have HB2 := Lib.hid hb2
 clear hb2
 go_wp2_with fail
 refine (HPA.out _ (HEN.out.ext HB2.out)).mono ?_
 rintro e v1 ⟨hb1, u, rfl, hE⟩
 obtain ⟨bb, off, rfl⟩ := fault_form hE HNE.out
 obtain ⟨C, hC⟩ : ∃ c, urlZ = c := ⟨_, rfl⟩
 obtain ⟨a1, hA1⟩ : ∃ W, v1.alloc (.cells #[.string ⟨#[]⟩, .int .i64 0, .string ⟨#[]⟩, .int .i64 0, .string ⟨#[]⟩, .string ⟨#[]⟩, .string ⟨#[]⟩, .bool false, .bool false] 50) = W := ⟨_, rfl⟩
 obtain ⟨hst1, hx1, hbb1⟩ := url_box urlZ urlZ_form v1 a1 hA1
 rw [hC] at hst1 hx1 hbb1
 obtain ⟨w3, hW3⟩ : ∃ W, a1.setRow v1.heap.size C = W := ⟨_, rfl⟩
 rw [hW3] at hst1 hx1 hbb1
 have HB3 := Lib.hid (ext_trans HB2.out (ext_trans hb1 hbb1))
 rw [hC]
 clear hb1 hx1 hbb1 hW3 hE hC
 go_wp2_with ((with_reducible show wpList _ _ _ (_ :: _) _ _); refine st_arr 50 v1.heap.size _ hst1 _ _ rfl rfl rfl rfl ?_)
 clear hst1 hA1
 refine (HEQ.out _ (HEN.out.ext HB3.out)).mono ?_
 rintro e w4 ⟨rfl, hb4⟩
 have HB4 := Lib.hid (ext_trans HB3.out hb4)
 clear hb4
 have HF : Hid (equalU (.er c) (.er c) = false) := Lib.hid rfl
 rw [HF.out]
 go_wp2
 go_ret
 exact ⟨rfl, HB4.out⟩
def slash2B (p : ByteArray) : Bool := decide (1 < p.size) && decide (p.extract 0 2 = (⟨#[47, 47]⟩ : ByteArray))
theorem slash2B_L {l : List Nat} (hb : ByteL l) : slash2B (bytesL l) = slash2 l := by
 unfold slash2B slash2
 rw [bytesL_size, extract_bytesL, bytesN_bytesL hb]
 simp only [List.drop_zero, Nat.sub_zero]
 by_cases h : l.take 2 = [47, 47]
 · have h2 := congrArg List.length h
   rw [List.length_take] at h2
   have : 1 < l.length := by simp at h2; omega
   rw [decide_eq_true this, decide_eq_true h, h]
   rfl
 · rw [decide_eq_false h]
   by_cases h3 : bytesL (l.take 2) = (⟨#[47, 47]⟩ : ByteArray)
   · exfalso
     apply h
     have h4 := congrArg bytesN h3
     rw [bytesN_bytesL (hb.take 2)] at h4
     exact h4
   · rw [decide_eq_false h3, Bool.and_false]
set_option maxRecDepth 100000 in
set_option maxHeartbeats 16000000 in
theorem back_good (s : ByteArray) (w : World) (hl : s.size ≤ 4000) (hEn : HEnv w) {u : UrlP} (hr : urlL (bytesN s) = .ok u) : Calls Tryz.prog 11 #[.string s] w fun e w' => e = .returned (.bool true) ∧ Below w.heap.size w w' := by
 have hu := url_ok (bytesN_lt s) hr
 have hin := url_in (bytesN_lt s) hr
 have hpb : ByteL u.path := hu.path.good.byte
 have SPK := Lib.hid (speaks14 w hEn)
 have PA := fun W h => uparse_any s W (by omega) h
 rw [hr] at PA
 have hTL := textB_L u hin.schB
 have TX : ∀ W, Calls Tryz.prog 38 #[.agg (urlCells u)] W fun e w' => e = .returned (.string (bytesL (textU u))) ∧ Below W.heap.size W w' := fun W => by
  have := urltext_any (bytesL u.scheme) u.hk (bytesL u.ht) u.port (bytesL u.path) (bytesL u.query) (bytesL u.frag) u.hasQ u.hasF W (by rw [bytesL_size]; have := hin.sch; omega) (by rw [bytesL_size]; have := hin.ht; omega) (by rw [bytesL_size]; have := hin.path; omega) (by rw [bytesL_size]; have := hin.query; omega) (by rw [bytesL_size]; have := hin.frag; omega) (by have := hin.port; omega)
  rw [hTL] at this
  exact this
 have hTB : ByteL (textU u) := textU_byte hin hu
 -- what is to be shown behind the text
 have hback : (noHost u = true → slash2 u.path = false ∧ u.port < 0) → (textU u).length ≤ 8192 → urlL (textU u) = .ok u := fun h1 h2 => url_back hu h1 h2
 have hTN := bytesN_bytesL hTB
 have hTz : (bytesL (textU u)).size = (textU u).length := bytesL_size _
 obtain ⟨T, hT⟩ : ∃ T, bytesL (textU u) = T := ⟨_, rfl⟩
 rw [hT] at TX hTN hTz
 have hback2 : (noHost u = true → slash2 u.path = false ∧ u.port < 0) → T.size ≤ 8192 → (∀ W, HEnv W → Calls Tryz.prog 29 #[.string T] W fun e w' => Below W.heap.size W w' ∧ e = .returned (.tuple #[.agg (urlCells u), .nilIface])) ∧ (∀ W, HEnv W → Calls Tryz.prog 37 #[.string s, .string T] W fun e w' => e = .returned (.bool true) ∧ Below W.heap.size W w') := fun h1 h2 => by
  have hb := hback h1 (by omega)
  rw [← hTN] at hb
  refine ⟨fun W h => ?_, fun W h => ?_⟩
  · have := uparse_any T W (by omega) h
    rw [hb] at this
    exact this
  · have := uequal_any s T W (by omega) (by omega) h
    rw [hb, hr] at this
    exact this.mono (fun e w' h => ⟨h.1.trans (by show Ending.returned (.bool (eqU u u)) = _; rw [eqU_refl]), h.2⟩)
 have hnh : noHost u = decide ((u.hk : Int) = 0 ∧ bytesL u.ht = ⟨#[]⟩) := by
  unfold noHost
  rw [← Bool.decide_and]
  refine decide_eq_decide.2 ⟨fun h => ⟨by omega, by rw [h.2]; rfl⟩, fun h => ⟨by omega, ?_⟩⟩
  have := congrArg ByteArray.size h.2
  rw [bytesL_size] at this
  exact List.eq_nil_of_length_eq_zero this
 have hsl := slash2B_L hpb
 have hpz : (bytesL u.path).size ≤ 100000 := by rw [bytesL_size]; have := hin.path; omega
 have hUC : urlCells u = #[.string (bytesL u.scheme), .int .i64 u.hk, .string (bytesL u.ht), .int .i64 u.port, .string (bytesL u.path), .string (bytesL u.query), .string (bytesL u.frag), .bool u.hasQ, .bool u.hasF] := rfl
 have hqE := fun W => run_eqU u u W
 rw [eqU_refl] at hqE
 have hqH := fun W => eqHost 9998 (u.hk : Int) (bytesL u.ht) 0 ⟨#[]⟩ W
 rw [← hnh] at hqH
 have hCF := urlCells_form u
 obtain ⟨C, hC⟩ : ∃ c, urlCells u = c := ⟨_, rfl⟩
 rw [hC] at TX hback2 hUC hqE hCF
 obtain ⟨PT, hPT⟩ : ∃ P, bytesL u.path = P := ⟨_, rfl⟩
 rw [hPT] at hUC hsl hpz
 obtain ⟨HT, hHT⟩ : ∃ P, bytesL u.ht = P := ⟨_, rfl⟩
 rw [hHT] at hUC hqH
 obtain ⟨nh, hnh2⟩ : ∃ b, noHost u = b := ⟨_, rfl⟩
 rw [hnh2] at hback2 hqH
 rw [← hsl] at hback2
 obtain ⟨hk, hhk⟩ : ∃ k : Int, (u.hk : Int) = k := ⟨_, rfl⟩
 rw [hhk] at hqH hUC
 obtain ⟨po, hpo⟩ : ∃ k : Int, u.port = k := ⟨_, rfl⟩
 rw [hpo] at hUC hback2
 have PA2 : Hid (∀ W, HEnv W → Calls Tryz.prog 29 #[.string s] W fun e w' => Below W.heap.size W w' ∧ e = .returned (.tuple #[.agg C, .nilIface])) := Lib.hid (fun W h => by rw [← hC]; exact PA W h)
 have HEN := Lib.hid hEn; have HBK := Lib.hid hback2; have HTX := Lib.hid TX; have HUC := Lib.hid hUC; have HCF := Lib.hid hCF; have HQE := Lib.hid hqE; have HQH := Lib.hid hqH
 have eT : (T.toList == T.toList) = true := beqS_t rfl
 have t1 : decide ((4000 : Int) < (s.size : Int)) = false := decide_eq_false (by omega)
 have t1' : decide (4000 < s.size) = false := decide_eq_false (by omega)
 clear hu hin hpb PA hTL TX hTB hback hTN hTz hT hback2 hnh hsl hUC hqE hqH hCF hC hPT hHT hnh2 hhk hpo hr hl hEn
 go_enter Tryz.func11, Tryz.ntmps11
 go_wp2_with fail
 refine SPK.out.mono ?_
 rintro e w2 ⟨rfl, hb2⟩
 have HB2 := Lib.hid hb2
 clear hb2
 go_wp2_with fail
 refine (PA2.out _ (HEN.out.ext HB2.out)).mono ?_
 rintro e v1 ⟨hb1, rfl⟩
 obtain ⟨a1, hA1⟩ : ∃ W, v1.alloc (.cells #[.string ⟨#[]⟩, .int .i64 0, .string ⟨#[]⟩, .int .i64 0, .string ⟨#[]⟩, .string ⟨#[]⟩, .string ⟨#[]⟩, .bool false, .bool false] 50) = W := ⟨_, rfl⟩
 obtain ⟨hst1, hx1, hbb1⟩ := url_box C HCF.out v1 a1 hA1
 obtain ⟨w3, hW3⟩ : ∃ W, a1.setRow v1.heap.size C = W := ⟨_, rfl⟩
 rw [hW3] at hst1 hx1 hbb1
 have HB3 := Lib.hid (ext_trans HB2.out (ext_trans hb1 hbb1)); have HX3 := Lib.hid hx1
 have HCE : Hid (∀ W, Below w3.heap.size w3 W → W.cell? ⟨v1.heap.size, 1, none⟩ = some (.int .i64 hk) ∧ W.cell? ⟨v1.heap.size, 2, none⟩ = some (.string HT) ∧ W.cell? ⟨v1.heap.size, 3, none⟩ = some (.int .i64 po) ∧ W.cell? ⟨v1.heap.size, 4, none⟩ = some (.string PT) ∧ (loadVar 50 ⟨v1.heap.size, 0, none⟩).run Tryz.prog W = .ok (.agg C) W) := Lib.hid (fun W h => by
  have hx := (h.block _ (heap_lt HX3.out)).trans HX3.out
  have hl := url_ld HCF.out hx
  rw [HUC.out] at hx
  exact ⟨Lib.cell_of_heap hx 1, Lib.cell_of_heap hx 2, Lib.cell_of_heap hx 3, Lib.cell_of_heap hx 4, hl⟩)
 obtain ⟨c1, c2, c3, c4, hl1⟩ := HCE.out w3 (Below.refl _ _)
 clear hb1 hx1 hbb1 hW3
 have hqh := HQH.out w3
 have sp : 1 < PT.size → ∀ W, (Instr.slice 9 (.string PT) none (some (.int .i64 2)) none).run Tryz.prog W = .ok (.string (PT.extract 0 2)) W := fun h W => sl_to PT 2 h _ rfl W
 have KP : ∃ b1 b2, decide (1 < PT.size) = b1 ∧ decide (PT.extract 0 2 = (⟨#[47, 47]⟩ : ByteArray)) = b2 ∧ slash2B PT = (b1 && b2) := ⟨_, _, rfl, rfl, rfl⟩
 obtain ⟨bp1, bp2, hp1, hp2, hp3⟩ := KP
 rw [hp3] at HBK
 have u1 : decide ((1 : Int) < (PT.size : Int)) = bp1 := by rw [← hp1]; exact decide_eq_decide.2 (by omega)
 have u2 : ((PT.extract 0 2).toList == [47, 47]) = bp2 := by
  have := tl_iff (PT.extract 0 2) (⟨#[47, 47]⟩ : ByteArray)
  rw [show ((⟨#[47, 47]⟩ : ByteArray).toList) = [47, 47] by rw [ByteArray.toList_eq]] at this
  rw [this, hp2]
 obtain ⟨E2, hE2⟩ : ∃ E, PT.extract 0 2 = E := ⟨_, rfl⟩
 rw [hE2] at u2 sp
 obtain ⟨bt, hbt⟩ : ∃ b, decide (8192 < T.size) = b := ⟨_, rfl⟩
 have u3 : decide ((8192 : Int) < (T.size : Int)) = bt := by rw [← hbt]; exact decide_eq_decide.2 (by omega)
 obtain ⟨bo, hbo⟩ : ∃ b, decide ((0 : Int) ≤ po) = b := ⟨_, rfl⟩
 have HBT := Lib.hid hbt; have HBO := Lib.hid hbo; have HP1 := Lib.hid hp1
 clear hp1 hp2 hp3 hE2 hbt
 cases nh with
 | true =>
   cases bp1 with
   | true =>
     have sp := sp (of_decide_eq_true HP1.out)
     cases bp2 with
     | true =>
       go_wp2_with ((with_reducible show wpList _ _ _ (_ :: _) _ _); first | (refine st_arr 50 v1.heap.size _ hst1 _ _ rfl rfl rfl rfl ?_) | (refine eq_arrG 24 _ _ _ _ host_noGuard hqh _ _ rfl rfl rfl rfl ?_))
       go_ret
       exact ⟨rfl, HB3.out⟩
     | false =>
       go_wp2_with ((with_reducible show wpList _ _ _ (_ :: _) _ _); first | (refine st_arr 50 v1.heap.size _ hst1 _ _ rfl rfl rfl rfl ?_) | (refine ld_arr 50 v1.heap.size _ hl1 _ rfl rfl rfl ?_) | (refine eq_arrG 24 _ _ _ _ host_noGuard hqh _ _ rfl rfl rfl rfl ?_))
       clear hst1 hA1 hl1 c1 c2 c3 c4 hqh
       refine (HTX.out _).mono ?_
       rintro e w4 ⟨rfl, hb4⟩
       obtain ⟨c1, c2, c3, c4, hl1⟩ := HCE.out w4 hb4
       have HB4 := Lib.hid (ext_trans HB3.out hb4)
       have HB34 := Lib.hid hb4
       have hqh := HQH.out w4
       clear hb4
       cases bt with
       | true =>
         go_wp2
         go_ret
         exact ⟨rfl, HB4.out⟩
       | false =>
         have hTz := of_decide_eq_false HBT.out
         cases bo with
         | true =>
           go_wp2_with ((with_reducible show wpList _ _ _ (_ :: _) _ _); first | (refine eq_arrG 24 _ _ _ _ host_noGuard hqh _ _ rfl rfl rfl rfl ?_))
           go_ret
           exact ⟨rfl, HB4.out⟩
         | false =>
           obtain ⟨hPT, hEQ⟩ := HBK.out (fun _ => ⟨rfl, by have := of_decide_eq_false HBO.out; omega⟩) (by omega)
           have HPT := Lib.hid hPT; have HEQ := Lib.hid hEQ
           clear hPT hEQ hTz
           go_wp2_with ((with_reducible show wpList _ _ _ (_ :: _) _ _); first | (refine eq_arrG 24 _ _ _ _ host_noGuard hqh _ _ rfl rfl rfl rfl ?_))
           clear hqh c1 c2 c3 c4 hl1
           refine (HPT.out _ (HEN.out.ext HB4.out)).mono ?_
           rintro e v5 ⟨hb5, rfl⟩
           obtain ⟨a5, hA5⟩ : ∃ W, v5.alloc (.cells #[.string ⟨#[]⟩, .int .i64 0, .string ⟨#[]⟩, .int .i64 0, .string ⟨#[]⟩, .string ⟨#[]⟩, .string ⟨#[]⟩, .bool false, .bool false] 50) = W := ⟨_, rfl⟩
           obtain ⟨hst5, hx5, hbb5⟩ := url_box C HCF.out v5 a5 hA5
           obtain ⟨w5, hW5⟩ : ∃ W, a5.setRow v5.heap.size C = W := ⟨_, rfl⟩
           rw [hW5] at hst5 hx5 hbb5
           have HB5 := Lib.hid (ext_trans HB4.out (ext_trans hb5 hbb5)); have HX5 := Lib.hid hx5
           obtain ⟨_, _, _, _, hl1⟩ := HCE.out w5 (ext_trans HB34.out (ext_trans hb5 hbb5))
           have hl5 := url_ld HCF.out hx5
           have hqe := HQE.out w5
           clear hb5 hx5 hbb5 hW5
           go_wp2_with ((with_reducible show wpList _ _ _ (_ :: _) _ _); first | (refine st_arr 50 v5.heap.size _ hst5 _ _ rfl rfl rfl rfl ?_) | (refine ld_arrG 50 v1.heap.size _ hl1 _ rfl rfl rfl ?_) | (refine ld_arrG 50 v5.heap.size _ hl5 _ rfl rfl rfl ?_) | (refine eq_arrG 50 _ _ _ _ url_noGuard hqe _ _ rfl rfl rfl rfl ?_))
           clear hst5 hA5 hl1 hl5 hqe
           refine (HEQ.out _ (HEN.out.ext HB5.out)).mono ?_
           rintro e w6 ⟨rfl, hb6⟩
           have hl6 := url_ld HCF.out ((hb6.block _ (heap_lt HX5.out)).trans HX5.out)
           have HB6 := Lib.hid (ext_trans HB5.out hb6)
           clear hb6
           go_wp2_with ((with_reducible show wpList _ _ _ (_ :: _) _ _); first | (refine ld_arrG 50 v5.heap.size _ hl6 _ rfl rfl rfl ?_))
           clear hl6
           refine (HTX.out _).mono ?_
           rintro e w7 ⟨rfl, hb7⟩
           have HB7 := Lib.hid (ext_trans HB6.out hb7)
           clear hb7
           go_wp2
           go_ret
           exact ⟨rfl, HB7.out⟩
   | false =>
     clear sp
     go_wp2_with ((with_reducible show wpList _ _ _ (_ :: _) _ _); first | (refine st_arr 50 v1.heap.size _ hst1 _ _ rfl rfl rfl rfl ?_) | (refine ld_arr 50 v1.heap.size _ hl1 _ rfl rfl rfl ?_) | (refine eq_arrG 24 _ _ _ _ host_noGuard hqh _ _ rfl rfl rfl rfl ?_))
     clear hst1 hA1 hl1 c1 c2 c3 c4 hqh
     refine (HTX.out _).mono ?_
     rintro e w4 ⟨rfl, hb4⟩
     obtain ⟨c1, c2, c3, c4, hl1⟩ := HCE.out w4 hb4
     have HB4 := Lib.hid (ext_trans HB3.out hb4)
     have HB34 := Lib.hid hb4
     have hqh := HQH.out w4
     clear hb4
     cases bt with
     | true =>
       go_wp2
       go_ret
       exact ⟨rfl, HB4.out⟩
     | false =>
       have hTz := of_decide_eq_false HBT.out
       cases bo with
       | true =>
         go_wp2_with ((with_reducible show wpList _ _ _ (_ :: _) _ _); first | (refine eq_arrG 24 _ _ _ _ host_noGuard hqh _ _ rfl rfl rfl rfl ?_))
         go_ret
         exact ⟨rfl, HB4.out⟩
       | false =>
         obtain ⟨hPT, hEQ⟩ := HBK.out (fun _ => ⟨rfl, by have := of_decide_eq_false HBO.out; omega⟩) (by omega)
         have HPT := Lib.hid hPT; have HEQ := Lib.hid hEQ
         clear hPT hEQ hTz
         go_wp2_with ((with_reducible show wpList _ _ _ (_ :: _) _ _); first | (refine eq_arrG 24 _ _ _ _ host_noGuard hqh _ _ rfl rfl rfl rfl ?_))
         clear hqh c1 c2 c3 c4 hl1
         refine (HPT.out _ (HEN.out.ext HB4.out)).mono ?_
         rintro e v5 ⟨hb5, rfl⟩
         obtain ⟨a5, hA5⟩ : ∃ W, v5.alloc (.cells #[.string ⟨#[]⟩, .int .i64 0, .string ⟨#[]⟩, .int .i64 0, .string ⟨#[]⟩, .string ⟨#[]⟩, .string ⟨#[]⟩, .bool false, .bool false] 50) = W := ⟨_, rfl⟩
         obtain ⟨hst5, hx5, hbb5⟩ := url_box C HCF.out v5 a5 hA5
         obtain ⟨w5, hW5⟩ : ∃ W, a5.setRow v5.heap.size C = W := ⟨_, rfl⟩
         rw [hW5] at hst5 hx5 hbb5
         have HB5 := Lib.hid (ext_trans HB4.out (ext_trans hb5 hbb5)); have HX5 := Lib.hid hx5
         obtain ⟨_, _, _, _, hl1⟩ := HCE.out w5 (ext_trans HB34.out (ext_trans hb5 hbb5))
         have hl5 := url_ld HCF.out hx5
         have hqe := HQE.out w5
         clear hb5 hx5 hbb5 hW5
         go_wp2_with ((with_reducible show wpList _ _ _ (_ :: _) _ _); first | (refine st_arr 50 v5.heap.size _ hst5 _ _ rfl rfl rfl rfl ?_) | (refine ld_arrG 50 v1.heap.size _ hl1 _ rfl rfl rfl ?_) | (refine ld_arrG 50 v5.heap.size _ hl5 _ rfl rfl rfl ?_) | (refine eq_arrG 50 _ _ _ _ url_noGuard hqe _ _ rfl rfl rfl rfl ?_))
         clear hst5 hA5 hl1 hl5 hqe
         refine (HEQ.out _ (HEN.out.ext HB5.out)).mono ?_
         rintro e w6 ⟨rfl, hb6⟩
         have hl6 := url_ld HCF.out ((hb6.block _ (heap_lt HX5.out)).trans HX5.out)
         have HB6 := Lib.hid (ext_trans HB5.out hb6)
         clear hb6
         go_wp2_with ((with_reducible show wpList _ _ _ (_ :: _) _ _); first | (refine ld_arrG 50 v5.heap.size _ hl6 _ rfl rfl rfl ?_))
         clear hl6
         refine (HTX.out _).mono ?_
         rintro e w7 ⟨rfl, hb7⟩
         have HB7 := Lib.hid (ext_trans HB6.out hb7)
         clear hb7
         go_wp2
         go_ret
         exact ⟨rfl, HB7.out⟩
 | false =>
   clear sp
   go_wp2_with ((with_reducible show wpList _ _ _ (_ :: _) _ _); first | (refine st_arr 50 v1.heap.size _ hst1 _ _ rfl rfl rfl rfl ?_) | (refine ld_arr 50 v1.heap.size _ hl1 _ rfl rfl rfl ?_) | (refine eq_arrG 24 _ _ _ _ host_noGuard hqh _ _ rfl rfl rfl rfl ?_))
   clear hst1 hA1 hl1 c1 c2 c3 c4 hqh
   refine (HTX.out _).mono ?_
   rintro e w4 ⟨rfl, hb4⟩
   obtain ⟨c1, c2, c3, c4, hl1⟩ := HCE.out w4 hb4
   have HB4 := Lib.hid (ext_trans HB3.out hb4)
   have HB34 := Lib.hid hb4
   have hqh := HQH.out w4
   clear hb4
   cases bt with
   | true =>
     go_wp2
     go_ret
     exact ⟨rfl, HB4.out⟩
   | false =>
     have hTz := of_decide_eq_false HBT.out
     obtain ⟨hPT, hEQ⟩ := HBK.out (fun h => by cases h) (by omega)
     have HPT := Lib.hid hPT; have HEQ := Lib.hid hEQ
     clear hPT hEQ hTz
     go_wp2_with ((with_reducible show wpList _ _ _ (_ :: _) _ _); first | (refine eq_arrG 24 _ _ _ _ host_noGuard hqh _ _ rfl rfl rfl rfl ?_))
     clear hqh c1 c2 c3 c4 hl1
     refine (HPT.out _ (HEN.out.ext HB4.out)).mono ?_
     rintro e v5 ⟨hb5, rfl⟩
     obtain ⟨a5, hA5⟩ : ∃ W, v5.alloc (.cells #[.string ⟨#[]⟩, .int .i64 0, .string ⟨#[]⟩, .int .i64 0, .string ⟨#[]⟩, .string ⟨#[]⟩, .string ⟨#[]⟩, .bool false, .bool false] 50) = W := ⟨_, rfl⟩
     obtain ⟨hst5, hx5, hbb5⟩ := url_box C HCF.out v5 a5 hA5
     obtain ⟨w5, hW5⟩ : ∃ W, a5.setRow v5.heap.size C = W := ⟨_, rfl⟩
     rw [hW5] at hst5 hx5 hbb5
     have HB5 := Lib.hid (ext_trans HB4.out (ext_trans hb5 hbb5)); have HX5 := Lib.hid hx5
     obtain ⟨_, _, _, _, hl1⟩ := HCE.out w5 (ext_trans HB34.out (ext_trans hb5 hbb5))
     have hl5 := url_ld HCF.out hx5
     have hqe := HQE.out w5
     clear hb5 hx5 hbb5 hW5
     go_wp2_with ((with_reducible show wpList _ _ _ (_ :: _) _ _); first | (refine st_arr 50 v5.heap.size _ hst5 _ _ rfl rfl rfl rfl ?_) | (refine ld_arrG 50 v1.heap.size _ hl1 _ rfl rfl rfl ?_) | (refine ld_arrG 50 v5.heap.size _ hl5 _ rfl rfl rfl ?_) | (refine eq_arrG 50 _ _ _ _ url_noGuard hqe _ _ rfl rfl rfl rfl ?_))
     clear hst5 hA5 hl1 hl5 hqe
     refine (HEQ.out _ (HEN.out.ext HB5.out)).mono ?_
     rintro e w6 ⟨rfl, hb6⟩
     have hl6 := url_ld HCF.out ((hb6.block _ (heap_lt HX5.out)).trans HX5.out)
     have HB6 := Lib.hid (ext_trans HB5.out hb6)
     clear hb6
     go_wp2_with ((with_reducible show wpList _ _ _ (_ :: _) _ _); first | (refine ld_arrG 50 v5.heap.size _ hl6 _ rfl rfl rfl ?_))
     clear hl6
     refine (HTX.out _).mono ?_
     rintro e w7 ⟨rfl, hb7⟩
     have HB7 := Lib.hid (ext_trans HB6.out hb7)
     clear hb7
     go_wp2
     go_ret
     exact ⟨rfl, HB7.out⟩
/-- waybilllaw14.UrlBack -/
theorem urlBack_any (s : ByteArray) (w : World) (hEn : HEnv w) : Calls Tryz.prog 11 #[.string s] w fun e w' => e = .returned (.bool true) ∧ Below w.heap.size w w' := by
 by_cases h : 4000 < s.size
 · exact back_long s w h hEn
 · cases hr : urlL (bytesN s) with
   | er c => exact back_bad s w (by omega) hEn hr
   | ok u => exact back_good s w (by omega) hEn hr
end Go.Proofs.YtbeodjipdpcaiaaGreatDoor
