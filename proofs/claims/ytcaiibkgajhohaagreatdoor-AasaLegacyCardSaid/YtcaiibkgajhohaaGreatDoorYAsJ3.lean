/- Texts put together. -/
import Derived.Test.YtcaiibkgajhohaaGreatDoorYAsJ2
import Derived.Test.YtcaiibkgajhohaaGreatDoorYAsI6
namespace Go.Proofs.YtcaiibkgajhohaaGreatDoor
open Go.RowKit
def decA (B : ByteArray) : Option AsA := match parseS B ⟨131072, 64, 20000⟩ with
 | .ok s => docA asK s.js s.ups
 | .no _ _ => none
def asD (x : AsA) : List Dat := [.list 2 (x.details.flatMap deD), .list 2 (x.vars.flatMap vaD)]
/-- What Decode leaves. -/
def DcPost (w : World) (r : Option AsA) (e : Ending) (w' : World) : Prop := Below w.heap.size w w' ∧ match r with
 | none => ∃ u : Nat, e = .returned (.tuple #[.agg #[.slice none 0 0, .slice none 0 0], .iface 85 (.pointer (some ⟨u, 0, none⟩))])
 | some x => ∃ va vr : Value, e = .returned (.tuple #[.agg #[va, vr], .nilIface]) ∧ va.oneCell' = true ∧ vr.oneCell' = true ∧ Rds (Fresh w w') w' [va, vr] (asD x)
/-- The reader is made. -/
theorem ReA.new {W0 : World} {D : Nat} : ReA W0 (W0.alloc (.cells #[ptrV D, .slice none 0 0, .nilIface] 69)) (.slice none 0 0) (W0.alloc (.cells #[ptrV D, .slice none 0 0, .nilIface] 69)) D ⟨false, []⟩ :=
 ⟨⟨(ext_alloc (Below.refl _ W0) _), by simp, RowD.nil⟩, Only.refl _ _, .nilIface, heap_alloc_new _ _, .inl ⟨rfl, rfl⟩⟩
theorem dc_none {w w' : World} (hb : Below w.heap.size w w') (u : Nat) : DcPost w none (.returned (.tuple #[.agg #[.slice none 0 0, .slice none 0 0], .iface 85 (.pointer (some ⟨u, 0, none⟩))])) w' := ⟨hb, u, rfl⟩
theorem zero2 {w w' : World} (hb : Below w.heap.size w w') (a b : Value) : Below w.heap.size w ((w'.setCell ⟨w.heap.size, 0, none⟩ a).setCell ⟨w.heap.size, 1, none⟩ b) := (hb.setCell (p := ⟨w.heap.size, 0, none⟩) (Nat.le_refl _) _).setCell (p := ⟨w.heap.size, 1, none⟩) (Nat.le_refl _) _
set_option maxRecDepth 100000 in
set_option maxHeartbeats 16000000 in
/-- aasa.Decode -/
theorem decode_any (w : World) (bv : Value) (B : ByteArray) (h : Rd (Own w) w bv (bytesDB B)) (he : ScEnv w) (hS : SEnv w) (hz : B.size ≤ 100000) (hN : ∀ s, parseS B ⟨131072, 64, 20000⟩ = .ok s → (∀ id, (txtA0 s.js id).size ≤ 1100000) ∧ (∀ k, (keyA s.js k).size ≤ 1100000) ∧ s.js.length ≤ 100000) :
    Calls Tryz.prog 9 #[bv] w (DcPost w (decA B)) := by
 have XA := heap_alloc_new w (.cells #[.slice none 0 0, .slice none 0 0] 27)
 have BA := ext_alloc (Below.refl _ w) (.cells #[.slice none 0 0, .slice none 0 0] 27)
 obtain ⟨Wa, hWa⟩ : ∃ Wa, w.alloc (.cells #[.slice none 0 0, .slice none 0 0] 27) = Wa := ⟨_, rfl⟩
 rw [hWa] at XA BA
 have PS := Lib.hid (parse_any Wa bv B ⟨131072, 64, 20000⟩ (h.ext BA) (he.ext BA) (by omega))
 have XA := Lib.hid XA
 have BA := Lib.hid BA
 have HWa := Lib.hid hWa
 have HS := Lib.hid hS
 have HNN := Lib.hid hN
 obtain ⟨RR, hRR⟩ : ∃ RR, decA B = RR := ⟨_, rfl⟩
 rw [hRR]
 unfold decA at hRR
 cases hps : parseS B ⟨131072, 64, 20000⟩ with
 | no k i =>
   rw [hps] at PS hRR
   have HRR := Lib.hid (show RR = none from hRR.symm)
   clear hps hRR h he hS hN hWa
   go_enter Tryz.func9, Tryz.ntmps9
   go_wp2_with fail
   rw [HWa.out]
   refine PS.out.mono ?_
   intro e w2 hp
   obtain ⟨u, rfl, hr, hb⟩ := hp
   have WRP := Lib.hid (wrap_any 33 0 _ _ w2 hr)
   have X2 := (hb.block _ (heap_lt XA.out)).trans XA.out
   have c0 := Lib.cell_of_heap X2 0; have c1 := Lib.cell_of_heap X2 1
   have g0 := fun i => Go.Joins.unfrozen_of_block X2 i
   have B2 := Lib.hid (ext_trans BA.out hb)
   have z2 := heap_lt X2
   clear hr hb X2
   go_wp2_with fail
   refine WRP.out.mono ?_
   rintro e w3 ⟨rfl, rfl⟩
   have HP := Lib.hid (show DcPost w RR _ _ by rw [HRR.out]; exact dc_none (ext_alloc (zero2 B2.out (.slice none 0 0) (.slice none 0 0)) (.cells #[.int .i64 33, .int .i64 0, .iface 85 (.pointer (some u))] 89)) w2.heap.size)
   go_wp2
   refine bodyPost_ret (v := .tuple #[.agg #[.slice none 0 0, .slice none 0 0], .iface 85 (.pointer (some ⟨w2.heap.size, 0, none⟩))]) (by simp [results, Tryz.results9, go_sem, c0, c1, z2]) rfl HP.out
 | ok s =>
   rw [hps] at PS hRR
   dsimp only at hRR
   obtain ⟨hT, hK, hjl⟩ := hN s hps
   unfold docA at hRR
   dsimp only at hRR
   clear hps hN hWa
   go_enter Tryz.func9, Tryz.ntmps9
   go_wp2_with fail
   rw [HWa.out]
   refine PS.out.mono ?_
   intro e w2 hp
   obtain ⟨D, T, tv, ns, rfl, hd, hb⟩ := hp
   have HV := PView.mk hd hjl (fun k => by have := hK k; unfold maxLen; omega)
   have hS2 : SEnv w2 := (hS.ext BA.out).ext hb
   have X2 := Lib.hid ((hb.block _ (heap_lt XA.out)).trans XA.out)
   have B2 := Lib.hid (ext_trans BA.out hb)
   have IS0 := Lib.hid (fun W (hR : ReA w2 (w2.alloc (.cells #[ptrV D, .slice none 0 0, .nilIface] 69)) (.slice none 0 0) W D ⟨false, []⟩) => ris_any HV ⟨false, []⟩ 0 6 W hR)
   obtain ⟨r0, hr0⟩ : ∃ r, isA s.js ⟨false, []⟩ 0 6 = r := ⟨_, rfl⟩
   have hr0b : r0.1 = !r0.2.bad := by rw [← hr0]; rfl
   have hr0v : r0.2.vars = [] := by rw [← hr0]; rfl
   rw [hr0] at IS0 hRR
   have R0 := ReA.new (W0 := w2) (D := D)
   have BW := ext_alloc (Below.refl _ w2) (.cells #[ptrV D, .slice none 0 0, .nilIface] 69)
   obtain ⟨W1, hW1⟩ : ∃ W1, w2.alloc (.cells #[ptrV D, .slice none 0 0, .nilIface] 69) = W1 := ⟨_, rfl⟩
   rw [hW1] at R0 IS0 BW
   have HW1 := Lib.hid hW1
   have R0 := Lib.hid R0
   have z2 := heap_lt X2.out
   have BW := Lib.hid BW
   clear hd hb hr0 hW1 h he hS PS
   go_wp2_with fail
   rw [HW1.out]
   refine (IS0.out W1 R0.out).mono ?_
   rintro e w3 ⟨rfl, hp⟩
   have P3 := Lib.hid hp
   have hX : w.heap.size ≠ w2.heap.size := by omega
   have X3 := Lib.hid (oblock hp.only ((BW.out.block _ (heap_lt X2.out)).trans X2.out) hX)
   clear hp
   cases hr1 : r0.1 with
   | false =>
     rw [hr1, if_neg (by decide)] at hRR
     have HRR := Lib.hid hRR.symm
     have hbad : r0.2.bad = true := by rw [hr1] at hr0b; cases hq : r0.2.bad; rw [hq] at hr0b; cases hr0b; rfl
     obtain ⟨ev, c0, c1, c2, _, hev⟩ := P3.out.re.cells
     rw [hbad] at hev
     obtain ⟨e, _⟩ | ⟨_, bE, rfl⟩ := hev
     · cases e
     have x0 := Lib.cell_of_heap X3.out 0; have x1 := Lib.cell_of_heap X3.out 1
     have g0 := fun i => Go.Joins.unfrozen_of_block X3.out i
     have B3 := Lib.hid (ext_trans B2.out P3.out.re.below)
     have HP := Lib.hid (fun W (hb : Below w.heap.size w W) => (show DcPost w RR _ _ by rw [HRR.out]; exact dc_none hb bE))
     clear hr1 hr0b hr0v hRR hbad
     go_wp2_with fail
     refine wp_region_noPanic ?_
     go_region
     all_goals (
      refine NoPanic.normal ?_
      go_wp2
      refine bodyPost_ret (v := .tuple #[.agg #[.slice none 0 0, .slice none 0 0], .iface 85 (.pointer (some ⟨bE, 0, none⟩))]) (by simp [results, Tryz.results9, go_sem, x0, x1]) rfl (HP.out _ ?_)
      exact zero2 B3.out.drew _ _)
   | true =>
     rw [hr1, if_pos rfl] at hRR
     have ME := Lib.hid (rmember_any HV r0.2 0 kApl w3 P3.out.re)
     obtain ⟨me, hme⟩ : ∃ me, memA s.js s.ups r0.2 0 kApl = me := ⟨_, rfl⟩
     rw [hme] at ME hRR
     clear hme
     cases me with
     | none =>
       have HRR := Lib.hid (show RR = none from hRR.symm)
       unfold memV at ME
       have WR := Lib.hid (fun W (hR : ReA w2 W1 (.slice none 0 0) W D r0.2) => rwrong_any HV r0.2 0 30 W hR)
       have IS1 := Lib.hid (fun W (hR : ReA w2 W1 (.slice none 0 0) W D r0.2.fail) => ris_any HV r0.2.fail 0 6 W hR)
       have hif : isA s.js r0.2.fail 0 6 = (false, r0.2.fail) := rfl
       rw [hif] at IS1
       have hbad : r0.2.fail.bad = true := rfl
       clear hr1 hr0b hr0v hRR hif
       go_wp2_with fail
       refine ME.out.mono ?_
       rintro e w4 ⟨rfl, hb4⟩
       have H4 := Lib.hid (P3.out.re.ext hb4)
       have X4 := Lib.hid ((hb4.block _ (heap_lt X3.out)).trans X3.out)
       clear hb4
       go_wp2_with fail
       refine (WR.out w4 H4.out).mono ?_
       rintro e w5 ⟨rfl, hp⟩
       have H5 := Lib.hid hp.re
       have X5 := Lib.hid (oblock hp.only X4.out hX)
       clear hp
       go_wp2_with fail
       refine (IS1.out w5 H5.out).mono ?_
       rintro e w6 ⟨rfl, hp⟩
       have X6 := oblock hp.only X5.out hX
       obtain ⟨ev, c0, c1, c2, _, hev⟩ := hp.re.cells
       rw [hbad] at hev
       obtain ⟨e, _⟩ | ⟨_, bE, rfl⟩ := hev
       · cases e
       have x0 := Lib.cell_of_heap X6 0; have x1 := Lib.cell_of_heap X6 1
       have g0 := fun i => Go.Joins.unfrozen_of_block X6 i
       have BX := Lib.hid (ext_trans B2.out hp.re.below)
       have HP := Lib.hid (fun W (hb : Below w.heap.size w W) => (show DcPost w RR _ _ by rw [HRR.out]; exact dc_none hb bE))
       clear hbad hp X6
       go_wp2_with fail
       refine wp_region_noPanic ?_
       go_region
       all_goals (
        refine NoPanic.normal ?_
        go_wp2
        refine bodyPost_ret (v := .tuple #[.agg #[.slice none 0 0, .slice none 0 0], .iface 85 (.pointer (some ⟨bE, 0, none⟩))]) (by simp [results, Tryz.results9, go_sem, x0, x1]) rfl (HP.out _ ?_)
        exact zero2 BX.out.drew _ _)
     | some k =>
       unfold memV at ME
       dsimp only at hRR
       have IS1 := Lib.hid (fun W (hR : ReA w2 W1 (.slice none 0 0) W D r0.2) => ris_any HV r0.2 k 6 W hR)
       obtain ⟨r1, hr1'⟩ : ∃ r, isA s.js r0.2 k 6 = r := ⟨_, rfl⟩
       have hr1b : r1.1 = !r1.2.bad := by rw [← hr1']; rfl
       have hr1v : r1.2.vars = [] := by rw [← hr1']; exact hr0v
       rw [hr1'] at IS1 hRR
       clear hr1' hr1 hr0b hr0v
       go_wp2_with fail
       refine ME.out.mono ?_
       rintro e w4 ⟨rfl, hb4⟩
       have H4 := Lib.hid (P3.out.re.ext hb4)
       have X4 := Lib.hid ((hb4.block _ (heap_lt X3.out)).trans X3.out)
       clear hb4
       go_wp2_with fail
       refine (IS1.out w4 H4.out).mono ?_
       rintro e w5 ⟨rfl, hp⟩
       have X5 := oblock hp.only X4.out hX
       have H5 := Lib.hid hp.re
       clear hp
       cases hq1 : r1.1 with
       | false =>
         rw [hq1, if_neg (by decide)] at hRR
         have HRR := Lib.hid (show RR = none from hRR.symm)
         have hbad : r1.2.bad = true := by rw [hq1] at hr1b; cases hq : r1.2.bad; rw [hq] at hr1b; cases hr1b; rfl
         obtain ⟨ev, c0, c1, c2, _, hev⟩ := H5.out.cells
         rw [hbad] at hev
         obtain ⟨e, _⟩ | ⟨_, bE, rfl⟩ := hev
         · cases e
         have x0 := Lib.cell_of_heap X5 0; have x1 := Lib.cell_of_heap X5 1
         have g0 := fun i => Go.Joins.unfrozen_of_block X5 i
         have BX := Lib.hid (ext_trans B2.out H5.out.below)
         have HP := Lib.hid (fun W (hb : Below w.heap.size w W) => (show DcPost w RR _ _ by rw [HRR.out]; exact dc_none hb bE))
         clear hbad hq1 hr1b hr1v hRR X5
         go_wp2_with fail
         refine wp_region_noPanic ?_
         go_region
         all_goals (
          refine NoPanic.normal ?_
          go_wp2
          refine bodyPost_ret (v := .tuple #[.agg #[.slice none 0 0, .slice none 0 0], .iface 85 (.pointer (some ⟨bE, 0, none⟩))]) (by simp [results, Tryz.results9, go_sem, x0, x1]) rfl (HP.out _ ?_)
          exact zero2 BX.out.drew _ _)
       | true =>
         rw [hq1, if_pos rfl] at hRR
         have X5 := Lib.hid X5
         have DF := Lib.hid (rdefaults_any HV r1.2 k true true w5 H5.out)
         have hdv := (defaultsA_kp s.js s.ups r1.2 k true true).vars.trans hr1v
         obtain ⟨d, hd⟩ : ∃ d, defaultsA s.js s.ups r1.2 k true true = d := ⟨_, rfl⟩
         rw [hd] at DF hRR hdv
         have VR := Lib.hid (fun W (hR : ReA w2 W1 (.slice none 0 0) W D d.2) => rvariables_any HV hS2 hT hK d.2 k W hR hdv)
         obtain ⟨v, hv⟩ : ∃ v, varsA asK s.js s.ups d.2 k = v := ⟨_, rfl⟩
         rw [hv] at VR hRR
         have DS := Lib.hid (fun Wv vv W (hR : ReA w2 Wv vv W D v) => rdetails_any HV hS2 hT hK v k d.1.1 d.1.2 W hR)
         obtain ⟨l, hl⟩ : ∃ l, detailsA asK s.js s.ups v k d.1.1 d.1.2 = l := ⟨_, rfl⟩
         rw [hl] at DS hRR
         have HRR := Lib.hid hRR
         clear hd hv hl hdv hq1 hr1b hr1v hRR
         go_wp2_with fail
         refine DF.out.mono ?_
         rintro e w6 ⟨rfl, hp⟩
         have X6 := Lib.hid (oblock hp.only X5.out hX)
         have H6 := Lib.hid hp.re
         have X7 := heap_alloc_new w6 (.cells #[.bool d.1.1, .bool d.1.2] 75)
         have B7 := ext_alloc (Below.refl _ w6) (.cells #[.bool d.1.1, .bool d.1.2] 75)
         obtain ⟨W7, hW7⟩ : ∃ W7, w6.alloc (.cells #[.bool d.1.1, .bool d.1.2] 75) = W7 := ⟨_, rfl⟩
         obtain ⟨F, hF⟩ : ∃ F, w6.heap.size = F := ⟨_, rfl⟩
         rw [hW7] at X7 B7
         rw [hF] at X7
         have hF0 : F ≠ w2.heap.size := by have := H6.out.lt; omega
         have HW7 := Lib.hid hW7; have HF := Lib.hid hF
         have H7 := Lib.hid (H6.out.ext B7)
         have Y7 := Lib.hid ((B7.block _ (heap_lt X6.out)).trans X6.out)
         have X7 := Lib.hid X7
         clear hp hW7 hF B7
         go_wp2_with fail
         rw [HW7.out]
         simp only [HF.out]
         refine (VR.out W7 H7.out).mono ?_
         rintro e w8 ⟨rfl, ⟨Wv, vv, hre8⟩, ho8⟩
         have H8 := Lib.hid hre8
         have X8 := oblock ho8 X7.out hF0
         have Y8 := Lib.hid (oblock ho8 Y7.out hX)
         have f0 := Lib.cell_of_heap X8 0; have f1 := Lib.cell_of_heap X8 1
         clear hre8 ho8 X8
         go_wp2_with fail
         refine (DS.out Wv vv w8 H8.out).mono ?_
         intro e w9 hg
         obtain ⟨vd, rfl, h1d, hrd, hp9⟩ := hg
         have H9 := Lib.hid hp9.re
         have Y9 := Lib.hid (oblock hp9.only Y8.out hX)
         obtain ⟨aoD, nD, cD, rfl, _⟩ := hrd.list_inv
         have hrow := hp9.re.vars.row.turn hp9.re.only (fun b e => by omega)
         obtain ⟨aoV, capV, rfl, _⟩ := aown_form (own_of hrow)
         have hrv := hrow.rd
         have zl : w.heap.size < w8.heap.size := heap_lt Y8.out
         have BX := Lib.hid (ext_trans B2.out hp9.re.below)
         obtain ⟨ev, c0, c1, c2, _, hev⟩ := hp9.re.cells
         have x0 := Lib.cell_of_heap Y9.out 0; have x1 := Lib.cell_of_heap Y9.out 1
         have g0 := fun i => Go.Joins.unfrozen_of_block Y9.out i
         have hRR := HRR.out
         rcases hev with ⟨hb, rfl⟩ | ⟨hb, bE, rfl⟩
         · rw [hb, if_neg (by decide)] at hRR
           have hO : Only (fun b => b = w.heap.size) w9 ((w9.setCell ⟨w.heap.size, 0, none⟩ (.slice aoD nD cD)).setCell ⟨w.heap.size, 1, none⟩ (.slice aoV l.2.vars.length capV)) := ((Only.refl (fun b => b = w.heap.size) w9).set (p := ⟨w.heap.size, 0, none⟩) (fun _ => rfl) _).set (p := ⟨w.heap.size, 1, none⟩) (fun _ => rfl) _
           have RD := rd_far (w := w) hrd hO (fun k hk => .inl (by omega)) (Nat.le_of_lt zl)
           have RV := hrv.mono (S' := Fresh w ((w9.setCell ⟨w.heap.size, 0, none⟩ (.slice aoD nD cD)).setCell ⟨w.heap.size, 1, none⟩ (.slice aoV l.2.vars.length capV))) (fun b hb => hO.block b hb.2 (by omega)) (fun b hb => ⟨by omega, Nat.lt_of_lt_of_le hb.2 hO.size⟩)
           have HP := Lib.hid (show DcPost w RR (.returned (.tuple #[.agg #[.slice aoD nD cD, .slice aoV l.2.vars.length capV], .nilIface])) _ by rw [← hRR]; exact ⟨zero2 BX.out _ _, _, _, rfl, rfl, rfl, .cons RD (.cons RV .nil)⟩)
           clear RD RV hO hrd hrow hrv hb hRR hp9 h1d
           go_wp2
           refine bodyPost_ret (v := .tuple #[.agg #[.slice aoD nD cD, .slice aoV l.2.vars.length capV], .nilIface]) (by simp [results, Tryz.results9, go_sem, x0, x1]) rfl HP.out
         · rw [hb, if_pos rfl] at hRR
           have HP := Lib.hid (fun W (hb : Below w.heap.size w W) => (show DcPost w RR _ _ by rw [← hRR]; exact dc_none hb bE))
           clear hrd hrow hrv hb hRR hp9 h1d
           go_wp2_with fail
           refine wp_region_noPanic ?_
           go_region
           all_goals (
            refine NoPanic.normal ?_
            go_wp2
            refine bodyPost_ret (v := .tuple #[.agg #[.slice none 0 0, .slice none 0 0], .iface 85 (.pointer (some ⟨bE, 0, none⟩))]) (by simp [results, Tryz.results9, go_sem, x0, x1]) rfl (HP.out _ ?_)
            exact zero2 BX.out.drew _ _)
end Go.Proofs.YtcaiibkgajhohaaGreatDoor
