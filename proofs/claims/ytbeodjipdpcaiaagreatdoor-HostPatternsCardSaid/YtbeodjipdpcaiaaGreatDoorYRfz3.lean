/- Texts put together. -/
import Derived.Test.YtbeodjipdpcaiaaGreatDoorYMoreR
import Derived.Test.YtbeodjipdpcaiaaGreatDoorYRfz1
import Derived.Test.YtbeodjipdpcaiaaGreatDoorYRfz2
import Derived.Test.YtbeodjipdpcaiaaGreatDoorYRfz0f
import Derived.Test.YtbeodjipdpcaiaaGreatDoorYRfy8f
import Derived.Test.YtbeodjipdpcaiaaGreatDoorYHsw4s
set_option maxRecDepth 100000
set_option maxHeartbeats 32000000
namespace Go.Proofs.YtbeodjipdpcaiaaGreatDoor
open Go.RowKit
def fromI : List (Int × Int) → Int
 | _ :: x :: _ => x.1
 | _ => 0
def canV (r : HR) : Value := match r with
 | .ok k t => .tuple #[.agg #[.int .i64 (k : Nat), .string (bytesL t)], .int .i64 0, .int .i64 0, .int .i64 0]
 | .er l => .tuple #[.agg #[.int .i64 0, .string ⟨#[]⟩], .int .i64 (kindI l), .int .i64 (atI l), .int .i64 (fromI l)]
theorem resH {w W1 : World} (hW1 : w.alloc (.cells #[.int .i64 0, .string ⟨#[]⟩] 24) = W1) (k : Int) (t : ByteArray) (W : World) (hW : Below W1.heap.size W1 W) : ∃ W9, (storeVar 24 ⟨w.heap.size, 0, none⟩ (.agg #[.int .i64 k, .string t])).run Tryz.prog W = .ok () W9 ∧ (loadVar 24 ⟨w.heap.size, 0, none⟩).run Tryz.prog W9 = .ok (.agg #[.int .i64 k, .string t]) W9 ∧ Below w.heap.size w W9 := by
 have hb1 : Below w.heap.size w W1 := by rw [← hW1]; exact ext_alloc (Below.refl _ _) _
 have hx1 : W1.heap[w.heap.size]? = some (.cells (hostC 0 ⟨#[]⟩) 24 (0, 0)) := by rw [← hW1]; exact heap_alloc_new w _
 have h0 := (hW.block _ (heap_lt hx1)).trans hx1
 exact ⟨_, ho_store k 0 t ⟨#[]⟩ _ W h0, ho_load k t _ _ (setRow_heap h0), setRow_below (xT hb1 hW) (Nat.le_refl _)⟩
theorem pctF_k : ∀ (f : Nat) (l : List Nat) (i : Nat) (acc : List (Nat × Bool)) (k : Nat) (p : Int), pctF f l i acc = .no k p → k = 11 ∧ 0 ≤ p
 | 0, _, _, _, _, _, h => by rw [pctF] at h; cases h
 | _ + 1, [], _, _, _, _, h => by rw [pctF] at h; cases h
 | f + 1, c :: l, i, acc, k, p, h => by
   rw [pctF] at h
   split at h
   · split at h
     · cases h; exact ⟨rfl, by omega⟩
     · exact pctF_k f _ _ _ k p h
   · exact pctF_k f _ _ _ k p h
theorem nameL_k {b : List Nat} {k : Nat} {p : Int} (h : nameL b = .no k p) : k ≠ 0 := by
 have hn : ∀ (ps : List (List Nat)) (fr : Nat) (acc : List (List Nat)) (k : Nat) (p : Int), namesF ps fr acc = .no k p → k ≠ 0 := by
  intro ps
  induction ps with
  | nil => intro fr acc k p h; rw [namesF] at h; cases h
  | cons q ps ih =>
    intro fr acc k p h
    rw [namesF] at h
    split at h
    · rename_i heq
      have hk := ascii_k heq
      cases h
      exact hk
    · exact ih _ _ k p h
 unfold nameL at h
 split at h
 · cases h; decide
 · split at h
   · rename_i heq
     have := fldF_k _ _ _ _ _ _ _ _ heq
     cases h
     omega
   · unfold nameJ at h
     split at h
     · rename_i heq
       cases h
       exact hn _ _ _ _ _ heq
     · split at h
       · cases h; decide
       · cases h
theorem lit_last {s : ByteArray} (h : 2 ≤ s.size) : lastN ((bytesN s).drop 1) = byteAt s (s.size - 1) := by
 unfold lastN
 rw [List.getLast?_eq_getElem?, List.length_drop, bytesN_len, List.getElem?_drop, show 1 + (s.size - 1 - 1) = s.size - 1 by omega, bytesN_get (by omega)]; rfl
theorem rcanon_any (s : ByteArray) (w : World) (hs : s.size ≤ 90000) : Calls Tryz.prog 23 #[.string s] w fun e w' => e = .returned (canV (canonL (bytesN s))) ∧ Below w.heap.size w w' := by
 obtain ⟨R, hR⟩ : ∃ R, canonL (bytesN s) = R := ⟨_, rfl⟩
 rw [hR]
 obtain ⟨Q, hQ⟩ : ∃ Q : Ending → World → Prop, (fun e w' => e = .returned (canV R) ∧ Below w.heap.size w w') = Q := ⟨_, rfl⟩
 have HQ : Hid (∀ r W, R = r → Below w.heap.size w W → Q (.returned (canV r)) W) := hid (fun r W h hb => by rw [← hQ, h]; exact ⟨rfl, hb⟩)
 rw [hQ]
 obtain ⟨W1, hW1⟩ : ∃ W, w.alloc (.cells #[.int .i64 0, .string ⟨#[]⟩] 24) = W := ⟨_, rfl⟩
 have RH := hid (fun k t W h => resH hW1 k t W h)
 unfold canonL at hR
 clear hQ
 by_cases h0 : s.size = 0
 · have t0 : ((s.size : Int) == 0) = true := beq_iff_eq.2 (by omega)
   have t0' : (s.size = 0) = True := eq_true h0
   rw [if_pos (List.eq_nil_of_length_eq_zero (by rw [bytesN_len]; exact h0))] at hR
   obtain ⟨W9, hst9, hld9, hb9⟩ := RH.out 0 ⟨#[]⟩ W1 (Below.refl _ _)
   have hF := HQ.out (.er [(10, 0)]) W9 (hR.symm) hb9
   unfold canV at hF
   dsimp only [kindI, atI, fromI] at hF
   have HF := hid hF
   clear hF hb9
   clear hR h0
   go_enter Tryz.func23, Tryz.ntmps23
   go_wp2_with ((with_reducible show wpList _ _ _ (_ :: _) _ _); first | (refine st_arr 24 w.heap.size _ hst9 _ _ rfl rfl rfl rfl ?_))
   (try simp only [Exit.inBlock, Exit.then])
   exact bodyPost_ret (by simp [results, Tryz.results23, asAddr, Result.andThen, hld9]) rfl HF.out
 have t0 : ((s.size : Int) == 0) = false := bneI.2 (by omega)
 have t0' : (s.size = 0) = False := eq_false h0
 rw [if_neg (fun e => h0 (by rw [← bytesN_len, e]; rfl))] at hR
 have hp0 : 0 < s.size := Nat.pos_of_ne_zero h0
 have u0' : decide (0 < s.size) = true := dcT hp0
 have g0 := (byteAt_get s 0 hp0).symm
 have hb0 : (bytesN s)[0]?.getD 0 = byteAt s 0 := by rw [bytesN_get hp0]; rfl
 rw [hb0] at hR
 obtain ⟨c, hc⟩ : ∃ c, byteAt s 0 = c := ⟨_, rfl⟩
 have hc2 := hc
 rw [hc] at hR g0
 clear hb0
 by_cases h91 : c = 91
 · have u1 : ((c : Int) == 91) = true := beq_iff_eq.2 (by omega)
   have u1' : (c = 91) = True := eq_true h91
   rw [if_pos h91] at hR
   unfold literalL at hR
   have hl1 : s.size - 1 < s.size := by omega
   have gl := (byteAt_get s (s.size - 1) hl1).symm
   obtain ⟨m, hm⟩ : ∃ m, s.size - 1 = m := ⟨_, rfl⟩
   have q1 : IntKind.i64.wrap ((s.size : Int) - 1) = (m : Int) := by rw [show (s.size : Int) - 1 = (m : Int) by omega]; exact i64n _ (by omega)
   have hms : m < s.size := by omega
   have um : decide (m < s.size) = true := dcT hms
   have glm := (byteAt_get s m hms).symm
   obtain ⟨x, hx⟩ : ∃ x, byteAt s m = x := ⟨_, rfl⟩
   rw [hx] at glm
   by_cases h93 : x = 93
   · have u2 : ((x : Int) == 93) = true := beq_iff_eq.2 (by omega)
     have u2' : (x = 93) = True := eq_true h93
     have h2 : 2 ≤ s.size := by
      by_cases h1 : s.size = 1
      · exfalso
        have e : m = 0 := by omega
        rw [e, hc2] at hx
        omega
      · omega
     rw [if_pos (by rw [lit_last h2, hm, hx]; exact h93)] at hR
     obtain ⟨P, hP⟩ : ∃ P, s.extract 1 m = P := ⟨_, rfl⟩
     have hPN : bytesN P = ((bytesN s).drop 1).take (((bytesN s).drop 1).length - 1) := by
      rw [← hP, bytesN_extract, List.length_drop, bytesN_len, ← hm]
     have hPz : P.size ≤ 90000 := by rw [← hP]; simp; omega
     have sl : ∀ W, (Instr.slice 9 (.string s) (some (.int .i64 1)) (some (.int .i64 (m : Int))) none).run Tryz.prog W = .ok (.string P) W := fun W => sl_both s 1 m (by omega) (by omega) P hP W
     have PA := rparse12_any P W1 hPz
     rw [hPN] at PA
     cases hp : parse6 (((bytesN s).drop 1).take (((bytesN s).drop 1).length - 1)) with
     | none =>
       rw [hp] at hR PA
       dsimp only at hR
       unfold r6V at PA
       dsimp only at PA
       have PA := hid PA
       have HRE := hid hR
       clear hR hp hPN hP hx hc hc2 gl h91 h93 h0 hl1 hm
       go_enter Tryz.func23, Tryz.ntmps23
       go_wp2_with fail
       refine PA.out.mono ?_
       rintro e w2 ⟨rfl, hb2⟩
       clear hW1
       obtain ⟨w3, hW3⟩ : ∃ W, w2.alloc (.cells #[.int .u16 0, .int .u16 0, .int .u16 0, .int .u16 0, .int .u16 0, .int .u16 0, .int .u16 0, .int .u16 0] 92) = W := ⟨_, rfl⟩
       have hb3 : Below w2.heap.size w2 w3 := by rw [← hW3]; exact ext_alloc (Below.refl _ _) _
       have hx3 : w3.heap[w2.heap.size]? = some (.cells zero8 92 (0, 0)) := by rw [← hW3]; exact heap_alloc_new w2 _
       have hsta := g8_store zero8 zero8 rfl zero8_one rfl _ w3 hx3
       rw [row_same hx3] at hsta
       obtain ⟨W9, hst9, hld9, hb9⟩ := RH.out 0 ⟨#[]⟩ w3 (xT hb2 hb3)
       have hF := HQ.out (.er [(22, 0), (11, 0)]) W9 (HRE.out.symm) hb9
       unfold canV at hF
       dsimp only [kindI, atI, fromI] at hF
       have HF := hid hF
       clear hF hb9
       unfold zero8 at hsta ⊢
       clear hb2 hb3 hx3
       go_wp2_with ((with_reducible show wpList _ _ _ (_ :: _) _ _); first | (refine st_arr 24 w.heap.size _ hst9 _ _ rfl rfl rfl rfl ?_) | (refine st_arr 92 w2.heap.size _ hsta _ _ rfl rfl rfl rfl ?_))
       (try simp only [Exit.inBlock, Exit.then])
       exact bodyPost_ret (by simp [results, Tryz.results23, asAddr, Result.andThen, hld9]) rfl HF.out
     | some L =>
       rw [hp] at hR PA
       dsimp only at hR
       unfold r6V at PA
       dsimp only at PA
       obtain ⟨h8, hsm⟩ := parse6_ok hp
       have TX := fun W => rtext12_any (fOf L) W (fun j _ => fOf_lt hsm j)
       rw [lstF_fOf h8] at TX
       obtain ⟨T, hT⟩ : ∃ T, bytesL (text6 L) = T := ⟨_, rfl⟩
       have h1o := g8C_one (fOf L)
       have hsz : (g8C (fOf L)).size = 8 := rfl
       obtain ⟨cs, hcs⟩ : ∃ cs, g8C (fOf L) = cs := ⟨_, rfl⟩
       rw [hcs] at PA TX h1o hsz
       rw [hT] at TX
       have PA := hid PA; have TX := hid TX; have H1O := hid h1o; have HSZ := hid hsz
       have HRE := hid hR; have HTT := hid hT
       clear hR hp hPN hP hx hc hc2 gl h91 h93 h0 hl1 hm h8 hsm hT h1o hsz hcs
       go_enter Tryz.func23, Tryz.ntmps23
       go_wp2_with fail
       refine PA.out.mono ?_
       rintro e w2 ⟨rfl, hb2⟩
       clear hW1
       obtain ⟨w3, hW3⟩ : ∃ W, w2.alloc (.cells #[.int .u16 0, .int .u16 0, .int .u16 0, .int .u16 0, .int .u16 0, .int .u16 0, .int .u16 0, .int .u16 0] 92) = W := ⟨_, rfl⟩
       have hb3 : Below w2.heap.size w2 w3 := by rw [← hW3]; exact ext_alloc (Below.refl _ _) _
       have hx3 : w3.heap[w2.heap.size]? = some (.cells zero8 92 (0, 0)) := by rw [← hW3]; exact heap_alloc_new w2 _
       have hsta := g8_store cs zero8 HSZ.out H1O.out rfl _ w3 hx3
       have hx4 := setRow_heap (c := cs) hx3
       have hb4 : Below w2.heap.size w2 (w3.setRow w2.heap.size cs) := setRow_below hb3 (Nat.le_refl _)
       obtain ⟨w4, hW4⟩ : ∃ W, w3.setRow w2.heap.size cs = W := ⟨_, rfl⟩
       rw [hW4] at hsta hx4 hb4
       have hld := g8_load cs HSZ.out _ w4 hx4
       have HB4 := hid (xT hb2 hb4)
       clear hb2 hb3 hx3 hx4 hb4 hW4
       go_wp2_with ((with_reducible show wpList _ _ _ (_ :: _) _ _); first | (refine st_arr 92 w2.heap.size _ hsta _ _ rfl rfl rfl rfl ?_) | (refine ld_arr 92 w2.heap.size _ hld _ rfl rfl rfl ?_))
       clear hsta hW3 hld
       refine (TX.out _).mono ?_
       rintro e w5 ⟨rfl, hb5⟩
       obtain ⟨W9, hst9, hld9, hb9⟩ := RH.out 3 T w5 (xT HB4.out hb5)
       have hF := HQ.out (.ok 3 (text6 L)) W9 HRE.out.symm hb9
       unfold canV at hF
       dsimp only at hF
       rw [HTT.out] at hF
       have HF := hid hF
       clear hF hb9 hb5
       go_wp2_with ((with_reducible show wpList _ _ _ (_ :: _) _ _); first | (refine st_arr 24 w.heap.size _ hst9 _ _ rfl rfl rfl rfl ?_))
       (try simp only [Exit.inBlock, Exit.then])
       exact bodyPost_ret (by simp [results, Tryz.results23, asAddr, Result.andThen, hld9]) rfl HF.out
   · have u2 : ((x : Int) == 93) = false := bneI.2 (by omega)
     have u2' : (x = 93) = False := eq_false h93
     rw [if_neg (fun h => h93 (by
      by_cases h2 : 2 ≤ s.size
      · rw [lit_last h2, hm, hx] at h; exact h
      · exfalso
        rw [show (bytesN s).drop 1 = [] from List.drop_eq_nil_of_le (by rw [bytesN_len]; omega)] at h
        exact absurd h (by decide)))] at hR
     obtain ⟨W9, hst9, hld9, hb9⟩ := RH.out 0 ⟨#[]⟩ W1 (Below.refl _ _)
     have hF := HQ.out (.er [(22, 0)]) W9 (hR.symm) hb9
     unfold canV at hF
     dsimp only [kindI, atI, fromI] at hF
     have HF := hid hF
     clear hF hb9
     clear hR h91 h93 h0 hl1 hm hx hc hc2 gl
     go_enter Tryz.func23, Tryz.ntmps23
     go_wp2_with ((with_reducible show wpList _ _ _ (_ :: _) _ _); first | (refine st_arr 24 w.heap.size _ hst9 _ _ rfl rfl rfl rfl ?_))
     (try simp only [Exit.inBlock, Exit.then])
     exact bodyPost_ret (by simp [results, Tryz.results23, asAddr, Result.andThen, hld9]) rfl HF.out
 have u1 : ((c : Int) == 91) = false := bneI.2 (by omega)
 have u1' : (c = 91) = False := eq_false h91
 rw [if_neg h91] at hR
 have RT := rright3_any s W1 (by omega)
 cases hp : pctL (bytesN s) with
 | no k p =>
   obtain ⟨rfl, hpp⟩ := pctF_k _ _ _ _ _ _ hp
   rw [hp] at hR RT
   dsimp only at hR
   unfold badZ at RT
   dsimp only at RT
   have t3 : decide ((0 : Int) ≤ p) = true := dcT hpp
   have RT := hid RT; have HRE := hid hR
   clear hR hp hc hc2 h91 h0 hpp
   go_enter Tryz.func23, Tryz.ntmps23
   go_wp2_with fail
   refine RT.out.mono ?_
   rintro e w2 ⟨rfl, hb2⟩
   clear hW1
   obtain ⟨W9, hst9, hld9, hb9⟩ := RH.out 0 ⟨#[]⟩ w2 hb2
   have hF := HQ.out (.er [(22, p), (11, p)]) W9 (HRE.out.symm) hb9
   unfold canV at hF
   dsimp only [kindI, atI, fromI] at hF
   have HF := hid hF
   clear hF hb9
   clear hb2
   go_wp2_with ((with_reducible show wpList _ _ _ (_ :: _) _ _); first | (refine st_arr 24 w.heap.size _ hst9 _ _ rfl rfl rfl rfl ?_))
   (try simp only [Exit.inBlock, Exit.then])
   exact bodyPost_ret (by simp [results, Tryz.results23, asAddr, Result.andThen, hld9]) rfl HF.out
 | ok ev =>
   rw [hp] at hR RT
   dsimp only at hR
   unfold badZ at RT
   dsimp only at RT
   have DE := fun W => rdecode3_any s ev W (by omega) hp
   have hev := pct_len hp
   rw [bytesN_len] at hev
   have hpb0 := pctF_byte _ _ _ _ _ (bytesN_lt s) (fun x hx => by cases hx) hp
   have hpb : ByteL (plainL ev) := fun c hc => by
    obtain ⟨x, hx, rfl⟩ := List.mem_map.1 hc
    exact hpb0 x hx
   have hplz : (plainL ev).length ≤ 90000 := by unfold plainL; rw [List.length_map]; omega
   obtain ⟨pl, hpl⟩ : ∃ pl, plainL ev = pl := ⟨_, rfl⟩
   rw [hpl] at DE hR hpb hplz
   have NM := fun W => rname_any (bytesL pl) W (by rw [bytesL_size]; omega)
   rw [bytesN_bytesL hpb] at NM
   have RT := hid RT; have DE := hid DE; have HPB := hid hpb
   clear hp hev hpl hpb0 h91 h0 hc hc2
   unfold nameH at hR
   cases hn : nameL pl with
   | no k p =>
     have hk := nameL_k hn
     rw [hn] at hR NM
     dsimp only at hR
     unfold raV at NM
     dsimp only at NM
     have t4 : ((k : Int) == 0) = false := bneI.2 (by omega)
     have t4' : (k = 0) = False := eq_false hk
     have NM := hid NM; have HRE := hid hR
     clear hR hn hk
     go_enter Tryz.func23, Tryz.ntmps23
     go_wp2_with fail
     refine RT.out.mono ?_
     rintro e w2 ⟨rfl, hb2⟩
     have HB2 := hid hb2
     clear hW1 hb2
     go_wp2_with fail
     refine (DE.out _).mono ?_
     rintro e w3 ⟨hb3, v, rfl, ho⟩
     have hcv := own_text ho HPB.out
     have HB3 := hid (xT HB2.out hb3)
     clear hb3 ho
     go_wp2_with fail
     refine (NM.out _).mono ?_
     rintro e w4 ⟨rfl, hb4⟩
     obtain ⟨W9, hst9, hld9, hb9⟩ := RH.out 0 ⟨#[]⟩ w4 (xT HB3.out hb4)
     have hF := HQ.out (.er [(22, 0), ((k : Int), p)]) W9 (HRE.out.symm) hb9
     unfold canV at hF
     dsimp only [kindI, atI, fromI] at hF
     have HF := hid hF
     clear hF hb9
     clear hb4 hcv
     go_wp2_with ((with_reducible show wpList _ _ _ (_ :: _) _ _); first | (refine st_arr 24 w.heap.size _ hst9 _ _ rfl rfl rfl rfl ?_))
     (try simp only [Exit.inBlock, Exit.then])
     exact bodyPost_ret (by simp [results, Tryz.results23, asAddr, Result.andThen, hld9]) rfl HF.out
   | ok n =>
     rw [hn] at hR NM
     dsimp only at hR
     unfold raV at NM
     dsimp only at NM
     have hnz := nameL_len hn; have hnb : ByteL n := nameL_byte hn
     have NU := fun W => rnumeric_any (bytesL n) W (by rw [bytesL_size]; omega)
     have PA := fun W => rparse11_any (bytesL n) W (by rw [bytesL_size]; omega)
     rw [bytesN_bytesL hnb] at NU PA
     obtain ⟨X, hX⟩ : ∃ X, bytesL n = X := ⟨_, rfl⟩
     rw [hX] at NM NU PA
     have NM := hid NM
     cases hnu : numericL n with
     | false =>
       rw [hnu] at hR NU
       rw [if_neg (by decide)] at hR
       have HRE := hid hR; have NU := hid NU; have HXX := hid hX
       clear hR hn hnz hnb PA hX hnu
       go_enter Tryz.func23, Tryz.ntmps23
       go_wp2_with fail
       refine RT.out.mono ?_
       rintro e w2 ⟨rfl, hb2⟩
       have HB2 := hid hb2
       clear hW1 hb2
       go_wp2_with fail
       refine (DE.out _).mono ?_
       rintro e w3 ⟨hb3, v, rfl, ho⟩
       have hcv := own_text ho HPB.out
       have HB3 := hid (xT HB2.out hb3)
       clear hb3 ho
       go_wp2_with fail
       refine (NM.out _).mono ?_
       rintro e w4 ⟨rfl, hb4⟩
       have HB4 := hid (xT HB3.out hb4)
       clear hb4 hcv
       go_wp2_with fail
       refine (NU.out _).mono ?_
       rintro e w5 ⟨rfl, hw5⟩
       have hw5' := hw5.symm
       subst hw5'
       clear hw5
       obtain ⟨W9, hst9, hld9, hb9⟩ := RH.out 1 X _ HB4.out
       have hF := HQ.out (.ok 1 n) W9 HRE.out.symm hb9
       unfold canV at hF
       dsimp only at hF
       rw [HXX.out] at hF
       have HF := hid hF
       clear hF hb9
       go_wp2_with ((with_reducible show wpList _ _ _ (_ :: _) _ _); first | (refine st_arr 24 w.heap.size _ hst9 _ _ rfl rfl rfl rfl ?_))
       (try simp only [Exit.inBlock, Exit.then])
       exact bodyPost_ret (by simp [results, Tryz.results23, asAddr, Result.andThen, hld9]) rfl HF.out
     | true =>
       rw [hnu] at hR NU
       rw [if_pos rfl] at hR
       have NU := hid NU
       cases hq : parseQ n with
       | no k p =>
         have hk := parseQ_k hq
         rw [hq] at hR PA
         dsimp only at hR
         unfold rqV at PA
         dsimp only at PA
         have t4 : ((k : Int) == 0) = false := bneI.2 (by omega)
         have t4' : (k = 0) = False := eq_false (by omega)
         have PA := hid PA; have HRE := hid hR
         clear hR hn hnz hnb hX hnu hq hk
         go_enter Tryz.func23, Tryz.ntmps23
         go_wp2_with fail
         refine RT.out.mono ?_
         rintro e w2 ⟨rfl, hb2⟩
         have HB2 := hid hb2
         clear hW1 hb2
         go_wp2_with fail
         refine (DE.out _).mono ?_
         rintro e w3 ⟨hb3, v, rfl, ho⟩
         have hcv := own_text ho HPB.out
         have HB3 := hid (xT HB2.out hb3)
         clear hb3 ho
         go_wp2_with fail
         refine (NM.out _).mono ?_
         rintro e w4 ⟨rfl, hb4⟩
         have HB4 := hid (xT HB3.out hb4)
         clear hb4 hcv
         go_wp2_with fail
         refine (NU.out _).mono ?_
         rintro e w5 ⟨rfl, hw5⟩
         have hw5' := hw5.symm
         subst hw5'
         clear hw5
         go_wp2_with fail
         refine (PA.out _).mono ?_
         rintro e w6 ⟨rfl, hb6⟩
         obtain ⟨w7, hW7⟩ : ∃ W, w6.alloc (.cells #[.int .u8 0, .int .u8 0, .int .u8 0, .int .u8 0] 79) = W := ⟨_, rfl⟩
         have hb7 : Below w6.heap.size w6 w7 := by rw [← hW7]; exact ext_alloc (Below.refl _ _) _
         have hx7 : w7.heap[w6.heap.size]? = some (.cells zero4 79 (0, 0)) := by rw [← hW7]; exact heap_alloc_new w6 _
         have hsta := v4_store zero4 zero4 rfl zero4_one rfl _ w7 hx7
         rw [row_same hx7] at hsta
         obtain ⟨W9, hst9, hld9, hb9⟩ := RH.out 0 ⟨#[]⟩ w7 (xT HB4.out (xT hb6 hb7))
         have hF := HQ.out (.er [(22, 0), ((k : Int), p)]) W9 (HRE.out.symm) hb9
         unfold canV at hF
         dsimp only [kindI, atI, fromI] at hF
         have HF := hid hF
         clear hF hb9
         unfold zero4 at hsta ⊢
         clear hb6 hb7 hx7
         go_wp2_with ((with_reducible show wpList _ _ _ (_ :: _) _ _); first | (refine st_arr 24 w.heap.size _ hst9 _ _ rfl rfl rfl rfl ?_) | (refine st_arr 79 w6.heap.size _ hsta _ _ rfl rfl rfl rfl ?_))
         (try simp only [Exit.inBlock, Exit.then])
         exact bodyPost_ret (by simp [results, Tryz.results23, asAddr, Result.andThen, hld9]) rfl HF.out
       | ok a =>
         rw [hq] at hR PA
         dsimp only at hR
         unfold rqV at PA
         dsimp only at PA
         have TX := fun W => rtext11_any a W
         obtain ⟨T, hT⟩ : ∃ T, bytesL (quadL a) = T := ⟨_, rfl⟩
         have h1o := v4_one a
         have hsz : (v4C a).size = 4 := rfl
         obtain ⟨cs, hcs⟩ : ∃ cs, v4C a = cs := ⟨_, rfl⟩
         rw [hcs] at PA TX h1o hsz
         rw [hT] at TX
         have PA := hid PA; have TX := hid TX; have H1O := hid h1o; have HSZ := hid hsz
         have HRE := hid hR; have HTT := hid hT
         clear hR hn hnz hnb hX hnu hq hT h1o hsz hcs
         go_enter Tryz.func23, Tryz.ntmps23
         go_wp2_with fail
         refine RT.out.mono ?_
         rintro e w2 ⟨rfl, hb2⟩
         have HB2 := hid hb2
         clear hW1 hb2
         go_wp2_with fail
         refine (DE.out _).mono ?_
         rintro e w3 ⟨hb3, v, rfl, ho⟩
         have hcv := own_text ho HPB.out
         have HB3 := hid (xT HB2.out hb3)
         clear hb3 ho
         go_wp2_with fail
         refine (NM.out _).mono ?_
         rintro e w4 ⟨rfl, hb4⟩
         have HB4 := hid (xT HB3.out hb4)
         clear hb4 hcv
         go_wp2_with fail
         refine (NU.out _).mono ?_
         rintro e w5 ⟨rfl, hw5⟩
         have hw5' := hw5.symm
         subst hw5'
         clear hw5
         go_wp2_with fail
         refine (PA.out _).mono ?_
         rintro e w6 ⟨rfl, hb6⟩
         obtain ⟨w7, hW7⟩ : ∃ W, w6.alloc (.cells #[.int .u8 0, .int .u8 0, .int .u8 0, .int .u8 0] 79) = W := ⟨_, rfl⟩
         have hb7 : Below w6.heap.size w6 w7 := by rw [← hW7]; exact ext_alloc (Below.refl _ _) _
         have hx7 : w7.heap[w6.heap.size]? = some (.cells zero4 79 (0, 0)) := by rw [← hW7]; exact heap_alloc_new w6 _
         have hsta := v4_store cs zero4 HSZ.out H1O.out rfl _ w7 hx7
         have hx8 := setRow_heap (c := cs) hx7
         have hb8 : Below w6.heap.size w6 (w7.setRow w6.heap.size cs) := setRow_below hb7 (Nat.le_refl _)
         obtain ⟨w8, hW8⟩ : ∃ W, w7.setRow w6.heap.size cs = W := ⟨_, rfl⟩
         rw [hW8] at hsta hx8 hb8
         have hld := v4_load cs HSZ.out _ w8 hx8
         have HB8 := hid (xT HB4.out (xT hb6 hb8))
         clear hb6 hb7 hx7 hx8 hb8 hW8
         go_wp2_with ((with_reducible show wpList _ _ _ (_ :: _) _ _); first | (refine st_arr 79 w6.heap.size _ hsta _ _ rfl rfl rfl rfl ?_) | (refine ld_arr 79 w6.heap.size _ hld _ rfl rfl rfl ?_))
         clear hsta hW7 hld
         refine (TX.out _).mono ?_
         rintro e w9 ⟨rfl, hb9x⟩
         obtain ⟨W9, hst9, hld9, hb9⟩ := RH.out 2 T w9 (xT HB8.out hb9x)
         have hF := HQ.out (.ok 2 (quadL a)) W9 HRE.out.symm hb9
         unfold canV at hF
         dsimp only at hF
         rw [HTT.out] at hF
         have HF := hid hF
         clear hF hb9 hb9x
         go_wp2_with ((with_reducible show wpList _ _ _ (_ :: _) _ _); first | (refine st_arr 24 w.heap.size _ hst9 _ _ rfl rfl rfl rfl ?_))
         (try simp only [Exit.inBlock, Exit.then])
         exact bodyPost_ret (by simp [results, Tryz.results23, asAddr, Result.andThen, hld9]) rfl HF.out
theorem from_is (l : List (Int × Int)) : fromI l = 0 ∨ isKind l (fromI l) = true := by
 match l with
 | [] => exact .inl rfl
 | [x] => exact .inl rfl
 | x :: y :: r =>
   refine .inr ?_
   show ((x :: y :: r).any fun z => y.1 == z.1) = true
   simp
end Go.Proofs.YtbeodjipdpcaiaaGreatDoor
