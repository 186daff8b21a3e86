/- Texts put together. -/
import Derived.Test.YtbeodjipdpcaiaaGreatDoorYMoreR
import Derived.Test.YtbeodjipdpcaiaaGreatDoorYRfy8f
import Derived.Test.YtbeodjipdpcaiaaGreatDoorYRfy6
import Derived.Test.YtbeodjipdpcaiaaGreatDoorYDig1sf
import Derived.Test.YtbeodjipdpcaiaaGreatDoorYRfw8s
import Derived.Test.YtbeodjipdpcaiaaGreatDoorYDec1f
import Derived.Test.YtbeodjipdpcaiaaGreatDoorYHsw4s
set_option maxRecDepth 100000
set_option maxHeartbeats 16000000
namespace Go.Proofs.YtbeodjipdpcaiaaGreatDoor
open Go.RowKit
theorem chkF_k : ∀ (ps : List (List Nat)) (at_ k p : Nat), chkF ps at_ = some (k, p) → 10 ≤ k
 | [], _, _, _, h => by rw [chkF] at h; cases h
 | q :: ps, at_, k, p, h => by
   rw [chkF] at h
   split at h
   · cases h; decide
   · split at h
     · cases h; decide
     · exact chkF_k ps _ k p h
theorem rngF_k (N : Nat) : ∀ (ps : List (List Nat)) (i at_ t k : Nat) (p : Int), rngF N ps i at_ t = .no k p → 10 ≤ k
 | [], _, _, _, _, _, h => by rw [rngF] at h; cases h
 | q :: ps, i, at_, t, k, p, h => by
   rw [rngF] at h
   split at h
   · cases h; decide
   · exact rngF_k N ps _ _ _ k p h
theorem parseQ_k {b : List Nat} {k : Nat} {p : Int} (h : parseQ b = .no k p) : 10 ≤ k := by
 unfold parseQ at h
 split at h
 · cases h; decide
 · split at h
   · rename_i heq
     cases h
     exact chkF_k _ _ _ _ heq
   · exact rngF_k _ _ _ _ _ _ _ h
theorem v4C_cells (a : Nat) : v4C a = #[.int .u8 (octQ a 0 : Nat), .int .u8 (octQ a 1 : Nat), .int .u8 (octQ a 2 : Nat), .int .u8 (octQ a 3 : Nat)] := rfl
theorem numbers_case {a j n0 : Nat} {p acc : List Nat} {ps : List (List Nat)} {T Z : ByteArray} {four : Bool} {R : Option (List Nat)} (hT : bytesL (quadL a) = T) (hZ : bytesL p = Z) (hp : ByteL p) (ha : a < 4294967296) (hdn : ps.drop (j + 1) = [] ↔ j + 1 = n0)
    (hrf : (match (if quadL a = p then some a else none) with
      | some a => if four = true ∧ ps.drop (j + 1) = [] then some (acc ++ [a / 65536, a % 65536]) else none
      | none => none) = R) :
    (R = none ∧ ((T.toList == Z.toList) = false ∨ ((T.toList == Z.toList) = true ∧ (four = false ∨ four = true ∧ ((j : Int) == (n0 : Int) - 1) = false)))) ∨ ((T.toList == Z.toList) = true ∧ four = true ∧ ((j : Int) == (n0 : Int) - 1) = true ∧ ps.drop (j + 1) = [] ∧ R = some (acc ++ [256 * octQ a 0 + octQ a 1, 256 * octQ a 2 + octQ a 3])) := by
 by_cases he : quadL a = p
 · rw [if_pos he] at hrf
   dsimp only at hrf
   have t5 : (T.toList == Z.toList) = true := beqS_t (by rw [← hT, ← hZ, he])
   by_cases hf : four = true
   · by_cases hl : j + 1 = n0
     · rw [if_pos ⟨hf, hdn.2 hl⟩] at hrf
       refine .inr ⟨t5, hf, beq_iff_eq.2 (by omega), hdn.2 hl, ?_⟩
       have hhi : 256 * octQ a 0 + octQ a 1 = a / 65536 := by
        unfold octQ
        have e3 : (256 : Nat) ^ (3 - 0) = 16777216 := rfl
        have e2 : (256 : Nat) ^ (3 - 1) = 65536 := rfl
        rw [e3, e2]; omega
       have hlo : 256 * octQ a 2 + octQ a 3 = a % 65536 := by
        unfold octQ
        have e3 : (256 : Nat) ^ (3 - 2) = 256 := rfl
        have e2 : (256 : Nat) ^ (3 - 3) = 1 := rfl
        rw [e3, e2]; omega
       rw [hhi, hlo]; exact hrf.symm
     · rw [if_neg (fun h => hl (hdn.1 h.2))] at hrf
       exact .inl ⟨hrf.symm, .inr ⟨t5, .inr ⟨hf, bneI.2 (by omega)⟩⟩⟩
   · rw [if_neg (fun h => hf h.1)] at hrf
     exact .inl ⟨hrf.symm, .inr ⟨t5, .inl (by simpa using hf)⟩⟩
 · rw [if_neg he] at hrf
   refine .inl ⟨hrf.symm, .inl (beqS_f (fun e => he ?_))⟩
   have hq1 : bytesN T = quadL a := by
    rw [← hT]
    exact bytesN_bytesL (fun c hc => by have := (name_bytes (quad_name a) c hc).2.2.2.2; omega)
   have hz1 : bytesN Z = p := by rw [← hZ]; exact bytesN_bytesL hp
   rw [← hq1, e, hz1]
def RnsPost (w : World) (r : Option (List Nat)) (e : Ending) (w' : World) : Prop := Below w.heap.size w w' ∧ ∃ v l, w'.ownsRow w.heap.size 3 1 v l.length (intsV l) ∧ e = .returned (.tuple #[v, .bool r.isSome]) ∧ ∀ x, r = some x → x = l
def RnsRel (four : Bool) (ps : List (List Nat)) (R : Option (List Nat)) (w : World) (lv iv : Value) (wr : World) : Prop := ∃ (j : Nat) (acc : List Nat), iv = .int .i64 j ∧ j ≤ ps.length ∧ acc.length ≤ 2 * j ∧ wr.ownsRow w.heap.size 3 1 lv acc.length (intsV acc) ∧ rowF four (ps.drop j) acc = R ∧ Below w.heap.size w wr
theorem rnumbers_any (v : Value) (ps : List (List Nat)) (four : Bool) (base : Nat) (w : World) (ho : w.ownsRow base 9 1 v ps.length (strV (ps.map bytesL))) (hcount : ps.length ≤ 1000000) (hpl : ∀ p ∈ ps, p.length ≤ 1000000 ∧ ByteL p) :
    Calls Tryz.prog 127 #[v, .bool four] w (RnsPost w (rowF four ps [])) := by
 obtain ⟨R, hR⟩ : ∃ R, rowF four ps [] = R := ⟨_, rfl⟩
 rw [hR]
 obtain ⟨Q, hQ⟩ : ∃ Q, RnsPost w R = Q := ⟨_, rfl⟩
 have HNO : Hid (∀ W lv (l : List Nat), R = none → Below w.heap.size w W → W.ownsRow w.heap.size 3 1 lv l.length (intsV l) → Q (.returned (.tuple #[lv, .bool false])) W) := hid (fun W lv l hr hb h => by
  rw [← hQ, hr]
  exact ⟨hb, lv, l, h, rfl, fun x hx => by cases hx⟩)
 have HOK : Hid (∀ W lv (l : List Nat), R = some l → Below w.heap.size w W → W.ownsRow w.heap.size 3 1 lv l.length (intsV l) → Q (.returned (.tuple #[lv, .bool true])) W) := hid (fun W lv l hr hb h => by
  rw [← hQ, hr]
  exact ⟨hb, lv, l, h, rfl, fun x hx => by cases hx; rfl⟩)
 rw [hQ]
 have HPL := hid hpl
 obtain ⟨ao, cap, rfl, hao⟩ := aown_form ho
 have HOP := hid ho
 have HC : Hid (∀ (j : Nat) p, ps[j]? = some p → ∃ g, ao = some ⟨g, 0, none⟩ ∧ g < w.heap.size ∧ w.cell? ⟨g, j, none⟩ = some (.string (bytesL p))) := hid (fun j p hj => by
  have hjl := (List.getElem?_eq_some_iff.1 hj).1
  rcases hao with ⟨h0, _⟩ | ⟨g, rfl, _, hgl⟩
  · omega
  · refine ⟨g, rfl, hgl, ?_⟩
    rw [HOP.out.cellAt j (by simpa using hjl)]
    unfold strV
    rw [List.getElem?_map, List.getElem?_map, hj]; rfl)
 obtain ⟨n0, hn0⟩ : ∃ n, ps.length = n := ⟨_, rfl⟩
 rw [hn0] at hcount ⊢
 have HN := hid hn0
 have HL0 : Hid (RnsRel four ps R w (.slice (some ⟨w.heap.size, 0, none⟩) 0 0) (.int .i64 0) (w.alloc (.cells #[] 3))) := hid ⟨0, [], rfl, Nat.zero_le _, Nat.le_refl _, own_empty w _, hR, ext_alloc (Below.refl _ _) _⟩
 clear ho hao hR hQ hn0 hpl
 go_enter Tryz.func127, Tryz.ntmps127
 go_wp2_with fail
 go_loopw [6, 7] (RnsRel four ps R w) (fun _ k _ => n0 - (intOf k).toNat)
 case atStart => exact HL0.out
 case round =>
  obtain ⟨j, acc, rfl, hj, hal, ho, hrf, hb⟩ := hrel
  rw [HN.out] at hj
  obtain ⟨la, lc, rfl, _⟩ := aown_form ho
  have HO := hid ho; have HB := hid hb
  clear ho hb
  by_cases hlt : j < n0
  · obtain ⟨t1, t1'⟩ := ltT j n0 hlt
    have q1 := inc j (by omega)
    have q0 : IntKind.i64.wrap ((n0 : Int) - 1) = (n0 : Int) - 1 := i64n _ (by omega)
    obtain ⟨p, hp⟩ := get_ex ps j (by rw [HN.out]; exact hlt)
    have hpl := HPL.out p (List.mem_of_getElem? hp)
    obtain ⟨g, rfl, hgl, hc⟩ := HC.out j p hp
    have c0 : wr.cell? ⟨g, j, none⟩ = some (.string (bytesL p)) := (bcell1 HB.out hgl _).trans hc
    have hdr : ps.drop j = p :: ps.drop (j + 1) := by
     obtain ⟨hj2, hp2⟩ := List.getElem?_eq_some_iff.1 hp
     rw [List.drop_eq_getElem_cons hj2, hp2]
    rw [hdr, rowF] at hrf
    have hpn := bytesN_bytesL hpl.2
    have hdn : ps.drop (j + 1) = [] ↔ j + 1 = n0 := by
     rw [List.drop_eq_nil_iff, HN.out]; omega
    obtain ⟨Z, hZ⟩ : ∃ Z, bytesL p = Z := ⟨_, rfl⟩
    have hZz : Z.size ≤ 1000000 := by rw [← hZ, bytesL_size]; exact hpl.1
    rw [hZ] at c0 hpn
    have GR := rgroup_any Z wr
    have PA := fun W => rparse11_any Z W hZz
    rw [hpn] at GR PA
    have hgw : g < wr.heap.size := Nat.lt_of_lt_of_le hgl HB.out.size
    have HLT := hid hlt; have HBY : Hid (ByteL p) := hid hpl.2
    clear hp hpl hc hdr hpn hlt
    cases hg : grpL p with
    | some n =>
      rw [hg] at hrf GR
      unfold grI at GR
      dsimp only at hrf GR
      have t2 : decide ((0 : Int) ≤ (n : Int)) = true := dcT (by omega)
      have GR := hid GR; have HRF := hid hrf
      clear hg hrf hdn hZ PA
      go_wp2_with fail
      refine GR.out.mono ?_
      rintro e w3 ⟨rfl, hb3⟩
      have ho3 := aown_ext HO.out (fun g hg => hb3.block g (HO.out.lt g hg).2) (Nat.le_refl _)
      have HO3 := hid ho3; have HB3 := hid (xT HB.out hb3)
      clear hb3 ho3
      go_wp2_with (at_builtin; refine wpList_app1 w3 _ _ rfl _ _ 144 rfl w.heap.size elInt _ _ _ rfl HO3.out rfl rfl ?c1 ?c2 ?c3 ?c4 ?_)
      case c1 => first | rfl | (intro u hu; simp at hu; subst hu; rfl)
      case c2 => simp [maxLen]; omega
      case c3 => omega
      case c4 => exact HB3.out.size
      intro v2 w4 ho4 hg4
      have hb4 : Below w.heap.size w w4 := (ext_alloc HB3.out (.cells #[.int .i64 n] 3)).grown hg4 (ext_alloc HB3.out (.cells #[.int .i64 n] 3)).size (fun m hm => (HO3.out.lt m hm).1)
      have HRR : Hid (RnsRel four ps R w v2 (.int .i64 ((j : Int) + 1)) w4) := hid ⟨j + 1, acc ++ [n], by go_num, by rw [HN.out]; exact HLT.out, by rw [List.length_append]; show acc.length + 1 ≤ _; omega, by
       rw [List.length_append]
       have e : intsV (acc ++ [n]) = intsV acc ++ [.int .i64 n] := by simp [intsV]
       rw [e]
       simpa using ho4, HRF.out, hb4⟩
      clear ho4 hg4 hb4
      go_wp2
      refine ⟨?_, by have := HLT.out; simp [intOf]; omega⟩
      first | exact HRR.out | ((repeat apply Exists.intro); exact ⟨HRR.out, rfl⟩)
    | none =>
      rw [hg] at hrf GR
      unfold grI at GR
      dsimp only at hrf GR
      have GR := hid GR
      unfold strictQ at hrf
      clear hg
      cases hq : parseQ p with
      | no k q =>
        have hk := parseQ_k hq
        rw [hq] at hrf PA
        unfold rqV at PA
        dsimp only at hrf PA
        have t3 : ((k : Int) == 0) = false := bneI.2 (by omega)
        have t3' : (k = 0) = False := eq_false (by omega)
        have HF := hid (fun W lv l h1 h2 => HNO.out W lv l hrf.symm h1 h2)
        have PA := hid PA
        clear hq hrf hdn hZ hk
        go_wp2_with fail
        refine GR.out.mono ?_
        rintro e w3 ⟨rfl, hb3⟩
        have c1 : w3.cell? ⟨g, j, none⟩ = some (.string Z) := (bcell1 hb3 hgw _).trans c0
        have ho3 := aown_ext HO.out (fun g hg => hb3.block g (HO.out.lt g hg).2) (Nat.le_refl _)
        have HO3 := hid ho3; have HB3 := hid (xT HB.out hb3)
        clear hb3 ho3 c0
        go_wp2_with fail
        refine (PA.out _).mono ?_
        rintro e w4 ⟨rfl, hb4⟩
        obtain ⟨w5, hW5⟩ : ∃ W, w4.alloc (.cells #[.int .u8 0, .int .u8 0, .int .u8 0, .int .u8 0] 79) = W := ⟨_, rfl⟩
        have hb5 : Below w4.heap.size w4 w5 := by rw [← hW5]; exact ext_alloc (Below.refl _ _) _
        have hx5 : w5.heap[w4.heap.size]? = some (.cells zero4 79 (0, 0)) := by rw [← hW5]; exact heap_alloc_new w4 _
        have hsta := v4_store zero4 zero4 rfl zero4_one rfl _ w5 hx5
        rw [row_same hx5] at hsta
        have hb45 := xT hb4 hb5
        have ho5 := aown_ext (w' := w5) HO3.out (fun g hg => hb45.block g (HO3.out.lt g hg).2) (Nat.le_refl _)
        have HF2 : Hid (∀ n : Nat, Q _ (w5.drewN n)) := hid (fun n => HF.out (w5.drewN n) _ _ (ext_drewN n (xT HB3.out hb45)) ho5)
        unfold zero4 at *
        clear hb4 hb5 hb45 ho5 hx5
        go_wp2_with ((with_reducible show wpList _ _ _ (_ :: _) _ _); refine st_arr 79 w4.heap.size _ hsta _ _ rfl rfl rfl rfl ?_)
        go_quiet (fail)
        go_wp2
        exact HF2.out _
      | ok a =>
        have ha := parseQ_lt hq
        rw [hq] at hrf PA
        unfold rqV at PA
        dsimp only at hrf PA
        have TX := fun W => rtext11_any a W
        obtain ⟨T, hT⟩ : ∃ T, bytesL (quadL a) = T := ⟨_, rfl⟩
        have hca := numbers_case hT hZ HBY.out ha hdn hrf
        have hv := v4C_cells a
        have h4o := v4_one a
        have hsz4 : (v4C a).size = 4 := rfl
        have h0 := octQ_lt a 0; have h1 := octQ_lt a 1; have h2 := octQ_lt a 2; have h3 := octQ_lt a 3
        rw [hT] at TX
        obtain ⟨x0, hx0⟩ : ∃ x, octQ a 0 = x := ⟨_, rfl⟩
        obtain ⟨x1, hx1⟩ : ∃ x, octQ a 1 = x := ⟨_, rfl⟩
        obtain ⟨x2, hx2⟩ : ∃ x, octQ a 2 = x := ⟨_, rfl⟩
        obtain ⟨x3, hx3⟩ : ∃ x, octQ a 3 = x := ⟨_, rfl⟩
        obtain ⟨cs, hcs⟩ : ∃ cs, v4C a = cs := ⟨_, rfl⟩
        rw [hx0, hx1, hx2, hx3] at hca
        rw [hx0, hx1, hx2, hx3, hcs] at hv
        rw [hcs] at PA TX h4o hsz4
        rw [hx0] at h0
        rw [hx1] at h1
        rw [hx2] at h2
        rw [hx3] at h3
        have PA := hid PA; have TX := hid TX; have HV := hid hv; have H4O := hid h4o; have HSZ := hid hsz4; have HCA := hid hca
        clear hq hrf hdn hZ hT hca hv h4o hsz4 hx0 hx1 hx2 hx3 hcs ha
        go_wp2_with fail
        refine GR.out.mono ?_
        rintro e w3 ⟨rfl, hb3⟩
        have c1 : w3.cell? ⟨g, j, none⟩ = some (.string Z) := (bcell1 hb3 hgw _).trans c0
        have hgw3 : g < w3.heap.size := Nat.lt_of_lt_of_le hgw hb3.size
        have ho3 := aown_ext HO.out (fun g hg => hb3.block g (HO.out.lt g hg).2) (Nat.le_refl _)
        have HO3 := hid ho3; have HB3 := hid (xT HB.out hb3)
        clear hb3 ho3 c0
        go_wp2_with fail
        refine (PA.out _).mono ?_
        rintro e w4 ⟨rfl, hb4⟩
        obtain ⟨w5, hW5⟩ : ∃ W, w4.alloc (.cells #[.int .u8 0, .int .u8 0, .int .u8 0, .int .u8 0] 79) = W := ⟨_, rfl⟩
        have hb5 : Below w4.heap.size w4 w5 := by rw [← hW5]; exact ext_alloc (Below.refl _ _) _
        have hx5 : w5.heap[w4.heap.size]? = some (.cells zero4 79 (0, 0)) := by rw [← hW5]; exact heap_alloc_new w4 _
        have hsta := v4_store cs zero4 HSZ.out H4O.out rfl _ w5 hx5
        have hx6 := setRow_heap (c := cs) hx5
        have hb6 : Below w4.heap.size w4 (w5.setRow w4.heap.size cs) := setRow_below hb5 (Nat.le_refl _)
        obtain ⟨w6, hW6⟩ : ∃ W, w5.setRow w4.heap.size cs = W := ⟨_, rfl⟩
        rw [hW6] at hsta hx6 hb6
        have hb46 := xT hb4 hb6
        have hx6z : w4.heap.size < w6.heap.size := heap_lt hx6
        have hld : ∀ w', (∃ n : BW w6.heap.size w6, w' = n.w) → (loadVar 79 ⟨w4.heap.size, 0, none⟩).run Tryz.prog w' = .ok (.agg cs) w' := fun w' h => by
         obtain ⟨m, rfl⟩ := h
         exact v4_load cs HSZ.out _ _ ((m.below.block _ hx6z).trans hx6)
        have k1 : ∀ n : BW w6.heap.size w6, n.w.cell? ⟨g, j, none⟩ = some (.string Z) := fun n => (bcell1 n.below (Nat.lt_of_lt_of_le hgw3 hb46.size) _).trans ((bcell1 hb46 hgw3 _).trans c1)
        have ho6 := aown_ext (w' := w6) HO3.out (fun g hg => hb46.block g (HO3.out.lt g hg).2) (Nat.le_refl _)
        have HO6 := hid ho6; have HB6 := hid (xT HB3.out hb46)
        have TX6 : Hid (∀ m : BW w6.heap.size w6, Calls Tryz.prog 69 #[.agg cs] m.w fun e w' => e = .returned (.string T) ∧ Below m.w.heap.size m.w w') := hid (fun m => TX.out m.w)
        have HX6 := hid hx6
        clear hb4 hb5 hx5 hW6 hx6 hb6 hb46 ho6 hx6z
        go_wp2_with ((with_reducible show wpList _ _ _ (_ :: _) _ _); refine st_arr 79 w4.heap.size _ hsta _ _ rfl rfl rfl rfl ?_)
        clear hW5 hsta
        rcases HCA.out with ⟨hr, t5 | ⟨t5, t7 | ⟨t7, t6⟩⟩⟩ | ⟨t5, t7, t6, hr⟩
        · refine wp_region_quietB w6.heap.size (by kernel_rfl) (by kernel_rfl) ?_
          repeat (first | (go_big_quiet_want; refine quiet_ldRow 79 _ _ hld _ rfl rfl ?_; go_big_quiet_on; simp only [Act.put, List.setIfInBounds_toArray, List.set_cons_zero, List.set_cons_succ]) | go_big_quiet_step ((go_at_call 69; exact quiet_callB (TX6.out _) (Nat.le_refl _))))
          refine wpQuiet_nil ?_
          intro _ hw'
          obtain ⟨nb, hw7⟩ := hw'
          subst hw7
          have HF2 := hid (HNO.out _ _ _ hr (HB6.out.trans (nb.below.mono HB6.out.size)) (aown_ext HO6.out (fun g hg => nb.below.block g (HO6.out.lt g hg).2) (Nat.le_refl _)))
          clear hr k1 hld
          generalize nb.w = w7 at *
          go_wp2
          exact HF2.out
        · subst t7
          refine wp_region_quietB w6.heap.size (by kernel_rfl) (by kernel_rfl) ?_
          repeat (first | (go_big_quiet_want; refine quiet_ldRow 79 _ _ hld _ rfl rfl ?_; go_big_quiet_on; simp only [Act.put, List.setIfInBounds_toArray, List.set_cons_zero, List.set_cons_succ]) | go_big_quiet_step ((go_at_call 69; exact quiet_callB (TX6.out _) (Nat.le_refl _))))
          refine wpQuiet_nil ?_
          intro _ hw'
          obtain ⟨nb, hw7⟩ := hw'
          subst hw7
          have HF2 := hid (HNO.out _ _ _ hr (HB6.out.trans (nb.below.mono HB6.out.size)) (aown_ext HO6.out (fun g hg => nb.below.block g (HO6.out.lt g hg).2) (Nat.le_refl _)))
          clear hr k1 hld
          generalize nb.w = w7 at *
          go_wp2
          exact HF2.out
        · subst t7
          refine wp_region_quietB w6.heap.size (by kernel_rfl) (by kernel_rfl) ?_
          repeat (first | (go_big_quiet_want; refine quiet_ldRow 79 _ _ hld _ rfl rfl ?_; go_big_quiet_on; simp only [Act.put, List.setIfInBounds_toArray, List.set_cons_zero, List.set_cons_succ]) | go_big_quiet_step ((go_at_call 69; exact quiet_callB (TX6.out _) (Nat.le_refl _))))
          refine wpQuiet_nil ?_
          intro _ hw'
          obtain ⟨nb, hw7⟩ := hw'
          subst hw7
          have HF2 := hid (HNO.out _ _ _ hr (HB6.out.trans (nb.below.mono HB6.out.size)) (aown_ext HO6.out (fun g hg => nb.below.block g (HO6.out.lt g hg).2) (Nat.le_refl _)))
          clear hr k1 hld
          generalize nb.w = w7 at *
          go_wp2
          exact HF2.out
        · subst t7
          have HR := hid hr
          clear hr
          refine wp_region_quietB w6.heap.size (by kernel_rfl) (by kernel_rfl) ?_
          repeat (first | (go_big_quiet_want; refine quiet_ldRow 79 _ _ hld _ rfl rfl ?_; go_big_quiet_on; simp only [Act.put, List.setIfInBounds_toArray, List.set_cons_zero, List.set_cons_succ]) | go_big_quiet_step ((go_at_call 69; exact quiet_callB (TX6.out _) (Nat.le_refl _))))
          refine wpQuiet_nil ?_
          intro _ hw'
          obtain ⟨nb, hw7⟩ := hw'
          subst hw7
          have ho7 := aown_ext HO6.out (fun g hg => nb.below.block g (HO6.out.lt g hg).2) (Nat.le_refl _)
          have hx7 := (nb.below.block _ (heap_lt HX6.out)).trans HX6.out
          have k0 := Lib.cell_of_heap hx7 0; have k11 := Lib.cell_of_heap hx7 1; have k2 := Lib.cell_of_heap hx7 2; have k3 := Lib.cell_of_heap hx7 3
          rw [HV.out] at k0 k11 k2 k3
          have HO7 := hid ho7; have HB7 := hid (HB6.out.trans (nb.below.mono HB6.out.size))
          clear k1 hld ho7 hx7
          generalize nb.w = w7 at *
          have p1 : IntKind.i64.wrap ((256 : Int) * (x0 : Int)) = (256 : Int) * (x0 : Int) := i64n _ (by omega)
          have p2 : IntKind.i64.wrap ((256 : Int) * (x2 : Int)) = (256 : Int) * (x2 : Int) := i64n _ (by omega)
          have p3 : IntKind.i64.wrap ((256 : Int) * (x0 : Int) + (x1 : Int)) = (256 : Int) * (x0 : Int) + (x1 : Int) := i64n _ (by omega)
          have p4 : IntKind.i64.wrap ((256 : Int) * (x2 : Int) + (x3 : Int)) = (256 : Int) * (x2 : Int) + (x3 : Int) := i64n _ (by omega)
          go_wp2_with (at_builtin; refine wpList_app (w7.alloc (.cells #[.int .i64 ((256 : Int) * (x0 : Int) + (x1 : Int)), .int .i64 ((256 : Int) * (x2 : Int) + (x3 : Int))] 3)) rfl _ _ 144 rfl w.heap.size elInt _ _ _ rfl (HO7.out.alloc _) (some ⟨w7.heap.size, 0, none⟩) 2 2 [.int .i64 ((256 : Int) * (x0 : Int) + (x1 : Int)), .int .i64 ((256 : Int) * (x2 : Int) + (x3 : Int))] rfl rfl ?c0 ?c1 ?c2 ?c3 ?c4 ?c5 ?_)
          case c1 => exact ⟨_, _, ⟨rfl, rfl⟩, new_cells w7 #[.int .i64 ((256 : Int) * (x0 : Int) + (x1 : Int)), .int .i64 ((256 : Int) * (x2 : Int) + (x3 : Int))] _⟩
          case c2 => exact ⟨rfl, rfl⟩
          case c3 => simp [maxLen]; omega
          case c4 => omega
          case c5 => have := HB7.out.size; simp; omega
          intro v2 w8 ho8 hg8
          have hb8 : Below w.heap.size w w8 := (ext_alloc HB7.out (.cells #[.int .i64 ((256 : Int) * (x0 : Int) + (x1 : Int)), .int .i64 ((256 : Int) * (x2 : Int) + (x3 : Int))] 3)).grown hg8 (ext_alloc HB7.out (.cells #[.int .i64 ((256 : Int) * (x0 : Int) + (x1 : Int)), .int .i64 ((256 : Int) * (x2 : Int) + (x3 : Int))] 3)).size (fun m hm => (HO7.out.lt m hm).1)
          have HRR : Hid (RnsRel true ps R w v2 (.int .i64 ((j : Int) + 1)) w8) := hid ⟨j + 1, acc ++ [256 * x0 + x1, 256 * x2 + x3], by go_num, by rw [HN.out]; exact HLT.out, by rw [List.length_append]; show acc.length + 2 ≤ _; omega, by
           rw [List.length_append]
           have e : intsV (acc ++ [256 * x0 + x1, 256 * x2 + x3]) = intsV acc ++ [.int .i64 ((256 : Int) * (x0 : Int) + (x1 : Int)), .int .i64 ((256 : Int) * (x2 : Int) + (x3 : Int))] := by simp [intsV]
           rw [e]
           exact ho8, by rw [HR.out.1, rowF]; exact HR.out.2.symm, hb8⟩
          clear ho8 hg8 hb8
          go_wp2
          refine ⟨?_, by have := HLT.out; simp [intOf]; omega⟩
          first | exact HRR.out | ((repeat apply Exists.intro); exact ⟨HRR.out, rfl⟩)
  · obtain ⟨t1, t1'⟩ := ltF j n0 hlt
    rw [List.drop_of_length_le (by rw [HN.out]; omega), rowF] at hrf
    have HF := hid (HOK.out wr _ acc hrf.symm HB.out HO.out)
    clear hrf hlt
    go_wp2
    exact HF.out
end Go.Proofs.YtbeodjipdpcaiaaGreatDoor
