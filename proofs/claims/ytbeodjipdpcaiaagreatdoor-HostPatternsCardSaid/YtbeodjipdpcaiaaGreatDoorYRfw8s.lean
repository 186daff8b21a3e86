/- Texts put together. -/
import Derived.Test.YtbeodjipdpcaiaaGreatDoorYHlw0f
import Derived.Test.YtbeodjipdpcaiaaGreatDoorYRfw4s
import Derived.Test.YtbeodjipdpcaiaaGreatDoorYPnw4s
import Derived.Test.YtbeodjipdpcaiaaGreatDoorYScan4sf
import Derived.Test.YtbeodjipdpcaiaaGreatDoorYRfw6s
import Derived.Test.YtbeodjipdpcaiaaGreatDoorYLbw5s
import Derived.Test.YtbeodjipdpcaiaaGreatDoorYRfw1s
set_option maxRecDepth 100000
set_option maxHeartbeats 8000000
namespace Go.Proofs.YtbeodjipdpcaiaaGreatDoor
section
open Go.RowKit
theorem rd_intsO {w : World} {base : Nat} {v : Value} {l : List Nat} (h : w.ownsRow base 3 1 v l.length (intsV l)) : Rd (Own w) w v (intsD l) := rd_owned h (intsV_rds l) (fun g hg => (h.lt g hg).2)
theorem own_empty (w : World) (e : TypeId) : (w.alloc (.cells #[] e)).ownsRow w.heap.size e 1 (.slice (some ⟨w.heap.size, 0, none⟩) 0 0) 0 [] := ⟨rfl, .inr ⟨w.heap.size, 0, #[], rfl, Nat.le_refl _, heap_alloc_new w _, Nat.le_refl _, Nat.zero_le _, rfl, rfl⟩⟩
theorem own_pos {w : World} {base : Nat} {e : TypeId} {sz n : Nat} {v : Value} {xs : List Value} (h : w.ownsRow base e sz v n xs) (hn : 0 < n) : ∃ g cap, v = .slice (some ⟨g, 0, none⟩) n cap ∧ n ≤ cap := by
 rcases h.2 with ⟨_, rfl⟩ | ⟨g, cap, cur, rfl, _, _, h4, _⟩
 · omega
 · exact ⟨g, cap, rfl, h4⟩
theorem row_low (g n cap p : Nat) (h : p ≤ cap) (W : World) : (Instr.slice 144 (.slice (some ⟨g, 0, none⟩) n cap) none (some (.int .i64 (p : Int))) none).run Tryz.prog W = .ok (.slice (some ⟨g, 0, none⟩) p cap) W := by
 have e : (some (⟨g, 0, none⟩ : Addr)).map (fun x => x.add (0 * 1)) = some ⟨g, 0, none⟩ := rfl
 simp [Instr.slice, run_underlying Tryz.underlying144, Instr.sliceBounds, run_sliceBound, Tryz.sizeOf3, h, Addr.add]
theorem row_high (g n cap p : Nat) (h : p ≤ n) (hn : n ≤ cap) : ∃ ao, (∀ W, (Instr.slice 144 (.slice (some ⟨g, 0, none⟩) n cap) (some (.int .i64 (p : Int))) none none).run Tryz.prog W = .ok (.slice ao (n - p) (cap - p)) W) ∧ ao ≠ none ∧ (0 < n - p → ao = some ⟨g, p, none⟩) := by
 by_cases hc : cap = p
 · refine ⟨some ⟨g, 0, none⟩, fun W => ?_, nofun, fun h0 => by omega⟩
   simp [Instr.slice, run_underlying Tryz.underlying144, Instr.sliceBounds, run_sliceBound, Tryz.sizeOf3, h, hc]
 · refine ⟨some ⟨g, p, none⟩, fun W => ?_, nofun, fun _ => rfl⟩
   simp [Instr.slice, run_underlying Tryz.underlying144, Instr.sliceBounds, run_sliceBound, Tryz.sizeOf3, h, hc, Addr.add]
   exact fun h => h.symm
theorem row_cellO {w : World} {base g n cap : Nat} {l : List Nat} (h : w.ownsRow base 3 1 (.slice (some ⟨g, 0, none⟩) n cap) l.length (intsV l)) {p q : Nat} {u : Value} (hu : (intsV (l.drop p))[q]? = some u) : w.cell? ⟨g, p + q, none⟩ = some u := by
 have hl : p + q < l.length := by
  have := (List.getElem?_eq_some_iff.1 hu).1
  simp [intsV] at this; omega
 obtain ⟨_, h2⟩ := h
 rcases h2 with ⟨h2, _⟩ | ⟨g2, cap2, cur, h3, _, hb, _, _, hc, ht⟩
 · cases h2
 · obtain ⟨rfl, _, _⟩ : g = g2 ∧ n = l.length ∧ cap = cap2 := by
     injection h3 with a b c
     injection a with a
     injection a with a
     exact ⟨a, b, c⟩
   rw [Lib.cell_of_heap hb]
   have e : (cur.toList.take (l.length * 1))[p + q]? = some u := by
    rw [ht]
    unfold intsV at hu ⊢
    rw [List.getElem?_map, List.getElem?_drop] at hu
    rw [List.getElem?_map]; exact hu
   rw [List.getElem?_take] at e
   rw [if_pos (by omega)] at e
   simpa using e
theorem rnumF_no (s : ByteArray) (b : Nat) : ∀ (f at_ n w k : Nat) (e : Nat) (p : Int), rnumF s b f at_ n w k = .no e p → 10 ≤ e
 | 0, at_, n, w, k, e, p, h => by
   injection h with h1 h2
   omega
 | f + 1, at_, n, w, k, e, p, h => by
   rw [rnumF] at h
   split at h
   · injection h with h1 h2; omega
   · split at h
     · injection h with h1 h2; omega
     · split at h
       · injection h with h1 h2; omega
       · split at h
         · cases h
         · split at h
           · injection h with h1 h2; omega
           · exact rnumF_no s b f _ _ _ _ e p h
theorem rnumF_val (s : ByteArray) (b : Nat) : ∀ (f at_ n w k : Nat) (x : Nat × Nat), rnumF s b f at_ n w k = .ok x → x.1 ≤ 2147483647
 | 0, at_, n, w, k, x, h => by cases h
 | f + 1, at_, n, w, k, x, h => by
   rw [rnumF] at h
   split at h
   · cases h
   · split at h
     · cases h
     · split at h
       · cases h
       · split at h
         · have := Sc.ok.inj h
           subst this
           show n + _ ≤ _
           omega
         · split at h
           · cases h
           · exact rnumF_val s b f _ _ _ _ x h
theorem putAt_cells (l : List Nat) (p n : Nat) : intsV (l.take p) ++ Value.int .i64 (n : Int) :: intsV (l.drop p) = intsV (putAt l p n) := by unfold putAt intsV; simp
def scL (r : Sc (List Nat)) : List Nat := match r with
 | .ok l => l
 | .no _ _ => []
def scK (r : Sc (List Nat)) : Nat := match r with
 | .ok _ => 0
 | .no k _ => k
def scP (r : Sc (List Nat)) : Int := match r with
 | .ok _ => 0
 | .no _ p => p
def RdPost (w : World) (r : Sc (List Nat)) (e : Ending) (w' : World) : Prop := Below w.heap.size w w' ∧ ∃ v, w'.ownsRow w.heap.size 3 1 v (scL r).length (intsV (scL r)) ∧ e = .returned (.tuple #[v, .int .i64 (scK r : Nat), .int .i64 (scP r)])
theorem RdPost.fail {w wr : World} {r : Sc (List Nat)} {k : Nat} {p : Int} (hr : r = .no k p) (hb : Below w.heap.size w wr) : RdPost w r (.returned (.tuple #[.slice (some ⟨wr.heap.size, 0, none⟩) 0 0, .int .i64 (k : Nat), .int .i64 p])) (wr.alloc (.cells #[] 3)) := by
 subst hr
 exact ⟨ext_alloc hb _, _, aown_ext (own_empty wr 3) (fun _ _ => rfl) hb.size, rfl⟩
def RdcRel1 (s : ByteArray) (w : World) (lv iv : Value) (wr : World) : Prop := ∃ j : Nat, iv = .int .i64 j ∧ j ≤ s.size ∧ lv = .int .i64 ((List.range j).foldl (fun l i => if byteAt s i = 45 then i else l) 0 : Nat) ∧ wr = w
def RdcRel2 (s : ByteArray) (D : Nat) (w : World) (lv iv : Value) (wr : World) : Prop := ∃ j : Nat, iv = .int .i64 j ∧ j ≤ D ∧ (∀ i, i < j → byteAt s i < 128) ∧ (∃ g cap, lv = .slice (some ⟨g, 0, none⟩) j cap ∧ j ≤ cap) ∧ wr.ownsRow w.heap.size 3 1 lv j (intsV ((List.range j).map (byteAt s))) ∧ Below w.heap.size w wr
structure RdcAt (s : ByteArray) (w : World) (Z : Sc (List Nat)) (d : DSt) (lv : Value) (wr : World) : Prop where
 own : wr.ownsRow w.heap.size 3 1 lv d.out.length (intsV d.out)
 form : ∃ g cap, lv = .slice (some ⟨g, 0, none⟩) d.out.length cap ∧ d.out.length ≤ cap
 below : Below w.heap.size w wr
 le : d.at_ ≤ s.size
 len : d.out.length ≤ 256
 nle : d.n ≤ 1114111
 place : d.place ≤ d.out.length
 bias : d.bias ≤ 10000000000
 dec : decG s d = Z
def RdcRel3 (s : ByteArray) (w : World) (Z : Sc (List Nat)) (lv av nv pv bv fv : Value) (wr : World) : Prop := ∃ d : DSt, av = .int .i64 d.at_ ∧ nv = .int .i64 d.n ∧ pv = .int .i64 d.place ∧ bv = .int .i64 d.bias ∧ fv = .bool d.first ∧ RdcAt s w Z d lv wr
theorem rdecode9_any (s : ByteArray) (w : World) (hs : s.size ≤ 1000000) : Calls Tryz.prog 189 #[.string s] w (RdPost w (pdecS s)) := by
 obtain ⟨R, hR⟩ : ∃ R, pdecS s = R := ⟨_, rfl⟩
 rw [hR]
 obtain ⟨Q, hQ⟩ : ∃ Q : Ending → World → Prop, RdPost w R = Q := ⟨_, rfl⟩
 have HF0 : Hid (∀ (k : Nat) (p : Int) wr, R = .no k p → Below w.heap.size w wr → Q (.returned (.tuple #[.slice (some ⟨wr.heap.size, 0, none⟩) 0 0, .int .i64 (k : Nat), .int .i64 p])) (wr.alloc (.cells #[] 3))) := hid (fun k p wr h hb => by rw [← hQ]; exact RdPost.fail h hb)
 have HQ := hid hQ
 rw [hQ]
 by_cases h1024 : 1024 < s.size
 · have hRR : R = .no 14 1024 := by rw [← hR]; unfold pdecS; rw [if_pos h1024]
   have t1 : decide ((1024 : Int) < (s.size : Int)) = true := dcT (by omega)
   have HF := hid (HF0.out 14 1024 w hRR (Below.refl _ _))
   clear hR hRR h1024 hs hQ
   go_enter Tryz.func189, Tryz.ntmps189
   go_wp2
   (try simp only [Exit.inBlock, Exit.then]); refine bodyPost_ret (results_tmp3 rfl _ _ _) rfl ?_
   exact HF.out
 · have t1 : decide ((1024 : Int) < (s.size : Int)) = false := dcF (by omega)
   obtain ⟨D, hD⟩ : ∃ D, lastDash s = D := ⟨_, rfl⟩
   have hDl : 0 < D → D < s.size := by rw [← hD]; exact lastDash_lt s
   have hRR := hR
   unfold pdecS at hRR
   rw [if_neg h1024] at hRR
   rw [hD] at hRR
   have HRR := hid hRR; have HDL := hid hDl
   have h1024' : s.size ≤ 1024 := by omega
   have HDS : Hid ((List.range s.size).foldl (fun l i => if byteAt s i = 45 then i else l) 0 = D) := hid hD
   clear hR hD hRR hDl h1024 hs hQ
   go_enter Tryz.func189, Tryz.ntmps189
   go_wp2_with fail
   clear t1
   go_loopw [5, 6] (RdcRel1 s w) (fun _ j _ => s.size - (intOf j).toNat)
   case atStart => exact ⟨0, rfl, Nat.zero_le _, rfl, rfl⟩
   case round =>
    obtain ⟨j, rfl, hj, rfl, hwr⟩ := hrel
    subst hwr
    by_cases hlt : j < s.size
    · obtain ⟨t1, t1'⟩ := ltT j s.size hlt
      have q1 := inc j (by omega)
      have hgb := byteAt_get s j hlt
      have HST : Hid ((List.range (j + 1)).foldl (fun l i => if byteAt s i = 45 then i else l) 0 = if byteAt s j = 45 then j else (List.range j).foldl (fun l i => if byteAt s i = 45 then i else l) 0) := hid (by rw [List.range_succ, List.foldl_append]; rfl)
      obtain ⟨L, hL⟩ : ∃ L, (List.range j).foldl (fun l i => if byteAt s i = 45 then i else l) 0 = L := ⟨_, rfl⟩
      rw [hL] at HST ⊢
      obtain ⟨x, hx⟩ : ∃ x, byteAt s j = x := ⟨_, rfl⟩
      rw [hx] at hgb HST
      have hgx := hgb.symm
      have HLT := hid hlt
      clear hL hx hgb
      by_cases h45 : x = 45
      · have t2 : ((x : Int) == 45) = true := by rw [h45]; rfl
        have t2' : (x = 45) = True := by simp [h45]
        have HR1 : Hid (RdcRel1 s wr (.int .i64 j) (.int .i64 ((j : Int) + 1)) wr) := hid ⟨j + 1, by go_num, HLT.out, by rw [HST.out, if_pos h45], rfl⟩
        clear h45
        go_wp2
        refine ⟨?_, by have := HLT.out; simp [intOf]; omega⟩
        first | exact HR1.out | ((repeat apply Exists.intro); exact ⟨HR1.out, rfl⟩)
      · have t2 : ((x : Int) == 45) = false := by simp; omega
        have t2' : (x = 45) = False := by simp [h45]
        have HR1 : Hid (RdcRel1 s wr (.int .i64 L) (.int .i64 ((j : Int) + 1)) wr) := hid ⟨j + 1, by go_num, HLT.out, by rw [HST.out, if_neg h45], rfl⟩
        clear h45
        go_wp2
        refine ⟨?_, by have := HLT.out; simp [intOf]; omega⟩
        first | exact HR1.out | ((repeat apply Exists.intro); exact ⟨HR1.out, rfl⟩)
    · obtain ⟨t1, t1'⟩ := ltF j s.size hlt
      obtain rfl : j = s.size := by omega
      rw [HDS.out]
      have HR0 : Hid (RdcRel2 s D wr (.slice (some ⟨wr.heap.size, 0, none⟩) 0 0) (.int .i64 0) (wr.alloc (.cells #[] 3))) := hid ⟨0, rfl, Nat.zero_le _, fun i hi => by omega, ⟨_, _, rfl, Nat.le_refl _⟩, own_empty wr _, ext_alloc (Below.refl _ _) _⟩
      clear hlt hj
      generalize wr = w at *
      go_wp2_with fail
      clear t1 t1'
      go_loopw [7, 9] (RdcRel2 s D w) (fun _ j _ => D - (intOf j).toNat)
      case atStart => exact HR0.out
      case round =>
       obtain ⟨j, rfl, hj, hlow, ⟨g, cap, rfl, hcap⟩, ho, hb⟩ := hrel
       have HO := hid ho; have HB := hid hb; have HLOW := hid hlow
       clear ho hb hlow
       by_cases hlt : j < D
       · obtain ⟨t1, t1'⟩ := ltT j D hlt
         have hjs : j < s.size := by have := HDL.out (by omega); omega
         have hjz : j ≤ 1000000 := by omega
         have q1 := inc j (by omega)
         have u1' : decide (j < s.size) = true := dcT hjs
         have hgb := byteAt_get s j hjs
         have hlt256 := byteAt_lt s j
         obtain ⟨x, hx⟩ : ∃ x, byteAt s j = x := ⟨_, rfl⟩
         rw [hx] at hgb hlt256
         have hgx := hgb.symm
         have HXX := hid hx
         have HLT := hid hlt
         clear hx hlt hgb
         by_cases h128 : 128 ≤ x
         · have t2 : decide ((128 : Int) ≤ (x : Int)) = true := dcT (by omega)
           have t2' : decide (128 ≤ x) = true := dcT h128
           have HF := hid (HF0.out 11 (j : Nat) wr (by
            have := HRR.out
            rw [findR_at (j := j) HLT.out (by rw [HXX.out]; exact t2') (fun i hi => dcF (by have := HLOW.out i hi; omega))] at this
            exact this.symm) HB.out)
           clear h128
           go_wp2
           (try simp only [Exit.inBlock, Exit.then]); refine bodyPost_ret (results_tmp3 rfl _ _ _) rfl ?_
           exact HF.out
         · have t2 : decide ((128 : Int) ≤ (x : Int)) = false := dcF (by omega)
           have t2' : decide (128 ≤ x) = false := dcF h128
           have qx : IntKind.i64.wrap (x : Int) = (x : Int) := i64n _ (by omega)
           have H128 := hid h128
           clear h128
           go_wp2_with (at_builtin; refine wpList_app1 wr #[.int .i64 x] 3 rfl _ _ 144 rfl w.heap.size elInt _ _ _ rfl HO.out rfl rfl ?c1 ?c2 ?c3 ?c4 ?_)
           case c1 => first | rfl | (intro u hu; simp at hu; subst hu; rfl)
           case c2 => unfold maxLen; omega
           case c3 => omega
           case c4 => exact HB.out.size
           intro v2 w2 ho2 hg2
           have hb2 : Below w.heap.size w w2 := (ext_alloc HB.out _).grown hg2 (ext_alloc HB.out _).size (fun k hk => (HO.out.lt k hk).1)
           have e2 : intsV ((List.range j).map (byteAt s)) ++ (#[Value.int .i64 (x : Int)] : Array Value).toList = intsV ((List.range (j + 1)).map (byteAt s)) := by
            rw [List.range_succ, List.map_append, List.map_singleton, HXX.out]; simp [intsV]
           rw [e2] at ho2
           obtain ⟨g2, c2, rfl, hc2⟩ := own_pos ho2 (by omega)
           have HRL : Hid (RdcRel2 s D w (.slice (some ⟨g2, 0, none⟩) (j + 1) c2) (.int .i64 ((j : Int) + 1)) w2) := hid ⟨j + 1, by go_num, HLT.out, fun i hi => by
            by_cases hi2 : i = j
            · rw [hi2, HXX.out]; have := H128.out; omega
            · exact HLOW.out i (by omega), ⟨g2, c2, rfl, hc2⟩, ho2, hb2⟩
           have hjD := HLT.out
           clear ho2 hg2 hb2 e2 hc2
           go_wp2
           refine ⟨?_, by simp [intOf]; omega⟩
           first | exact HRL.out | ((repeat apply Exists.intro); exact ⟨HRL.out, rfl⟩)
       · obtain ⟨t1, t1'⟩ := ltF j D hlt
         obtain rfl : j = D := by omega
         have HR1 : Hid ((if 256 < j then Sc.no 15 ((j + 1 : Nat) : Int) else decG s ⟨if 0 < j then j + 1 else 0, 128, 0, 72, true, (List.range j).map (byteAt s)⟩) = R) := hid (by
          have := HRR.out
          rw [findR_no (fun i hi => dcF (by have := HLOW.out i hi; omega))] at this
          exact this)
         obtain ⟨A, hA⟩ : ∃ A, (if 0 < j then j + 1 else 0) = A := ⟨_, rfl⟩
         rw [hA] at HR1
         have HAL : Hid (A ≤ s.size) := hid (by
          rw [← hA]
          split
          · exact HDL.out (by assumption)
          · omega)
         have hjz : j ≤ 1000000 := by
          by_cases h0 : 0 < j
          · have := HDL.out h0; omega
          · omega
         obtain ⟨tb, htb⟩ : ∃ tb, decide (0 < j) = tb := ⟨_, rfl⟩
         have htb2 : decide ((0 : Int) < (j : Int)) = tb := by rw [← htb]; exact decide_eq_decide.2 (by omega)
         have HTB := hid htb
         have HA := hid hA
         clear hlt hj HLOW HRR hA
         go_upto_if 55 with (fail)
         clear htb htb2
         go_cut [8] (fun av wx => av = .int .i64 A ∧ wx = wr)
         case first =>
          cases tb with
          | true =>
            have hb0 : 0 < j := of_decide_eq_true HTB.out
            have q1 := inc j (by omega)
            have HD : Hid ((j : Int) + 1 = (A : Int)) := hid (by have := HA.out; rw [if_pos hb0] at this; omega)
            clear hb0
            go_wp2
            go_meet
            exact ⟨by rw [← HD.out], rfl⟩
          | false =>
            have hb0 : ¬ 0 < j := of_decide_eq_false HTB.out
            have HD : Hid (0 = A) := hid (by have := HA.out; rw [if_neg hb0] at this; omega)
            clear hb0
            go_wp2
            go_meet
            exact ⟨by rw [← HD.out]; rfl, rfl⟩
         case rest =>
          obtain ⟨rfl, hwc⟩ := hcut
          subst hwc
          clear t1 t1'
          by_cases h256 : 256 < j
          · have t1 : decide ((256 : Int) < (j : Int)) = true := dcT (by omega)
            have t1' : decide (256 < j) = true := dcT h256
            have hA2 : A = j + 1 := by have := HA.out; rw [if_pos (by omega)] at this; omega
            have HF := hid (HF0.out 15 (A : Nat) wc (by have := HR1.out; rw [if_pos h256] at this; rw [hA2]; exact this.symm) HB.out)
            clear h256 hA2
            go_wp2
            (try simp only [Exit.inBlock, Exit.then]); refine bodyPost_ret (results_tmp3 rfl _ _ _) rfl ?_
            exact HF.out
          · have t1 : decide ((256 : Int) < (j : Int)) = false := dcF (by omega)
            have t1' : decide (256 < j) = false := dcF h256
            have HREL : Hid (RdcRel3 s w R (.slice (some ⟨g, 0, none⟩) j cap) (.int .i64 A) (.int .i64 128) (.int .i64 0) (.int .i64 72) (.bool true) wc) := hid (by
             have hr := HR1.out
             rw [if_neg h256] at hr
             refine ⟨_, rfl, rfl, rfl, rfl, rfl, ⟨?_, ⟨g, cap, ?_, ?_⟩, HB.out, HAL.out, ?_, by show 128 ≤ _; omega, Nat.zero_le _, by show 72 ≤ _; omega, hr⟩⟩
             · have := HO.out; simpa using this
             · simp
             · simpa using hcap
             · show ((List.range j).map (byteAt s)).length ≤ 256; simp; omega)
            clear h256
            go_wp2_with fail
            clear t1 t1'
            go_loopw [7, 8, 10, 11, 12, 13] (RdcRel3 s w R) (fun _ a _ _ _ _ _ => s.size - (intOf a).toNat)
            case atStart => exact HREL.out
            case round =>
             obtain ⟨d, rfl, rfl, rfl, rfl, rfl, hd⟩ := hrel
             have HDD := hid hd
             obtain ⟨g, lcap, rfl, hlc⟩ := hd.form
             have hle := hd.le; have hlen := hd.len; have hnle := hd.nle; have hpl := hd.place; have hbi := hd.bias
             have hr := hd.dec
             clear hd
             by_cases hlt : d.at_ < s.size
             · obtain ⟨t1, t1'⟩ := ltT d.at_ s.size hlt
               rw [decG_go hlt] at hr
               have RN := rnumber9_any s d.at_ d.bias wr (by omega) hle (by omega)
               obtain ⟨r, hrn⟩ : ∃ r, rnumS s d.bias d.at_ = r := ⟨_, rfl⟩
               rw [hrn] at RN hr
               have hto := fun x (e : r = .ok x) => rnumF_to s _ _ _ _ _ _ x (hrn.trans e)
               have hva := fun x (e : r = .ok x) => rnumF_val s _ _ _ _ _ _ x (hrn.trans e)
               have hno := fun k p (e : r = .no k p) => rnumF_no s _ _ _ _ _ _ k p (hrn.trans e)
               have HRH := hid hr
               have HTO := hid hto; have HNO := hid hno; have RN := hid RN; have HVA := hid hva
               clear hr hrn hto hno hva
               cases r with
               | no k p =>
                 have hk := HNO.out k p rfl
                 have t2 : ((k : Int) == 0) = false := by simp; omega
                 have t2' : (k = 0) = False := by simp; omega
                 have HF := hid (HF0.out k p wr HRH.out.symm HDD.out.below)
                 unfold RuV at RN
                 go_wp2_with fail
                 refine RN.out.mono ?_
                 rintro e w1 ⟨rfl, hw1⟩
                 have hw' := hw1.symm
                 subst hw'
                 clear hw1
                 go_wp2
                 (try simp only [Exit.inBlock, Exit.then]); refine bodyPost_ret (results_tmp3 rfl _ _ _) rfl ?_
                 exact HF.out
               | ok x =>
                 obtain ⟨i, tt⟩ := x
                 have hto := HTO.out (i, tt) rfl
                 dsimp only at hto
                 have hto2 := hto.2 hle
                 have hi : i ≤ 2147483647 := HVA.out (i, tt) rfl
                 have hrr := HRH.out
                 dsimp only at hrr
                 unfold RuV at RN
                 dsimp only at RN
                 obtain ⟨P, hP⟩ : ∃ P, d.place + i = P := ⟨_, rfl⟩
                 obtain ⟨M, hM⟩ : ∃ M, d.out.length + 1 = M := ⟨_, rfl⟩
                 rw [hP, hM] at hrr
                 obtain ⟨q, hq⟩ : ∃ q, P / M = q := ⟨_, rfl⟩
                 obtain ⟨m, hm⟩ : ∃ m, P % M = m := ⟨_, rfl⟩
                 rw [hq, hm] at hrr
                 obtain ⟨n2, hn2⟩ : ∃ n2, d.n + q = n2 := ⟨_, rfl⟩
                 rw [hn2] at hrr
                 have hqP : q ≤ P := by rw [← hq]; exact Nat.div_le_self _ _
                 have hmM : m < M := by rw [← hm]; exact Nat.mod_lt _ (by omega)
                 have p1 : IntKind.i64.wrap ((d.place : Int) + (i : Int)) = (P : Int) := by rw [show (d.place : Int) + (i : Int) = (P : Int) by omega]; exact i64n _ (by omega)
                 have p2 : IntKind.i64.wrap ((d.out.length : Int) + 1) = (M : Int) := by rw [show (d.out.length : Int) + 1 = (M : Int) by omega]; exact i64n _ (by omega)
                 have p3 : ((M : Int) == 0) = false := by simp; omega
                 have p3' : ((M : Int) = 0) = False := by simp; omega
                 have p3'' : (M = 0) = False := by simp; omega
                 have hqi : (P : Int).tdiv (M : Int) = (q : Int) := by rw [← hq]; exact (Int.ofNat_tdiv _ _).symm
                 have hmi : (P : Int).tmod (M : Int) = (m : Int) := by rw [← hm]; exact (Int.ofNat_tmod _ _).symm
                 have p4 : IntKind.i64.wrap (q : Int) = (q : Int) := i64n _ (by omega)
                 have p4' : IntKind.i64.wrap (m : Int) = (m : Int) := i64n _ (by omega)
                 have p5 : IntKind.i64.wrap ((d.n : Int) + (q : Int)) = (n2 : Int) := by rw [show (d.n : Int) + (q : Int) = (n2 : Int) by omega]; exact i64n _ (by omega)
                 have q1 : IntKind.i64.wrap ((tt : Int) - 1) = (tt : Int) - 1 := i64n _ (by omega)
                 have PR := rright_any (n2 : Int) wr
                 have HRR2 := hid hrr
                 have HNN : Hid (P = d.place + i ∧ M = d.out.length + 1 ∧ n2 = d.n + q ∧ d.at_ < tt) := hid ⟨by omega, by omega, by omega, hto.1⟩
                 obtain ⟨ri, hri⟩ : ∃ ri, rightN (n2 : Int) = ri := ⟨_, rfl⟩
                 rw [hri] at PR
                 have HRI := hid hri
                 have PR := hid PR
                 clear hrr hto hP hM hq hm hn2 hri
                 cases ri with
                 | false =>
                   have HF := hid (HF0.out 16 ((tt : Int) - 1) wr (by have := HRR2.out; rw [if_pos HRI.out] at this; exact this.symm) HDD.out.below)
                   go_wp2_with fail
                   refine RN.out.mono ?_
                   rintro e w1 ⟨rfl, hw1⟩
                   have hw' := hw1.symm
                   subst hw'
                   clear hw1
                   go_wp2_with fail
                   refine PR.out.mono ?_
                   rintro e w2 ⟨rfl, rfl⟩
                   go_wp2
                   (try simp only [Exit.inBlock, Exit.then]); refine bodyPost_ret (results_tmp3 rfl _ _ _) rfl ?_
                   exact HF.out
                 | true =>
                   have hn2r := (right_iff _).1 HRI.out
                   have hrr2 : (if 256 < M then Sc.no 15 ((tt : Int) - 1) else decG s ⟨tt, n2, m + 1, adaptN i M d.first, false, putAt d.out m n2⟩) = R := by
                    have := HRR2.out; rw [if_neg (by rw [HRI.out]; decide)] at this; exact this
                   by_cases h256 : 256 < M
                   · have HF := hid (HF0.out 15 ((tt : Int) - 1) wr (by rw [if_pos h256] at hrr2; exact hrr2.symm) HDD.out.below)
                     have t5 : decide ((256 : Int) < (M : Int)) = true := dcT (by omega)
                     have t5' : decide (256 < M) = true := dcT h256
                     clear hrr2 h256 hn2r
                     go_wp2_with fail
                     refine RN.out.mono ?_
                     rintro e w1 ⟨rfl, hw1⟩
                     have hw' := hw1.symm
                     subst hw'
                     clear hw1
                     go_wp2_with fail
                     refine PR.out.mono ?_
                     rintro e w2 ⟨rfl, rfl⟩
                     go_wp2
                     (try simp only [Exit.inBlock, Exit.then]); refine bodyPost_ret (results_tmp3 rfl _ _ _) rfl ?_
                     exact HF.out
                   · have HR3 := hid (show decG s ⟨tt, n2, m + 1, adaptN i M d.first, false, putAt d.out m n2⟩ = R by rw [if_neg h256] at hrr2; exact hrr2)
                     have t5 : decide ((256 : Int) < (M : Int)) = false := dcF (by omega)
                     have t5' : decide (256 < M) = false := dcF h256
                     have q2 := inc m (by omega)
                     have AD := hid (fun W => radapt_any i M d.first W (by omega) (by omega) (by omega))
                     have hade := adaptN_le i M d.first
                     have H256 := hid h256
                     obtain ⟨N1, hN1⟩ : ∃ N, d.out.length = N := ⟨_, rfl⟩
                     have HN1 := hid hN1
                     rw [hN1] at hlc hlen hpl p2 ⊢
                     have hMN : M ≤ N1 + 1 := by have := HNN.out; omega
                     have HNM := hid (show N1 < M by have := HNN.out; omega)
                     have s1 := row_low g N1 lcap m (by omega)
                     obtain ⟨ao2, s2, hao2, hao3⟩ := row_high g N1 lcap m (by omega) hlc
                     have HA2 := hid hao2; have HA3 := hid hao3
                     have hgl : g < wr.heap.size := (HDD.out.own.lt g rfl).2
                     have HO : Hid (wr.ownsRow w.heap.size 3 1 (.slice (some ⟨g, 0, none⟩) N1 lcap) d.out.length (intsV d.out)) := hid (by have := HDD.out.own; rw [hN1] at this ⊢; exact this)
                     obtain ⟨A, hA⟩ : ∃ A, adaptN i M d.first = A := ⟨_, rfl⟩
                     rw [hA] at AD hade HR3
                     have hzc : (intsV (d.out.take m)).length = m := by unfold intsV; rw [List.length_map, List.length_take]; omega
                     have hzd : (intsV (d.out.drop m)).length = N1 - m := by unfold intsV; rw [List.length_map, List.length_drop]; omega
                     have HZC := hid hzc; have HZD := hid hzd
                     clear hrr2 h256 hA hao2 hao3 hzc hzd hN1
                     go_wp2_with fail
                     refine RN.out.mono ?_
                     rintro e w1 ⟨rfl, hw1⟩
                     have hw' := hw1.symm
                     subst hw'
                     clear hw1
                     go_wp2_with fail
                     refine PR.out.mono ?_
                     rintro e w2 ⟨rfl, rfl⟩
                     go_wp2_with (at_builtin; refine wpList_app (wr.alloc (.cells #[] 3)) rfl _ _ 144 rfl wr.heap.size elInt _ _ _ rfl (own_empty wr 3) _ m lcap (intsV (d.out.take m)) rfl ?c1 ?c2 ?c3 ?c4 ?c5 ?c6 ?c7 ?_)
                     case c1 => rw [HZC.out]; omega
                     case c2 => nofun
                     case c3 => exact fun _ => ⟨_, _, rfl, fun j u hu => by
                      have hj : j < m := by have := (List.getElem?_eq_some_iff.1 hu).1; rw [HZC.out] at this; exact this
                      have := row_cellO (HO.out.alloc (.cells #[] 3)) (p := 0) (q := j) (u := u) (by
                       rw [List.drop_zero]
                       unfold intsV at hu ⊢
                       rw [List.getElem?_map, List.getElem?_take, if_pos hj] at hu
                       rw [List.getElem?_map]; exact hu)
                      exact this⟩
                     case c4 => intro u hu; unfold intsV at hu; obtain ⟨x, _, rfl⟩ := List.mem_map.1 hu; rfl
                     case c5 => unfold maxLen; omega
                     case c6 => omega
                     case c7 => simp
                     intro v1 w1 ho1 hg1
                     have hb1 : Below wr.heap.size wr w1 := (ext_alloc (Below.refl _ _) _).grown hg1 (by simp) (fun k hk => by cases hk; exact Nat.le_refl _)
                     have ho1 : w1.ownsRow wr.heap.size 3 1 v1 m (intsV (d.out.take m)) := by first | exact ho1 | simpa using ho1
                     have HO1 := hid ho1; have HB1 := hid hb1
                     obtain ⟨a1, c1, rfl, _⟩ := aown_form ho1
                     clear ho1 hg1 hb1
                     go_wp2_with (at_builtin; refine wpList_app1 w1 #[.int .i64 n2] 3 rfl _ _ 144 rfl wr.heap.size elInt _ _ _ rfl HO1.out rfl rfl ?c1 ?c2 ?c3 ?c4 ?_)
                     case c1 => first | rfl | (intro u hu; simp at hu; subst hu; rfl)
                     case c2 => unfold maxLen; omega
                     case c3 => omega
                     case c4 => exact HB1.out.size
                     intro v2 w2 ho2 hg2
                     have hb2 : Below wr.heap.size wr w2 := (ext_alloc HB1.out _).grown hg2 (ext_alloc HB1.out _).size (fun k hk => (HO1.out.lt k hk).1)
                     have HO2 := hid ho2; have HB2 := hid hb2
                     obtain ⟨a2, c2, rfl, _⟩ := aown_form ho2
                     clear ho2 hg2 hb2
                     go_wp2_with (at_builtin; refine wpList_app w2 rfl _ _ 144 rfl wr.heap.size elInt _ _ _ rfl HO2.out ao2 (N1 - m) (lcap - m) (intsV (d.out.drop m)) rfl ?c1 ?c2 ?c3 ?c4 ?c5 ?c6 ?c7 ?_)
                     case c1 => rw [HZD.out]; omega
                     case c2 => exact fun h => absurd h HA2.out
                     case c3 => exact fun h => ⟨g, m, HA3.out (by rw [HZD.out] at h; exact h), fun j u hu => (bcell1 HB2.out hgl _).trans (row_cellO HO.out hu)⟩
                     case c4 => intro u hu; unfold intsV at hu; obtain ⟨x, _, rfl⟩ := List.mem_map.1 hu; rfl
                     case c5 => unfold maxLen; omega
                     case c6 => omega
                     case c7 => exact HB2.out.size
                     intro v3 w3 ho3 hg3
                     have hb3 : Below wr.heap.size wr w3 := HB2.out.grown hg3 HB2.out.size (fun k hk => (HO2.out.lt k hk).1)
                     have hpz : (putAt d.out m n2).length = N1 + 1 := by rw [putAt_len (by rw [HN1.out]; omega), HN1.out]
                     rw [putAt_cells, show m + 1 + (N1 - m) = N1 + 1 by omega] at ho3
                     obtain ⟨g3, c3, rfl, hc3⟩ := own_pos ho3 (by omega)
                     have HRL : Hid (RdcRel3 s w R (.slice (some ⟨g3, 0, none⟩) (N1 + 1) c3) (.int .i64 tt) (.int .i64 n2) (.int .i64 ((m : Int) + 1)) (.int .i64 A) (.bool false) w3) := hid (by
                      refine ⟨⟨tt, n2, m + 1, A, false, putAt d.out m n2⟩, rfl, rfl, by go_num, rfl, rfl, ⟨?_, ⟨g3, c3, ?_, ?_⟩, HDD.out.below.trans (hb3.mono HDD.out.below.size), hto2, by show (putAt d.out m n2).length ≤ 256; have := H256.out; have := HNM.out; omega, by show n2 ≤ _; omega, by show m + 1 ≤ (putAt d.out m n2).length; omega, by show A ≤ _; omega, HR3.out⟩⟩
                      · show w3.ownsRow _ _ _ _ (putAt d.out m n2).length _
                        rw [hpz]
                        exact aown_ext ho3 (fun _ _ => rfl) HDD.out.below.size
                      · show _ = Value.slice _ (putAt d.out m n2).length _
                        rw [hpz]
                      · show (putAt d.out m n2).length ≤ c3
                        rw [hpz]; exact hc3)
                     have HLS : Hid (d.at_ < tt) := hid HNN.out.2.2.2
                     clear ho3 hg3 hb3 hc3 hpz
                     go_wp2_with fail
                     refine (AD.out _).mono ?_
                     rintro e w5 ⟨rfl, hw5⟩
                     have hw5' := hw5.symm
                     subst hw5'
                     clear hw5
                     go_wp2
                     refine ⟨?_, by have := HLS.out; simp [intOf]; omega⟩
                     first | exact HRL.out | ((repeat apply Exists.intro); exact ⟨HRL.out, rfl⟩)
             · obtain ⟨t1, t1'⟩ := ltF d.at_ s.size hlt
               rw [decG_end (by omega)] at hr
               have HF : Hid (Q (.returned (.tuple #[.slice (some ⟨g, 0, none⟩) d.out.length lcap, .int .i64 0, .int .i64 0])) wr) := hid (by
                rw [← HQ.out, ← hr]
                exact ⟨HDD.out.below, _, HDD.out.own, rfl⟩)
               clear hr hlt
               go_wp2
               (try simp only [Exit.inBlock, Exit.then]); refine bodyPost_ret (results_tmp3 rfl _ _ _) rfl ?_
               exact HF.out
end
section
open Go.RowKit
theorem decF_right (s : ByteArray) : ∀ (f : Nat) (d : DSt) (r : List Nat), AllRight d.out → decF s f d = .ok r → AllRight r
 | 0, d, r, h1, h => by rw [decF] at h; rw [← Sc.ok.inj h]; exact h1
 | f + 1, d, r, h1, h => by
   rw [decF] at h
   split at h
   · rw [← Sc.ok.inj h]; exact h1
   · split at h
     · cases h
     · split at h
       · cases h
       · rename_i hr
         split at h
         · cases h
         · refine decF_right s f _ r (fun c hc => ?_) h
           rcases putAt_mem hc with hc | hc
           · exact h1 c hc
           · rw [Bool.not_eq_false] at hr
             rw [hc]; exact hr
theorem decF_no (s : ByteArray) : ∀ (f : Nat) (d : DSt) (k : Nat) (p : Int), decF s f d = .no k p → 10 ≤ k
 | 0, d, k, p, h => by rw [decF] at h; cases h
 | f + 1, d, k, p, h => by
   rw [decF] at h
   split at h
   · cases h
   · split at h
     · rename_i hr
       injection h with h1 h2
       subst h1
       exact rnumF_no _ _ _ _ _ _ _ _ _ hr
     · split at h
       · injection h with h1 h2; omega
       · split at h
         · injection h with h1 h2; omega
         · exact decF_no s f _ k p h
theorem pdecS_right {s : ByteArray} {r : List Nat} (h : pdecS s = .ok r) : AllRight r := by
 unfold pdecS at h
 split at h
 · cases h
 · split at h
   · cases h
   · rename_i hf
     split at h
     · cases h
     · refine decF_right s _ _ r (fun c hc => ?_) h
       obtain ⟨i, hi, rfl⟩ := List.mem_map.1 hc
       have := find_none hf i (List.mem_range.1 hi)
       simp at this
       exact (right_iff _).2 (by omega)
theorem pdecS_no {s : ByteArray} {k : Nat} {p : Int} (h : pdecS s = .no k p) : 10 ≤ k := by
 unfold pdecS at h
 split at h
 · injection h with h1 h2; omega
 · split at h
   · injection h with h1 h2; omega
   · split at h
     · injection h with h1 h2; omega
     · exact decF_no s _ _ k p h
theorem decode_short {b : List Nat} (h : b.length < 5) : decodeN b = none := by
 unfold decodeN
 split
 · rw [List.drop_of_length_le (by omega)]; rfl
 · rfl
def RcdPost (w : World) (r : Option (List Nat)) (e : Ending) (w' : World) : Prop := Below w.heap.size w w' ∧ match r with
 | some cs => ∃ v, Rd (Own w') w' v (intsD cs) ∧ e = .returned (.tuple #[v, .bool true])
 | none => ∃ v, e = .returned (.tuple #[v, .bool false])
def RcdRel (cs : List Nat) (W : World) (wv kv : Value) (wr : World) : Prop := ∃ j : Nat, kv = .int .i64 j ∧ j ≤ cs.length ∧ wv = .bool ((cs.take j).any fun c => decide (128 ≤ c)) ∧ (∀ i, i < j → ∀ x, cs[i]? = some x → okN x = true) ∧ wr = W
theorem rcoded_any (s : ByteArray) (w : World) (hs : s.size ≤ 1000000) : Calls Tryz.prog 125 #[.string s] w (RcdPost w (decodeN (bytesN s))) := by
 obtain ⟨R, hR⟩ : ∃ R, decodeN (bytesN s) = R := ⟨_, rfl⟩
 rw [hR]
 obtain ⟨Q, hQ⟩ : ∃ Q : Ending → World → Prop, RcdPost w R = Q := ⟨_, rfl⟩
 have HNO : Hid (∀ v W, Below w.heap.size w W → R = none → Q (.returned (.tuple #[v, .bool false])) W) := hid (fun v W hb h => by rw [← hQ, h]; exact ⟨hb, v, rfl⟩)
 have HYES : Hid (∀ v W cs, Below w.heap.size w W → R = some cs → Rd (Own W) W v (intsD cs) → Q (.returned (.tuple #[v, .bool true])) W) := hid (fun v W cs hb h hrd => by rw [← hQ, h]; exact ⟨hb, v, hrd, rfl⟩)
 rw [hQ]
 clear hQ
 by_cases h5 : s.size < 5
 · have t1 : decide ((s.size : Int) < 5) = true := dcT (by omega)
   have t1' : decide (s.size < 5) = true := dcT h5
   have HF := hid (HNO.out · · · (by rw [← hR, decode_short (by rw [bytesN_len]; exact h5)]))
   clear hR h5 hs
   go_enter Tryz.func125, Tryz.ntmps125
   go_wp2
   exact HF.out _ _ (ext_alloc (Below.refl _ _) _)
 · have t1 : decide ((s.size : Int) < 5) = false := dcF (by omega)
   have t1' : decide (s.size < 5) = false := dcF h5
   obtain ⟨P, hP⟩ : ∃ P, s.extract 0 4 = P := ⟨_, rfl⟩
   have sl : ∀ W, (Instr.slice 9 (.string s) none (some (.int .i64 4)) none).run Tryz.prog W = .ok (.string P) W := fun W => sl_to s 4 (by omega) P hP W
   have hPN : bytesN P = (bytesN s).take 4 := by rw [← hP, bytesN_extract]; rfl
   have hlit : (⟨#[120, 110, 45, 45]⟩ : ByteArray).toList = [120, 110, 45, 45] := by rw [ByteArray.toList_eq]
   by_cases hx : (bytesN s).take 4 = xnL
   · have hPe : P = ⟨#[120, 110, 45, 45]⟩ := by
       apply bytesN_inj
       rw [hPN, hx]; rfl
     have t2 : (P.toList == [120, 110, 45, 45]) = true := by rw [← hlit]; exact beqS_t hPe
     obtain ⟨B, hB⟩ : ∃ B, s.extract 4 s.size = B := ⟨_, rfl⟩
     have sl2 : ∀ W, (Instr.slice 9 (.string s) (some (.int .i64 4)) none none).run Tryz.prog W = .ok (.string B) W := fun W => sl_from s 4 (by omega) B hB W
     have hBL : bytesL ((bytesN s).drop 4) = B := by
      rw [← hB, extract_bytesL, List.take_of_length_le (by rw [List.length_drop, bytesN_len]; omega)]
     have hBz : B.size ≤ 1000000 := by rw [← hB]; simp; omega
     have hRR : (match pdecS B with
      | .ok cs => if decOk ((bytesN s).drop 4) cs = true then some cs else none
      | .no _ _ => none) = R := by
      rw [← hR]; unfold decodeN; rw [if_pos hx, hBL]; rfl
     have PD := hid (rdecode9_any B w hBz)
     clear hPN hPe hP hlit hx hB h5 hR
     cases hr : pdecS B with
     | no k p =>
       have hk := pdecS_no hr
       have t3 : ((k : Int) == 0) = false := by simp; omega
       have t3' : (k = 0) = False := by simp; omega
       rw [hr] at hRR PD
       have HF := hid (HNO.out · · · hRR.symm)
       clear hRR hr hBL hBz hs hk
       go_enter Tryz.func125, Tryz.ntmps125
       go_wp2_with fail
       refine PD.out.mono ?_
       rintro e w1 ⟨hb, v, ho, rfl⟩
       have hrd : Rd (Own w1) w1 v (intsD []) := rd_intsO ho
       obtain ⟨a, c, rfl, _, _, _⟩ := hrd.nats_inv
       have EN := hid (rencode9_any _ [] w1 hrd nofun (by decide))
       have HB := hid hb
       clear hb ho hrd
       rw [show scK (Sc.no k p : Sc (List Nat)) = k from rfl, show scP (Sc.no k p : Sc (List Nat)) = p from rfl]
       go_wp2_with fail
       refine EN.out.mono ?_
       rintro e w2 ⟨rfl, hb2⟩
       have HB2 := hid (xT HB.out hb2)
       clear hb2
       unfold RnV
       rw [if_neg (by decide)]
       go_wp2
       exact HF.out _ _ (ext_alloc HB2.out _)
     | ok cs =>
       have HR := hid (pdecS_right hr)
       have hlen := (pdecS_ok hr).2
       rw [hr] at hRR PD
       obtain ⟨body, hbody⟩ : ∃ body, (bytesN s).drop 4 = body := ⟨_, rfl⟩
       have hRR' : (if decOk body cs = true then some cs else none) = R := by rw [← hbody]; exact hRR
       have HRR := hid hRR'
       have HB0 : Hid (bytesL body = B ∧ ByteL body) := hid ⟨by rw [← hbody]; exact hBL, by rw [← hbody]; exact fun x hx => bytesN_lt s x (List.mem_of_mem_drop hx)⟩
       have HNF : Hid (∀ v W, Below w.heap.size w W → decOk body cs = false → Q (.returned (.tuple #[v, .bool false])) W) := hid (fun v W hb h => HNO.out v W hb (by rw [← HRR.out, h]; rfl))
       have HYF : Hid (∀ v W, Below w.heap.size w W → decOk body cs = true → Rd (Own W) W v (intsD cs) → Q (.returned (.tuple #[v, .bool true])) W) := hid (fun v W hb h hrd => HYES.out v W cs hb (by rw [← HRR.out, if_pos h]) hrd)
       clear hRR hRR' hr hBL hBz hbody
       go_enter Tryz.func125, Tryz.ntmps125
       go_wp2_with fail
       refine PD.out.mono ?_
       rintro e w1 ⟨hb, v, ho, rfl⟩
       have hrd : Rd (Own w1) w1 v (intsD cs) := rd_intsO ho
       have HRD := hid hrd
       obtain ⟨a, c, rfl, _, hcap, hx⟩ := hrd.nats_inv
       have EN := hid (rencode9_any _ cs w1 hrd HR.out (by omega))
       have HB := hid hb; have HX := hid hx
       obtain ⟨n0, hn0⟩ : ∃ n, cs.length = n := ⟨_, rfl⟩
       have HN := hid hn0
       rw [hn0] at hcap hlen EN ⊢
       clear hb ho hrd hx hn0
       rw [show scK (Sc.ok cs : Sc (List Nat)) = 0 from rfl, show scP (Sc.ok cs : Sc (List Nat)) = 0 from rfl]
       go_wp2_with fail
       refine EN.out.mono ?_
       rintro e w2 ⟨rfl, hb2⟩
       have HB2 := hid (xT HB.out hb2)
       have HRD2 := hid (HRD.out.ext hb2)
       have HC : Hid (∀ (j x : Nat), cs[j]? = some x → ∃ b1 o1, a = some ⟨b1, o1, none⟩ ∧ w2.cell? ⟨b1, o1 + j, none⟩ = some (.int .i64 (x : Int))) := hid (fun j x hj => by
        obtain ⟨hj1, hj2⟩ := List.getElem?_eq_some_iff.1 hj
        obtain ⟨b1, o1, rfl, hb1, hc1⟩ := HX.out (by omega)
        refine ⟨b1, o1, rfl, ?_⟩
        have := hc1 j hj1
        rw [hj2] at this
        exact (bcell1 hb2 hb1 _).trans this)
       clear hb2
       unfold RnV
       rw [HN.out, if_neg (by omega)]
       obtain ⟨E, hE⟩ : ∃ E, bytesL (encL cs) = E := ⟨_, rfl⟩
       rw [hE]
       by_cases hnil : n0 = 0
       · subst hnil
         have HF := hid (HNF.out · · · (by
          have : cs = [] := List.eq_nil_of_length_eq_zero HN.out
          rw [this]; rfl))
         clear hE
         go_wp2
         exact HF.out _ _ (ext_alloc HB2.out _)
       · have t4 : ((n0 : Int) == 0) = false := by simp; omega
         have t4' : (n0 = 0) = False := by simp [hnil]
         by_cases heq : encL cs = body
         · have hEB : E = B := by rw [← hE, heq]; exact HB0.out.1
           subst hEB
           have t5 : (E.toList == E.toList) = true := beqS_t rfl
           obtain ⟨m, hm⟩ : ∃ m, n0 = m + 1 := ⟨n0 - 1, by omega⟩
           have um : m < n0 := by omega
           have u0 : 0 < n0 := by omega
           obtain ⟨x0, hx0⟩ := get_ex cs 0 (by rw [HN.out]; omega)
           obtain ⟨xl, hxl⟩ := get_ex cs m (by rw [HN.out]; omega)
           obtain ⟨b1, o1, rfl, c0⟩ := HC.out 0 x0 hx0
           obtain ⟨_, _, e2, cl⟩ := HC.out m xl hxl
           cases e2
           rw [Nat.add_zero] at c0
           have k1 : IntKind.i64.wrap ((n0 : Int) - 1) = (m : Int) := by rw [show (n0 : Int) - 1 = (m : Int) by omega]; exact i64n _ (by omega)
           have HLN : Hid (lastN cs = xl) := hid (by
            unfold lastN
            rw [List.getLast?_eq_getElem?, HN.out, hm, Nat.add_sub_cancel, hxl]; rfl)
           have HMK : Hid (marksN cs = (decide (x0 ≠ 45) && (decide (xl ≠ 45) && decide (n0 < 4 ∨ cs[2]?.getD 0 ≠ 45 ∨ cs[3]?.getD 0 ≠ 45)))) := hid (by
            unfold marksN
            rw [HLN.out, hx0, HN.out, Option.getD_some]
            have : cs ≠ [] := fun h => by rw [h] at hx0; cases hx0
            simp [this, Bool.decide_and])
           have HDO : Hid (marksN cs = false → decOk body cs = false) := hid (fun h => by unfold decOk; rw [h, Bool.and_false, Bool.and_false])
           have HEQ := hid heq
           have HM := hid hm
           clear hE hx0 hxl heq hnil hm
           by_cases h1 : x0 = 45
           · subst h1
             have HF := hid (HNF.out · · · (HDO.out (by rw [HMK.out]; simp)))
             go_wp2
             exact HF.out _ _ (ext_alloc HB2.out _)
           · have t6 : ((x0 : Int) == 45) = false := by simp; omega
             have t6' : (x0 = 45) = False := by simp [h1]
             by_cases h2 : xl = 45
             · subst h2
               have HF := hid (HNF.out · · · (HDO.out (by rw [HMK.out]; simp)))
               clear h1
               go_wp2
               exact HF.out _ _ (ext_alloc HB2.out _)
             · have t7 : ((xl : Int) == 45) = false := by simp; omega
               have t7' : (xl = 45) = False := by simp [h2]
               have hcase : (marksN cs = false ∧ decide ((3 : Int) < (n0 : Int)) = true ∧ 2 < n0 ∧ 3 < n0 ∧ w2.cell? ⟨b1, o1 + 2, none⟩ = some (.int .i64 45) ∧ w2.cell? ⟨b1, o1 + 3, none⟩ = some (.int .i64 45)) ∨
                   (marksN cs = true ∧ decide ((3 : Int) < (n0 : Int)) = false) ∨
                   (marksN cs = true ∧ decide ((3 : Int) < (n0 : Int)) = true ∧ 2 < n0 ∧ ∃ x2 : Nat, w2.cell? ⟨b1, o1 + 2, none⟩ = some (.int .i64 (x2 : Int)) ∧ ((x2 : Int) == 45) = false ∧ (x2 = 45) = False) ∨
                   (marksN cs = true ∧ decide ((3 : Int) < (n0 : Int)) = true ∧ 2 < n0 ∧ 3 < n0 ∧ w2.cell? ⟨b1, o1 + 2, none⟩ = some (.int .i64 45) ∧ ∃ x2 : Nat, w2.cell? ⟨b1, o1 + 3, none⟩ = some (.int .i64 (x2 : Int)) ∧ ((x2 : Int) == 45) = false ∧ (x2 = 45) = False) := by
                rw [HMK.out, dcT h1, dcT h2, Bool.true_and, Bool.true_and]
                by_cases h3 : 3 < n0
                · have g1 : decide ((3 : Int) < (n0 : Int)) = true := dcT (by omega)
                  have g2 : 2 < n0 := by omega
                  have g3 : 3 < n0 := h3
                  obtain ⟨y2, hy2⟩ := get_ex cs 2 (by rw [HN.out]; omega)
                  obtain ⟨y3, hy3⟩ := get_ex cs 3 (by rw [HN.out]; omega)
                  obtain ⟨_, _, e2, c2⟩ := HC.out 2 y2 hy2
                  cases e2
                  obtain ⟨_, _, e2, c3⟩ := HC.out 3 y3 hy3
                  cases e2
                  rw [hy2, hy3, Option.getD_some, Option.getD_some]
                  by_cases h4 : y2 = 45
                  · subst h4
                    by_cases h5 : y3 = 45
                    · subst h5
                      exact .inl ⟨dcF (by omega), g1, g2, g3, c2, c3⟩
                    · exact .inr (.inr (.inr ⟨dcT (.inr (.inr h5)), g1, g2, g3, c2, y3, c3, by simp; omega, by simp [h5]⟩))
                  · exact .inr (.inr (.inl ⟨dcT (.inr (.inl h4)), g1, g2, y2, c2, by simp; omega, by simp [h4]⟩))
                · exact .inr (.inl ⟨dcT (.inl (by omega)), dcF (by omega)⟩)
               have HQ0 : Hid (∀ tw, (cs.all okN) = true → (cs.any fun c => decide (128 ≤ c)) = tw → marksN cs = true → decOk body cs = tw) := hid (fun tw ha hw hk => by
                unfold decOk
                rw [ha, hw, hk, dcT HEQ.out]; simp)
               rcases hcase with ⟨HM0, g1, g2, g3, c2, c3⟩ | ⟨HM0, g1⟩ | ⟨HM0, g1, g2, x2, c2, g4, g5⟩ | ⟨HM0, g1, g2, g3, c2, x2, c3, g4, g5⟩
               · have HF := hid (HNF.out · · · (HDO.out HM0))
                 clear HM0 h1 h2
                 go_wp2
                 exact HF.out _ _ (ext_alloc HB2.out _)
               all_goals
                have HM1 := hid HM0
                clear HM0 h1 h2
                go_wp2_with fail
                clear c0 cl
                go_loopw [10, 11] (RcdRel cs w2) (fun _ k _ => n0 - (intOf k).toNat)
                case atStart => exact ⟨0, rfl, Nat.zero_le _, rfl, fun i hi => by omega, rfl⟩
                case round =>
                 obtain ⟨j, rfl, hj, rfl, hok, hwr⟩ := hrel
                 subst hwr
                 rw [HN.out] at hj
                 have HOK := hid hok
                 obtain ⟨tw, htw⟩ : ∃ tw, ((cs.take j).any fun c => decide (128 ≤ c)) = tw := ⟨_, rfl⟩
                 have HTW := hid htw
                 rw [htw]
                 clear hok htw
                 by_cases hlt : j < n0
                 · obtain ⟨r1, r1'⟩ := ltT j n0 hlt
                   have q1 := inc j (by omega)
                   obtain ⟨x, hx⟩ := get_ex cs j (by rw [HN.out]; exact hlt)
                   obtain ⟨_, _, e2, c9⟩ := HC.out j x hx
                   cases e2
                   have SM := hid (rsmall_any x wr)
                   have CH := hid (rchar_any x wr)
                   have HBAD : Hid (okN x = false → decOk body cs = false) := hid (fun h => by
                    unfold decOk
                    have : (cs.all okN) = false := by
                     rw [List.all_eq_false]
                     exact ⟨x, List.mem_of_getElem? hx, by rw [h]; decide⟩
                    rw [this]; rfl)
                   have HNXT : Hid (∀ tv, okN x = true → (tw || decide (128 ≤ x)) = tv → RcdRel cs wr (.bool tv) (.int .i64 ((j : Int) + 1)) wr) := hid (fun tv hok htv => ⟨j + 1, by go_num, by rw [HN.out]; exact hlt, by rw [any_snoc cs j x hx, HTW.out, htv], fun i hi y hy => by
                    by_cases e : i = j
                    · subst e; rw [hx] at hy; cases hy; exact hok
                    · exact HOK.out i (by omega) y hy, rfl⟩)
                   have HLT := hid hlt
                   clear hx hlt
                   by_cases hx8 : x < 128
                   · have t8 : decide ((x : Int) < 128) = true := dcT (by omega)
                     have t8' : decide (x < 128) = true := dcT hx8
                     have t9 : decide ((127 : Int) < (x : Int)) = false := dcF (by omega)
                     have t9' : decide (127 < x) = false := dcF (by omega)
                     have t10 : decide ((128 : Int) ≤ (x : Int)) = false := dcF (by omega)
                     have t10' : decide (128 ≤ x) = false := dcF (by omega)
                     cases hl : lcN x with
                     | true =>
                       rw [hl] at SM
                       have HRL := hid (HNXT.out tw (by unfold okN; rw [hl]; rfl) (by rw [t10', Bool.or_false]))
                       clear hl hx8
                       cases tw with
                       | true =>
                         go_wp2_with fail
                         refine SM.out.mono ?_
                         rintro e w3 ⟨rfl, hw3⟩
                         have hw3' := hw3.symm
                         subst hw3'
                         clear hw3
                         go_wp2
                         refine ⟨?_, by have := HLT.out; simp [intOf]; omega⟩
                         first | exact HRL.out | ((repeat apply Exists.intro); exact ⟨HRL.out, rfl⟩)
                       | false =>
                         go_wp2_with fail
                         refine SM.out.mono ?_
                         rintro e w3 ⟨rfl, hw3⟩
                         have hw3' := hw3.symm
                         subst hw3'
                         clear hw3
                         go_wp2
                         refine ⟨?_, by have := HLT.out; simp [intOf]; omega⟩
                         first | exact HRL.out | ((repeat apply Exists.intro); exact ⟨HRL.out, rfl⟩)
                     | false =>
                       rw [hl] at SM
                       have HF := hid (HNF.out · · · (HBAD.out (by
                        unfold okN; rw [hl, Bool.false_or]
                        cases hc : charN x with
                        | false => rfl
                        | true => have := char_ge hc; omega)))
                       clear hl hx8
                       go_wp2_with fail
                       refine SM.out.mono ?_
                       rintro e w3 ⟨rfl, hw3⟩
                       have hw3' := hw3.symm
                       subst hw3'
                       clear hw3
                       go_wp2
                       exact HF.out _ _ (ext_alloc HB2.out _)
                   · have t8 : decide ((x : Int) < 128) = false := dcF (by omega)
                     have t8' : decide (x < 128) = false := dcF hx8
                     have t9 : decide ((127 : Int) < (x : Int)) = true := dcT (by omega)
                     have t9' : decide (127 < x) = true := dcT (by omega)
                     have t10 : decide ((128 : Int) ≤ (x : Int)) = true := dcT (by omega)
                     have t10' : decide (128 ≤ x) = true := dcT (by omega)
                     cases hl : charN x with
                     | true =>
                       rw [hl] at CH
                       have HRL := hid (HNXT.out true (by unfold okN; rw [hl, Bool.or_true]) (by rw [t10', Bool.or_true]))
                       clear hl hx8
                       cases tw with
                       | true =>
                         go_wp2_with fail
                         refine CH.out.mono ?_
                         rintro e w3 ⟨rfl, hw3⟩
                         have hw3' := hw3.symm
                         subst hw3'
                         clear hw3
                         go_wp2
                         refine ⟨?_, by have := HLT.out; simp [intOf]; omega⟩
                         first | exact HRL.out | ((repeat apply Exists.intro); exact ⟨HRL.out, rfl⟩)
                       | false =>
                         go_wp2_with fail
                         refine CH.out.mono ?_
                         rintro e w3 ⟨rfl, hw3⟩
                         have hw3' := hw3.symm
                         subst hw3'
                         clear hw3
                         go_wp2
                         refine ⟨?_, by have := HLT.out; simp [intOf]; omega⟩
                         first | exact HRL.out | ((repeat apply Exists.intro); exact ⟨HRL.out, rfl⟩)
                     | false =>
                       rw [hl] at CH
                       have HF := hid (HNF.out · · · (HBAD.out (by
                        unfold okN; rw [hl, Bool.or_false]
                        cases hc : lcN x with
                        | false => rfl
                        | true => have := small_lt hc; omega)))
                       clear hl hx8
                       go_wp2_with fail
                       refine CH.out.mono ?_
                       rintro e w3 ⟨rfl, hw3⟩
                       have hw3' := hw3.symm
                       subst hw3'
                       clear hw3
                       go_wp2
                       exact HF.out _ _ (ext_alloc HB2.out _)
                 · obtain ⟨r1, r1'⟩ := ltF j n0 hlt
                   have hjn : cs.take j = cs := List.take_of_length_le (by rw [HN.out]; omega)
                   have hall : (cs.all okN) = true := by
                    rw [List.all_eq_true]
                    intro y hy
                    obtain ⟨i, hi, rfl⟩ := List.mem_iff_getElem.1 hy
                    rw [HN.out] at hi
                    exact HOK.out i (by omega) _ (List.getElem?_eq_getElem _)
                   have hdo := HQ0.out tw hall (by rw [← HTW.out, hjn]) HM1.out
                   cases tw with
                   | true =>
                     have HF := hid (HYF.out _ wr HB2.out hdo (by have := HRD2.out; rw [HN.out] at this; exact this))
                     clear hlt hj hjn hall hdo
                     go_wp2
                     exact HF.out
                   | false =>
                     have HF := hid (HNF.out · · · hdo)
                     clear hlt hj hjn hall hdo
                     go_wp2
                     exact HF.out _ _ HB2.out
         · have hEB : E ≠ B := fun h => heq (bytesL_inj (fun x hx => by have := encL_lt cs x hx; omega) HB0.out.2 (by rw [hE, h, HB0.out.1]))
           have t5 : (E.toList == B.toList) = false := beqS_f hEB
           have HF := hid (HNF.out · · · (by unfold decOk; rw [dcF heq, Bool.false_and, Bool.and_false]))
           clear hE heq hEB hnil
           go_wp2
           exact HF.out _ _ (ext_alloc HB2.out _)
   · have hPe : P ≠ ⟨#[120, 110, 45, 45]⟩ := fun h => by
       rw [h] at hPN
       exact hx hPN.symm
     have t2 : (P.toList == [120, 110, 45, 45]) = false := by rw [← hlit]; exact beqS_f hPe
     have HF := hid (HNO.out · · · (by rw [← hR]; unfold decodeN; rw [if_neg hx]))
     clear hPN hPe hP hlit hx h5 hR hs
     go_enter Tryz.func125, Tryz.ntmps125
     go_wp2
     exact HF.out _ _ (ext_alloc (Below.refl _ _) _)
end
end Go.Proofs.YtbeodjipdpcaiaaGreatDoor
