/- Texts put together. -/
import Derived.Test.YtbeodjipdpcaiaaGreatDoorYUrw5
import Derived.Test.YtbeodjipdpcaiaaGreatDoorYHsw1s
import Derived.Test.YtbeodjipdpcaiaaGreatDoorYDec3s
namespace Go.Proofs.YtbeodjipdpcaiaaGreatDoor
open Go.RowKit
theorem url_info : (Tryz.prog.info? 50).map (·.size) = some 9 := by kernel_rfl
theorem ur_load (s : ByteArray) (k : Int) (t : ByteArray) (p : Int) (pa q f : ByteArray) (hq hf : Bool) (b : Nat) (w : World) (h : w.heap[b]? = some (.cells (urlA s k t p pa q f hq hf) 50 (0, 0))) : (loadVar 50 ⟨b, 0, none⟩).run Tryz.prog w = .ok (.agg (urlA s k t p pa q f hq hf)) w :=
 run_loadVar_row _ _ 50 50 _ (0, 0) _ h Tryz.underlying50 rfl url_info
theorem ur_store (s : ByteArray) (k : Int) (t : ByteArray) (p : Int) (pa q f : ByteArray) (hq hf : Bool) (cs : Array Value) (hc : cs.size = 9) (b : Nat) (w : World) (h : w.heap[b]? = some (.cells cs 50 (0, 0))) : (storeVar 50 ⟨b, 0, none⟩ (.agg (urlA s k t p pa q f hq hf))).run Tryz.prog w = .ok () (w.setRow b (urlA s k t p pa q f hq hf)) :=
 run_storeVar_row (P := Tryz.prog) w b 50 50 cs (urlA s k t p pa q f hq hf) h url_info (by rw [hc]; rfl) (by
  rw [Array.all_eq_true_iff_forall_mem]
  intro v hv
  simp only [urlA, List.mem_toArray, List.mem_cons, List.not_mem_nil, or_false] at hv
  rcases hv with rfl | rfl | rfl | rfl | rfl | rfl | rfl | rfl | rfl <;> rfl)
/-- No two numbers stand side by side in a URL's cells. -/
theorem urlA_nofault {s : ByteArray} {k : Int} {t : ByteArray} {p : Int} {pa q f : ByteArray} {hq hf : Bool} {o : Nat} {x y : Int} (h0 : (urlA s k t p pa q f hq hf)[o]? = some (.int .i64 x)) (h1 : (urlA s k t p pa q f hq hf)[o + 1]? = some (.int .i64 y)) : False := by
 match o with
 | 0 => simp [urlA] at h0
 | 1 => simp [urlA] at h1
 | 2 => simp [urlA] at h0
 | 3 => simp [urlA] at h1
 | 4 => simp [urlA] at h0
 | 5 => simp [urlA] at h0
 | 6 => simp [urlA] at h0
 | 7 => simp [urlA] at h0
 | 8 => simp [urlA] at h0
 | n + 9 => simp [urlA] at h0
/-- What turns in a URL's box turns no error. -/
theorem er_only {w w' : World} {b : Nat} {s : ByteArray} {k : Int} {t : ByteArray} {p : Int} {pa q f : ByteArray} {hq hf : Bool} (hx : w.heap[b]? = some (.cells (urlA s k t p pa q f hq hf) 50 (0, 0))) (ho : Only (fun k => k = b) w w') : ∀ (c : List (Int × Int)) (u : Value), Er w u c → Er w' u c
 | [], u, h => by rw [Er.of_nil h]; exact Er.nil
 | (kk, a) :: r, u, h => by
   obtain ⟨b', off, v, rfl, hS, c0, c1, c2, hv⟩ := fault_inv h
   have hS' : b' < w.heap.size := hS
   have ih := er_only hx ho r v hv
   have hne : b' ≠ b := fun e => by
    subst e
    rw [Lib.cell_of_heap hx] at c0 c1
    exact urlA_nofault c0 c1
   have key : ∀ j v, w.cell? ⟨b', j, none⟩ = some v → w'.cell? ⟨b', j, none⟩ = some v := fun j v hp => by
    rw [← hp]
    simp only [World.cell?]
    rw [ho.block b' hS' hne]
   have d0 := key _ _ c0
   have d1 := key _ _ c1
   have d2 := key _ _ c2
   show Rd _ _ _ (errD _ _)
   simp only [errD]
   refine .iface _ _ _ (.ptr _ _ _ (fun i => (#[Value.int .i64 kk, .int .i64 a, v][i]?).getD undef) (Nat.lt_of_lt_of_le hS' ho.size) (fun i hi => ?_) (fun i hi => ?_))
   · have hj' : i = 0 ∨ i = 1 ∨ i = 2 := by simp at hi; omega
     rcases hj' with rfl | rfl | rfl
     · simpa using d0
     · simpa using d1
     · simpa using d2
   · have hj' : i = 0 ∨ i = 1 ∨ i = 2 := by simp at hi; omega
     rcases hj' with rfl | rfl | rfl
     · exact .int _ _
     · exact .int _ _
     · exact ih
/-- What url.authority leaves. -/
def AuPost (b : Nat) (sch : ByteArray) (w : World) (r : Ch ((Nat × List Nat) × Int)) (e : Ending) (w' : World) : Prop := Only (fun k => k = b) w w' ∧ match r with
 | .ok h => e = .returned .nilIface ∧ w'.heap[b]? = some (.cells (urlA sch h.1.1 (bytesL h.1.2) h.2 ⟨#[]⟩ ⟨#[]⟩ ⟨#[]⟩ false false) 50 (0, 0))
 | .er c => ∃ u k t p, e = .returned u ∧ Er w' u c ∧ w'.heap[b]? = some (.cells (urlA sch k t p ⟨#[]⟩ ⟨#[]⟩ ⟨#[]⟩ false false) 50 (0, 0))
/-- A box of a URL, in a world that has turned nowhere else since. -/
structure UIn (b : Nat) (w : World) (cs : Array Value) (W : World) : Prop where
 only : Only (fun k => k = b) w W
 box : W.heap[b]? = some (.cells cs 50 (0, 0))
theorem UIn.below {b : Nat} {w W W' : World} {cs : Array Value} (h : UIn b w cs W) (hb : Below W.heap.size W W') : UIn b w cs W' := ⟨h.only.trans (.of hb), (hb.block _ (heap_lt h.box)).trans h.box⟩
theorem UIn.set {b : Nat} {w W : World} {cs cs' : Array Value} (h : UIn b w cs W) (i : Nat) (v : Value) (hc : cs.setIfInBounds i v = cs') : UIn b w cs' (W.setCell ⟨b, i, none⟩ v) := ⟨h.only.set (fun _ => rfl) v, by rw [← hc]; exact Go.Joins.block_setCell h.box v⟩

set_option maxRecDepth 100000 in
set_option maxHeartbeats 16000000 in
theorem au_user (b : Nat) (sch A Pp Qq F : ByteArray) (hA hQ hF : Bool) (ia ip iq jf : Nat) (p0 : Int) (w : World) (i : Nat) (hi : i ≤ 1000000) (h64 : ∀ W, Calls Tryz.prog 75 #[.string A, .int .u8 64] W fun e w' => e = .returned (.int .i64 (i : Int)) ∧ w' = W)
    (hw : w.heap[b]? = some (.cells (urlA sch 0 ⟨#[]⟩ p0 ⟨#[]⟩ ⟨#[]⟩ ⟨#[]⟩ false false) 50 (0, 0))) (_hAz : A.size ≤ 1000000) (hia : ia ≤ 1000000) :
    Calls Tryz.prog 78 #[.pointer (some ⟨b, 0, none⟩), .agg (partV A Pp Qq F hA hQ hF ia ip iq jf)] w (AuPost b sch w (.er [(21, (ia : Int) + (i : Int))])) := by
 obtain ⟨Q, hQQ⟩ : ∃ Q, AuPost b sch w (.er [(21, (ia : Int) + (i : Int))]) = Q := ⟨_, rfl⟩
 show Calls _ _ _ _ (AuPost b sch w (.er [(21, (ia : Int) + (i : Int))]))
 rw [hQQ]
 have HQ := Lib.hid hQQ
 obtain ⟨W1, hW1⟩ : ∃ W, w.alloc (.cells (partV A Pp Qq F hA hQ hF ia ip iq jf) 107) = W := ⟨_, rfl⟩
 have hx1 : W1.heap[w.heap.size]? = some (.cells (partV A Pp Qq F hA hQ hF ia ip iq jf) 107 (0, 0)) := by rw [← hW1]; exact heap_alloc_new w _
 have hu0 : UIn b w (urlA sch 0 ⟨#[]⟩ p0 ⟨#[]⟩ ⟨#[]⟩ ⟨#[]⟩ false false) w := ⟨Only.refl _ _, hw⟩
 have hu1 := hu0.below (W' := W1) (by rw [← hW1]; exact ext_alloc (Below.refl _ _) _)
 have HX1 := Lib.hid hx1; have HU1 := Lib.hid hu1
 have ca : W1.cell? ⟨w.heap.size, 0, none⟩ = some (.string A) := Lib.cell_of_heap hx1 0
 have c7 : W1.cell? ⟨w.heap.size, 7, none⟩ = some (.int .i64 ia) := Lib.cell_of_heap hx1 7
 have cs : W1.cell? ⟨b, 0, none⟩ = some (.string sch) := Lib.cell_of_heap hu1.box 0
 unfold partV at hW1
 clear hQQ hx1 hu0 hu1 hw
 have H64 := Lib.hid h64
 have t1 : decide ((0 : Int) ≤ (i : Int)) = true := decide_eq_true (by omega)
 have q1 : IntKind.i64.wrap ((ia : Int) + (i : Int)) = (ia : Int) + (i : Int) := IntWalk.i64_in _ (by omega)
 clear h64 _hAz hia hi
 go_enter Tryz.func78, Tryz.ntmps78
 unfold partV
 go_wp2_with fail
 refine (H64.out _).mono ?_
 rintro e v1 ⟨rfl, hv⟩
 have hv' := hv.symm
 subst hv'
 clear hv
 go_wp2_with fail
 go_at_call 44
 refine (fail_any _ _ _).mono ?_
 rintro e w3 ⟨rfl, rfl⟩
 have hF3 := failed_er (failed_of (w := W1) (w0 := W1) (k := 21) (i := (ia : Int) + (i : Int)) (Below.refl _ _) rfl)
 have HF : Hid (Q (.returned (.iface 119 (.pointer (some ⟨W1.heap.size, 0, none⟩)))) (W1.alloc (.cells #[.int .i64 21, .int .i64 ((ia : Int) + (i : Int)), .nilIface] 123))) := Lib.hid (by
  rw [← HQ.out]
  have hu := HU1.out.below hF3.2
  exact ⟨hu.only, _, _, _, _, rfl, hF3.1, hu.box⟩)
 clear hF3
 go_wp2
 exact HF.out
set_option maxRecDepth 100000 in
set_option maxHeartbeats 16000000 in
theorem au_n1_nh_p0 (b : Nat) (sch A Pp Qq F : ByteArray) (hA hQ hF : Bool) (ia ip iq jf : Nat) (p0 : Int) (w : World) (h64 : ∀ W, Calls Tryz.prog 75 #[.string A, .int .u8 64] W fun e w' => e = .returned (.int .i64 (-1)) ∧ w' = W) (h58 : ∀ W, Calls Tryz.prog 106 #[.string A, .int .u8 58] W fun e w' => e = .returned (.int .i64 (-1)) ∧ w' = W) (hN : A = ⟨#[]⟩) (hweb : ∀ W, Calls Tryz.prog 34 #[.string sch] W fun e w' => e = .returned (.bool false) ∧ w' = W) 
    (hw : w.heap[b]? = some (.cells (urlA sch 0 ⟨#[]⟩ p0 ⟨#[]⟩ ⟨#[]⟩ ⟨#[]⟩ false false) 50 (0, 0))) (_hAz : A.size ≤ 1000000) (_hia : ia ≤ 1000000) :
    Calls Tryz.prog 78 #[.pointer (some ⟨b, 0, none⟩), .agg (partV A Pp Qq F hA hQ hF ia ip iq jf)] w (AuPost b sch w (.ok ((0, []), p0))) := by
 obtain ⟨Q, hQQ⟩ : ∃ Q, AuPost b sch w (.ok ((0, []), p0)) = Q := ⟨_, rfl⟩
 show Calls _ _ _ _ (AuPost b sch w (.ok ((0, []), p0)))
 rw [hQQ]
 have HQ := Lib.hid hQQ
 obtain ⟨W1, hW1⟩ : ∃ W, w.alloc (.cells (partV A Pp Qq F hA hQ hF ia ip iq jf) 107) = W := ⟨_, rfl⟩
 have hx1 : W1.heap[w.heap.size]? = some (.cells (partV A Pp Qq F hA hQ hF ia ip iq jf) 107 (0, 0)) := by rw [← hW1]; exact heap_alloc_new w _
 have hu0 : UIn b w (urlA sch 0 ⟨#[]⟩ p0 ⟨#[]⟩ ⟨#[]⟩ ⟨#[]⟩ false false) w := ⟨Only.refl _ _, hw⟩
 have hu1 := hu0.below (W' := W1) (by rw [← hW1]; exact ext_alloc (Below.refl _ _) _)
 have HX1 := Lib.hid hx1; have HU1 := Lib.hid hu1
 have ca : W1.cell? ⟨w.heap.size, 0, none⟩ = some (.string A) := Lib.cell_of_heap hx1 0
 have c7 : W1.cell? ⟨w.heap.size, 7, none⟩ = some (.int .i64 ia) := Lib.cell_of_heap hx1 7
 have cs : W1.cell? ⟨b, 0, none⟩ = some (.string sch) := Lib.cell_of_heap hu1.box 0
 unfold partV at hW1
 clear hQQ hx1 hu0 hu1 hw
 have H64 := Lib.hid h64; have H58 := Lib.hid h58
 have t2 : decide ((0 : Int) ≤ -1) = false := rfl
 clear h64 h58 _hAz _hia
 have tp : ((⟨#[]⟩ : ByteArray).toList == []) = true := by rw [ByteArray.toList_eq]; rfl
 have tn : A.toList.isEmpty = true := by rw [hN, ByteArray.toList_eq]; rfl
 clear hN
 have HWEB := Lib.hid hweb
 clear hweb
 go_enter Tryz.func78, Tryz.ntmps78
 unfold partV
 go_wp2_with fail
 refine (H64.out _).mono ?_
 rintro e v1 ⟨rfl, hv⟩
 have hv' := hv.symm
 subst hv'
 clear hv
 go_wp2_with fail
 refine (H58.out _).mono ?_
 rintro e v1 ⟨rfl, hv⟩
 have hv' := hv.symm
 subst hv'
 clear hv
 go_wp2_with fail
 refine (HWEB.out _).mono ?_
 rintro e v1 ⟨rfl, hv⟩
 have hv' := hv.symm
 subst hv'
 clear hv
 have HF : Hid (∀ n, Q (.returned .nilIface) (W1.drewN n)) := Lib.hid (fun n => by rw [← HQ.out]; have h := HU1.out.below (ext_drewN n (Below.refl _ _)); exact ⟨h.only, rfl, h.box⟩)
 have HF0 : Hid (Q (.returned .nilIface) W1) := Lib.hid (by rw [← HQ.out]; exact ⟨HU1.out.only, rfl, HU1.out.box⟩)
 go_wp2
 first | exact HF0.out | exact HF.out _
set_option maxRecDepth 100000 in
set_option maxHeartbeats 16000000 in
theorem au_n1_he (b : Nat) (sch A Pp Qq F : ByteArray) (hA hQ hF : Bool) (ia ip iq jf : Nat) (p0 : Int) (w : World) (h64 : ∀ W, Calls Tryz.prog 75 #[.string A, .int .u8 64] W fun e w' => e = .returned (.int .i64 (-1)) ∧ w' = W) (h58 : ∀ W, Calls Tryz.prog 106 #[.string A, .int .u8 58] W fun e w' => e = .returned (.int .i64 (-1)) ∧ w' = W) (hN : A ≠ ⟨#[]⟩ ∨ (A = ⟨#[]⟩ ∧ ∀ W, Calls Tryz.prog 34 #[.string sch] W fun e w' => e = .returned (.bool true) ∧ w' = W)) (c : List (Int × Int)) (hcan : ∀ W, Below w.heap.size w W → Calls Tryz.prog 15 #[.string A] W fun e w' => Below W.heap.size W w' ∧ ∃ u, e = .returned (.tuple #[.agg #[.int .i64 0, .string ⟨#[]⟩], u]) ∧ Er w' u c) (hc : c ≠ []) 
    (hw : w.heap[b]? = some (.cells (urlA sch 0 ⟨#[]⟩ p0 ⟨#[]⟩ ⟨#[]⟩ ⟨#[]⟩ false false) 50 (0, 0))) (_hAz : A.size ≤ 1000000) (_hia : ia ≤ 1000000) :
    Calls Tryz.prog 78 #[.pointer (some ⟨b, 0, none⟩), .agg (partV A Pp Qq F hA hQ hF ia ip iq jf)] w (AuPost b sch w (.er ((22, (ia : Int)) :: c))) := by
 obtain ⟨Q, hQQ⟩ : ∃ Q, AuPost b sch w (.er ((22, (ia : Int)) :: c)) = Q := ⟨_, rfl⟩
 show Calls _ _ _ _ (AuPost b sch w (.er ((22, (ia : Int)) :: c)))
 rw [hQQ]
 have HQ := Lib.hid hQQ
 obtain ⟨W1, hW1⟩ : ∃ W, w.alloc (.cells (partV A Pp Qq F hA hQ hF ia ip iq jf) 107) = W := ⟨_, rfl⟩
 have hx1 : W1.heap[w.heap.size]? = some (.cells (partV A Pp Qq F hA hQ hF ia ip iq jf) 107 (0, 0)) := by rw [← hW1]; exact heap_alloc_new w _
 have hu0 : UIn b w (urlA sch 0 ⟨#[]⟩ p0 ⟨#[]⟩ ⟨#[]⟩ ⟨#[]⟩ false false) w := ⟨Only.refl _ _, hw⟩
 have hu1 := hu0.below (W' := W1) (by rw [← hW1]; exact ext_alloc (Below.refl _ _) _)
 have HX1 := Lib.hid hx1; have HU1 := Lib.hid hu1
 have ca : W1.cell? ⟨w.heap.size, 0, none⟩ = some (.string A) := Lib.cell_of_heap hx1 0
 have c7 : W1.cell? ⟨w.heap.size, 7, none⟩ = some (.int .i64 ia) := Lib.cell_of_heap hx1 7
 have cs : W1.cell? ⟨b, 0, none⟩ = some (.string sch) := Lib.cell_of_heap hu1.box 0
 unfold partV at hW1
 clear hQQ hx1 hu0 hu1 hw
 have H64 := Lib.hid h64; have H58 := Lib.hid h58
 have t2 : decide ((0 : Int) ≤ -1) = false := rfl
 clear h64 h58 _hAz _hia
 have hb1 : Below w.heap.size w W1 := by rw [show W1 = w.alloc (.cells (partV A Pp Qq F hA hQ hF ia ip iq jf) 107) from by rw [← hW1]; rfl]; exact ext_alloc (Below.refl _ _) _
 have HB1 := Lib.hid hb1; have HCAN := Lib.hid hcan
 clear hb1 hcan
 have hN2 : (A.toList.isEmpty = false) ∨ (A.toList.isEmpty = true ∧ Hid (∀ W, Calls Tryz.prog 34 #[.string sch] W fun e w' => e = .returned (.bool true) ∧ w' = W)) := by
  rcases hN with h | ⟨h, g⟩
  · exact .inl (str_ne (fun e => h (empty_of e)))
  · exact .inr ⟨by rw [h, ByteArray.toList_eq]; rfl, Lib.hid g⟩
 clear hN
 rcases hN2 with tn | ⟨tn, HWEB⟩
 all_goals
  go_enter Tryz.func78, Tryz.ntmps78
  unfold partV
  go_wp2_with fail
  refine (H64.out _).mono ?_
  rintro e v1 ⟨rfl, hv⟩
  have hv' := hv.symm
  subst hv'
  clear hv
  go_wp2_with fail
  refine (H58.out _).mono ?_
  rintro e v1 ⟨rfl, hv⟩
  have hv' := hv.symm
  subst hv'
  clear hv
  try (go_wp2_with fail; refine (HWEB.out _).mono ?_; rintro e v1 ⟨rfl, hv⟩; have hv' := hv.symm; subst hv'; clear hv)
  go_wp2_with fail
  refine (HCAN.out _ (by first | exact HB1.out | exact ext_drewN _ HB1.out)).mono ?_
  rintro e v2 ⟨hb2, u, rfl, hE⟩
  obtain ⟨bb, off, rfl⟩ := fault_form hE hc
  have hu2 : UIn b w (urlA sch 0 ⟨#[]⟩ p0 ⟨#[]⟩ ⟨#[]⟩ ⟨#[]⟩ false false) v2 := by first | exact HU1.out.below hb2 | exact (HU1.out.below (ext_drewN _ (Below.refl _ _))).below hb2
  have hx2 : v2.heap[w.heap.size]? = some (.cells (partV A Pp Qq F hA hQ hF ia ip iq jf) 107 (0, 0)) := (hb2.block _ (heap_lt HX1.out)).trans HX1.out
  obtain ⟨a2, hA2⟩ : ∃ W, v2.alloc (.cells #[.int .i64 0, .string ⟨#[]⟩] 24) = W := ⟨_, rfl⟩
  have hba2 : Below v2.heap.size v2 a2 := by rw [← hA2]; exact ext_alloc (Below.refl _ _) _
  have hxa2 : a2.heap[v2.heap.size]? = some (.cells (hostC 0 ⟨#[]⟩) 24 (0, 0)) := by rw [← hA2]; exact heap_alloc_new v2 _
  have hst2 : (storeVar 24 ⟨v2.heap.size, 0, none⟩ (.agg #[.int .i64 0, .string ⟨#[]⟩])).run Tryz.prog a2 = .ok () (a2.setRow v2.heap.size #[.int .i64 0, .string ⟨#[]⟩]) := ho_store 0 0 ⟨#[]⟩ ⟨#[]⟩ _ a2 hxa2
  have hxb2 := setRow_heap (c := #[.int .i64 0, .string ⟨#[]⟩]) hxa2
  have hbb2 : Below v2.heap.size v2 (a2.setRow v2.heap.size #[.int .i64 0, .string ⟨#[]⟩]) := setRow_below hba2 (Nat.le_refl _)
  obtain ⟨w2, hW2⟩ : ∃ W, a2.setRow v2.heap.size #[.int .i64 0, .string ⟨#[]⟩] = W := ⟨_, rfl⟩
  rw [hW2] at hst2 hxb2 hbb2
  have hu3 := hu2.below hbb2
  have hx3 : w2.heap[w.heap.size]? = some (.cells (partV A Pp Qq F hA hQ hF ia ip iq jf) 107 (0, 0)) := (hbb2.block _ (heap_lt hx2)).trans hx2
  have c7 : w2.cell? ⟨w.heap.size, 7, none⟩ = some (.int .i64 ia) := Lib.cell_of_heap hx3 7
  have hE2 := hE.ext hbb2
  have WR := Lib.hid (wrap_any 22 (ia : Int) _ _ w2 hE2)
  have HF : Hid (Q (.returned (.iface 119 (.pointer (some ⟨w2.heap.size, 0, none⟩)))) (w2.alloc (.cells #[.int .i64 22, .int .i64 (ia : Int), .iface 119 (.pointer (some ⟨bb, off, none⟩))] 123))) := Lib.hid (by
   rw [← HQ.out]
   have hu4 := hu3.below (ext_alloc (Below.refl _ _) (.cells #[.int .i64 22, .int .i64 (ia : Int), .iface 119 (.pointer (some ⟨bb, off, none⟩))] 123))
   exact ⟨hu4.only, _, _, _, _, rfl, Rd.fault (k := 22) (a := (ia : Int)) hE2, hu4.box⟩)
  clear hb2 hE hba2 hxa2 hxb2 hbb2 hW2 hu2 hu3 hx2 hx3 hE2
  go_wp2_with ((with_reducible show wpList _ _ _ (_ :: _) _ _); refine st_arr 24 v2.heap.size _ hst2 _ _ rfl rfl rfl rfl ?_)
  clear hA2 hst2
  refine WR.out.mono ?_
  rintro e w4 ⟨rfl, rfl⟩
  go_wp2
  exact HF.out
set_option maxRecDepth 100000 in
set_option maxHeartbeats 16000000 in
theorem au_n1_ho_p0 (b : Nat) (sch A Pp Qq F : ByteArray) (hA hQ hF : Bool) (ia ip iq jf : Nat) (p0 : Int) (w : World) (h64 : ∀ W, Calls Tryz.prog 75 #[.string A, .int .u8 64] W fun e w' => e = .returned (.int .i64 (-1)) ∧ w' = W) (h58 : ∀ W, Calls Tryz.prog 106 #[.string A, .int .u8 58] W fun e w' => e = .returned (.int .i64 (-1)) ∧ w' = W) (hN : A ≠ ⟨#[]⟩ ∨ (A = ⟨#[]⟩ ∧ ∀ W, Calls Tryz.prog 34 #[.string sch] W fun e w' => e = .returned (.bool true) ∧ w' = W)) (k : Nat) (t : List Nat) (T : ByteArray) (hT : bytesL t = T) (hcan : ∀ W, Below w.heap.size w W → Calls Tryz.prog 15 #[.string A] W fun e w' => Below W.heap.size W w' ∧ e = .returned (.tuple #[.agg #[.int .i64 k, .string T], .nilIface])) 
    (hw : w.heap[b]? = some (.cells (urlA sch 0 ⟨#[]⟩ p0 ⟨#[]⟩ ⟨#[]⟩ ⟨#[]⟩ false false) 50 (0, 0))) (_hAz : A.size ≤ 1000000) (_hia : ia ≤ 1000000) :
    Calls Tryz.prog 78 #[.pointer (some ⟨b, 0, none⟩), .agg (partV A Pp Qq F hA hQ hF ia ip iq jf)] w (AuPost b sch w (.ok ((k, t), p0))) := by
 obtain ⟨Q, hQQ⟩ : ∃ Q, AuPost b sch w (.ok ((k, t), p0)) = Q := ⟨_, rfl⟩
 show Calls _ _ _ _ (AuPost b sch w (.ok ((k, t), p0)))
 rw [hQQ]
 have HQ := Lib.hid hQQ
 obtain ⟨W1, hW1⟩ : ∃ W, w.alloc (.cells (partV A Pp Qq F hA hQ hF ia ip iq jf) 107) = W := ⟨_, rfl⟩
 have hx1 : W1.heap[w.heap.size]? = some (.cells (partV A Pp Qq F hA hQ hF ia ip iq jf) 107 (0, 0)) := by rw [← hW1]; exact heap_alloc_new w _
 have hu0 : UIn b w (urlA sch 0 ⟨#[]⟩ p0 ⟨#[]⟩ ⟨#[]⟩ ⟨#[]⟩ false false) w := ⟨Only.refl _ _, hw⟩
 have hu1 := hu0.below (W' := W1) (by rw [← hW1]; exact ext_alloc (Below.refl _ _) _)
 have HX1 := Lib.hid hx1; have HU1 := Lib.hid hu1
 have ca : W1.cell? ⟨w.heap.size, 0, none⟩ = some (.string A) := Lib.cell_of_heap hx1 0
 have c7 : W1.cell? ⟨w.heap.size, 7, none⟩ = some (.int .i64 ia) := Lib.cell_of_heap hx1 7
 have cs : W1.cell? ⟨b, 0, none⟩ = some (.string sch) := Lib.cell_of_heap hu1.box 0
 unfold partV at hW1
 clear hQQ hx1 hu0 hu1 hw
 have H64 := Lib.hid h64; have H58 := Lib.hid h58
 have t2 : decide ((0 : Int) ≤ -1) = false := rfl
 clear h64 h58 _hAz _hia
 have tp : ((⟨#[]⟩ : ByteArray).toList == []) = true := by rw [ByteArray.toList_eq]; rfl
 have hb1 : Below w.heap.size w W1 := by rw [show W1 = w.alloc (.cells (partV A Pp Qq F hA hQ hF ia ip iq jf) 107) from by rw [← hW1]; rfl]; exact ext_alloc (Below.refl _ _) _
 have HB1 := Lib.hid hb1; have HCAN := Lib.hid hcan
 clear hb1 hcan
 have hN2 : (A.toList.isEmpty = false) ∨ (A.toList.isEmpty = true ∧ Hid (∀ W, Calls Tryz.prog 34 #[.string sch] W fun e w' => e = .returned (.bool true) ∧ w' = W)) := by
  rcases hN with h | ⟨h, g⟩
  · exact .inl (str_ne (fun e => h (empty_of e)))
  · exact .inr ⟨by rw [h, ByteArray.toList_eq]; rfl, Lib.hid g⟩
 clear hN
 rcases hN2 with tn | ⟨tn, HWEB⟩
 all_goals
  go_enter Tryz.func78, Tryz.ntmps78
  unfold partV
  go_wp2_with fail
  refine (H64.out _).mono ?_
  rintro e v1 ⟨rfl, hv⟩
  have hv' := hv.symm
  subst hv'
  clear hv
  go_wp2_with fail
  refine (H58.out _).mono ?_
  rintro e v1 ⟨rfl, hv⟩
  have hv' := hv.symm
  subst hv'
  clear hv
  try (go_wp2_with fail; refine (HWEB.out _).mono ?_; rintro e v1 ⟨rfl, hv⟩; have hv' := hv.symm; subst hv'; clear hv)
  go_wp2_with fail
  refine (HCAN.out _ (by first | exact HB1.out | exact ext_drewN _ HB1.out)).mono ?_
  rintro e v2 ⟨hb2, rfl⟩
  have hu2 : UIn b w (urlA sch 0 ⟨#[]⟩ p0 ⟨#[]⟩ ⟨#[]⟩ ⟨#[]⟩ false false) v2 := by first | exact HU1.out.below hb2 | exact (HU1.out.below (ext_drewN _ (Below.refl _ _))).below hb2
  have hx2 : v2.heap[w.heap.size]? = some (.cells (partV A Pp Qq F hA hQ hF ia ip iq jf) 107 (0, 0)) := (hb2.block _ (heap_lt HX1.out)).trans HX1.out
  obtain ⟨a2, hA2⟩ : ∃ W, v2.alloc (.cells #[.int .i64 0, .string ⟨#[]⟩] 24) = W := ⟨_, rfl⟩
  have hba2 : Below v2.heap.size v2 a2 := by rw [← hA2]; exact ext_alloc (Below.refl _ _) _
  have hxa2 : a2.heap[v2.heap.size]? = some (.cells (hostC 0 ⟨#[]⟩) 24 (0, 0)) := by rw [← hA2]; exact heap_alloc_new v2 _
  have hst2 : (storeVar 24 ⟨v2.heap.size, 0, none⟩ (.agg #[.int .i64 k, .string T])).run Tryz.prog a2 = .ok () (a2.setRow v2.heap.size #[.int .i64 k, .string T]) := ho_store k 0 T ⟨#[]⟩ _ a2 hxa2
  have hxb2 := setRow_heap (c := #[.int .i64 k, .string T]) hxa2
  have hbb2 : Below v2.heap.size v2 (a2.setRow v2.heap.size #[.int .i64 k, .string T]) := setRow_below hba2 (Nat.le_refl _)
  obtain ⟨w2, hW2⟩ : ∃ W, a2.setRow v2.heap.size #[.int .i64 k, .string T] = W := ⟨_, rfl⟩
  rw [hW2] at hst2 hxb2 hbb2
  have hu3 := hu2.below hbb2
  have hx3 : w2.heap[w.heap.size]? = some (.cells (partV A Pp Qq F hA hQ hF ia ip iq jf) 107 (0, 0)) := (hbb2.block _ (heap_lt hx2)).trans hx2
  have c7 : w2.cell? ⟨w.heap.size, 7, none⟩ = some (.int .i64 ia) := Lib.cell_of_heap hx3 7
  have hld2 : (loadVar 24 ⟨v2.heap.size, 0, none⟩).run Tryz.prog w2 = .ok (.agg #[.int .i64 k, .string T]) w2 := ho_load k T _ w2 hxb2
  have cu1 : w2.cell? ⟨b, 1, none⟩ = some (.int .i64 0) := Lib.cell_of_heap hu3.box 1
  have cu2 : w2.cell? ⟨b, 2, none⟩ = some (.string ⟨#[]⟩) := Lib.cell_of_heap hu3.box 2
  have fu1 : w2.frozen? ⟨b, 1, none⟩ = false := Lib.frozen_of_heap hu3.box 1
  have fu2 : w2.frozen? ⟨b, 2, none⟩ = false := Lib.frozen_of_heap hu3.box 2
  have hu4 := (hu3.set (cs' := urlA sch k ⟨#[]⟩ p0 ⟨#[]⟩ ⟨#[]⟩ ⟨#[]⟩ false false) 1 (.int .i64 k) (by simp [urlA])).set (cs' := urlA sch k T p0 ⟨#[]⟩ ⟨#[]⟩ ⟨#[]⟩ false false) 2 (.string T) (by simp [urlA])
  obtain ⟨w3, hW3⟩ : ∃ W, (w2.setCell ⟨b, 1, none⟩ (.int .i64 k)).setCell ⟨b, 2, none⟩ (.string T) = W := ⟨_, rfl⟩
  rw [hW3] at hu4
  have HU4 := Lib.hid hu4
  clear hb2 hba2 hxa2 hxb2 hbb2 hW2 hu2 hu3 hx2 hx3 hu4 c7
  have HF : Hid (Q (.returned .nilIface) w3) := Lib.hid (by rw [← HQ.out]; exact ⟨HU4.out.only, rfl, by rw [hT]; exact HU4.out.box⟩)
  go_wp2_with ((with_reducible show wpList _ _ _ (_ :: _) _ _); first | (refine st_arr 24 v2.heap.size _ hst2 _ _ rfl rfl rfl rfl ?_) | (refine ld_arr 24 v2.heap.size _ hld2 _ rfl rfl rfl ?_))
  exact HF.out
set_option maxRecDepth 100000 in
set_option maxHeartbeats 16000000 in
theorem au_n2_he (b : Nat) (sch A Pp Qq F : ByteArray) (hA hQ hF : Bool) (ia ip iq jf : Nat) (p0 : Int) (w : World) (h64 : ∀ W, Calls Tryz.prog 75 #[.string A, .int .u8 64] W fun e w' => e = .returned (.int .i64 (-1)) ∧ w' = W) (i j : Nat) (A2 : ByteArray) (_hi : i ≤ A.size) (sl : ∀ W, (Instr.slice 9 (.string A) (some (.int .i64 (i : Int))) none none).run Tryz.prog W = .ok (.string A2) W) (h58 : ∀ W, Calls Tryz.prog 106 #[.string A, .int .u8 58] W fun e w' => e = .returned (.int .i64 (i : Int)) ∧ w' = W) (h93 : ∀ W, Calls Tryz.prog 75 #[.string A2, .int .u8 93] W fun e w' => e = .returned (.int .i64 (j : Int)) ∧ w' = W) (hN : A ≠ ⟨#[]⟩ ∨ (A = ⟨#[]⟩ ∧ ∀ W, Calls Tryz.prog 34 #[.string sch] W fun e w' => e = .returned (.bool true) ∧ w' = W)) (c : List (Int × Int)) (hcan : ∀ W, Below w.heap.size w W → Calls Tryz.prog 15 #[.string A] W fun e w' => Below W.heap.size W w' ∧ ∃ u, e = .returned (.tuple #[.agg #[.int .i64 0, .string ⟨#[]⟩], u]) ∧ Er w' u c) (hc : c ≠ []) 
    (hw : w.heap[b]? = some (.cells (urlA sch 0 ⟨#[]⟩ p0 ⟨#[]⟩ ⟨#[]⟩ ⟨#[]⟩ false false) 50 (0, 0))) (_hAz : A.size ≤ 1000000) (_hia : ia ≤ 1000000) :
    Calls Tryz.prog 78 #[.pointer (some ⟨b, 0, none⟩), .agg (partV A Pp Qq F hA hQ hF ia ip iq jf)] w (AuPost b sch w (.er ((22, (ia : Int)) :: c))) := by
 obtain ⟨Q, hQQ⟩ : ∃ Q, AuPost b sch w (.er ((22, (ia : Int)) :: c)) = Q := ⟨_, rfl⟩
 show Calls _ _ _ _ (AuPost b sch w (.er ((22, (ia : Int)) :: c)))
 rw [hQQ]
 have HQ := Lib.hid hQQ
 obtain ⟨W1, hW1⟩ : ∃ W, w.alloc (.cells (partV A Pp Qq F hA hQ hF ia ip iq jf) 107) = W := ⟨_, rfl⟩
 have hx1 : W1.heap[w.heap.size]? = some (.cells (partV A Pp Qq F hA hQ hF ia ip iq jf) 107 (0, 0)) := by rw [← hW1]; exact heap_alloc_new w _
 have hu0 : UIn b w (urlA sch 0 ⟨#[]⟩ p0 ⟨#[]⟩ ⟨#[]⟩ ⟨#[]⟩ false false) w := ⟨Only.refl _ _, hw⟩
 have hu1 := hu0.below (W' := W1) (by rw [← hW1]; exact ext_alloc (Below.refl _ _) _)
 have HX1 := Lib.hid hx1; have HU1 := Lib.hid hu1
 have ca : W1.cell? ⟨w.heap.size, 0, none⟩ = some (.string A) := Lib.cell_of_heap hx1 0
 have c7 : W1.cell? ⟨w.heap.size, 7, none⟩ = some (.int .i64 ia) := Lib.cell_of_heap hx1 7
 have cs : W1.cell? ⟨b, 0, none⟩ = some (.string sch) := Lib.cell_of_heap hu1.box 0
 unfold partV at hW1
 clear hQQ hx1 hu0 hu1 hw
 have H64 := Lib.hid h64; have H58 := Lib.hid h58
 have H93 := Lib.hid h93
 have t2 : decide ((0 : Int) ≤ (i : Int)) = true := decide_eq_true (by omega)
 have t3 : decide ((j : Int) < 0) = false := decide_eq_false (by omega)
 clear h64 h58 h93 _hi _hAz _hia
 have hb1 : Below w.heap.size w W1 := by rw [show W1 = w.alloc (.cells (partV A Pp Qq F hA hQ hF ia ip iq jf) 107) from by rw [← hW1]; rfl]; exact ext_alloc (Below.refl _ _) _
 have HB1 := Lib.hid hb1; have HCAN := Lib.hid hcan
 clear hb1 hcan
 have hN2 : (A.toList.isEmpty = false) ∨ (A.toList.isEmpty = true ∧ Hid (∀ W, Calls Tryz.prog 34 #[.string sch] W fun e w' => e = .returned (.bool true) ∧ w' = W)) := by
  rcases hN with h | ⟨h, g⟩
  · exact .inl (str_ne (fun e => h (empty_of e)))
  · exact .inr ⟨by rw [h, ByteArray.toList_eq]; rfl, Lib.hid g⟩
 clear hN
 rcases hN2 with tn | ⟨tn, HWEB⟩
 all_goals
  go_enter Tryz.func78, Tryz.ntmps78
  unfold partV
  go_wp2_with fail
  refine (H64.out _).mono ?_
  rintro e v1 ⟨rfl, hv⟩
  have hv' := hv.symm
  subst hv'
  clear hv
  go_wp2_with fail
  refine (H58.out _).mono ?_
  rintro e v1 ⟨rfl, hv⟩
  have hv' := hv.symm
  subst hv'
  clear hv
  go_wp2_with fail
  refine (H93.out _).mono ?_
  rintro e v1 ⟨rfl, hv⟩
  have hv' := hv.symm
  subst hv'
  clear hv
  try (go_wp2_with fail; refine (HWEB.out _).mono ?_; rintro e v1 ⟨rfl, hv⟩; have hv' := hv.symm; subst hv'; clear hv)
  go_wp2_with fail
  refine (HCAN.out _ (by first | exact HB1.out | exact ext_drewN _ HB1.out)).mono ?_
  rintro e v2 ⟨hb2, u, rfl, hE⟩
  obtain ⟨bb, off, rfl⟩ := fault_form hE hc
  have hu2 : UIn b w (urlA sch 0 ⟨#[]⟩ p0 ⟨#[]⟩ ⟨#[]⟩ ⟨#[]⟩ false false) v2 := by first | exact HU1.out.below hb2 | exact (HU1.out.below (ext_drewN _ (Below.refl _ _))).below hb2
  have hx2 : v2.heap[w.heap.size]? = some (.cells (partV A Pp Qq F hA hQ hF ia ip iq jf) 107 (0, 0)) := (hb2.block _ (heap_lt HX1.out)).trans HX1.out
  obtain ⟨a2, hA2⟩ : ∃ W, v2.alloc (.cells #[.int .i64 0, .string ⟨#[]⟩] 24) = W := ⟨_, rfl⟩
  have hba2 : Below v2.heap.size v2 a2 := by rw [← hA2]; exact ext_alloc (Below.refl _ _) _
  have hxa2 : a2.heap[v2.heap.size]? = some (.cells (hostC 0 ⟨#[]⟩) 24 (0, 0)) := by rw [← hA2]; exact heap_alloc_new v2 _
  have hst2 : (storeVar 24 ⟨v2.heap.size, 0, none⟩ (.agg #[.int .i64 0, .string ⟨#[]⟩])).run Tryz.prog a2 = .ok () (a2.setRow v2.heap.size #[.int .i64 0, .string ⟨#[]⟩]) := ho_store 0 0 ⟨#[]⟩ ⟨#[]⟩ _ a2 hxa2
  have hxb2 := setRow_heap (c := #[.int .i64 0, .string ⟨#[]⟩]) hxa2
  have hbb2 : Below v2.heap.size v2 (a2.setRow v2.heap.size #[.int .i64 0, .string ⟨#[]⟩]) := setRow_below hba2 (Nat.le_refl _)
  obtain ⟨w2, hW2⟩ : ∃ W, a2.setRow v2.heap.size #[.int .i64 0, .string ⟨#[]⟩] = W := ⟨_, rfl⟩
  rw [hW2] at hst2 hxb2 hbb2
  have hu3 := hu2.below hbb2
  have hx3 : w2.heap[w.heap.size]? = some (.cells (partV A Pp Qq F hA hQ hF ia ip iq jf) 107 (0, 0)) := (hbb2.block _ (heap_lt hx2)).trans hx2
  have c7 : w2.cell? ⟨w.heap.size, 7, none⟩ = some (.int .i64 ia) := Lib.cell_of_heap hx3 7
  have hE2 := hE.ext hbb2
  have WR := Lib.hid (wrap_any 22 (ia : Int) _ _ w2 hE2)
  have HF : Hid (Q (.returned (.iface 119 (.pointer (some ⟨w2.heap.size, 0, none⟩)))) (w2.alloc (.cells #[.int .i64 22, .int .i64 (ia : Int), .iface 119 (.pointer (some ⟨bb, off, none⟩))] 123))) := Lib.hid (by
   rw [← HQ.out]
   have hu4 := hu3.below (ext_alloc (Below.refl _ _) (.cells #[.int .i64 22, .int .i64 (ia : Int), .iface 119 (.pointer (some ⟨bb, off, none⟩))] 123))
   exact ⟨hu4.only, _, _, _, _, rfl, Rd.fault (k := 22) (a := (ia : Int)) hE2, hu4.box⟩)
  clear hb2 hE hba2 hxa2 hxb2 hbb2 hW2 hu2 hu3 hx2 hx3 hE2
  go_wp2_with ((with_reducible show wpList _ _ _ (_ :: _) _ _); refine st_arr 24 v2.heap.size _ hst2 _ _ rfl rfl rfl rfl ?_)
  clear hA2 hst2
  refine WR.out.mono ?_
  rintro e w4 ⟨rfl, rfl⟩
  go_wp2
  exact HF.out
set_option maxRecDepth 100000 in
set_option maxHeartbeats 16000000 in
theorem au_n2_ho_p0 (b : Nat) (sch A Pp Qq F : ByteArray) (hA hQ hF : Bool) (ia ip iq jf : Nat) (p0 : Int) (w : World) (h64 : ∀ W, Calls Tryz.prog 75 #[.string A, .int .u8 64] W fun e w' => e = .returned (.int .i64 (-1)) ∧ w' = W) (i j : Nat) (A2 : ByteArray) (_hi : i ≤ A.size) (sl : ∀ W, (Instr.slice 9 (.string A) (some (.int .i64 (i : Int))) none none).run Tryz.prog W = .ok (.string A2) W) (h58 : ∀ W, Calls Tryz.prog 106 #[.string A, .int .u8 58] W fun e w' => e = .returned (.int .i64 (i : Int)) ∧ w' = W) (h93 : ∀ W, Calls Tryz.prog 75 #[.string A2, .int .u8 93] W fun e w' => e = .returned (.int .i64 (j : Int)) ∧ w' = W) (hN : A ≠ ⟨#[]⟩ ∨ (A = ⟨#[]⟩ ∧ ∀ W, Calls Tryz.prog 34 #[.string sch] W fun e w' => e = .returned (.bool true) ∧ w' = W)) (k : Nat) (t : List Nat) (T : ByteArray) (hT : bytesL t = T) (hcan : ∀ W, Below w.heap.size w W → Calls Tryz.prog 15 #[.string A] W fun e w' => Below W.heap.size W w' ∧ e = .returned (.tuple #[.agg #[.int .i64 k, .string T], .nilIface])) 
    (hw : w.heap[b]? = some (.cells (urlA sch 0 ⟨#[]⟩ p0 ⟨#[]⟩ ⟨#[]⟩ ⟨#[]⟩ false false) 50 (0, 0))) (_hAz : A.size ≤ 1000000) (_hia : ia ≤ 1000000) :
    Calls Tryz.prog 78 #[.pointer (some ⟨b, 0, none⟩), .agg (partV A Pp Qq F hA hQ hF ia ip iq jf)] w (AuPost b sch w (.ok ((k, t), p0))) := by
 obtain ⟨Q, hQQ⟩ : ∃ Q, AuPost b sch w (.ok ((k, t), p0)) = Q := ⟨_, rfl⟩
 show Calls _ _ _ _ (AuPost b sch w (.ok ((k, t), p0)))
 rw [hQQ]
 have HQ := Lib.hid hQQ
 obtain ⟨W1, hW1⟩ : ∃ W, w.alloc (.cells (partV A Pp Qq F hA hQ hF ia ip iq jf) 107) = W := ⟨_, rfl⟩
 have hx1 : W1.heap[w.heap.size]? = some (.cells (partV A Pp Qq F hA hQ hF ia ip iq jf) 107 (0, 0)) := by rw [← hW1]; exact heap_alloc_new w _
 have hu0 : UIn b w (urlA sch 0 ⟨#[]⟩ p0 ⟨#[]⟩ ⟨#[]⟩ ⟨#[]⟩ false false) w := ⟨Only.refl _ _, hw⟩
 have hu1 := hu0.below (W' := W1) (by rw [← hW1]; exact ext_alloc (Below.refl _ _) _)
 have HX1 := Lib.hid hx1; have HU1 := Lib.hid hu1
 have ca : W1.cell? ⟨w.heap.size, 0, none⟩ = some (.string A) := Lib.cell_of_heap hx1 0
 have c7 : W1.cell? ⟨w.heap.size, 7, none⟩ = some (.int .i64 ia) := Lib.cell_of_heap hx1 7
 have cs : W1.cell? ⟨b, 0, none⟩ = some (.string sch) := Lib.cell_of_heap hu1.box 0
 unfold partV at hW1
 clear hQQ hx1 hu0 hu1 hw
 have H64 := Lib.hid h64; have H58 := Lib.hid h58
 have H93 := Lib.hid h93
 have t2 : decide ((0 : Int) ≤ (i : Int)) = true := decide_eq_true (by omega)
 have t3 : decide ((j : Int) < 0) = false := decide_eq_false (by omega)
 clear h64 h58 h93 _hi _hAz _hia
 have tp : ((⟨#[]⟩ : ByteArray).toList == []) = true := by rw [ByteArray.toList_eq]; rfl
 have hb1 : Below w.heap.size w W1 := by rw [show W1 = w.alloc (.cells (partV A Pp Qq F hA hQ hF ia ip iq jf) 107) from by rw [← hW1]; rfl]; exact ext_alloc (Below.refl _ _) _
 have HB1 := Lib.hid hb1; have HCAN := Lib.hid hcan
 clear hb1 hcan
 have hN2 : (A.toList.isEmpty = false) ∨ (A.toList.isEmpty = true ∧ Hid (∀ W, Calls Tryz.prog 34 #[.string sch] W fun e w' => e = .returned (.bool true) ∧ w' = W)) := by
  rcases hN with h | ⟨h, g⟩
  · exact .inl (str_ne (fun e => h (empty_of e)))
  · exact .inr ⟨by rw [h, ByteArray.toList_eq]; rfl, Lib.hid g⟩
 clear hN
 rcases hN2 with tn | ⟨tn, HWEB⟩
 all_goals
  go_enter Tryz.func78, Tryz.ntmps78
  unfold partV
  go_wp2_with fail
  refine (H64.out _).mono ?_
  rintro e v1 ⟨rfl, hv⟩
  have hv' := hv.symm
  subst hv'
  clear hv
  go_wp2_with fail
  refine (H58.out _).mono ?_
  rintro e v1 ⟨rfl, hv⟩
  have hv' := hv.symm
  subst hv'
  clear hv
  go_wp2_with fail
  refine (H93.out _).mono ?_
  rintro e v1 ⟨rfl, hv⟩
  have hv' := hv.symm
  subst hv'
  clear hv
  try (go_wp2_with fail; refine (HWEB.out _).mono ?_; rintro e v1 ⟨rfl, hv⟩; have hv' := hv.symm; subst hv'; clear hv)
  go_wp2_with fail
  refine (HCAN.out _ (by first | exact HB1.out | exact ext_drewN _ HB1.out)).mono ?_
  rintro e v2 ⟨hb2, rfl⟩
  have hu2 : UIn b w (urlA sch 0 ⟨#[]⟩ p0 ⟨#[]⟩ ⟨#[]⟩ ⟨#[]⟩ false false) v2 := by first | exact HU1.out.below hb2 | exact (HU1.out.below (ext_drewN _ (Below.refl _ _))).below hb2
  have hx2 : v2.heap[w.heap.size]? = some (.cells (partV A Pp Qq F hA hQ hF ia ip iq jf) 107 (0, 0)) := (hb2.block _ (heap_lt HX1.out)).trans HX1.out
  obtain ⟨a2, hA2⟩ : ∃ W, v2.alloc (.cells #[.int .i64 0, .string ⟨#[]⟩] 24) = W := ⟨_, rfl⟩
  have hba2 : Below v2.heap.size v2 a2 := by rw [← hA2]; exact ext_alloc (Below.refl _ _) _
  have hxa2 : a2.heap[v2.heap.size]? = some (.cells (hostC 0 ⟨#[]⟩) 24 (0, 0)) := by rw [← hA2]; exact heap_alloc_new v2 _
  have hst2 : (storeVar 24 ⟨v2.heap.size, 0, none⟩ (.agg #[.int .i64 k, .string T])).run Tryz.prog a2 = .ok () (a2.setRow v2.heap.size #[.int .i64 k, .string T]) := ho_store k 0 T ⟨#[]⟩ _ a2 hxa2
  have hxb2 := setRow_heap (c := #[.int .i64 k, .string T]) hxa2
  have hbb2 : Below v2.heap.size v2 (a2.setRow v2.heap.size #[.int .i64 k, .string T]) := setRow_below hba2 (Nat.le_refl _)
  obtain ⟨w2, hW2⟩ : ∃ W, a2.setRow v2.heap.size #[.int .i64 k, .string T] = W := ⟨_, rfl⟩
  rw [hW2] at hst2 hxb2 hbb2
  have hu3 := hu2.below hbb2
  have hx3 : w2.heap[w.heap.size]? = some (.cells (partV A Pp Qq F hA hQ hF ia ip iq jf) 107 (0, 0)) := (hbb2.block _ (heap_lt hx2)).trans hx2
  have c7 : w2.cell? ⟨w.heap.size, 7, none⟩ = some (.int .i64 ia) := Lib.cell_of_heap hx3 7
  have hld2 : (loadVar 24 ⟨v2.heap.size, 0, none⟩).run Tryz.prog w2 = .ok (.agg #[.int .i64 k, .string T]) w2 := ho_load k T _ w2 hxb2
  have cu1 : w2.cell? ⟨b, 1, none⟩ = some (.int .i64 0) := Lib.cell_of_heap hu3.box 1
  have cu2 : w2.cell? ⟨b, 2, none⟩ = some (.string ⟨#[]⟩) := Lib.cell_of_heap hu3.box 2
  have fu1 : w2.frozen? ⟨b, 1, none⟩ = false := Lib.frozen_of_heap hu3.box 1
  have fu2 : w2.frozen? ⟨b, 2, none⟩ = false := Lib.frozen_of_heap hu3.box 2
  have hu4 := (hu3.set (cs' := urlA sch k ⟨#[]⟩ p0 ⟨#[]⟩ ⟨#[]⟩ ⟨#[]⟩ false false) 1 (.int .i64 k) (by simp [urlA])).set (cs' := urlA sch k T p0 ⟨#[]⟩ ⟨#[]⟩ ⟨#[]⟩ false false) 2 (.string T) (by simp [urlA])
  obtain ⟨w3, hW3⟩ : ∃ W, (w2.setCell ⟨b, 1, none⟩ (.int .i64 k)).setCell ⟨b, 2, none⟩ (.string T) = W := ⟨_, rfl⟩
  rw [hW3] at hu4
  have HU4 := Lib.hid hu4
  clear hb2 hba2 hxa2 hxb2 hbb2 hW2 hu2 hu3 hx2 hx3 hu4 c7
  have HF : Hid (Q (.returned .nilIface) w3) := Lib.hid (by rw [← HQ.out]; exact ⟨HU4.out.only, rfl, by rw [hT]; exact HU4.out.box⟩)
  go_wp2_with ((with_reducible show wpList _ _ _ (_ :: _) _ _); first | (refine st_arr 24 v2.heap.size _ hst2 _ _ rfl rfl rfl rfl ?_) | (refine ld_arr 24 v2.heap.size _ hld2 _ rfl rfl rfl ?_))
  exact HF.out
set_option maxRecDepth 100000 in
set_option maxHeartbeats 16000000 in
theorem au_co_nh_pz (b : Nat) (sch A Pp Qq F : ByteArray) (hA hQ hF : Bool) (ia ip iq jf : Nat) (p0 : Int) (w : World) (h64 : ∀ W, Calls Tryz.prog 75 #[.string A, .int .u8 64] W fun e w' => e = .returned (.int .i64 (-1)) ∧ w' = W) (i : Nat) (A2 N Pt : ByteArray) (hi : i < A.size) (sl : ∀ W, (Instr.slice 9 (.string A) (some (.int .i64 (i : Int))) none none).run Tryz.prog W = .ok (.string A2) W) (slN : ∀ W, (Instr.slice 9 (.string A) none (some (.int .i64 (i : Int))) none).run Tryz.prog W = .ok (.string N) W) (slP : ∀ W, (Instr.slice 9 (.string A) (some (.int .i64 ((i : Int) + 1))) none none).run Tryz.prog W = .ok (.string Pt) W) (h58 : ∀ W, Calls Tryz.prog 106 #[.string A, .int .u8 58] W fun e w' => e = .returned (.int .i64 (i : Int)) ∧ w' = W) (h93 : ∀ W, Calls Tryz.prog 75 #[.string A2, .int .u8 93] W fun e w' => e = .returned (.int .i64 (-1)) ∧ w' = W) (hN : N = ⟨#[]⟩) (hweb : ∀ W, Calls Tryz.prog 34 #[.string sch] W fun e w' => e = .returned (.bool false) ∧ w' = W) (hP : Pt = ⟨#[]⟩)
    (hw : w.heap[b]? = some (.cells (urlA sch 0 ⟨#[]⟩ p0 ⟨#[]⟩ ⟨#[]⟩ ⟨#[]⟩ false false) 50 (0, 0))) (hAz : A.size ≤ 1000000) (hia : ia ≤ 1000000) :
    Calls Tryz.prog 78 #[.pointer (some ⟨b, 0, none⟩), .agg (partV A Pp Qq F hA hQ hF ia ip iq jf)] w (AuPost b sch w (.ok ((0, []), p0))) := by
 obtain ⟨Q, hQQ⟩ : ∃ Q, AuPost b sch w (.ok ((0, []), p0)) = Q := ⟨_, rfl⟩
 show Calls _ _ _ _ (AuPost b sch w (.ok ((0, []), p0)))
 rw [hQQ]
 have HQ := Lib.hid hQQ
 obtain ⟨W1, hW1⟩ : ∃ W, w.alloc (.cells (partV A Pp Qq F hA hQ hF ia ip iq jf) 107) = W := ⟨_, rfl⟩
 have hx1 : W1.heap[w.heap.size]? = some (.cells (partV A Pp Qq F hA hQ hF ia ip iq jf) 107 (0, 0)) := by rw [← hW1]; exact heap_alloc_new w _
 have hu0 : UIn b w (urlA sch 0 ⟨#[]⟩ p0 ⟨#[]⟩ ⟨#[]⟩ ⟨#[]⟩ false false) w := ⟨Only.refl _ _, hw⟩
 have hu1 := hu0.below (W' := W1) (by rw [← hW1]; exact ext_alloc (Below.refl _ _) _)
 have HX1 := Lib.hid hx1; have HU1 := Lib.hid hu1
 have ca : W1.cell? ⟨w.heap.size, 0, none⟩ = some (.string A) := Lib.cell_of_heap hx1 0
 have c7 : W1.cell? ⟨w.heap.size, 7, none⟩ = some (.int .i64 ia) := Lib.cell_of_heap hx1 7
 have cs : W1.cell? ⟨b, 0, none⟩ = some (.string sch) := Lib.cell_of_heap hu1.box 0
 unfold partV at hW1
 clear hQQ hx1 hu0 hu1 hw
 have H64 := Lib.hid h64; have H58 := Lib.hid h58
 have H93 := Lib.hid h93
 have t2 : decide ((0 : Int) ≤ (i : Int)) = true := decide_eq_true (by omega)
 have q1 : IntKind.i64.wrap ((i : Int) + 1) = (i : Int) + 1 := IntWalk.i64_in _ (by omega)
 have q2 : IntKind.i64.wrap ((ia : Int) + (i : Int)) = (ia : Int) + (i : Int) := IntWalk.i64_in _ (by omega)
 have q3 : IntKind.i64.wrap ((ia : Int) + (i : Int) + 1) = (ia : Int) + (i : Int) + 1 := IntWalk.i64_in _ (by omega)
 clear h64 h58 h93 hi hAz hia
 have tp : (Pt.toList == []) = true := by rw [hP, ByteArray.toList_eq]; rfl
 clear hP
 have tn : N.toList.isEmpty = true := by rw [hN, ByteArray.toList_eq]; rfl
 clear hN
 have HWEB := Lib.hid hweb
 clear hweb
 go_enter Tryz.func78, Tryz.ntmps78
 unfold partV
 go_wp2_with fail
 refine (H64.out _).mono ?_
 rintro e v1 ⟨rfl, hv⟩
 have hv' := hv.symm
 subst hv'
 clear hv
 go_wp2_with fail
 refine (H58.out _).mono ?_
 rintro e v1 ⟨rfl, hv⟩
 have hv' := hv.symm
 subst hv'
 clear hv
 go_wp2_with fail
 refine (H93.out _).mono ?_
 rintro e v1 ⟨rfl, hv⟩
 have hv' := hv.symm
 subst hv'
 clear hv
 go_wp2_with fail
 go_quiet (fail)
 go_wp2_with fail
 refine (HWEB.out _).mono ?_
 rintro e v1 ⟨rfl, hv⟩
 have hv' := hv.symm
 subst hv'
 clear hv
 have HF : Hid (∀ n, Q (.returned .nilIface) (W1.drewN n)) := Lib.hid (fun n => by rw [← HQ.out]; have h := HU1.out.below (ext_drewN n (Below.refl _ _)); exact ⟨h.only, rfl, h.box⟩)
 have HF0 : Hid (Q (.returned .nilIface) W1) := Lib.hid (by rw [← HQ.out]; exact ⟨HU1.out.only, rfl, HU1.out.box⟩)
 go_wp2
 first | exact HF0.out | exact HF.out _
set_option maxRecDepth 100000 in
set_option maxHeartbeats 16000000 in
theorem au_co_nh_pe (b : Nat) (sch A Pp Qq F : ByteArray) (hA hQ hF : Bool) (ia ip iq jf : Nat) (p0 : Int) (w : World) (h64 : ∀ W, Calls Tryz.prog 75 #[.string A, .int .u8 64] W fun e w' => e = .returned (.int .i64 (-1)) ∧ w' = W) (i : Nat) (A2 N Pt : ByteArray) (hi : i < A.size) (sl : ∀ W, (Instr.slice 9 (.string A) (some (.int .i64 (i : Int))) none none).run Tryz.prog W = .ok (.string A2) W) (slN : ∀ W, (Instr.slice 9 (.string A) none (some (.int .i64 (i : Int))) none).run Tryz.prog W = .ok (.string N) W) (slP : ∀ W, (Instr.slice 9 (.string A) (some (.int .i64 ((i : Int) + 1))) none none).run Tryz.prog W = .ok (.string Pt) W) (h58 : ∀ W, Calls Tryz.prog 106 #[.string A, .int .u8 58] W fun e w' => e = .returned (.int .i64 (i : Int)) ∧ w' = W) (h93 : ∀ W, Calls Tryz.prog 75 #[.string A2, .int .u8 93] W fun e w' => e = .returned (.int .i64 (-1)) ∧ w' = W) (hN : N = ⟨#[]⟩) (hweb : ∀ W, Calls Tryz.prog 34 #[.string sch] W fun e w' => e = .returned (.bool false) ∧ w' = W) (hP : Pt ≠ ⟨#[]⟩) (pk : Nat) (pp : Int) (hdec : ∀ W, Calls Tryz.prog 144 #[.string Pt, .int .u64 65535] W (ScU W (.no pk pp)))
    (hw : w.heap[b]? = some (.cells (urlA sch 0 ⟨#[]⟩ p0 ⟨#[]⟩ ⟨#[]⟩ ⟨#[]⟩ false false) 50 (0, 0))) (hAz : A.size ≤ 1000000) (hia : ia ≤ 1000000) :
    Calls Tryz.prog 78 #[.pointer (some ⟨b, 0, none⟩), .agg (partV A Pp Qq F hA hQ hF ia ip iq jf)] w (AuPost b sch w (.er [(23, (ia : Int) + (i : Int) + 1), ((pk : Int), pp)])) := by
 obtain ⟨Q, hQQ⟩ : ∃ Q, AuPost b sch w (.er [(23, (ia : Int) + (i : Int) + 1), ((pk : Int), pp)]) = Q := ⟨_, rfl⟩
 show Calls _ _ _ _ (AuPost b sch w (.er [(23, (ia : Int) + (i : Int) + 1), ((pk : Int), pp)]))
 rw [hQQ]
 have HQ := Lib.hid hQQ
 obtain ⟨W1, hW1⟩ : ∃ W, w.alloc (.cells (partV A Pp Qq F hA hQ hF ia ip iq jf) 107) = W := ⟨_, rfl⟩
 have hx1 : W1.heap[w.heap.size]? = some (.cells (partV A Pp Qq F hA hQ hF ia ip iq jf) 107 (0, 0)) := by rw [← hW1]; exact heap_alloc_new w _
 have hu0 : UIn b w (urlA sch 0 ⟨#[]⟩ p0 ⟨#[]⟩ ⟨#[]⟩ ⟨#[]⟩ false false) w := ⟨Only.refl _ _, hw⟩
 have hu1 := hu0.below (W' := W1) (by rw [← hW1]; exact ext_alloc (Below.refl _ _) _)
 have HX1 := Lib.hid hx1; have HU1 := Lib.hid hu1
 have ca : W1.cell? ⟨w.heap.size, 0, none⟩ = some (.string A) := Lib.cell_of_heap hx1 0
 have c7 : W1.cell? ⟨w.heap.size, 7, none⟩ = some (.int .i64 ia) := Lib.cell_of_heap hx1 7
 have cs : W1.cell? ⟨b, 0, none⟩ = some (.string sch) := Lib.cell_of_heap hu1.box 0
 unfold partV at hW1
 clear hQQ hx1 hu0 hu1 hw
 have H64 := Lib.hid h64; have H58 := Lib.hid h58
 have H93 := Lib.hid h93
 have t2 : decide ((0 : Int) ≤ (i : Int)) = true := decide_eq_true (by omega)
 have q1 : IntKind.i64.wrap ((i : Int) + 1) = (i : Int) + 1 := IntWalk.i64_in _ (by omega)
 have q2 : IntKind.i64.wrap ((ia : Int) + (i : Int)) = (ia : Int) + (i : Int) := IntWalk.i64_in _ (by omega)
 have q3 : IntKind.i64.wrap ((ia : Int) + (i : Int) + 1) = (ia : Int) + (i : Int) + 1 := IntWalk.i64_in _ (by omega)
 clear h64 h58 h93 hi hAz hia
 have tp : (Pt.toList == []) = false := by have h := beqS_f hP; rw [show (⟨#[]⟩ : ByteArray).toList = [] by rw [ByteArray.toList_eq]] at h; exact h
 have HDEC := Lib.hid hdec
 clear hdec hP
 have tn : N.toList.isEmpty = true := by rw [hN, ByteArray.toList_eq]; rfl
 clear hN
 have HWEB := Lib.hid hweb
 clear hweb
 go_enter Tryz.func78, Tryz.ntmps78
 unfold partV
 go_wp2_with fail
 refine (H64.out _).mono ?_
 rintro e v1 ⟨rfl, hv⟩
 have hv' := hv.symm
 subst hv'
 clear hv
 go_wp2_with fail
 refine (H58.out _).mono ?_
 rintro e v1 ⟨rfl, hv⟩
 have hv' := hv.symm
 subst hv'
 clear hv
 go_wp2_with fail
 refine (H93.out _).mono ?_
 rintro e v1 ⟨rfl, hv⟩
 have hv' := hv.symm
 subst hv'
 clear hv
 go_wp2_with fail
 go_quiet (fail)
 go_wp2_with fail
 refine (HWEB.out _).mono ?_
 rintro e v1 ⟨rfl, hv⟩
 have hv' := hv.symm
 subst hv'
 clear hv
 go_wp2_with fail
 refine (HDEC.out _).mono ?_
 rintro e v5 ⟨u, rfl, hf⟩
 have hfe := failed_er hf
 have hu5 : UIn b w (urlA sch 0 ⟨#[]⟩ p0 ⟨#[]⟩ ⟨#[]⟩ ⟨#[]⟩ false false) v5 := by first | exact HU1.out.below hfe.2 | exact (HU1.out.below (ext_drewN _ (Below.refl _ _))).below hfe.2
 obtain ⟨bb, off, e5⟩ := fault_form hfe.1 (by simp)
 have WR := Lib.hid (wrap_any 23 ((ia : Int) + (i : Int) + 1) _ _ v5 hfe.1)
 have HF : Hid (Q (.returned (.iface 119 (.pointer (some ⟨v5.heap.size, 0, none⟩)))) (v5.alloc (.cells #[.int .i64 23, .int .i64 ((ia : Int) + (i : Int) + 1), .iface 119 (.pointer (some u))] 123))) := Lib.hid (by
  rw [← HQ.out]
  have hu6 := hu5.below (ext_alloc (Below.refl _ _) (.cells #[.int .i64 23, .int .i64 ((ia : Int) + (i : Int) + 1), .iface 119 (.pointer (some u))] 123))
  exact ⟨hu6.only, _, _, _, _, rfl, Rd.fault (k := 23) (a := (ia : Int) + (i : Int) + 1) hfe.1, hu6.box⟩)
 clear hf hfe hu5 e5
 go_wp2_with fail
 refine WR.out.mono ?_
 rintro e w6 ⟨rfl, rfl⟩
 go_wp2
 exact HF.out
set_option maxRecDepth 100000 in
set_option maxHeartbeats 16000000 in
theorem au_co_nh_po (b : Nat) (sch A Pp Qq F : ByteArray) (hA hQ hF : Bool) (ia ip iq jf : Nat) (p0 : Int) (w : World) (h64 : ∀ W, Calls Tryz.prog 75 #[.string A, .int .u8 64] W fun e w' => e = .returned (.int .i64 (-1)) ∧ w' = W) (i : Nat) (A2 N Pt : ByteArray) (hi : i < A.size) (sl : ∀ W, (Instr.slice 9 (.string A) (some (.int .i64 (i : Int))) none none).run Tryz.prog W = .ok (.string A2) W) (slN : ∀ W, (Instr.slice 9 (.string A) none (some (.int .i64 (i : Int))) none).run Tryz.prog W = .ok (.string N) W) (slP : ∀ W, (Instr.slice 9 (.string A) (some (.int .i64 ((i : Int) + 1))) none none).run Tryz.prog W = .ok (.string Pt) W) (h58 : ∀ W, Calls Tryz.prog 106 #[.string A, .int .u8 58] W fun e w' => e = .returned (.int .i64 (i : Int)) ∧ w' = W) (h93 : ∀ W, Calls Tryz.prog 75 #[.string A2, .int .u8 93] W fun e w' => e = .returned (.int .i64 (-1)) ∧ w' = W) (hN : N = ⟨#[]⟩) (hweb : ∀ W, Calls Tryz.prog 34 #[.string sch] W fun e w' => e = .returned (.bool false) ∧ w' = W) (hP : Pt ≠ ⟨#[]⟩) (n : Nat) (hn : n ≤ 65535) (hdec : ∀ W, Calls Tryz.prog 144 #[.string Pt, .int .u64 65535] W (ScU W (.ok n)))
    (hw : w.heap[b]? = some (.cells (urlA sch 0 ⟨#[]⟩ p0 ⟨#[]⟩ ⟨#[]⟩ ⟨#[]⟩ false false) 50 (0, 0))) (hAz : A.size ≤ 1000000) (hia : ia ≤ 1000000) :
    Calls Tryz.prog 78 #[.pointer (some ⟨b, 0, none⟩), .agg (partV A Pp Qq F hA hQ hF ia ip iq jf)] w (AuPost b sch w (.ok ((0, []), (n : Int)))) := by
 obtain ⟨Q, hQQ⟩ : ∃ Q, AuPost b sch w (.ok ((0, []), (n : Int))) = Q := ⟨_, rfl⟩
 show Calls _ _ _ _ (AuPost b sch w (.ok ((0, []), (n : Int))))
 rw [hQQ]
 have HQ := Lib.hid hQQ
 obtain ⟨W1, hW1⟩ : ∃ W, w.alloc (.cells (partV A Pp Qq F hA hQ hF ia ip iq jf) 107) = W := ⟨_, rfl⟩
 have hx1 : W1.heap[w.heap.size]? = some (.cells (partV A Pp Qq F hA hQ hF ia ip iq jf) 107 (0, 0)) := by rw [← hW1]; exact heap_alloc_new w _
 have hu0 : UIn b w (urlA sch 0 ⟨#[]⟩ p0 ⟨#[]⟩ ⟨#[]⟩ ⟨#[]⟩ false false) w := ⟨Only.refl _ _, hw⟩
 have hu1 := hu0.below (W' := W1) (by rw [← hW1]; exact ext_alloc (Below.refl _ _) _)
 have HX1 := Lib.hid hx1; have HU1 := Lib.hid hu1
 have ca : W1.cell? ⟨w.heap.size, 0, none⟩ = some (.string A) := Lib.cell_of_heap hx1 0
 have c7 : W1.cell? ⟨w.heap.size, 7, none⟩ = some (.int .i64 ia) := Lib.cell_of_heap hx1 7
 have cs : W1.cell? ⟨b, 0, none⟩ = some (.string sch) := Lib.cell_of_heap hu1.box 0
 unfold partV at hW1
 clear hQQ hx1 hu0 hu1 hw
 have H64 := Lib.hid h64; have H58 := Lib.hid h58
 have H93 := Lib.hid h93
 have t2 : decide ((0 : Int) ≤ (i : Int)) = true := decide_eq_true (by omega)
 have q1 : IntKind.i64.wrap ((i : Int) + 1) = (i : Int) + 1 := IntWalk.i64_in _ (by omega)
 have q2 : IntKind.i64.wrap ((ia : Int) + (i : Int)) = (ia : Int) + (i : Int) := IntWalk.i64_in _ (by omega)
 have q3 : IntKind.i64.wrap ((ia : Int) + (i : Int) + 1) = (ia : Int) + (i : Int) + 1 := IntWalk.i64_in _ (by omega)
 clear h64 h58 h93 hi hAz hia
 have tp : (Pt.toList == []) = false := by have h := beqS_f hP; rw [show (⟨#[]⟩ : ByteArray).toList = [] by rw [ByteArray.toList_eq]] at h; exact h
 have HDEC := Lib.hid hdec
 clear hdec hP
 have tn : N.toList.isEmpty = true := by rw [hN, ByteArray.toList_eq]; rfl
 clear hN
 have HWEB := Lib.hid hweb
 clear hweb
 go_enter Tryz.func78, Tryz.ntmps78
 unfold partV
 go_wp2_with fail
 refine (H64.out _).mono ?_
 rintro e v1 ⟨rfl, hv⟩
 have hv' := hv.symm
 subst hv'
 clear hv
 go_wp2_with fail
 refine (H58.out _).mono ?_
 rintro e v1 ⟨rfl, hv⟩
 have hv' := hv.symm
 subst hv'
 clear hv
 go_wp2_with fail
 refine (H93.out _).mono ?_
 rintro e v1 ⟨rfl, hv⟩
 have hv' := hv.symm
 subst hv'
 clear hv
 go_wp2_with fail
 go_quiet (fail)
 go_wp2_with fail
 refine (HWEB.out _).mono ?_
 rintro e v1 ⟨rfl, hv⟩
 have hv' := hv.symm
 subst hv'
 clear hv
 go_wp2_with fail
 refine (HDEC.out _).mono ?_
 rintro e v5 ⟨rfl, hb5⟩
 have hu5 : UIn b w (urlA sch 0 ⟨#[]⟩ p0 ⟨#[]⟩ ⟨#[]⟩ ⟨#[]⟩ false false) v5 := by first | exact HU1.out.below hb5 | exact (HU1.out.below (ext_drewN _ (Below.refl _ _))).below hb5
 have cu3 : v5.cell? ⟨b, 3, none⟩ = some (.int .i64 p0) := Lib.cell_of_heap hu5.box 3
 have fu3 : v5.frozen? ⟨b, 3, none⟩ = false := Lib.frozen_of_heap hu5.box 3
 have q5 : IntKind.i64.wrap (n : Int) = (n : Int) := IntWalk.i64_in _ (by omega)
 have hu6 := hu5.set (cs' := urlA sch 0 ⟨#[]⟩ (n : Int) ⟨#[]⟩ ⟨#[]⟩ ⟨#[]⟩ false false) 3 (.int .i64 (n : Int)) (by simp [urlA])
 have HF : Hid (Q (.returned .nilIface) (v5.setCell ⟨b, 3, none⟩ (.int .i64 (n : Int)))) := Lib.hid (by rw [← HQ.out]; exact ⟨hu6.only, rfl, by skip; exact hu6.box⟩)
 clear hb5 hu5 hu6
 go_wp2
 exact HF.out
set_option maxRecDepth 100000 in
set_option maxHeartbeats 16000000 in
theorem au_co_he (b : Nat) (sch A Pp Qq F : ByteArray) (hA hQ hF : Bool) (ia ip iq jf : Nat) (p0 : Int) (w : World) (h64 : ∀ W, Calls Tryz.prog 75 #[.string A, .int .u8 64] W fun e w' => e = .returned (.int .i64 (-1)) ∧ w' = W) (i : Nat) (A2 N Pt : ByteArray) (hi : i < A.size) (sl : ∀ W, (Instr.slice 9 (.string A) (some (.int .i64 (i : Int))) none none).run Tryz.prog W = .ok (.string A2) W) (slN : ∀ W, (Instr.slice 9 (.string A) none (some (.int .i64 (i : Int))) none).run Tryz.prog W = .ok (.string N) W) (slP : ∀ W, (Instr.slice 9 (.string A) (some (.int .i64 ((i : Int) + 1))) none none).run Tryz.prog W = .ok (.string Pt) W) (h58 : ∀ W, Calls Tryz.prog 106 #[.string A, .int .u8 58] W fun e w' => e = .returned (.int .i64 (i : Int)) ∧ w' = W) (h93 : ∀ W, Calls Tryz.prog 75 #[.string A2, .int .u8 93] W fun e w' => e = .returned (.int .i64 (-1)) ∧ w' = W) (hN : N ≠ ⟨#[]⟩ ∨ (N = ⟨#[]⟩ ∧ ∀ W, Calls Tryz.prog 34 #[.string sch] W fun e w' => e = .returned (.bool true) ∧ w' = W)) (c : List (Int × Int)) (hcan : ∀ W, Below w.heap.size w W → Calls Tryz.prog 15 #[.string N] W fun e w' => Below W.heap.size W w' ∧ ∃ u, e = .returned (.tuple #[.agg #[.int .i64 0, .string ⟨#[]⟩], u]) ∧ Er w' u c) (hc : c ≠ []) 
    (hw : w.heap[b]? = some (.cells (urlA sch 0 ⟨#[]⟩ p0 ⟨#[]⟩ ⟨#[]⟩ ⟨#[]⟩ false false) 50 (0, 0))) (hAz : A.size ≤ 1000000) (hia : ia ≤ 1000000) :
    Calls Tryz.prog 78 #[.pointer (some ⟨b, 0, none⟩), .agg (partV A Pp Qq F hA hQ hF ia ip iq jf)] w (AuPost b sch w (.er ((22, (ia : Int)) :: c))) := by
 obtain ⟨Q, hQQ⟩ : ∃ Q, AuPost b sch w (.er ((22, (ia : Int)) :: c)) = Q := ⟨_, rfl⟩
 show Calls _ _ _ _ (AuPost b sch w (.er ((22, (ia : Int)) :: c)))
 rw [hQQ]
 have HQ := Lib.hid hQQ
 obtain ⟨W1, hW1⟩ : ∃ W, w.alloc (.cells (partV A Pp Qq F hA hQ hF ia ip iq jf) 107) = W := ⟨_, rfl⟩
 have hx1 : W1.heap[w.heap.size]? = some (.cells (partV A Pp Qq F hA hQ hF ia ip iq jf) 107 (0, 0)) := by rw [← hW1]; exact heap_alloc_new w _
 have hu0 : UIn b w (urlA sch 0 ⟨#[]⟩ p0 ⟨#[]⟩ ⟨#[]⟩ ⟨#[]⟩ false false) w := ⟨Only.refl _ _, hw⟩
 have hu1 := hu0.below (W' := W1) (by rw [← hW1]; exact ext_alloc (Below.refl _ _) _)
 have HX1 := Lib.hid hx1; have HU1 := Lib.hid hu1
 have ca : W1.cell? ⟨w.heap.size, 0, none⟩ = some (.string A) := Lib.cell_of_heap hx1 0
 have c7 : W1.cell? ⟨w.heap.size, 7, none⟩ = some (.int .i64 ia) := Lib.cell_of_heap hx1 7
 have cs : W1.cell? ⟨b, 0, none⟩ = some (.string sch) := Lib.cell_of_heap hu1.box 0
 unfold partV at hW1
 clear hQQ hx1 hu0 hu1 hw
 have H64 := Lib.hid h64; have H58 := Lib.hid h58
 have H93 := Lib.hid h93
 have t2 : decide ((0 : Int) ≤ (i : Int)) = true := decide_eq_true (by omega)
 have q1 : IntKind.i64.wrap ((i : Int) + 1) = (i : Int) + 1 := IntWalk.i64_in _ (by omega)
 have q2 : IntKind.i64.wrap ((ia : Int) + (i : Int)) = (ia : Int) + (i : Int) := IntWalk.i64_in _ (by omega)
 have q3 : IntKind.i64.wrap ((ia : Int) + (i : Int) + 1) = (ia : Int) + (i : Int) + 1 := IntWalk.i64_in _ (by omega)
 clear h64 h58 h93 hi hAz hia
 have hb1 : Below w.heap.size w W1 := by rw [show W1 = w.alloc (.cells (partV A Pp Qq F hA hQ hF ia ip iq jf) 107) from by rw [← hW1]; rfl]; exact ext_alloc (Below.refl _ _) _
 have HB1 := Lib.hid hb1; have HCAN := Lib.hid hcan
 clear hb1 hcan
 have hN2 : (N.toList.isEmpty = false) ∨ (N.toList.isEmpty = true ∧ Hid (∀ W, Calls Tryz.prog 34 #[.string sch] W fun e w' => e = .returned (.bool true) ∧ w' = W)) := by
  rcases hN with h | ⟨h, g⟩
  · exact .inl (str_ne (fun e => h (empty_of e)))
  · exact .inr ⟨by rw [h, ByteArray.toList_eq]; rfl, Lib.hid g⟩
 clear hN
 rcases hN2 with tn | ⟨tn, HWEB⟩
 all_goals
  go_enter Tryz.func78, Tryz.ntmps78
  unfold partV
  go_wp2_with fail
  refine (H64.out _).mono ?_
  rintro e v1 ⟨rfl, hv⟩
  have hv' := hv.symm
  subst hv'
  clear hv
  go_wp2_with fail
  refine (H58.out _).mono ?_
  rintro e v1 ⟨rfl, hv⟩
  have hv' := hv.symm
  subst hv'
  clear hv
  go_wp2_with fail
  refine (H93.out _).mono ?_
  rintro e v1 ⟨rfl, hv⟩
  have hv' := hv.symm
  subst hv'
  clear hv
  go_wp2_with fail
  go_quiet (fail)
  try (go_wp2_with fail; refine (HWEB.out _).mono ?_; rintro e v1 ⟨rfl, hv⟩; have hv' := hv.symm; subst hv'; clear hv)
  go_wp2_with fail
  refine (HCAN.out _ (by first | exact HB1.out | exact ext_drewN _ HB1.out)).mono ?_
  rintro e v2 ⟨hb2, u, rfl, hE⟩
  obtain ⟨bb, off, rfl⟩ := fault_form hE hc
  have hu2 : UIn b w (urlA sch 0 ⟨#[]⟩ p0 ⟨#[]⟩ ⟨#[]⟩ ⟨#[]⟩ false false) v2 := by first | exact HU1.out.below hb2 | exact (HU1.out.below (ext_drewN _ (Below.refl _ _))).below hb2
  have hx2 : v2.heap[w.heap.size]? = some (.cells (partV A Pp Qq F hA hQ hF ia ip iq jf) 107 (0, 0)) := (hb2.block _ (heap_lt HX1.out)).trans HX1.out
  obtain ⟨a2, hA2⟩ : ∃ W, v2.alloc (.cells #[.int .i64 0, .string ⟨#[]⟩] 24) = W := ⟨_, rfl⟩
  have hba2 : Below v2.heap.size v2 a2 := by rw [← hA2]; exact ext_alloc (Below.refl _ _) _
  have hxa2 : a2.heap[v2.heap.size]? = some (.cells (hostC 0 ⟨#[]⟩) 24 (0, 0)) := by rw [← hA2]; exact heap_alloc_new v2 _
  have hst2 : (storeVar 24 ⟨v2.heap.size, 0, none⟩ (.agg #[.int .i64 0, .string ⟨#[]⟩])).run Tryz.prog a2 = .ok () (a2.setRow v2.heap.size #[.int .i64 0, .string ⟨#[]⟩]) := ho_store 0 0 ⟨#[]⟩ ⟨#[]⟩ _ a2 hxa2
  have hxb2 := setRow_heap (c := #[.int .i64 0, .string ⟨#[]⟩]) hxa2
  have hbb2 : Below v2.heap.size v2 (a2.setRow v2.heap.size #[.int .i64 0, .string ⟨#[]⟩]) := setRow_below hba2 (Nat.le_refl _)
  obtain ⟨w2, hW2⟩ : ∃ W, a2.setRow v2.heap.size #[.int .i64 0, .string ⟨#[]⟩] = W := ⟨_, rfl⟩
  rw [hW2] at hst2 hxb2 hbb2
  have hu3 := hu2.below hbb2
  have hx3 : w2.heap[w.heap.size]? = some (.cells (partV A Pp Qq F hA hQ hF ia ip iq jf) 107 (0, 0)) := (hbb2.block _ (heap_lt hx2)).trans hx2
  have c7 : w2.cell? ⟨w.heap.size, 7, none⟩ = some (.int .i64 ia) := Lib.cell_of_heap hx3 7
  have hE2 := hE.ext hbb2
  have WR := Lib.hid (wrap_any 22 (ia : Int) _ _ w2 hE2)
  have HF : Hid (Q (.returned (.iface 119 (.pointer (some ⟨w2.heap.size, 0, none⟩)))) (w2.alloc (.cells #[.int .i64 22, .int .i64 (ia : Int), .iface 119 (.pointer (some ⟨bb, off, none⟩))] 123))) := Lib.hid (by
   rw [← HQ.out]
   have hu4 := hu3.below (ext_alloc (Below.refl _ _) (.cells #[.int .i64 22, .int .i64 (ia : Int), .iface 119 (.pointer (some ⟨bb, off, none⟩))] 123))
   exact ⟨hu4.only, _, _, _, _, rfl, Rd.fault (k := 22) (a := (ia : Int)) hE2, hu4.box⟩)
  clear hb2 hE hba2 hxa2 hxb2 hbb2 hW2 hu2 hu3 hx2 hx3 hE2
  go_wp2_with ((with_reducible show wpList _ _ _ (_ :: _) _ _); refine st_arr 24 v2.heap.size _ hst2 _ _ rfl rfl rfl rfl ?_)
  clear hA2 hst2
  refine WR.out.mono ?_
  rintro e w4 ⟨rfl, rfl⟩
  go_wp2
  exact HF.out
set_option maxRecDepth 100000 in
set_option maxHeartbeats 16000000 in
theorem au_co_ho_pz (b : Nat) (sch A Pp Qq F : ByteArray) (hA hQ hF : Bool) (ia ip iq jf : Nat) (p0 : Int) (w : World) (h64 : ∀ W, Calls Tryz.prog 75 #[.string A, .int .u8 64] W fun e w' => e = .returned (.int .i64 (-1)) ∧ w' = W) (i : Nat) (A2 N Pt : ByteArray) (hi : i < A.size) (sl : ∀ W, (Instr.slice 9 (.string A) (some (.int .i64 (i : Int))) none none).run Tryz.prog W = .ok (.string A2) W) (slN : ∀ W, (Instr.slice 9 (.string A) none (some (.int .i64 (i : Int))) none).run Tryz.prog W = .ok (.string N) W) (slP : ∀ W, (Instr.slice 9 (.string A) (some (.int .i64 ((i : Int) + 1))) none none).run Tryz.prog W = .ok (.string Pt) W) (h58 : ∀ W, Calls Tryz.prog 106 #[.string A, .int .u8 58] W fun e w' => e = .returned (.int .i64 (i : Int)) ∧ w' = W) (h93 : ∀ W, Calls Tryz.prog 75 #[.string A2, .int .u8 93] W fun e w' => e = .returned (.int .i64 (-1)) ∧ w' = W) (hN : N ≠ ⟨#[]⟩ ∨ (N = ⟨#[]⟩ ∧ ∀ W, Calls Tryz.prog 34 #[.string sch] W fun e w' => e = .returned (.bool true) ∧ w' = W)) (k : Nat) (t : List Nat) (T : ByteArray) (hT : bytesL t = T) (hcan : ∀ W, Below w.heap.size w W → Calls Tryz.prog 15 #[.string N] W fun e w' => Below W.heap.size W w' ∧ e = .returned (.tuple #[.agg #[.int .i64 k, .string T], .nilIface])) (hP : Pt = ⟨#[]⟩)
    (hw : w.heap[b]? = some (.cells (urlA sch 0 ⟨#[]⟩ p0 ⟨#[]⟩ ⟨#[]⟩ ⟨#[]⟩ false false) 50 (0, 0))) (hAz : A.size ≤ 1000000) (hia : ia ≤ 1000000) :
    Calls Tryz.prog 78 #[.pointer (some ⟨b, 0, none⟩), .agg (partV A Pp Qq F hA hQ hF ia ip iq jf)] w (AuPost b sch w (.ok ((k, t), p0))) := by
 obtain ⟨Q, hQQ⟩ : ∃ Q, AuPost b sch w (.ok ((k, t), p0)) = Q := ⟨_, rfl⟩
 show Calls _ _ _ _ (AuPost b sch w (.ok ((k, t), p0)))
 rw [hQQ]
 have HQ := Lib.hid hQQ
 obtain ⟨W1, hW1⟩ : ∃ W, w.alloc (.cells (partV A Pp Qq F hA hQ hF ia ip iq jf) 107) = W := ⟨_, rfl⟩
 have hx1 : W1.heap[w.heap.size]? = some (.cells (partV A Pp Qq F hA hQ hF ia ip iq jf) 107 (0, 0)) := by rw [← hW1]; exact heap_alloc_new w _
 have hu0 : UIn b w (urlA sch 0 ⟨#[]⟩ p0 ⟨#[]⟩ ⟨#[]⟩ ⟨#[]⟩ false false) w := ⟨Only.refl _ _, hw⟩
 have hu1 := hu0.below (W' := W1) (by rw [← hW1]; exact ext_alloc (Below.refl _ _) _)
 have HX1 := Lib.hid hx1; have HU1 := Lib.hid hu1
 have ca : W1.cell? ⟨w.heap.size, 0, none⟩ = some (.string A) := Lib.cell_of_heap hx1 0
 have c7 : W1.cell? ⟨w.heap.size, 7, none⟩ = some (.int .i64 ia) := Lib.cell_of_heap hx1 7
 have cs : W1.cell? ⟨b, 0, none⟩ = some (.string sch) := Lib.cell_of_heap hu1.box 0
 unfold partV at hW1
 clear hQQ hx1 hu0 hu1 hw
 have H64 := Lib.hid h64; have H58 := Lib.hid h58
 have H93 := Lib.hid h93
 have t2 : decide ((0 : Int) ≤ (i : Int)) = true := decide_eq_true (by omega)
 have q1 : IntKind.i64.wrap ((i : Int) + 1) = (i : Int) + 1 := IntWalk.i64_in _ (by omega)
 have q2 : IntKind.i64.wrap ((ia : Int) + (i : Int)) = (ia : Int) + (i : Int) := IntWalk.i64_in _ (by omega)
 have q3 : IntKind.i64.wrap ((ia : Int) + (i : Int) + 1) = (ia : Int) + (i : Int) + 1 := IntWalk.i64_in _ (by omega)
 clear h64 h58 h93 hi hAz hia
 have tp : (Pt.toList == []) = true := by rw [hP, ByteArray.toList_eq]; rfl
 clear hP
 have hb1 : Below w.heap.size w W1 := by rw [show W1 = w.alloc (.cells (partV A Pp Qq F hA hQ hF ia ip iq jf) 107) from by rw [← hW1]; rfl]; exact ext_alloc (Below.refl _ _) _
 have HB1 := Lib.hid hb1; have HCAN := Lib.hid hcan
 clear hb1 hcan
 have hN2 : (N.toList.isEmpty = false) ∨ (N.toList.isEmpty = true ∧ Hid (∀ W, Calls Tryz.prog 34 #[.string sch] W fun e w' => e = .returned (.bool true) ∧ w' = W)) := by
  rcases hN with h | ⟨h, g⟩
  · exact .inl (str_ne (fun e => h (empty_of e)))
  · exact .inr ⟨by rw [h, ByteArray.toList_eq]; rfl, Lib.hid g⟩
 clear hN
 rcases hN2 with tn | ⟨tn, HWEB⟩
 all_goals
  go_enter Tryz.func78, Tryz.ntmps78
  unfold partV
  go_wp2_with fail
  refine (H64.out _).mono ?_
  rintro e v1 ⟨rfl, hv⟩
  have hv' := hv.symm
  subst hv'
  clear hv
  go_wp2_with fail
  refine (H58.out _).mono ?_
  rintro e v1 ⟨rfl, hv⟩
  have hv' := hv.symm
  subst hv'
  clear hv
  go_wp2_with fail
  refine (H93.out _).mono ?_
  rintro e v1 ⟨rfl, hv⟩
  have hv' := hv.symm
  subst hv'
  clear hv
  go_wp2_with fail
  go_quiet (fail)
  try (go_wp2_with fail; refine (HWEB.out _).mono ?_; rintro e v1 ⟨rfl, hv⟩; have hv' := hv.symm; subst hv'; clear hv)
  go_wp2_with fail
  refine (HCAN.out _ (by first | exact HB1.out | exact ext_drewN _ HB1.out)).mono ?_
  rintro e v2 ⟨hb2, rfl⟩
  have hu2 : UIn b w (urlA sch 0 ⟨#[]⟩ p0 ⟨#[]⟩ ⟨#[]⟩ ⟨#[]⟩ false false) v2 := by first | exact HU1.out.below hb2 | exact (HU1.out.below (ext_drewN _ (Below.refl _ _))).below hb2
  have hx2 : v2.heap[w.heap.size]? = some (.cells (partV A Pp Qq F hA hQ hF ia ip iq jf) 107 (0, 0)) := (hb2.block _ (heap_lt HX1.out)).trans HX1.out
  obtain ⟨a2, hA2⟩ : ∃ W, v2.alloc (.cells #[.int .i64 0, .string ⟨#[]⟩] 24) = W := ⟨_, rfl⟩
  have hba2 : Below v2.heap.size v2 a2 := by rw [← hA2]; exact ext_alloc (Below.refl _ _) _
  have hxa2 : a2.heap[v2.heap.size]? = some (.cells (hostC 0 ⟨#[]⟩) 24 (0, 0)) := by rw [← hA2]; exact heap_alloc_new v2 _
  have hst2 : (storeVar 24 ⟨v2.heap.size, 0, none⟩ (.agg #[.int .i64 k, .string T])).run Tryz.prog a2 = .ok () (a2.setRow v2.heap.size #[.int .i64 k, .string T]) := ho_store k 0 T ⟨#[]⟩ _ a2 hxa2
  have hxb2 := setRow_heap (c := #[.int .i64 k, .string T]) hxa2
  have hbb2 : Below v2.heap.size v2 (a2.setRow v2.heap.size #[.int .i64 k, .string T]) := setRow_below hba2 (Nat.le_refl _)
  obtain ⟨w2, hW2⟩ : ∃ W, a2.setRow v2.heap.size #[.int .i64 k, .string T] = W := ⟨_, rfl⟩
  rw [hW2] at hst2 hxb2 hbb2
  have hu3 := hu2.below hbb2
  have hx3 : w2.heap[w.heap.size]? = some (.cells (partV A Pp Qq F hA hQ hF ia ip iq jf) 107 (0, 0)) := (hbb2.block _ (heap_lt hx2)).trans hx2
  have c7 : w2.cell? ⟨w.heap.size, 7, none⟩ = some (.int .i64 ia) := Lib.cell_of_heap hx3 7
  have hld2 : (loadVar 24 ⟨v2.heap.size, 0, none⟩).run Tryz.prog w2 = .ok (.agg #[.int .i64 k, .string T]) w2 := ho_load k T _ w2 hxb2
  have cu1 : w2.cell? ⟨b, 1, none⟩ = some (.int .i64 0) := Lib.cell_of_heap hu3.box 1
  have cu2 : w2.cell? ⟨b, 2, none⟩ = some (.string ⟨#[]⟩) := Lib.cell_of_heap hu3.box 2
  have fu1 : w2.frozen? ⟨b, 1, none⟩ = false := Lib.frozen_of_heap hu3.box 1
  have fu2 : w2.frozen? ⟨b, 2, none⟩ = false := Lib.frozen_of_heap hu3.box 2
  have hu4 := (hu3.set (cs' := urlA sch k ⟨#[]⟩ p0 ⟨#[]⟩ ⟨#[]⟩ ⟨#[]⟩ false false) 1 (.int .i64 k) (by simp [urlA])).set (cs' := urlA sch k T p0 ⟨#[]⟩ ⟨#[]⟩ ⟨#[]⟩ false false) 2 (.string T) (by simp [urlA])
  obtain ⟨w3, hW3⟩ : ∃ W, (w2.setCell ⟨b, 1, none⟩ (.int .i64 k)).setCell ⟨b, 2, none⟩ (.string T) = W := ⟨_, rfl⟩
  rw [hW3] at hu4
  have HU4 := Lib.hid hu4
  clear hb2 hba2 hxa2 hxb2 hbb2 hW2 hu2 hu3 hx2 hx3 hu4 c7
  have HF : Hid (Q (.returned .nilIface) w3) := Lib.hid (by rw [← HQ.out]; exact ⟨HU4.out.only, rfl, by rw [hT]; exact HU4.out.box⟩)
  go_wp2_with ((with_reducible show wpList _ _ _ (_ :: _) _ _); first | (refine st_arr 24 v2.heap.size _ hst2 _ _ rfl rfl rfl rfl ?_) | (refine ld_arr 24 v2.heap.size _ hld2 _ rfl rfl rfl ?_))
  exact HF.out
set_option maxRecDepth 100000 in
set_option maxHeartbeats 16000000 in
theorem au_co_ho_pe (b : Nat) (sch A Pp Qq F : ByteArray) (hA hQ hF : Bool) (ia ip iq jf : Nat) (p0 : Int) (w : World) (h64 : ∀ W, Calls Tryz.prog 75 #[.string A, .int .u8 64] W fun e w' => e = .returned (.int .i64 (-1)) ∧ w' = W) (i : Nat) (A2 N Pt : ByteArray) (hi : i < A.size) (sl : ∀ W, (Instr.slice 9 (.string A) (some (.int .i64 (i : Int))) none none).run Tryz.prog W = .ok (.string A2) W) (slN : ∀ W, (Instr.slice 9 (.string A) none (some (.int .i64 (i : Int))) none).run Tryz.prog W = .ok (.string N) W) (slP : ∀ W, (Instr.slice 9 (.string A) (some (.int .i64 ((i : Int) + 1))) none none).run Tryz.prog W = .ok (.string Pt) W) (h58 : ∀ W, Calls Tryz.prog 106 #[.string A, .int .u8 58] W fun e w' => e = .returned (.int .i64 (i : Int)) ∧ w' = W) (h93 : ∀ W, Calls Tryz.prog 75 #[.string A2, .int .u8 93] W fun e w' => e = .returned (.int .i64 (-1)) ∧ w' = W) (hN : N ≠ ⟨#[]⟩ ∨ (N = ⟨#[]⟩ ∧ ∀ W, Calls Tryz.prog 34 #[.string sch] W fun e w' => e = .returned (.bool true) ∧ w' = W)) (k : Nat) (t : List Nat) (T : ByteArray) (_hT : bytesL t = T) (hcan : ∀ W, Below w.heap.size w W → Calls Tryz.prog 15 #[.string N] W fun e w' => Below W.heap.size W w' ∧ e = .returned (.tuple #[.agg #[.int .i64 k, .string T], .nilIface])) (hP : Pt ≠ ⟨#[]⟩) (pk : Nat) (pp : Int) (hdec : ∀ W, Calls Tryz.prog 144 #[.string Pt, .int .u64 65535] W (ScU W (.no pk pp)))
    (hw : w.heap[b]? = some (.cells (urlA sch 0 ⟨#[]⟩ p0 ⟨#[]⟩ ⟨#[]⟩ ⟨#[]⟩ false false) 50 (0, 0))) (hAz : A.size ≤ 1000000) (hia : ia ≤ 1000000) :
    Calls Tryz.prog 78 #[.pointer (some ⟨b, 0, none⟩), .agg (partV A Pp Qq F hA hQ hF ia ip iq jf)] w (AuPost b sch w (.er [(23, (ia : Int) + (i : Int) + 1), ((pk : Int), pp)])) := by
 obtain ⟨Q, hQQ⟩ : ∃ Q, AuPost b sch w (.er [(23, (ia : Int) + (i : Int) + 1), ((pk : Int), pp)]) = Q := ⟨_, rfl⟩
 show Calls _ _ _ _ (AuPost b sch w (.er [(23, (ia : Int) + (i : Int) + 1), ((pk : Int), pp)]))
 rw [hQQ]
 have HQ := Lib.hid hQQ
 obtain ⟨W1, hW1⟩ : ∃ W, w.alloc (.cells (partV A Pp Qq F hA hQ hF ia ip iq jf) 107) = W := ⟨_, rfl⟩
 have hx1 : W1.heap[w.heap.size]? = some (.cells (partV A Pp Qq F hA hQ hF ia ip iq jf) 107 (0, 0)) := by rw [← hW1]; exact heap_alloc_new w _
 have hu0 : UIn b w (urlA sch 0 ⟨#[]⟩ p0 ⟨#[]⟩ ⟨#[]⟩ ⟨#[]⟩ false false) w := ⟨Only.refl _ _, hw⟩
 have hu1 := hu0.below (W' := W1) (by rw [← hW1]; exact ext_alloc (Below.refl _ _) _)
 have HX1 := Lib.hid hx1; have HU1 := Lib.hid hu1
 have ca : W1.cell? ⟨w.heap.size, 0, none⟩ = some (.string A) := Lib.cell_of_heap hx1 0
 have c7 : W1.cell? ⟨w.heap.size, 7, none⟩ = some (.int .i64 ia) := Lib.cell_of_heap hx1 7
 have cs : W1.cell? ⟨b, 0, none⟩ = some (.string sch) := Lib.cell_of_heap hu1.box 0
 unfold partV at hW1
 clear hQQ hx1 hu0 hu1 hw
 have H64 := Lib.hid h64; have H58 := Lib.hid h58
 have H93 := Lib.hid h93
 have t2 : decide ((0 : Int) ≤ (i : Int)) = true := decide_eq_true (by omega)
 have q1 : IntKind.i64.wrap ((i : Int) + 1) = (i : Int) + 1 := IntWalk.i64_in _ (by omega)
 have q2 : IntKind.i64.wrap ((ia : Int) + (i : Int)) = (ia : Int) + (i : Int) := IntWalk.i64_in _ (by omega)
 have q3 : IntKind.i64.wrap ((ia : Int) + (i : Int) + 1) = (ia : Int) + (i : Int) + 1 := IntWalk.i64_in _ (by omega)
 clear h64 h58 h93 hi hAz hia
 have tp : (Pt.toList == []) = false := by have h := beqS_f hP; rw [show (⟨#[]⟩ : ByteArray).toList = [] by rw [ByteArray.toList_eq]] at h; exact h
 have HDEC := Lib.hid hdec
 clear hdec hP
 have hb1 : Below w.heap.size w W1 := by rw [show W1 = w.alloc (.cells (partV A Pp Qq F hA hQ hF ia ip iq jf) 107) from by rw [← hW1]; rfl]; exact ext_alloc (Below.refl _ _) _
 have HB1 := Lib.hid hb1; have HCAN := Lib.hid hcan
 clear hb1 hcan
 have hN2 : (N.toList.isEmpty = false) ∨ (N.toList.isEmpty = true ∧ Hid (∀ W, Calls Tryz.prog 34 #[.string sch] W fun e w' => e = .returned (.bool true) ∧ w' = W)) := by
  rcases hN with h | ⟨h, g⟩
  · exact .inl (str_ne (fun e => h (empty_of e)))
  · exact .inr ⟨by rw [h, ByteArray.toList_eq]; rfl, Lib.hid g⟩
 clear hN
 rcases hN2 with tn | ⟨tn, HWEB⟩
 all_goals
  go_enter Tryz.func78, Tryz.ntmps78
  unfold partV
  go_wp2_with fail
  refine (H64.out _).mono ?_
  rintro e v1 ⟨rfl, hv⟩
  have hv' := hv.symm
  subst hv'
  clear hv
  go_wp2_with fail
  refine (H58.out _).mono ?_
  rintro e v1 ⟨rfl, hv⟩
  have hv' := hv.symm
  subst hv'
  clear hv
  go_wp2_with fail
  refine (H93.out _).mono ?_
  rintro e v1 ⟨rfl, hv⟩
  have hv' := hv.symm
  subst hv'
  clear hv
  go_wp2_with fail
  go_quiet (fail)
  try (go_wp2_with fail; refine (HWEB.out _).mono ?_; rintro e v1 ⟨rfl, hv⟩; have hv' := hv.symm; subst hv'; clear hv)
  go_wp2_with fail
  refine (HCAN.out _ (by first | exact HB1.out | exact ext_drewN _ HB1.out)).mono ?_
  rintro e v2 ⟨hb2, rfl⟩
  have hu2 : UIn b w (urlA sch 0 ⟨#[]⟩ p0 ⟨#[]⟩ ⟨#[]⟩ ⟨#[]⟩ false false) v2 := by first | exact HU1.out.below hb2 | exact (HU1.out.below (ext_drewN _ (Below.refl _ _))).below hb2
  have hx2 : v2.heap[w.heap.size]? = some (.cells (partV A Pp Qq F hA hQ hF ia ip iq jf) 107 (0, 0)) := (hb2.block _ (heap_lt HX1.out)).trans HX1.out
  obtain ⟨a2, hA2⟩ : ∃ W, v2.alloc (.cells #[.int .i64 0, .string ⟨#[]⟩] 24) = W := ⟨_, rfl⟩
  have hba2 : Below v2.heap.size v2 a2 := by rw [← hA2]; exact ext_alloc (Below.refl _ _) _
  have hxa2 : a2.heap[v2.heap.size]? = some (.cells (hostC 0 ⟨#[]⟩) 24 (0, 0)) := by rw [← hA2]; exact heap_alloc_new v2 _
  have hst2 : (storeVar 24 ⟨v2.heap.size, 0, none⟩ (.agg #[.int .i64 k, .string T])).run Tryz.prog a2 = .ok () (a2.setRow v2.heap.size #[.int .i64 k, .string T]) := ho_store k 0 T ⟨#[]⟩ _ a2 hxa2
  have hxb2 := setRow_heap (c := #[.int .i64 k, .string T]) hxa2
  have hbb2 : Below v2.heap.size v2 (a2.setRow v2.heap.size #[.int .i64 k, .string T]) := setRow_below hba2 (Nat.le_refl _)
  obtain ⟨w2, hW2⟩ : ∃ W, a2.setRow v2.heap.size #[.int .i64 k, .string T] = W := ⟨_, rfl⟩
  rw [hW2] at hst2 hxb2 hbb2
  have hu3 := hu2.below hbb2
  have hx3 : w2.heap[w.heap.size]? = some (.cells (partV A Pp Qq F hA hQ hF ia ip iq jf) 107 (0, 0)) := (hbb2.block _ (heap_lt hx2)).trans hx2
  have c7 : w2.cell? ⟨w.heap.size, 7, none⟩ = some (.int .i64 ia) := Lib.cell_of_heap hx3 7
  have hld2 : (loadVar 24 ⟨v2.heap.size, 0, none⟩).run Tryz.prog w2 = .ok (.agg #[.int .i64 k, .string T]) w2 := ho_load k T _ w2 hxb2
  have cu1 : w2.cell? ⟨b, 1, none⟩ = some (.int .i64 0) := Lib.cell_of_heap hu3.box 1
  have cu2 : w2.cell? ⟨b, 2, none⟩ = some (.string ⟨#[]⟩) := Lib.cell_of_heap hu3.box 2
  have fu1 : w2.frozen? ⟨b, 1, none⟩ = false := Lib.frozen_of_heap hu3.box 1
  have fu2 : w2.frozen? ⟨b, 2, none⟩ = false := Lib.frozen_of_heap hu3.box 2
  have hu4 := (hu3.set (cs' := urlA sch k ⟨#[]⟩ p0 ⟨#[]⟩ ⟨#[]⟩ ⟨#[]⟩ false false) 1 (.int .i64 k) (by simp [urlA])).set (cs' := urlA sch k T p0 ⟨#[]⟩ ⟨#[]⟩ ⟨#[]⟩ false false) 2 (.string T) (by simp [urlA])
  obtain ⟨w3, hW3⟩ : ∃ W, (w2.setCell ⟨b, 1, none⟩ (.int .i64 k)).setCell ⟨b, 2, none⟩ (.string T) = W := ⟨_, rfl⟩
  rw [hW3] at hu4
  have HU4 := Lib.hid hu4
  clear hb2 hba2 hxa2 hxb2 hbb2 hW2 hu2 hu3 hx2 hx3 hu4 c7
  go_wp2_with ((with_reducible show wpList _ _ _ (_ :: _) _ _); first | (refine st_arr 24 v2.heap.size _ hst2 _ _ rfl rfl rfl rfl ?_) | (refine ld_arr 24 v2.heap.size _ hld2 _ rfl rfl rfl ?_))
  clear hA2 hst2 hld2 hW3 cu1 cu2 fu1 fu2
  refine (HDEC.out _).mono ?_
  rintro e v5 ⟨u, rfl, hf⟩
  have hfe := failed_er hf
  have hu5 : UIn b w (urlA sch k T p0 ⟨#[]⟩ ⟨#[]⟩ ⟨#[]⟩ false false) v5 := by first | exact HU4.out.below hfe.2 | exact (HU4.out.below (ext_drewN _ (Below.refl _ _))).below hfe.2
  obtain ⟨bb, off, e5⟩ := fault_form hfe.1 (by simp)
  have WR := Lib.hid (wrap_any 23 ((ia : Int) + (i : Int) + 1) _ _ v5 hfe.1)
  have HF : Hid (Q (.returned (.iface 119 (.pointer (some ⟨v5.heap.size, 0, none⟩)))) (v5.alloc (.cells #[.int .i64 23, .int .i64 ((ia : Int) + (i : Int) + 1), .iface 119 (.pointer (some u))] 123))) := Lib.hid (by
   rw [← HQ.out]
   have hu6 := hu5.below (ext_alloc (Below.refl _ _) (.cells #[.int .i64 23, .int .i64 ((ia : Int) + (i : Int) + 1), .iface 119 (.pointer (some u))] 123))
   exact ⟨hu6.only, _, _, _, _, rfl, Rd.fault (k := 23) (a := (ia : Int) + (i : Int) + 1) hfe.1, hu6.box⟩)
  clear hf hfe hu5 e5
  go_wp2_with fail
  refine WR.out.mono ?_
  rintro e w6 ⟨rfl, rfl⟩
  go_wp2
  exact HF.out
set_option maxRecDepth 100000 in
set_option maxHeartbeats 16000000 in
theorem au_co_ho_po (b : Nat) (sch A Pp Qq F : ByteArray) (hA hQ hF : Bool) (ia ip iq jf : Nat) (p0 : Int) (w : World) (h64 : ∀ W, Calls Tryz.prog 75 #[.string A, .int .u8 64] W fun e w' => e = .returned (.int .i64 (-1)) ∧ w' = W) (i : Nat) (A2 N Pt : ByteArray) (hi : i < A.size) (sl : ∀ W, (Instr.slice 9 (.string A) (some (.int .i64 (i : Int))) none none).run Tryz.prog W = .ok (.string A2) W) (slN : ∀ W, (Instr.slice 9 (.string A) none (some (.int .i64 (i : Int))) none).run Tryz.prog W = .ok (.string N) W) (slP : ∀ W, (Instr.slice 9 (.string A) (some (.int .i64 ((i : Int) + 1))) none none).run Tryz.prog W = .ok (.string Pt) W) (h58 : ∀ W, Calls Tryz.prog 106 #[.string A, .int .u8 58] W fun e w' => e = .returned (.int .i64 (i : Int)) ∧ w' = W) (h93 : ∀ W, Calls Tryz.prog 75 #[.string A2, .int .u8 93] W fun e w' => e = .returned (.int .i64 (-1)) ∧ w' = W) (hN : N ≠ ⟨#[]⟩ ∨ (N = ⟨#[]⟩ ∧ ∀ W, Calls Tryz.prog 34 #[.string sch] W fun e w' => e = .returned (.bool true) ∧ w' = W)) (k : Nat) (t : List Nat) (T : ByteArray) (hT : bytesL t = T) (hcan : ∀ W, Below w.heap.size w W → Calls Tryz.prog 15 #[.string N] W fun e w' => Below W.heap.size W w' ∧ e = .returned (.tuple #[.agg #[.int .i64 k, .string T], .nilIface])) (hP : Pt ≠ ⟨#[]⟩) (n : Nat) (hn : n ≤ 65535) (hdec : ∀ W, Calls Tryz.prog 144 #[.string Pt, .int .u64 65535] W (ScU W (.ok n)))
    (hw : w.heap[b]? = some (.cells (urlA sch 0 ⟨#[]⟩ p0 ⟨#[]⟩ ⟨#[]⟩ ⟨#[]⟩ false false) 50 (0, 0))) (hAz : A.size ≤ 1000000) (hia : ia ≤ 1000000) :
    Calls Tryz.prog 78 #[.pointer (some ⟨b, 0, none⟩), .agg (partV A Pp Qq F hA hQ hF ia ip iq jf)] w (AuPost b sch w (.ok ((k, t), (n : Int)))) := by
 obtain ⟨Q, hQQ⟩ : ∃ Q, AuPost b sch w (.ok ((k, t), (n : Int))) = Q := ⟨_, rfl⟩
 show Calls _ _ _ _ (AuPost b sch w (.ok ((k, t), (n : Int))))
 rw [hQQ]
 have HQ := Lib.hid hQQ
 obtain ⟨W1, hW1⟩ : ∃ W, w.alloc (.cells (partV A Pp Qq F hA hQ hF ia ip iq jf) 107) = W := ⟨_, rfl⟩
 have hx1 : W1.heap[w.heap.size]? = some (.cells (partV A Pp Qq F hA hQ hF ia ip iq jf) 107 (0, 0)) := by rw [← hW1]; exact heap_alloc_new w _
 have hu0 : UIn b w (urlA sch 0 ⟨#[]⟩ p0 ⟨#[]⟩ ⟨#[]⟩ ⟨#[]⟩ false false) w := ⟨Only.refl _ _, hw⟩
 have hu1 := hu0.below (W' := W1) (by rw [← hW1]; exact ext_alloc (Below.refl _ _) _)
 have HX1 := Lib.hid hx1; have HU1 := Lib.hid hu1
 have ca : W1.cell? ⟨w.heap.size, 0, none⟩ = some (.string A) := Lib.cell_of_heap hx1 0
 have c7 : W1.cell? ⟨w.heap.size, 7, none⟩ = some (.int .i64 ia) := Lib.cell_of_heap hx1 7
 have cs : W1.cell? ⟨b, 0, none⟩ = some (.string sch) := Lib.cell_of_heap hu1.box 0
 unfold partV at hW1
 clear hQQ hx1 hu0 hu1 hw
 have H64 := Lib.hid h64; have H58 := Lib.hid h58
 have H93 := Lib.hid h93
 have t2 : decide ((0 : Int) ≤ (i : Int)) = true := decide_eq_true (by omega)
 have q1 : IntKind.i64.wrap ((i : Int) + 1) = (i : Int) + 1 := IntWalk.i64_in _ (by omega)
 have q2 : IntKind.i64.wrap ((ia : Int) + (i : Int)) = (ia : Int) + (i : Int) := IntWalk.i64_in _ (by omega)
 have q3 : IntKind.i64.wrap ((ia : Int) + (i : Int) + 1) = (ia : Int) + (i : Int) + 1 := IntWalk.i64_in _ (by omega)
 clear h64 h58 h93 hi hAz hia
 have tp : (Pt.toList == []) = false := by have h := beqS_f hP; rw [show (⟨#[]⟩ : ByteArray).toList = [] by rw [ByteArray.toList_eq]] at h; exact h
 have HDEC := Lib.hid hdec
 clear hdec hP
 have hb1 : Below w.heap.size w W1 := by rw [show W1 = w.alloc (.cells (partV A Pp Qq F hA hQ hF ia ip iq jf) 107) from by rw [← hW1]; rfl]; exact ext_alloc (Below.refl _ _) _
 have HB1 := Lib.hid hb1; have HCAN := Lib.hid hcan
 clear hb1 hcan
 have hN2 : (N.toList.isEmpty = false) ∨ (N.toList.isEmpty = true ∧ Hid (∀ W, Calls Tryz.prog 34 #[.string sch] W fun e w' => e = .returned (.bool true) ∧ w' = W)) := by
  rcases hN with h | ⟨h, g⟩
  · exact .inl (str_ne (fun e => h (empty_of e)))
  · exact .inr ⟨by rw [h, ByteArray.toList_eq]; rfl, Lib.hid g⟩
 clear hN
 rcases hN2 with tn | ⟨tn, HWEB⟩
 all_goals
  go_enter Tryz.func78, Tryz.ntmps78
  unfold partV
  go_wp2_with fail
  refine (H64.out _).mono ?_
  rintro e v1 ⟨rfl, hv⟩
  have hv' := hv.symm
  subst hv'
  clear hv
  go_wp2_with fail
  refine (H58.out _).mono ?_
  rintro e v1 ⟨rfl, hv⟩
  have hv' := hv.symm
  subst hv'
  clear hv
  go_wp2_with fail
  refine (H93.out _).mono ?_
  rintro e v1 ⟨rfl, hv⟩
  have hv' := hv.symm
  subst hv'
  clear hv
  go_wp2_with fail
  go_quiet (fail)
  try (go_wp2_with fail; refine (HWEB.out _).mono ?_; rintro e v1 ⟨rfl, hv⟩; have hv' := hv.symm; subst hv'; clear hv)
  go_wp2_with fail
  refine (HCAN.out _ (by first | exact HB1.out | exact ext_drewN _ HB1.out)).mono ?_
  rintro e v2 ⟨hb2, rfl⟩
  have hu2 : UIn b w (urlA sch 0 ⟨#[]⟩ p0 ⟨#[]⟩ ⟨#[]⟩ ⟨#[]⟩ false false) v2 := by first | exact HU1.out.below hb2 | exact (HU1.out.below (ext_drewN _ (Below.refl _ _))).below hb2
  have hx2 : v2.heap[w.heap.size]? = some (.cells (partV A Pp Qq F hA hQ hF ia ip iq jf) 107 (0, 0)) := (hb2.block _ (heap_lt HX1.out)).trans HX1.out
  obtain ⟨a2, hA2⟩ : ∃ W, v2.alloc (.cells #[.int .i64 0, .string ⟨#[]⟩] 24) = W := ⟨_, rfl⟩
  have hba2 : Below v2.heap.size v2 a2 := by rw [← hA2]; exact ext_alloc (Below.refl _ _) _
  have hxa2 : a2.heap[v2.heap.size]? = some (.cells (hostC 0 ⟨#[]⟩) 24 (0, 0)) := by rw [← hA2]; exact heap_alloc_new v2 _
  have hst2 : (storeVar 24 ⟨v2.heap.size, 0, none⟩ (.agg #[.int .i64 k, .string T])).run Tryz.prog a2 = .ok () (a2.setRow v2.heap.size #[.int .i64 k, .string T]) := ho_store k 0 T ⟨#[]⟩ _ a2 hxa2
  have hxb2 := setRow_heap (c := #[.int .i64 k, .string T]) hxa2
  have hbb2 : Below v2.heap.size v2 (a2.setRow v2.heap.size #[.int .i64 k, .string T]) := setRow_below hba2 (Nat.le_refl _)
  obtain ⟨w2, hW2⟩ : ∃ W, a2.setRow v2.heap.size #[.int .i64 k, .string T] = W := ⟨_, rfl⟩
  rw [hW2] at hst2 hxb2 hbb2
  have hu3 := hu2.below hbb2
  have hx3 : w2.heap[w.heap.size]? = some (.cells (partV A Pp Qq F hA hQ hF ia ip iq jf) 107 (0, 0)) := (hbb2.block _ (heap_lt hx2)).trans hx2
  have c7 : w2.cell? ⟨w.heap.size, 7, none⟩ = some (.int .i64 ia) := Lib.cell_of_heap hx3 7
  have hld2 : (loadVar 24 ⟨v2.heap.size, 0, none⟩).run Tryz.prog w2 = .ok (.agg #[.int .i64 k, .string T]) w2 := ho_load k T _ w2 hxb2
  have cu1 : w2.cell? ⟨b, 1, none⟩ = some (.int .i64 0) := Lib.cell_of_heap hu3.box 1
  have cu2 : w2.cell? ⟨b, 2, none⟩ = some (.string ⟨#[]⟩) := Lib.cell_of_heap hu3.box 2
  have fu1 : w2.frozen? ⟨b, 1, none⟩ = false := Lib.frozen_of_heap hu3.box 1
  have fu2 : w2.frozen? ⟨b, 2, none⟩ = false := Lib.frozen_of_heap hu3.box 2
  have hu4 := (hu3.set (cs' := urlA sch k ⟨#[]⟩ p0 ⟨#[]⟩ ⟨#[]⟩ ⟨#[]⟩ false false) 1 (.int .i64 k) (by simp [urlA])).set (cs' := urlA sch k T p0 ⟨#[]⟩ ⟨#[]⟩ ⟨#[]⟩ false false) 2 (.string T) (by simp [urlA])
  obtain ⟨w3, hW3⟩ : ∃ W, (w2.setCell ⟨b, 1, none⟩ (.int .i64 k)).setCell ⟨b, 2, none⟩ (.string T) = W := ⟨_, rfl⟩
  rw [hW3] at hu4
  have HU4 := Lib.hid hu4
  clear hb2 hba2 hxa2 hxb2 hbb2 hW2 hu2 hu3 hx2 hx3 hu4 c7
  go_wp2_with ((with_reducible show wpList _ _ _ (_ :: _) _ _); first | (refine st_arr 24 v2.heap.size _ hst2 _ _ rfl rfl rfl rfl ?_) | (refine ld_arr 24 v2.heap.size _ hld2 _ rfl rfl rfl ?_))
  clear hA2 hst2 hld2 hW3 cu1 cu2 fu1 fu2
  refine (HDEC.out _).mono ?_
  rintro e v5 ⟨rfl, hb5⟩
  have hu5 : UIn b w (urlA sch k T p0 ⟨#[]⟩ ⟨#[]⟩ ⟨#[]⟩ false false) v5 := by first | exact HU4.out.below hb5 | exact (HU4.out.below (ext_drewN _ (Below.refl _ _))).below hb5
  have cu3 : v5.cell? ⟨b, 3, none⟩ = some (.int .i64 p0) := Lib.cell_of_heap hu5.box 3
  have fu3 : v5.frozen? ⟨b, 3, none⟩ = false := Lib.frozen_of_heap hu5.box 3
  have q5 : IntKind.i64.wrap (n : Int) = (n : Int) := IntWalk.i64_in _ (by omega)
  have hu6 := hu5.set (cs' := urlA sch k T (n : Int) ⟨#[]⟩ ⟨#[]⟩ ⟨#[]⟩ false false) 3 (.int .i64 (n : Int)) (by simp [urlA])
  have HF : Hid (Q (.returned .nilIface) (v5.setCell ⟨b, 3, none⟩ (.int .i64 (n : Int)))) := Lib.hid (by rw [← HQ.out]; exact ⟨hu6.only, rfl, by rw [hT]; exact hu6.box⟩)
  clear hb5 hu5 hu6
  go_wp2
  exact HF.out
end Go.Proofs.YtbeodjipdpcaiaaGreatDoor
