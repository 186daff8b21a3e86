/- Texts put together. -/
import Derived.Test.YtbeodjipdpcaiaaGreatDoorYUrw7
namespace Go.Proofs.YtbeodjipdpcaiaaGreatDoor
open Go.RowKit
/-- The result's cell, in a world that has turned nowhere below. -/
structure UpAt (w : World) (cs : Array Value) (W : World) : Prop where
 below : Below w.heap.size w W
 box : W.heap[w.heap.size]? = some (.cells cs 50 (0, 0))
theorem UpAt.ext {w W W' : World} {cs : Array Value} (h : UpAt w cs W) (hb : Below W.heap.size W W') : UpAt w cs W' := ⟨ext_trans h.below hb, (hb.block _ (heap_lt h.box)).trans h.box⟩
theorem UpAt.set {w W : World} {cs cs' : Array Value} (h : UpAt w cs W) (i : Nat) (v : Value) (hc : cs.setIfInBounds i v = cs') : UpAt w cs' (W.setCell ⟨w.heap.size, i, none⟩ v) := ⟨h.below.setCell (p := ⟨w.heap.size, i, none⟩) (Nat.le_refl _) v, by rw [← hc]; exact Go.Joins.block_setCell h.box v⟩
theorem UpAt.only {w W W' : World} {cs cs' : Array Value} (h : UpAt w cs W) (ho : Only (fun k => k = w.heap.size) W W') (hx : W'.heap[w.heap.size]? = some (.cells cs' 50 (0, 0))) : UpAt w cs' W' :=
 ⟨h.below.trans (ho.below h.below.size (fun _k hk => Nat.le_of_eq hk.symm)), hx⟩
theorem UpAt.lt {w W : World} {cs : Array Value} (h : UpAt w cs W) : w.heap.size < W.heap.size := heap_lt h.box
/-- A return with an error. -/
theorem up_er {w V : World} {s : ByteArray} {k : Int} {t : ByteArray} {p : Int} {pa q f : ByteArray} {hq hf : Bool} {u : Value} {c : List (Int × Int)} {R : Ch UrlP} {Q : Ending → World → Prop} (hQ : UpPost w R = Q) (hu : UpAt w (urlA s k t p pa q f hq hf) V) (hE : Er V u c) (hR : R = .er c) :
    (storeVar 50 ⟨w.heap.size, 0, none⟩ (.agg #[.string ⟨#[]⟩, .int .i64 0, .string ⟨#[]⟩, .int .i64 0, .string ⟨#[]⟩, .string ⟨#[]⟩, .string ⟨#[]⟩, .bool false, .bool false])).run Tryz.prog V = .ok () (V.setRow w.heap.size #[.string ⟨#[]⟩, .int .i64 0, .string ⟨#[]⟩, .int .i64 0, .string ⟨#[]⟩, .string ⟨#[]⟩, .string ⟨#[]⟩, .bool false, .bool false]) ∧ (loadVar 50 ⟨w.heap.size, 0, none⟩).run Tryz.prog (V.setRow w.heap.size #[.string ⟨#[]⟩, .int .i64 0, .string ⟨#[]⟩, .int .i64 0, .string ⟨#[]⟩, .string ⟨#[]⟩, .string ⟨#[]⟩, .bool false, .bool false]) = .ok (.agg #[.string ⟨#[]⟩, .int .i64 0, .string ⟨#[]⟩, .int .i64 0, .string ⟨#[]⟩, .string ⟨#[]⟩, .string ⟨#[]⟩, .bool false, .bool false]) (V.setRow w.heap.size #[.string ⟨#[]⟩, .int .i64 0, .string ⟨#[]⟩, .int .i64 0, .string ⟨#[]⟩, .string ⟨#[]⟩, .string ⟨#[]⟩, .bool false, .bool false]) ∧ Q (.returned (.tuple #[.agg #[.string ⟨#[]⟩, .int .i64 0, .string ⟨#[]⟩, .int .i64 0, .string ⟨#[]⟩, .string ⟨#[]⟩, .string ⟨#[]⟩, .bool false, .bool false], u])) (V.setRow w.heap.size #[.string ⟨#[]⟩, .int .i64 0, .string ⟨#[]⟩, .int .i64 0, .string ⟨#[]⟩, .string ⟨#[]⟩, .string ⟨#[]⟩, .bool false, .bool false]) := by
 refine ⟨ur_store ⟨#[]⟩ 0 ⟨#[]⟩ 0 ⟨#[]⟩ ⟨#[]⟩ ⟨#[]⟩ false false _ rfl _ V hu.box, ur_load ⟨#[]⟩ 0 ⟨#[]⟩ 0 ⟨#[]⟩ ⟨#[]⟩ ⟨#[]⟩ false false _ _ (setRow_heap hu.box), ?_⟩
 rw [← hQ, hR]
 have ho : Only (fun k => k = w.heap.size) V (V.setRow w.heap.size #[.string ⟨#[]⟩, .int .i64 0, .string ⟨#[]⟩, .int .i64 0, .string ⟨#[]⟩, .string ⟨#[]⟩, .string ⟨#[]⟩, .bool false, .bool false]) := ⟨rfl, rfl, rfl, by simp only [World.setRow, Array.size_modify]; exact Nat.le_refl _, fun k _ hne => by
  simp only [World.setRow]
  rw [Array.getElem?_modify, if_neg (fun e => hne e.symm)]⟩
 exact ⟨setRow_below hu.below (Nat.le_refl _), u, rfl, er_only hu.box ho c u hE⟩
/-- A return with a URL. -/
theorem up_ok {w V : World} {s : ByteArray} {k : Int} {t : ByteArray} {p : Int} {pa q f : ByteArray} {hq hf : Bool} {r : UrlP} {R : Ch UrlP} {Q : Ending → World → Prop} (hQ : UpPost w R = Q) (hu : UpAt w (urlA s k t p pa q f hq hf) V) (hR : R = .ok r) (hr : urlCells r = urlA s k t p pa q f hq hf) :
    (storeVar 50 ⟨w.heap.size, 0, none⟩ (.agg #[.string s, .int .i64 k, .string t, .int .i64 p, .string pa, .string q, .string f, .bool hq, .bool hf])).run Tryz.prog V = .ok () V ∧ (loadVar 50 ⟨w.heap.size, 0, none⟩).run Tryz.prog V = .ok (.agg #[.string s, .int .i64 k, .string t, .int .i64 p, .string pa, .string q, .string f, .bool hq, .bool hf]) V ∧ Q (.returned (.tuple #[.agg #[.string s, .int .i64 k, .string t, .int .i64 p, .string pa, .string q, .string f, .bool hq, .bool hf], .nilIface])) V := by
 have hs := ur_store s k t p pa q f hq hf _ rfl _ V hu.box
 rw [row_same hu.box] at hs
 refine ⟨hs, ur_load s k t p pa q f hq hf _ V hu.box, ?_⟩
 rw [← hQ, hR]
 exact ⟨hu.below, by show _ = Ending.returned (.tuple #[.agg (urlCells r), .nilIface]); rw [hr]; rfl⟩
theorem urlL_checks {b : List Nat} {e : Int × Int} (h : checksL b = some e) : urlL b = .er [e] := by unfold urlL; rw [h]
theorem urlL_scheme {b : List Nat} {l : List (Int × Int)} (h : checksL b = none) (h2 : schemeL b = .er l) : urlL b = .er l := by unfold urlL; rw [h]; simp only; rw [h2]
theorem urlL_host {b sch : List Nat} {l : List (Int × Int)} (h : checksL b = none) (h2 : schemeL b = .ok sch) (h3 : hostU sch (partsL b ((untilA [58] b).length + 1)) ((untilA [58] b).length + 1) = .er l) : urlL b = .er l := by unfold urlL; rw [h]; simp only; rw [h2]; simp only; rw [h3]
theorem urlL_fin {b sch : List Nat} {x : (Nat × List Nat) × Int} (h : checksL b = none) (h2 : schemeL b = .ok sch) (h3 : hostU sch (partsL b ((untilA [58] b).length + 1)) ((untilA [58] b).length + 1) = .ok x) : urlL b = finishU sch (partsL b ((untilA [58] b).length + 1)) x := by unfold urlL; rw [h]; simp only; rw [h2]; simp only; rw [h3]
theorem fin_path {sch : List Nat} {p : UParts} {x : (Nat × List Nat) × Int} {l : List (Int × Int)} (h : normalL p.path p.pathAt = .er l) : finishU sch p x = .er l := by unfold finishU; rw [h]
theorem fin_query {sch : List Nat} {p : UParts} {x : (Nat × List Nat) × Int} {l : List (Int × Int)} {pa : List Nat} (h : normalL p.path p.pathAt = .ok pa) (h2 : normalL p.query p.queryAt = .er l) : finishU sch p x = .er l := by unfold finishU; rw [h]; simp only; rw [h2]
theorem fin_frag {sch : List Nat} {p : UParts} {x : (Nat × List Nat) × Int} {l : List (Int × Int)} {pa q : List Nat} (h : normalL p.path p.pathAt = .ok pa) (h2 : normalL p.query p.queryAt = .ok q) (h3 : normalL p.frag p.fragAt = .er l) : finishU sch p x = .er l := by unfold finishU; rw [h]; simp only; rw [h2]; simp only; rw [h3]
theorem fin_ok {sch : List Nat} {p : UParts} {x : (Nat × List Nat) × Int} {pa q f : List Nat} (h : normalL p.path p.pathAt = .ok pa) (h2 : normalL p.query p.queryAt = .ok q) (h3 : normalL p.frag p.fragAt = .ok f) : finishU sch p x = .ok ⟨sch, x.1.1, x.1.2, x.2, pathOf sch pa, q, f, p.hasQ, p.hasF⟩ := by unfold finishU; rw [h]; simp only; rw [h2]; simp only; rw [h3]
theorem normal_er_ne {p : List Nat} {a : Nat} {c : List (Int × Int)} (h : normalL p a = .er c) : c ≠ [] := fun e => by
 subst e
 unfold normalL at h
 split at h
 · injection h with h; cases h
 · cases h
theorem scheme_er_ne {b : List Nat} {c : List (Int × Int)} (h : schemeL b = .er c) : c ≠ [] := fun e => by
 subst e
 unfold schemeL at h
 split at h
 · split at h
   · injection h with h; cases h
   · cases h
 · injection h with h; cases h
theorem scheme_ok {b sch : List Nat} (h : schemeL b = .ok sch) : (untilA [58] b).length + 1 ≤ b.length ∧ b.contains 58 = true ∧ ByteL sch ∧ sch.length ≤ b.length := by
 unfold schemeL at h
 split at h
 · rename_i p hsch
   split at h
   · cases h
   · rename_i h0
     have hl := until_len [58] b
     have hp : 0 < (untilB [58] b).length := Nat.pos_of_ne_zero (fun e => h0 (List.eq_nil_of_length_eq_zero e))
     injection h with h
     refine ⟨by omega, ?_, ?_, ?_⟩
     · rcases untilB_head [58] b with h1 | ⟨c, r, h1, h2⟩
       · exact absurd h1 h0
       · have hc : c = 58 := by simpa using h2
         have e := until_eq [58] b
         rw [h1, hc] at e
         rw [← e]
         simp
     · rw [← h]
       exact fun c hc => by have := (sch_low hsch).bytes c hc; omega
     · rw [← h, List.length_map]; omega
 · cases h
theorem auth_er_ne {sch a : List Nat} {at_ : Nat} {c : List (Int × Int)} (h : authL sch a at_ = .er c) : c ≠ [] := fun e => by
 subst e
 unfold authL at h
 split at h
 · injection h with h; cases h
 · split at h
   · injection h with h; cases h
   · split at h
     · cases h
     · split at h
       · injection h with h; cases h
       · cases h
set_option maxRecDepth 100000 in
set_option maxHeartbeats 32000000 in
/-- url.Parse -/
theorem uparse_any (s : ByteArray) (w : World) (hs : s.size ≤ 800000) (hEn : HEnv w) : Calls Tryz.prog 29 #[.string s] w (UpPost w (urlL (bytesN s))) := by
 obtain ⟨R, hR⟩ : ∃ R, urlL (bytesN s) = R := ⟨_, rfl⟩
 rw [hR]
 obtain ⟨Q, hQ⟩ : ∃ Q, UpPost w R = Q := ⟨_, rfl⟩
 rw [hQ]
 have HR := Lib.hid hR.symm; have HQ := Lib.hid hQ
 obtain ⟨W1, hW1⟩ : ∃ W, w.alloc (.cells #[.string ⟨#[]⟩, .int .i64 0, .string ⟨#[]⟩, .int .i64 0, .string ⟨#[]⟩, .string ⟨#[]⟩, .string ⟨#[]⟩, .bool false, .bool false] 50) = W := ⟨_, rfl⟩
 have hu1 : UpAt w (urlA ⟨#[]⟩ 0 ⟨#[]⟩ 0 ⟨#[]⟩ ⟨#[]⟩ ⟨#[]⟩ false false) W1 := by rw [← hW1]; exact ⟨ext_alloc (Below.refl _ _) _, heap_alloc_new w _⟩
 have HU1 := Lib.hid hu1
 have HEN := Lib.hid hEn
 have hbl : (bytesN s).length = s.size := bytesN_len s
 clear hR hQ hu1 hEn
 by_cases h8 : 8192 < s.size
 · have t1 : decide ((8192 : Int) < (s.size : Int)) = true := decide_eq_true (by omega)
   have t1' : decide (8192 < s.size) = true := decide_eq_true h8
   have hR2 : R = .er [(14, 8192)] := by rw [HR.out]; exact urlL_checks (by unfold checksL; rw [if_pos (by rw [hbl]; exact h8)])
   have hF := failed_er (failed_of (w := W1) (w0 := W1) (k := 14) (i := 8192) (Below.refl _ _) rfl)
   obtain ⟨V, hV⟩ : ∃ V, W1.alloc (.cells #[.int .i64 14, .int .i64 8192, .nilIface] 123) = V := ⟨_, rfl⟩
   rw [show ((14 : Nat) : Int) = 14 from rfl, hV] at hF
   obtain ⟨hst, hld, hFF⟩ := up_er HQ.out (HU1.out.ext hF.2) hF.1 hR2
   have HF := Lib.hid hFF
   clear hR2 hF hFF hs h8 hbl
   go_enter Tryz.func29, Tryz.ntmps29
   go_wp2_with fail
   clear hW1
   go_at_call 44
   refine (fail_any _ _ _).mono ?_
   rintro e w3 ⟨rfl, rfl⟩
   go_wp2_with ((with_reducible show wpList _ _ _ (_ :: _) _ _); refine st_arr 50 w.heap.size _ hst _ _ rfl rfl rfl rfl ?_)
   (try simp only [Exit.inBlock, Exit.then])
   exact bodyPost_ret (by simp [results, Tryz.results29, asAddr, Result.andThen, hld]) rfl HF.out
 · have t1 : decide ((8192 : Int) < (s.size : Int)) = false := decide_eq_false (by omega)
   have t1' : decide (8192 < s.size) = false := decide_eq_false h8
   obtain ⟨W2, c0, cv0, hc0, hb2, hz2, hx2⟩ := bytes_of_string s W1
   have r0 : Rd (Own W2) W2 (.slice (some ⟨W1.heap.size, 0, none⟩) s.size c0) (bytesDB s) := rd_of_cells (by exact hz2) hc0 hx2
   have VD := uvalid_any _ s W2 r0 (HEN.out.utf.ext (ext_trans HU1.out.below hb2)) (by omega)
   have HU2 := Lib.hid (HU1.out.ext hb2)
   have CK := Lib.hid (show ∀ r, charsS s 0 [] = r → checksL (bytesN s) = (match r with
    | .no k p => some (((k : Int)), p)
    | .ok _ => match (List.range s.size).find? (badB (bytesN s)) with
      | some i => some (11, (i : Int))
      | none => none) from fun r hr => by
    unfold checksL
    rw [if_neg (by rw [hbl]; exact h8), bytesL_bytesN, hr, hbl]
    cases r <;> rfl)
   have hs8 : s.size ≤ 8192 := by omega
   have HS := Lib.hid hs8
   cases hch : charsS s 0 [] with
   | no k p =>
     rw [hch] at VD
     have HV := Lib.hid VD
     have hR2 : R = .er [((k : Int), p)] := by rw [HR.out]; exact urlL_checks (CK.out _ hch)
     have HR2 := Lib.hid hR2
     clear VD hch hb2 hx2 r0 hc0 hz2 hR2 h8 hs hbl hs8
     go_enter Tryz.func29, Tryz.ntmps29
     go_wp2_with fail
     clear hW1 cv0
     refine HV.out.mono ?_
     rintro e w3 ⟨u, rfl, hf⟩
     have hE := failed_er hf
     obtain ⟨hst, hld, hFF⟩ := up_er HQ.out (HU2.out.ext hE.2) hE.1 HR2.out
     have HF := Lib.hid hFF
     clear hf hE hFF
     go_wp2_with ((with_reducible show wpList _ _ _ (_ :: _) _ _); refine st_arr 50 w.heap.size _ hst _ _ rfl rfl rfl rfl ?_)
     (try simp only [Exit.inBlock, Exit.then])
     exact bodyPost_ret (by simp [results, Tryz.results29, asAddr, Result.andThen, hld]) rfl HF.out
   | ok cs =>
     rw [hch] at VD
     have HV := Lib.hid VD
     have CK2 := Lib.hid (CK.out _ hch)
     have PL := Lib.hid (fun W => uplain_any s W (by omega))
     obtain ⟨fr, hfr⟩ : ∃ r, (List.range s.size).find? (badB (bytesN s)) = r := ⟨_, rfl⟩
     rw [hfr] at PL CK2
     clear VD hch hb2 hx2 r0 hc0 hz2 h8 hfr hs CK hs8
     go_enter Tryz.func29, Tryz.ntmps29
     go_wp2_with fail
     clear hW1 cv0
     refine HV.out.mono ?_
     rintro e w3 ⟨rfl, hb3⟩
     have HU3 := Lib.hid (HU2.out.ext hb3)
     clear hb3
     go_wp2_with fail
     refine (PL.out _).mono ?_
     intro e w4 hp
     cases fr with
     | some i =>
       obtain ⟨hb4, u, rfl, hE⟩ := hp
       have hR2 : R = .er [(11, (i : Int))] := by rw [HR.out]; exact urlL_checks CK2.out
       obtain ⟨hst, hld, hFF⟩ := up_er HQ.out (HU3.out.ext hb4) hE hR2
       obtain ⟨bb, off, rfl⟩ := fault_form hE (by simp)
       have HF := Lib.hid hFF
       clear hb4 hE hR2 hFF
       go_wp2_with ((with_reducible show wpList _ _ _ (_ :: _) _ _); refine st_arr 50 w.heap.size _ hst _ _ rfl rfl rfl rfl ?_)
       (try simp only [Exit.inBlock, Exit.then])
       exact bodyPost_ret (by simp [results, Tryz.results29, asAddr, Result.andThen, hld]) rfl HF.out
     | none =>
       obtain ⟨hb4, rfl⟩ := hp
       have hck : checksL (bytesN s) = none := CK2.out
       have HCK := Lib.hid hck
       have hu4 := HU3.out.ext hb4
       have US := uscheme_any s w4 (by have := HS.out; omega) (HEN.out.ext hu4.below).max (HEN.out.ext hu4.below).glob
       have HU4 := Lib.hid hu4
       have c0 : w4.cell? ⟨w.heap.size, 0, none⟩ = some (.string ⟨#[]⟩) := Lib.cell_of_heap hu4.box 0
       have f0 : w4.frozen? ⟨w.heap.size, 0, none⟩ = false := Lib.frozen_of_heap hu4.box 0
       clear hb4 hck CK2 hu4 c0 f0
       cases hsch : schemeL (bytesN s) with
       | er c =>
         rw [hsch] at US
         have HUS := Lib.hid US
         have HR2 := Lib.hid (show R = .er c by rw [HR.out]; exact urlL_scheme HCK.out hsch)
         have HNE := Lib.hid (scheme_er_ne hsch)
         clear US hsch
         go_wp2_with fail
         refine HUS.out.mono ?_
         rintro e w5 ⟨hb5, u, rfl, hE⟩
         have hu5 := HU4.out.ext hb5
         have c0 : w5.cell? ⟨w.heap.size, 0, none⟩ = some (.string ⟨#[]⟩) := Lib.cell_of_heap hu5.box 0
         have f0 : w5.frozen? ⟨w.heap.size, 0, none⟩ = false := Lib.frozen_of_heap hu5.box 0
         obtain ⟨w6, hw6⟩ : ∃ W, w5.setCell ⟨w.heap.size, 0, none⟩ (.string ⟨#[]⟩) = W := ⟨_, rfl⟩
         have hu6 := hu5.set (cs' := urlA ⟨#[]⟩ 0 ⟨#[]⟩ 0 ⟨#[]⟩ ⟨#[]⟩ ⟨#[]⟩ false false) 0 (.string ⟨#[]⟩) (by simp [urlA])
         have hE6 := er_only hu5.box ((Only.refl (fun k => k = w.heap.size) w5).set (p := ⟨w.heap.size, 0, none⟩) (fun _ => rfl) (.string ⟨#[]⟩)) _ _ hE
         rw [hw6] at hu6 hE6
         obtain ⟨hst, hld, hFF⟩ := up_er HQ.out hu6 hE6 HR2.out
         obtain ⟨bb, off, rfl⟩ := fault_form hE HNE.out
         have HF := Lib.hid hFF
         clear hb5 hu5 hu6 hE6 hFF hE
         go_wp2_with ((with_reducible show wpList _ _ _ (_ :: _) _ _); refine st_arr 50 w.heap.size _ hst _ _ rfl rfl rfl rfl ?_)
         (try simp only [Exit.inBlock, Exit.then])
         exact bodyPost_ret (by simp [results, Tryz.results29, asAddr, Result.andThen, hld]) rfl HF.out
       | ok sch =>
         rw [hsch] at US
         obtain ⟨hat, h58, hsb, hsl⟩ := scheme_ok hsch
         have hHF := fun l h => urlL_host HCK.out hsch (l := l) h
         have hHO := fun x h => urlL_fin HCK.out hsch (x := x) h
         obtain ⟨S, hS⟩ : ∃ S, bytesL sch = S := ⟨_, rfl⟩
         have hSN : bytesN S = sch := by rw [← hS]; exact bytesN_bytesL hsb
         have US2 : Hid (Calls Tryz.prog 31 #[.string s] w4 fun e w' => Below w4.heap.size w4 w' ∧ e = .returned (.tuple #[.string S, .nilIface])) := Lib.hid (by rw [← hS]; exact US)
         have IX := fun W => ix_call (bytesN s) 58 (bytesN_lt s) (by decide) W
         rw [ixN_hit h58, bytesL_bytesN] at IX
         obtain ⟨a0, ha0⟩ : ∃ a, (untilA [58] (bytesN s)).length = a := ⟨_, rfl⟩
         rw [ha0] at IX hat hHF hHO
         rw [hbl] at hat
         have q1 : IntKind.i64.wrap ((a0 : Int) + 1) = ((a0 + 1 : Nat) : Int) := (IntWalk.i64_in _ (by have := HS.out; omega)).trans (by omega)
         have SP := fun W => split_any s (a0 + 1) W (by have := HS.out; omega) hat
         have hpb := parts_byte (b := bytesN s) (a := a0 + 1) (bytesN_lt s)
         have hpl := parts_len (b := bytesN s) (a := a0 + 1) (by rw [hbl]; exact hat)
         rw [hbl] at hpl
         obtain ⟨p, hp⟩ : ∃ p, partsL (bytesN s) (a0 + 1) = p := ⟨_, rfl⟩
         rw [hp] at SP hpb hpl
         have HHF := Lib.hid (show ∀ l, hostU sch p (a0 + 1) = .er l → R = .er l from fun l h => by rw [HR.out]; exact hHF l (by rw [hp]; exact h))
         have HHO := Lib.hid (show ∀ x, hostU sch p (a0 + 1) = .ok x → R = finishU sch p x from fun x h => by rw [HR.out, hHO x (by rw [hp]; exact h), hp])
         have UN1 := fun W h => unormal_any (bytesL p.path) p.pathAt W (by rw [bytesL_size]; have := HS.out; omega) (by have := HS.out; omega) h
         have UN2 := fun W h => unormal_any (bytesL p.query) p.queryAt W (by rw [bytesL_size]; have := HS.out; omega) (by have := HS.out; omega) h
         have UN3 := fun W h => unormal_any (bytesL p.frag) p.fragAt W (by rw [bytesL_size]; have := HS.out; omega) (by have := HS.out; omega) h
         rw [bytesN_bytesL hpb.2.1] at UN1
         rw [bytesN_bytesL hpb.2.2.1] at UN2
         rw [bytesN_bytesL hpb.2.2.2] at UN3
         have AU := fun W hx h => authority_any w.heap.size S p W hx hpb.1 (by have := HS.out; omega) (by have := HS.out; omega) h
         rw [hSN] at AU
         obtain ⟨PC, hPC0⟩ : ∃ c, partC p = c := ⟨_, rfl⟩
         rw [hPC0] at SP
         have HPC := Lib.hid hPC0
         clear hPC0
         have UW := fun W => uweb_any S W
         have UO := fun W => uown_any S W
         rw [hSN] at UW UO
         have hown : ownB S = ownP sch := by unfold ownB; rw [hSN]
         rw [hown] at AU
         obtain ⟨po, hpo⟩ : ∃ po, ownP sch = po := ⟨_, rfl⟩
         rw [hpo] at AU UO
         have HIX := Lib.hid IX; have HSP := Lib.hid SP; have HUN1 := Lib.hid UN1; have HUN2 := Lib.hid UN2; have HUN3 := Lib.hid UN3; have HAU := Lib.hid AU; have HUW := Lib.hid UW; have HUO := Lib.hid UO
         have HSS := Lib.hid hS; have HPO := Lib.hid hpo
         clear US hsch hat h58 hsb hsl hHF hHO hS hSN IX ha0 SP hpb hpl hp UN1 UN2 UN3 AU UW UO hown hpo
         go_wp2_with fail
         refine US2.out.mono ?_
         rintro e w5 ⟨hb5, rfl⟩
         have hu5 := HU4.out.ext hb5
         have c0 : w5.cell? ⟨w.heap.size, 0, none⟩ = some (.string ⟨#[]⟩) := Lib.cell_of_heap hu5.box 0
         have f0 : w5.frozen? ⟨w.heap.size, 0, none⟩ = false := Lib.frozen_of_heap hu5.box 0
         obtain ⟨w6, hw6⟩ : ∃ W, w5.setCell ⟨w.heap.size, 0, none⟩ (.string S) = W := ⟨_, rfl⟩
         have hu6 := hu5.set (cs' := urlA S 0 ⟨#[]⟩ 0 ⟨#[]⟩ ⟨#[]⟩ ⟨#[]⟩ false false) 0 (.string S) (by simp [urlA])
         rw [hw6] at hu6
         have HU6 := Lib.hid hu6
         clear hb5 hu5 hu6
         go_wp2_with fail
         clear hw6 c0 f0
         refine (HIX.out _).mono ?_
         rintro e v1 ⟨rfl, hv⟩
         have hv' := hv.symm
         subst hv'
         clear hv
         go_wp2_with fail
         refine (HSP.out _).mono ?_
         rintro e w7 ⟨rfl, hb7⟩
         obtain ⟨X, hX⟩ : ∃ X, w7.heap.size = X := ⟨_, rfl⟩
         obtain ⟨a7, hA7⟩ : ∃ W, w7.alloc (.cells #[.string ⟨#[]⟩, .string ⟨#[]⟩, .string ⟨#[]⟩, .string ⟨#[]⟩, .bool false, .bool false, .bool false, .int .i64 0, .int .i64 0, .int .i64 0, .int .i64 0] 107) = W := ⟨_, rfl⟩
         have hba7 : Below w7.heap.size w7 a7 := by rw [← hA7]; exact ext_alloc (Below.refl _ _) _
         have hxa7 : a7.heap[X]? = some (.cells (partV ⟨#[]⟩ ⟨#[]⟩ ⟨#[]⟩ ⟨#[]⟩ false false false 0 0 0 0) 107 (0, 0)) := by rw [← hA7, ← hX]; exact heap_alloc_new w7 _
         have hPC := HPC.out
         have hst7 : (storeVar 107 ⟨X, 0, none⟩ (.agg PC)).run Tryz.prog a7 = .ok () (a7.setRow X PC) := by rw [← hPC]; exact pt_put _ _ a7 hxa7
         have hxb7 := setRow_heap (c := PC) hxa7
         have hbb7 : Below w7.heap.size w7 (a7.setRow X PC) := setRow_below hba7 (Nat.le_of_eq hX)
         obtain ⟨w8, hW8⟩ : ∃ W, a7.setRow X PC = W := ⟨_, rfl⟩
         rw [hW8] at hst7 hxb7 hbb7
         have hu8 := (HU6.out.ext hb7).ext hbb7
         have hXb : w.heap.size < X := by have := (HU6.out.ext hb7).lt; omega
         have hpcv : PC = #[.string (bytesL p.auth), .string (bytesL p.path), .string (bytesL p.query), .string (bytesL p.frag), .bool p.hasA, .bool p.hasQ, .bool p.hasF, .int .i64 p.authAt, .int .i64 p.pathAt, .int .i64 p.queryAt, .int .i64 p.fragAt] := by rw [← hPC]; rfl
         have HPV := Lib.hid hpcv
         have HX8 := Lib.hid hxb7; have HU8 := Lib.hid hu8
         have c0 : w8.cell? ⟨w.heap.size, 0, none⟩ = some (.string S) := Lib.cell_of_heap hu8.box 0
         have c3 : w8.cell? ⟨w.heap.size, 3, none⟩ = some (.int .i64 0) := Lib.cell_of_heap hu8.box 3
         have f3 : w8.frozen? ⟨w.heap.size, 3, none⟩ = false := Lib.frozen_of_heap hu8.box 3
         have hu9 := hu8.set (cs' := urlA S 0 ⟨#[]⟩ po ⟨#[]⟩ ⟨#[]⟩ ⟨#[]⟩ false false) 3 (.int .i64 po) (by simp [urlA])
         obtain ⟨w9, hw9⟩ : ∃ W, w8.setCell ⟨w.heap.size, 3, none⟩ (.int .i64 po) = W := ⟨_, rfl⟩
         have hx9 : w9.heap[X]? = some (.cells PC 107 (0, 0)) := by rw [← hw9, Below.heap_setCell _ _ _ _ (show X ≠ w.heap.size by omega)]; exact hxb7
         rw [hw9] at hu9
         have HU9 := Lib.hid hu9; have HX9 := Lib.hid hx9; have HXB := Lib.hid hXb
         have p4 : w9.cell? ⟨X, 4, none⟩ = some (.bool p.hasA) := by rw [Lib.cell_of_heap hx9, hpcv]; rfl
         have hldP : (loadVar 107 ⟨X, 0, none⟩).run Tryz.prog w9 = .ok (.agg PC) w9 := by rw [← hPC] at hx9 ⊢; exact pt_load _ _ _ _ _ _ _ _ _ _ _ _ _ hx9
         have cs0 : w9.cell? ⟨w.heap.size, 0, none⟩ = some (.string S) := Lib.cell_of_heap hu9.box 0
         have HAU2 : Hid (∀ h, Calls Tryz.prog 78 #[.pointer (some ⟨w.heap.size, 0, none⟩), .agg PC] w9 (AuPost w.heap.size S w9 h) ∨ h ≠ authL sch p.auth p.authAt) := Lib.hid (fun h => by
          by_cases e : h = authL sch p.auth p.authAt
          · refine .inl ?_
            rw [e, ← hPC]
            exact HAU.out w9 hu9.box (HEN.out.ext hu9.below)
          · exact .inr e)
         clear hb7 hba7 hxa7 hPC hxb7 hbb7 hW8 hu8 hXb hpcv hu9 hx9 HAU
         go_wp2_with ((with_reducible show wpList _ _ _ (_ :: _) _ _); refine st_arr 107 X _ hst7 _ _ rfl rfl rfl rfl ?_)
         clear hst7 hA7
         refine (HUO.out _).mono ?_
         rintro e v1 ⟨rfl, hv⟩
         have hv' := hv.symm
         subst hv'
         clear hv
         cases hhA : p.hasA with
         | true =>
           rw [hhA] at p4
           cases hau : authL sch p.auth p.authAt with
           | er c =>
             have HR2 := Lib.hid (HHF.out c (by unfold hostU; rw [if_pos hhA]; exact hau))
             have HNE := Lib.hid (auth_er_ne hau)
             have HC : Hid (Calls Tryz.prog 78 #[.pointer (some ⟨w.heap.size, 0, none⟩), .agg PC] w9 (AuPost w.heap.size S w9 (.er c))) := Lib.hid ((HAU2.out (.er c)).resolve_right (fun h => h hau.symm))
             clear hhA hau HAU2
             go_wp2_with ((with_reducible show wpList _ _ _ (_ :: _) _ _); refine ld_arr 107 X _ hldP _ rfl rfl rfl ?_)
             clear hw9 c0 c3 f3
             refine HC.out.mono ?_
             rintro e va ⟨ho, u, k, t, pp, rfl, hE, hx⟩
             have hua := HU9.out.only ho hx
             obtain ⟨hst, hld, hFF⟩ := up_er HQ.out hua hE HR2.out
             obtain ⟨bb, off, rfl⟩ := fault_form hE HNE.out
             have HF := Lib.hid hFF
             clear ho hE hx hua hFF p4 hldP cs0
             go_wp2_with ((with_reducible show wpList _ _ _ (_ :: _) _ _); refine st_arr 50 w.heap.size _ hst _ _ rfl rfl rfl rfl ?_)
             (try simp only [Exit.inBlock, Exit.then])
             exact bodyPost_ret (by simp [results, Tryz.results29, asAddr, Result.andThen, hld]) rfl HF.out
           | ok x =>
             obtain ⟨⟨hk, ht⟩, pt⟩ := x
             have HFI := Lib.hid (HHO.out ((hk, ht), pt) (by unfold hostU; rw [if_pos hhA]; exact hau))
             have HC : Hid (Calls Tryz.prog 78 #[.pointer (some ⟨w.heap.size, 0, none⟩), .agg PC] w9 (AuPost w.heap.size S w9 (.ok ((hk, ht), pt)))) := Lib.hid ((HAU2.out (.ok ((hk, ht), pt))).resolve_right (fun h => h hau.symm))
             obtain ⟨T, hT⟩ : ∃ T, bytesL ht = T := ⟨_, rfl⟩
             have HTT := Lib.hid hT
             clear hau HAU2
             go_wp2_with ((with_reducible show wpList _ _ _ (_ :: _) _ _); refine ld_arr 107 X _ hldP _ rfl rfl rfl ?_)
             clear hw9 c0 c3 f3
             refine HC.out.mono ?_
             rintro e va ⟨ho, rfl, hx⟩
             have hua := HU9.out.only ho hx
             have hxa : va.heap[X]? = some (.cells PC 107 (0, 0)) := (ho.block X (heap_lt HX9.out) (by have := HXB.out; omega)).trans HX9.out
             simp only [hT] at hua
             have HUA := Lib.hid hua; have HXA := Lib.hid hxa
             clear ho hx hua hxa p4 hldP cs0 hT hhA
             have pc1 : va.cell? ⟨X, 1, none⟩ = some (.string (bytesL p.path)) := by rw [Lib.cell_of_heap HXA.out, HPV.out]; rfl
             have pc8 : va.cell? ⟨X, 8, none⟩ = some (.int .i64 p.pathAt) := by rw [Lib.cell_of_heap HXA.out, HPV.out]; rfl
             have UNC := Lib.hid (HUN1.out va (HEN.out.ext HUA.out.below).glob)
             cases hpa : normalL p.path p.pathAt with
             | er c =>
               rw [hpa] at UNC
               have HR2 := Lib.hid (HFI.out.trans (fin_path  hpa))
               have HNE := Lib.hid (normal_er_ne hpa)
               clear hpa
               go_wp2_with fail
               refine UNC.out.mono ?_
               rintro e vpa ⟨hbv, u, rfl, hE⟩
               have huv := HUA.out.ext hbv
               have cu : vpa.cell? ⟨w.heap.size, 4, none⟩ = some (.string ⟨#[]⟩) := Lib.cell_of_heap huv.box 4
               have fu : vpa.frozen? ⟨w.heap.size, 4, none⟩ = false := Lib.frozen_of_heap huv.box 4
               obtain ⟨ve, hve⟩ : ∃ W, vpa.setCell ⟨w.heap.size, 4, none⟩ (.string ⟨#[]⟩) = W := ⟨_, rfl⟩
               have hue := huv.set (cs' := urlA S hk T pt ⟨#[]⟩ ⟨#[]⟩ ⟨#[]⟩ false false) 4 (.string ⟨#[]⟩) (by simp [urlA])
               have hEe := er_only huv.box ((Only.refl (fun k => k = w.heap.size) vpa).set (p := ⟨w.heap.size, 4, none⟩) (fun _ => rfl) (.string ⟨#[]⟩)) _ _ hE
               rw [hve] at hue hEe
               obtain ⟨hst, hld, hFF⟩ := up_er HQ.out hue hEe HR2.out
               obtain ⟨bb, off, rfl⟩ := fault_form hE HNE.out
               have HF := Lib.hid hFF
               clear hbv huv hue hEe hFF hE pc1 pc8
               go_wp2_with ((with_reducible show wpList _ _ _ (_ :: _) _ _); refine st_arr 50 w.heap.size _ hst _ _ rfl rfl rfl rfl ?_)
               (try simp only [Exit.inBlock, Exit.then])
               exact bodyPost_ret (by simp [results, Tryz.results29, asAddr, Result.andThen, hld]) rfl HF.out
             | ok pa =>
               rw [hpa] at UNC
               have Hpa := Lib.hid hpa
               obtain ⟨PA, hPA⟩ : ∃ B, bytesL pa = B := ⟨_, rfl⟩
               have UNC2 : Hid (Calls Tryz.prog 79 #[.string (bytesL p.path), .int .i64 p.pathAt] va fun e w' => Below va.heap.size va w' ∧ e = .returned (.tuple #[.string PA, .nilIface])) := Lib.hid (by rw [← hPA]; exact UNC.out)
               have HPA := Lib.hid hPA
               clear hpa UNC hPA
               go_wp2_with fail
               refine UNC2.out.mono ?_
               rintro e vpa ⟨hbv, rfl⟩
               have huv := HUA.out.ext hbv
               have cu : vpa.cell? ⟨w.heap.size, 4, none⟩ = some (.string ⟨#[]⟩) := Lib.cell_of_heap huv.box 4
               have fu : vpa.frozen? ⟨w.heap.size, 4, none⟩ = false := Lib.frozen_of_heap huv.box 4
               obtain ⟨V0, hV0⟩ : ∃ W, vpa.setCell ⟨w.heap.size, 4, none⟩ (.string PA) = W := ⟨_, rfl⟩
               have hue := huv.set (cs' := urlA S hk T pt PA ⟨#[]⟩ ⟨#[]⟩ false false) 4 (.string PA) (by simp [urlA])
               have hxv : V0.heap[X]? = some (.cells PC 107 (0, 0)) := by rw [← hV0, Below.heap_setCell _ _ _ _ (show X ≠ w.heap.size by have := HXB.out; omega), hbv.block X (heap_lt HXA.out)]; exact HXA.out
               rw [hV0] at hue
               have HUV0 := Lib.hid hue; have HXV0 := Lib.hid hxv
               clear hbv huv hue hxv pc1 pc8 UNC2
               have keepcu := cu
               clear keepcu
               have pc2 : V0.cell? ⟨X, 2, none⟩ = some (.string (bytesL p.query)) := by rw [Lib.cell_of_heap HXV0.out, HPV.out]; rfl
               have pc9 : V0.cell? ⟨X, 9, none⟩ = some (.int .i64 p.queryAt) := by rw [Lib.cell_of_heap HXV0.out, HPV.out]; rfl
               have UNC := Lib.hid (HUN2.out V0 (HEN.out.ext HUV0.out.below).glob)
               cases hqu : normalL p.query p.queryAt with
               | er c =>
                 rw [hqu] at UNC
                 have HR2 := Lib.hid (HFI.out.trans (fin_query Hpa.out hqu))
                 have HNE := Lib.hid (normal_er_ne hqu)
                 clear hqu
                 go_wp2_with fail
                 refine UNC.out.mono ?_
                 rintro e vqu ⟨hbv, u, rfl, hE⟩
                 have huv := HUV0.out.ext hbv
                 have cu : vqu.cell? ⟨w.heap.size, 5, none⟩ = some (.string ⟨#[]⟩) := Lib.cell_of_heap huv.box 5
                 have fu : vqu.frozen? ⟨w.heap.size, 5, none⟩ = false := Lib.frozen_of_heap huv.box 5
                 obtain ⟨ve, hve⟩ : ∃ W, vqu.setCell ⟨w.heap.size, 5, none⟩ (.string ⟨#[]⟩) = W := ⟨_, rfl⟩
                 have hue := huv.set (cs' := urlA S hk T pt PA ⟨#[]⟩ ⟨#[]⟩ false false) 5 (.string ⟨#[]⟩) (by simp [urlA])
                 have hEe := er_only huv.box ((Only.refl (fun k => k = w.heap.size) vqu).set (p := ⟨w.heap.size, 5, none⟩) (fun _ => rfl) (.string ⟨#[]⟩)) _ _ hE
                 rw [hve] at hue hEe
                 obtain ⟨hst, hld, hFF⟩ := up_er HQ.out hue hEe HR2.out
                 obtain ⟨bb, off, rfl⟩ := fault_form hE HNE.out
                 have HF := Lib.hid hFF
                 clear hbv huv hue hEe hFF hE pc2 pc9
                 go_wp2_with ((with_reducible show wpList _ _ _ (_ :: _) _ _); refine st_arr 50 w.heap.size _ hst _ _ rfl rfl rfl rfl ?_)
                 (try simp only [Exit.inBlock, Exit.then])
                 exact bodyPost_ret (by simp [results, Tryz.results29, asAddr, Result.andThen, hld]) rfl HF.out
               | ok qu =>
                 rw [hqu] at UNC
                 have Hqu := Lib.hid hqu
                 obtain ⟨QU, hQU⟩ : ∃ B, bytesL qu = B := ⟨_, rfl⟩
                 have UNC2 : Hid (Calls Tryz.prog 79 #[.string (bytesL p.query), .int .i64 p.queryAt] V0 fun e w' => Below V0.heap.size V0 w' ∧ e = .returned (.tuple #[.string QU, .nilIface])) := Lib.hid (by rw [← hQU]; exact UNC.out)
                 have HQU := Lib.hid hQU
                 clear hqu UNC hQU
                 go_wp2_with fail
                 refine UNC2.out.mono ?_
                 rintro e vqu ⟨hbv, rfl⟩
                 have huv := HUV0.out.ext hbv
                 have cu : vqu.cell? ⟨w.heap.size, 5, none⟩ = some (.string ⟨#[]⟩) := Lib.cell_of_heap huv.box 5
                 have fu : vqu.frozen? ⟨w.heap.size, 5, none⟩ = false := Lib.frozen_of_heap huv.box 5
                 obtain ⟨V1, hV1⟩ : ∃ W, vqu.setCell ⟨w.heap.size, 5, none⟩ (.string QU) = W := ⟨_, rfl⟩
                 have hue := huv.set (cs' := urlA S hk T pt PA QU ⟨#[]⟩ false false) 5 (.string QU) (by simp [urlA])
                 have hxv : V1.heap[X]? = some (.cells PC 107 (0, 0)) := by rw [← hV1, Below.heap_setCell _ _ _ _ (show X ≠ w.heap.size by have := HXB.out; omega), hbv.block X (heap_lt HXV0.out)]; exact HXV0.out
                 rw [hV1] at hue
                 have HUV1 := Lib.hid hue; have HXV1 := Lib.hid hxv
                 clear hbv huv hue hxv pc2 pc9 UNC2
                 have keepcu := cu
                 clear keepcu
                 have pc3 : V1.cell? ⟨X, 3, none⟩ = some (.string (bytesL p.frag)) := by rw [Lib.cell_of_heap HXV1.out, HPV.out]; rfl
                 have pc10 : V1.cell? ⟨X, 10, none⟩ = some (.int .i64 p.fragAt) := by rw [Lib.cell_of_heap HXV1.out, HPV.out]; rfl
                 have UNC := Lib.hid (HUN3.out V1 (HEN.out.ext HUV1.out.below).glob)
                 cases hfg : normalL p.frag p.fragAt with
                 | er c =>
                   rw [hfg] at UNC
                   have HR2 := Lib.hid (HFI.out.trans (fin_frag Hpa.out Hqu.out hfg))
                   have HNE := Lib.hid (normal_er_ne hfg)
                   clear hfg
                   go_wp2_with fail
                   refine UNC.out.mono ?_
                   rintro e vfg ⟨hbv, u, rfl, hE⟩
                   have huv := HUV1.out.ext hbv
                   have cu : vfg.cell? ⟨w.heap.size, 6, none⟩ = some (.string ⟨#[]⟩) := Lib.cell_of_heap huv.box 6
                   have fu : vfg.frozen? ⟨w.heap.size, 6, none⟩ = false := Lib.frozen_of_heap huv.box 6
                   obtain ⟨ve, hve⟩ : ∃ W, vfg.setCell ⟨w.heap.size, 6, none⟩ (.string ⟨#[]⟩) = W := ⟨_, rfl⟩
                   have hue := huv.set (cs' := urlA S hk T pt PA QU ⟨#[]⟩ false false) 6 (.string ⟨#[]⟩) (by simp [urlA])
                   have hEe := er_only huv.box ((Only.refl (fun k => k = w.heap.size) vfg).set (p := ⟨w.heap.size, 6, none⟩) (fun _ => rfl) (.string ⟨#[]⟩)) _ _ hE
                   rw [hve] at hue hEe
                   obtain ⟨hst, hld, hFF⟩ := up_er HQ.out hue hEe HR2.out
                   obtain ⟨bb, off, rfl⟩ := fault_form hE HNE.out
                   have HF := Lib.hid hFF
                   clear hbv huv hue hEe hFF hE pc3 pc10
                   go_wp2_with ((with_reducible show wpList _ _ _ (_ :: _) _ _); refine st_arr 50 w.heap.size _ hst _ _ rfl rfl rfl rfl ?_)
                   (try simp only [Exit.inBlock, Exit.then])
                   exact bodyPost_ret (by simp [results, Tryz.results29, asAddr, Result.andThen, hld]) rfl HF.out
                 | ok fg =>
                   rw [hfg] at UNC
                   have Hfg := Lib.hid hfg
                   obtain ⟨FG, hFG⟩ : ∃ B, bytesL fg = B := ⟨_, rfl⟩
                   have UNC2 : Hid (Calls Tryz.prog 79 #[.string (bytesL p.frag), .int .i64 p.fragAt] V1 fun e w' => Below V1.heap.size V1 w' ∧ e = .returned (.tuple #[.string FG, .nilIface])) := Lib.hid (by rw [← hFG]; exact UNC.out)
                   have HFG := Lib.hid hFG
                   clear hfg UNC hFG
                   go_wp2_with fail
                   refine UNC2.out.mono ?_
                   rintro e vfg ⟨hbv, rfl⟩
                   have huv := HUV1.out.ext hbv
                   have cu : vfg.cell? ⟨w.heap.size, 6, none⟩ = some (.string ⟨#[]⟩) := Lib.cell_of_heap huv.box 6
                   have fu : vfg.frozen? ⟨w.heap.size, 6, none⟩ = false := Lib.frozen_of_heap huv.box 6
                   obtain ⟨V2, hV2⟩ : ∃ W, vfg.setCell ⟨w.heap.size, 6, none⟩ (.string FG) = W := ⟨_, rfl⟩
                   have hue := huv.set (cs' := urlA S hk T pt PA QU FG false false) 6 (.string FG) (by simp [urlA])
                   have hxv : V2.heap[X]? = some (.cells PC 107 (0, 0)) := by rw [← hV2, Below.heap_setCell _ _ _ _ (show X ≠ w.heap.size by have := HXB.out; omega), hbv.block X (heap_lt HXV1.out)]; exact HXV1.out
                   rw [hV2] at hue
                   have HUV2 := Lib.hid hue; have HXV2 := Lib.hid hxv
                   clear hbv huv hue hxv pc3 pc10 UNC2
                   have p5 : V2.cell? ⟨X, 5, none⟩ = some (.bool p.hasQ) := by rw [Lib.cell_of_heap HXV2.out, HPV.out]; rfl
                   have p6 : V2.cell? ⟨X, 6, none⟩ = some (.bool p.hasF) := by rw [Lib.cell_of_heap HXV2.out, HPV.out]; rfl
                   have cu7 : V2.cell? ⟨w.heap.size, 7, none⟩ = some (.bool false) := Lib.cell_of_heap HUV2.out.box 7
                   have fu7 : V2.frozen? ⟨w.heap.size, 7, none⟩ = false := Lib.frozen_of_heap HUV2.out.box 7
                   have cu8 : V2.cell? ⟨w.heap.size, 8, none⟩ = some (.bool false) := Lib.cell_of_heap HUV2.out.box 8
                   have fu8 : V2.frozen? ⟨w.heap.size, 8, none⟩ = false := Lib.frozen_of_heap HUV2.out.box 8
                   have cu4 : V2.cell? ⟨w.heap.size, 4, none⟩ = some (.string PA) := Lib.cell_of_heap HUV2.out.box 4
                   have fu4 : V2.frozen? ⟨w.heap.size, 4, none⟩ = false := Lib.frozen_of_heap HUV2.out.box 4
                   have cu0 : V2.cell? ⟨w.heap.size, 0, none⟩ = some (.string S) := Lib.cell_of_heap HUV2.out.box 0
                   have fu0 : V2.frozen? ⟨w.heap.size, 0, none⟩ = false := Lib.frozen_of_heap HUV2.out.box 0
                   have hXne : (X = w.heap.size) = False := by have := HXB.out; simp; omega
                   have hXne2 : (w.heap.size = X) = False := by have := HXB.out; simp; omega
                   have hue := (HUV2.out.set (cs' := urlA S hk T pt PA QU FG p.hasQ false) 7 (.bool p.hasQ) (by simp [urlA])).set (cs' := urlA S hk T pt PA QU FG p.hasQ p.hasF) 8 (.bool p.hasF) (by simp [urlA])
                   obtain ⟨V3, hV3⟩ : ∃ W, (V2.setCell ⟨w.heap.size, 7, none⟩ (.bool p.hasQ)).setCell ⟨w.heap.size, 8, none⟩ (.bool p.hasF) = W := ⟨_, rfl⟩
                   rw [hV3] at hue
                   have hud := hue.ext (W' := V3.drew) ⟨rfl, rfl, rfl, Nat.le_refl _, fun _ _ => rfl⟩
                   obtain ⟨V5, hV5⟩ : ∃ W, V3.drew = W := ⟨_, rfl⟩
                   rw [hV5] at hud
                   have HU3 := Lib.hid hud
                   have d4 : V5.cell? ⟨w.heap.size, 4, none⟩ = some (.string PA) := Lib.cell_of_heap hud.box 4
                   have g4 : V5.frozen? ⟨w.heap.size, 4, none⟩ = false := Lib.frozen_of_heap hud.box 4
                   have d0 : V5.cell? ⟨w.heap.size, 0, none⟩ = some (.string S) := Lib.cell_of_heap hud.box 0
                   clear hue hud
                   have HOK := Lib.hid (HFI.out.trans (fin_ok Hpa.out Hqu.out Hfg.out))
                   by_cases hp0 : pa = []
                   · have tp : (PA.toList == []) = true := by rw [← HPA.out, hp0]; show ((⟨#[]⟩ : ByteArray).toList == []) = true; rw [ByteArray.toList_eq]; rfl
                     cases hweb : webL sch with
                     | true =>
                       have HUW1 := HUW
                       rw [hweb] at HUW1
                       have hu4 := HU3.out.set (cs' := urlA S hk T pt ⟨#[47]⟩ QU FG p.hasQ p.hasF) 4 (.string ⟨#[47]⟩) (by simp [urlA])
                       obtain ⟨V4, hV4⟩ : ∃ W, V5.setCell ⟨w.heap.size, 4, none⟩ (.string ⟨#[47]⟩) = W := ⟨_, rfl⟩
                       rw [hV4] at hu4
                       have hpof : pathOf sch pa = [47] := by unfold pathOf; rw [if_pos ⟨hp0, hweb⟩]
                       obtain ⟨hst, hld, hFF⟩ := up_ok HQ.out hu4 HOK.out (by unfold urlCells; simp only [hpof, HSS.out, HQU.out, HFG.out, HTT.out]; rfl)
                       have HF := Lib.hid hFF
                       clear hu4 hFF hpof hp0 hweb
                       go_wp2_with fail
                       go_region
                       go_wp2_with fail
                       refine (HUW1.out _).mono ?_
                       rintro e v1 ⟨rfl, hv⟩
                       have hv' := hv.symm
                       subst hv'
                       clear hv
                       go_wp2_with ((with_reducible show wpList _ _ _ (_ :: _) _ _); first | (refine ld_arr 50 w.heap.size _ hld _ rfl rfl rfl ?_) | (refine st_arr 50 w.heap.size _ hst _ _ rfl rfl rfl rfl ?_))
                       (try simp only [Exit.inBlock, Exit.then])
                       exact bodyPost_ret (by simp [results, Tryz.results29, asAddr, Result.andThen, hld]) rfl HF.out
                     | false =>
                       have HUW1 := HUW
                       rw [hweb] at HUW1
                       have hpof : pathOf sch pa = pa := by unfold pathOf; rw [if_neg (by rw [hweb]; simp)]
                       obtain ⟨hst, hld, hFF⟩ := up_ok HQ.out HU3.out HOK.out (by unfold urlCells; simp only [hpof, HSS.out, HPA.out, HQU.out, HFG.out, HTT.out] <;> rfl)
                       have HF := Lib.hid hFF
                       clear hFF hpof hp0 hweb
                       go_wp2_with fail
                       go_region
                       go_wp2_with fail
                       refine (HUW1.out _).mono ?_
                       rintro e v1 ⟨rfl, hv⟩
                       have hv' := hv.symm
                       subst hv'
                       clear hv
                       go_wp2_with ((with_reducible show wpList _ _ _ (_ :: _) _ _); first | (refine ld_arr 50 w.heap.size _ hld _ rfl rfl rfl ?_) | (refine st_arr 50 w.heap.size _ hst _ _ rfl rfl rfl rfl ?_))
                       (try simp only [Exit.inBlock, Exit.then])
                       exact bodyPost_ret (by simp [results, Tryz.results29, asAddr, Result.andThen, hld]) rfl HF.out
                   · have tp : (PA.toList == []) = false := by
                       have h := beqS_f (a := PA) (b := ⟨#[]⟩) (fun e => hp0 (by have h2 := congrArg ByteArray.size (HPA.out.trans e); rw [bytesL_size] at h2; exact List.eq_nil_of_length_eq_zero h2))
                       rw [show (⟨#[]⟩ : ByteArray).toList = [] by rw [ByteArray.toList_eq]] at h; exact h
                     have hpof : pathOf sch pa = pa := by unfold pathOf; rw [if_neg (fun h => hp0 h.1)]
                     obtain ⟨hst, hld, hFF⟩ := up_ok HQ.out HU3.out HOK.out (by unfold urlCells; simp only [hpof, HSS.out, HPA.out, HQU.out, HFG.out, HTT.out] <;> rfl)
                     have HF := Lib.hid hFF
                     clear hFF hpof hp0
                     go_wp2_with fail
                     go_region
                     go_wp2_with ((with_reducible show wpList _ _ _ (_ :: _) _ _); first | (refine ld_arr 50 w.heap.size _ hld _ rfl rfl rfl ?_) | (refine st_arr 50 w.heap.size _ hst _ _ rfl rfl rfl rfl ?_))
                     (try simp only [Exit.inBlock, Exit.then])
                     exact bodyPost_ret (by simp [results, Tryz.results29, asAddr, Result.andThen, hld]) rfl HF.out
         | false =>
           rw [hhA] at p4
           cases hweb : webL sch with
           | true =>
             have HR2 := Lib.hid (HHF.out [(22, (a0 : Int) + 1)] (by unfold hostU; rw [if_neg (by rw [hhA]; decide), if_pos hweb]; rfl))
             rw [hweb] at HUW
             clear hhA hweb HAU2
             go_wp2_with fail
             clear hw9 c0 c3 f3
             refine (HUW.out _).mono ?_
             rintro e v1 ⟨rfl, hv⟩
             have hv' := hv.symm
             subst hv'
             clear hv
             have hF := failed_er (failed_of (w := w9) (w0 := w9) (k := 22) (i := (a0 : Int) + 1) (Below.refl _ _) rfl)
             obtain ⟨V, hV⟩ : ∃ V, w9.alloc (.cells #[.int .i64 22, .int .i64 ((a0 : Int) + 1), .nilIface] 123) = V := ⟨_, rfl⟩
             rw [show ((22 : Nat) : Int) = 22 from rfl, hV] at hF
             obtain ⟨hst, hld, hFF⟩ := up_er HQ.out (HU9.out.ext hF.2) hF.1 HR2.out
             have HF := Lib.hid hFF
             clear hF hFF
             go_wp2_with fail
             go_at_call 44
             refine (fail_any _ _ _).mono ?_
             rintro e w3 ⟨rfl, rfl⟩
             clear p4 hldP cs0
             go_wp2_with ((with_reducible show wpList _ _ _ (_ :: _) _ _); refine st_arr 50 w.heap.size _ hst _ _ rfl rfl rfl rfl ?_)
             (try simp only [Exit.inBlock, Exit.then])
             exact bodyPost_ret (by simp [results, Tryz.results29, asAddr, Result.andThen, hld]) rfl HF.out
           | false =>
             have HFI := Lib.hid (HHO.out ((0, []), ownP sch) (by unfold hostU; rw [if_neg (by rw [hhA]; decide), if_neg (by rw [hweb]; decide)]))
             have HUW0 := HUW
             rw [hweb] at HUW0
             clear hhA HAU2
             go_wp2_with fail
             clear hw9 c0 c3 f3
             refine (HUW0.out _).mono ?_
             rintro e v1 ⟨rfl, hv⟩
             have hv' := hv.symm
             subst hv'
             clear hv hweb HUW0
             have HUA := HU9; have HXA := HX9
             clear p4 hldP cs0
             have pc1 : w9.cell? ⟨X, 1, none⟩ = some (.string (bytesL p.path)) := by rw [Lib.cell_of_heap HXA.out, HPV.out]; rfl
             have pc8 : w9.cell? ⟨X, 8, none⟩ = some (.int .i64 p.pathAt) := by rw [Lib.cell_of_heap HXA.out, HPV.out]; rfl
             have UNC := Lib.hid (HUN1.out w9 (HEN.out.ext HUA.out.below).glob)
             cases hpa : normalL p.path p.pathAt with
             | er c =>
               rw [hpa] at UNC
               have HR2 := Lib.hid (HFI.out.trans (fin_path  hpa))
               have HNE := Lib.hid (normal_er_ne hpa)
               clear hpa
               go_wp2_with fail
               refine UNC.out.mono ?_
               rintro e vpa ⟨hbv, u, rfl, hE⟩
               have huv := HUA.out.ext hbv
               have cu : vpa.cell? ⟨w.heap.size, 4, none⟩ = some (.string ⟨#[]⟩) := Lib.cell_of_heap huv.box 4
               have fu : vpa.frozen? ⟨w.heap.size, 4, none⟩ = false := Lib.frozen_of_heap huv.box 4
               obtain ⟨ve, hve⟩ : ∃ W, vpa.setCell ⟨w.heap.size, 4, none⟩ (.string ⟨#[]⟩) = W := ⟨_, rfl⟩
               have hue := huv.set (cs' := urlA S 0 ⟨#[]⟩ po ⟨#[]⟩ ⟨#[]⟩ ⟨#[]⟩ false false) 4 (.string ⟨#[]⟩) (by simp [urlA])
               have hEe := er_only huv.box ((Only.refl (fun k => k = w.heap.size) vpa).set (p := ⟨w.heap.size, 4, none⟩) (fun _ => rfl) (.string ⟨#[]⟩)) _ _ hE
               rw [hve] at hue hEe
               obtain ⟨hst, hld, hFF⟩ := up_er HQ.out hue hEe HR2.out
               obtain ⟨bb, off, rfl⟩ := fault_form hE HNE.out
               have HF := Lib.hid hFF
               clear hbv huv hue hEe hFF hE pc1 pc8
               go_wp2_with ((with_reducible show wpList _ _ _ (_ :: _) _ _); refine st_arr 50 w.heap.size _ hst _ _ rfl rfl rfl rfl ?_)
               (try simp only [Exit.inBlock, Exit.then])
               exact bodyPost_ret (by simp [results, Tryz.results29, asAddr, Result.andThen, hld]) rfl HF.out
             | ok pa =>
               rw [hpa] at UNC
               have Hpa := Lib.hid hpa
               obtain ⟨PA, hPA⟩ : ∃ B, bytesL pa = B := ⟨_, rfl⟩
               have UNC2 : Hid (Calls Tryz.prog 79 #[.string (bytesL p.path), .int .i64 p.pathAt] w9 fun e w' => Below w9.heap.size w9 w' ∧ e = .returned (.tuple #[.string PA, .nilIface])) := Lib.hid (by rw [← hPA]; exact UNC.out)
               have HPA := Lib.hid hPA
               clear hpa UNC hPA
               go_wp2_with fail
               refine UNC2.out.mono ?_
               rintro e vpa ⟨hbv, rfl⟩
               have huv := HUA.out.ext hbv
               have cu : vpa.cell? ⟨w.heap.size, 4, none⟩ = some (.string ⟨#[]⟩) := Lib.cell_of_heap huv.box 4
               have fu : vpa.frozen? ⟨w.heap.size, 4, none⟩ = false := Lib.frozen_of_heap huv.box 4
               obtain ⟨V0, hV0⟩ : ∃ W, vpa.setCell ⟨w.heap.size, 4, none⟩ (.string PA) = W := ⟨_, rfl⟩
               have hue := huv.set (cs' := urlA S 0 ⟨#[]⟩ po PA ⟨#[]⟩ ⟨#[]⟩ false false) 4 (.string PA) (by simp [urlA])
               have hxv : V0.heap[X]? = some (.cells PC 107 (0, 0)) := by rw [← hV0, Below.heap_setCell _ _ _ _ (show X ≠ w.heap.size by have := HXB.out; omega), hbv.block X (heap_lt HXA.out)]; exact HXA.out
               rw [hV0] at hue
               have HUV0 := Lib.hid hue; have HXV0 := Lib.hid hxv
               clear hbv huv hue hxv pc1 pc8 UNC2
               have keepcu := cu
               clear keepcu
               have pc2 : V0.cell? ⟨X, 2, none⟩ = some (.string (bytesL p.query)) := by rw [Lib.cell_of_heap HXV0.out, HPV.out]; rfl
               have pc9 : V0.cell? ⟨X, 9, none⟩ = some (.int .i64 p.queryAt) := by rw [Lib.cell_of_heap HXV0.out, HPV.out]; rfl
               have UNC := Lib.hid (HUN2.out V0 (HEN.out.ext HUV0.out.below).glob)
               cases hqu : normalL p.query p.queryAt with
               | er c =>
                 rw [hqu] at UNC
                 have HR2 := Lib.hid (HFI.out.trans (fin_query Hpa.out hqu))
                 have HNE := Lib.hid (normal_er_ne hqu)
                 clear hqu
                 go_wp2_with fail
                 refine UNC.out.mono ?_
                 rintro e vqu ⟨hbv, u, rfl, hE⟩
                 have huv := HUV0.out.ext hbv
                 have cu : vqu.cell? ⟨w.heap.size, 5, none⟩ = some (.string ⟨#[]⟩) := Lib.cell_of_heap huv.box 5
                 have fu : vqu.frozen? ⟨w.heap.size, 5, none⟩ = false := Lib.frozen_of_heap huv.box 5
                 obtain ⟨ve, hve⟩ : ∃ W, vqu.setCell ⟨w.heap.size, 5, none⟩ (.string ⟨#[]⟩) = W := ⟨_, rfl⟩
                 have hue := huv.set (cs' := urlA S 0 ⟨#[]⟩ po PA ⟨#[]⟩ ⟨#[]⟩ false false) 5 (.string ⟨#[]⟩) (by simp [urlA])
                 have hEe := er_only huv.box ((Only.refl (fun k => k = w.heap.size) vqu).set (p := ⟨w.heap.size, 5, none⟩) (fun _ => rfl) (.string ⟨#[]⟩)) _ _ hE
                 rw [hve] at hue hEe
                 obtain ⟨hst, hld, hFF⟩ := up_er HQ.out hue hEe HR2.out
                 obtain ⟨bb, off, rfl⟩ := fault_form hE HNE.out
                 have HF := Lib.hid hFF
                 clear hbv huv hue hEe hFF hE pc2 pc9
                 go_wp2_with ((with_reducible show wpList _ _ _ (_ :: _) _ _); refine st_arr 50 w.heap.size _ hst _ _ rfl rfl rfl rfl ?_)
                 (try simp only [Exit.inBlock, Exit.then])
                 exact bodyPost_ret (by simp [results, Tryz.results29, asAddr, Result.andThen, hld]) rfl HF.out
               | ok qu =>
                 rw [hqu] at UNC
                 have Hqu := Lib.hid hqu
                 obtain ⟨QU, hQU⟩ : ∃ B, bytesL qu = B := ⟨_, rfl⟩
                 have UNC2 : Hid (Calls Tryz.prog 79 #[.string (bytesL p.query), .int .i64 p.queryAt] V0 fun e w' => Below V0.heap.size V0 w' ∧ e = .returned (.tuple #[.string QU, .nilIface])) := Lib.hid (by rw [← hQU]; exact UNC.out)
                 have HQU := Lib.hid hQU
                 clear hqu UNC hQU
                 go_wp2_with fail
                 refine UNC2.out.mono ?_
                 rintro e vqu ⟨hbv, rfl⟩
                 have huv := HUV0.out.ext hbv
                 have cu : vqu.cell? ⟨w.heap.size, 5, none⟩ = some (.string ⟨#[]⟩) := Lib.cell_of_heap huv.box 5
                 have fu : vqu.frozen? ⟨w.heap.size, 5, none⟩ = false := Lib.frozen_of_heap huv.box 5
                 obtain ⟨V1, hV1⟩ : ∃ W, vqu.setCell ⟨w.heap.size, 5, none⟩ (.string QU) = W := ⟨_, rfl⟩
                 have hue := huv.set (cs' := urlA S 0 ⟨#[]⟩ po PA QU ⟨#[]⟩ false false) 5 (.string QU) (by simp [urlA])
                 have hxv : V1.heap[X]? = some (.cells PC 107 (0, 0)) := by rw [← hV1, Below.heap_setCell _ _ _ _ (show X ≠ w.heap.size by have := HXB.out; omega), hbv.block X (heap_lt HXV0.out)]; exact HXV0.out
                 rw [hV1] at hue
                 have HUV1 := Lib.hid hue; have HXV1 := Lib.hid hxv
                 clear hbv huv hue hxv pc2 pc9 UNC2
                 have keepcu := cu
                 clear keepcu
                 have pc3 : V1.cell? ⟨X, 3, none⟩ = some (.string (bytesL p.frag)) := by rw [Lib.cell_of_heap HXV1.out, HPV.out]; rfl
                 have pc10 : V1.cell? ⟨X, 10, none⟩ = some (.int .i64 p.fragAt) := by rw [Lib.cell_of_heap HXV1.out, HPV.out]; rfl
                 have UNC := Lib.hid (HUN3.out V1 (HEN.out.ext HUV1.out.below).glob)
                 cases hfg : normalL p.frag p.fragAt with
                 | er c =>
                   rw [hfg] at UNC
                   have HR2 := Lib.hid (HFI.out.trans (fin_frag Hpa.out Hqu.out hfg))
                   have HNE := Lib.hid (normal_er_ne hfg)
                   clear hfg
                   go_wp2_with fail
                   refine UNC.out.mono ?_
                   rintro e vfg ⟨hbv, u, rfl, hE⟩
                   have huv := HUV1.out.ext hbv
                   have cu : vfg.cell? ⟨w.heap.size, 6, none⟩ = some (.string ⟨#[]⟩) := Lib.cell_of_heap huv.box 6
                   have fu : vfg.frozen? ⟨w.heap.size, 6, none⟩ = false := Lib.frozen_of_heap huv.box 6
                   obtain ⟨ve, hve⟩ : ∃ W, vfg.setCell ⟨w.heap.size, 6, none⟩ (.string ⟨#[]⟩) = W := ⟨_, rfl⟩
                   have hue := huv.set (cs' := urlA S 0 ⟨#[]⟩ po PA QU ⟨#[]⟩ false false) 6 (.string ⟨#[]⟩) (by simp [urlA])
                   have hEe := er_only huv.box ((Only.refl (fun k => k = w.heap.size) vfg).set (p := ⟨w.heap.size, 6, none⟩) (fun _ => rfl) (.string ⟨#[]⟩)) _ _ hE
                   rw [hve] at hue hEe
                   obtain ⟨hst, hld, hFF⟩ := up_er HQ.out hue hEe HR2.out
                   obtain ⟨bb, off, rfl⟩ := fault_form hE HNE.out
                   have HF := Lib.hid hFF
                   clear hbv huv hue hEe hFF hE pc3 pc10
                   go_wp2_with ((with_reducible show wpList _ _ _ (_ :: _) _ _); refine st_arr 50 w.heap.size _ hst _ _ rfl rfl rfl rfl ?_)
                   (try simp only [Exit.inBlock, Exit.then])
                   exact bodyPost_ret (by simp [results, Tryz.results29, asAddr, Result.andThen, hld]) rfl HF.out
                 | ok fg =>
                   rw [hfg] at UNC
                   have Hfg := Lib.hid hfg
                   obtain ⟨FG, hFG⟩ : ∃ B, bytesL fg = B := ⟨_, rfl⟩
                   have UNC2 : Hid (Calls Tryz.prog 79 #[.string (bytesL p.frag), .int .i64 p.fragAt] V1 fun e w' => Below V1.heap.size V1 w' ∧ e = .returned (.tuple #[.string FG, .nilIface])) := Lib.hid (by rw [← hFG]; exact UNC.out)
                   have HFG := Lib.hid hFG
                   clear hfg UNC hFG
                   go_wp2_with fail
                   refine UNC2.out.mono ?_
                   rintro e vfg ⟨hbv, rfl⟩
                   have huv := HUV1.out.ext hbv
                   have cu : vfg.cell? ⟨w.heap.size, 6, none⟩ = some (.string ⟨#[]⟩) := Lib.cell_of_heap huv.box 6
                   have fu : vfg.frozen? ⟨w.heap.size, 6, none⟩ = false := Lib.frozen_of_heap huv.box 6
                   obtain ⟨V2, hV2⟩ : ∃ W, vfg.setCell ⟨w.heap.size, 6, none⟩ (.string FG) = W := ⟨_, rfl⟩
                   have hue := huv.set (cs' := urlA S 0 ⟨#[]⟩ po PA QU FG false false) 6 (.string FG) (by simp [urlA])
                   have hxv : V2.heap[X]? = some (.cells PC 107 (0, 0)) := by rw [← hV2, Below.heap_setCell _ _ _ _ (show X ≠ w.heap.size by have := HXB.out; omega), hbv.block X (heap_lt HXV1.out)]; exact HXV1.out
                   rw [hV2] at hue
                   have HUV2 := Lib.hid hue; have HXV2 := Lib.hid hxv
                   clear hbv huv hue hxv pc3 pc10 UNC2
                   have p5 : V2.cell? ⟨X, 5, none⟩ = some (.bool p.hasQ) := by rw [Lib.cell_of_heap HXV2.out, HPV.out]; rfl
                   have p6 : V2.cell? ⟨X, 6, none⟩ = some (.bool p.hasF) := by rw [Lib.cell_of_heap HXV2.out, HPV.out]; rfl
                   have cu7 : V2.cell? ⟨w.heap.size, 7, none⟩ = some (.bool false) := Lib.cell_of_heap HUV2.out.box 7
                   have fu7 : V2.frozen? ⟨w.heap.size, 7, none⟩ = false := Lib.frozen_of_heap HUV2.out.box 7
                   have cu8 : V2.cell? ⟨w.heap.size, 8, none⟩ = some (.bool false) := Lib.cell_of_heap HUV2.out.box 8
                   have fu8 : V2.frozen? ⟨w.heap.size, 8, none⟩ = false := Lib.frozen_of_heap HUV2.out.box 8
                   have cu4 : V2.cell? ⟨w.heap.size, 4, none⟩ = some (.string PA) := Lib.cell_of_heap HUV2.out.box 4
                   have fu4 : V2.frozen? ⟨w.heap.size, 4, none⟩ = false := Lib.frozen_of_heap HUV2.out.box 4
                   have cu0 : V2.cell? ⟨w.heap.size, 0, none⟩ = some (.string S) := Lib.cell_of_heap HUV2.out.box 0
                   have fu0 : V2.frozen? ⟨w.heap.size, 0, none⟩ = false := Lib.frozen_of_heap HUV2.out.box 0
                   have hXne : (X = w.heap.size) = False := by have := HXB.out; simp; omega
                   have hXne2 : (w.heap.size = X) = False := by have := HXB.out; simp; omega
                   have hue := (HUV2.out.set (cs' := urlA S 0 ⟨#[]⟩ po PA QU FG p.hasQ false) 7 (.bool p.hasQ) (by simp [urlA])).set (cs' := urlA S 0 ⟨#[]⟩ po PA QU FG p.hasQ p.hasF) 8 (.bool p.hasF) (by simp [urlA])
                   obtain ⟨V3, hV3⟩ : ∃ W, (V2.setCell ⟨w.heap.size, 7, none⟩ (.bool p.hasQ)).setCell ⟨w.heap.size, 8, none⟩ (.bool p.hasF) = W := ⟨_, rfl⟩
                   rw [hV3] at hue
                   have hud := hue.ext (W' := V3.drew) ⟨rfl, rfl, rfl, Nat.le_refl _, fun _ _ => rfl⟩
                   obtain ⟨V5, hV5⟩ : ∃ W, V3.drew = W := ⟨_, rfl⟩
                   rw [hV5] at hud
                   have HU3 := Lib.hid hud
                   have d4 : V5.cell? ⟨w.heap.size, 4, none⟩ = some (.string PA) := Lib.cell_of_heap hud.box 4
                   have g4 : V5.frozen? ⟨w.heap.size, 4, none⟩ = false := Lib.frozen_of_heap hud.box 4
                   have d0 : V5.cell? ⟨w.heap.size, 0, none⟩ = some (.string S) := Lib.cell_of_heap hud.box 0
                   clear hue hud
                   have HOK := Lib.hid (HFI.out.trans (fin_ok Hpa.out Hqu.out Hfg.out))
                   by_cases hp0 : pa = []
                   · have tp : (PA.toList == []) = true := by rw [← HPA.out, hp0]; show ((⟨#[]⟩ : ByteArray).toList == []) = true; rw [ByteArray.toList_eq]; rfl
                     cases hweb : webL sch with
                     | true =>
                       have HUW1 := HUW
                       rw [hweb] at HUW1
                       have hu4 := HU3.out.set (cs' := urlA S 0 ⟨#[]⟩ po ⟨#[47]⟩ QU FG p.hasQ p.hasF) 4 (.string ⟨#[47]⟩) (by simp [urlA])
                       obtain ⟨V4, hV4⟩ : ∃ W, V5.setCell ⟨w.heap.size, 4, none⟩ (.string ⟨#[47]⟩) = W := ⟨_, rfl⟩
                       rw [hV4] at hu4
                       have hpof : pathOf sch pa = [47] := by unfold pathOf; rw [if_pos ⟨hp0, hweb⟩]
                       obtain ⟨hst, hld, hFF⟩ := up_ok HQ.out hu4 HOK.out (by unfold urlCells; simp only [hpof, HSS.out, HQU.out, HFG.out, HPO.out, show bytesL ([] : List Nat) = ⟨#[]⟩ from rfl]; rfl)
                       have HF := Lib.hid hFF
                       clear hu4 hFF hpof hp0 hweb
                       go_wp2_with fail
                       go_region
                       go_wp2_with fail
                       refine (HUW1.out _).mono ?_
                       rintro e v1 ⟨rfl, hv⟩
                       have hv' := hv.symm
                       subst hv'
                       clear hv
                       go_wp2_with ((with_reducible show wpList _ _ _ (_ :: _) _ _); first | (refine ld_arr 50 w.heap.size _ hld _ rfl rfl rfl ?_) | (refine st_arr 50 w.heap.size _ hst _ _ rfl rfl rfl rfl ?_))
                       (try simp only [Exit.inBlock, Exit.then])
                       exact bodyPost_ret (by simp [results, Tryz.results29, asAddr, Result.andThen, hld]) rfl HF.out
                     | false =>
                       have HUW1 := HUW
                       rw [hweb] at HUW1
                       have hpof : pathOf sch pa = pa := by unfold pathOf; rw [if_neg (by rw [hweb]; simp)]
                       obtain ⟨hst, hld, hFF⟩ := up_ok HQ.out HU3.out HOK.out (by unfold urlCells; simp only [hpof, HSS.out, HPA.out, HQU.out, HFG.out, HPO.out, show bytesL ([] : List Nat) = ⟨#[]⟩ from rfl] <;> rfl)
                       have HF := Lib.hid hFF
                       clear hFF hpof hp0 hweb
                       go_wp2_with fail
                       go_region
                       go_wp2_with fail
                       refine (HUW1.out _).mono ?_
                       rintro e v1 ⟨rfl, hv⟩
                       have hv' := hv.symm
                       subst hv'
                       clear hv
                       go_wp2_with ((with_reducible show wpList _ _ _ (_ :: _) _ _); first | (refine ld_arr 50 w.heap.size _ hld _ rfl rfl rfl ?_) | (refine st_arr 50 w.heap.size _ hst _ _ rfl rfl rfl rfl ?_))
                       (try simp only [Exit.inBlock, Exit.then])
                       exact bodyPost_ret (by simp [results, Tryz.results29, asAddr, Result.andThen, hld]) rfl HF.out
                   · have tp : (PA.toList == []) = false := by
                       have h := beqS_f (a := PA) (b := ⟨#[]⟩) (fun e => hp0 (by have h2 := congrArg ByteArray.size (HPA.out.trans e); rw [bytesL_size] at h2; exact List.eq_nil_of_length_eq_zero h2))
                       rw [show (⟨#[]⟩ : ByteArray).toList = [] by rw [ByteArray.toList_eq]] at h; exact h
                     have hpof : pathOf sch pa = pa := by unfold pathOf; rw [if_neg (fun h => hp0 h.1)]
                     obtain ⟨hst, hld, hFF⟩ := up_ok HQ.out HU3.out HOK.out (by unfold urlCells; simp only [hpof, HSS.out, HPA.out, HQU.out, HFG.out, HPO.out, show bytesL ([] : List Nat) = ⟨#[]⟩ from rfl] <;> rfl)
                     have HF := Lib.hid hFF
                     clear hFF hpof hp0
                     go_wp2_with fail
                     go_region
                     go_wp2_with ((with_reducible show wpList _ _ _ (_ :: _) _ _); first | (refine ld_arr 50 w.heap.size _ hld _ rfl rfl rfl ?_) | (refine st_arr 50 w.heap.size _ hst _ _ rfl rfl rfl rfl ?_))
                     (try simp only [Exit.inBlock, Exit.then])
                     exact bodyPost_ret (by simp [results, Tryz.results29, asAddr, Result.andThen, hld]) rfl HF.out
end Go.Proofs.YtbeodjipdpcaiaaGreatDoor
