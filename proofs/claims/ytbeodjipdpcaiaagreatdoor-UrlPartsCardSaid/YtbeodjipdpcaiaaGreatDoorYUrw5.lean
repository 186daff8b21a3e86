/- Texts put together. -/
import Derived.Test.YtbeodjipdpcaiaaGreatDoorYUrw3s
import Derived.Test.YtbeodjipdpcaiaaGreatDoorYUrp0s
import Derived.Test.YtbeodjipdpcaiaaGreatDoorYHsw1s
namespace Go.Proofs.YtbeodjipdpcaiaaGreatDoor
open Go.RowKit
/-- The cells of a text's parts. -/
def partV (a p q f : ByteArray) (hA hQ hF : Bool) (ia ip iq jf : Nat) : Array Value := #[.string a, .string p, .string q, .string f, .bool hA, .bool hQ, .bool hF, .int .i64 ia, .int .i64 ip, .int .i64 iq, .int .i64 jf]
def partC (p : UParts) : Array Value := partV (bytesL p.auth) (bytesL p.path) (bytesL p.query) (bytesL p.frag) p.hasA p.hasQ p.hasF p.authAt p.pathAt p.queryAt p.fragAt
theorem pt_info : (Tryz.prog.info? 107).map (·.size) = some 11 := by kernel_rfl
theorem pt_load (a p q f : ByteArray) (hA hQ hF : Bool) (ia ip iq jf : Nat) (b : Nat) (w : World) (h : w.heap[b]? = some (.cells (partV a p q f hA hQ hF ia ip iq jf) 107 (0, 0))) : (loadVar 107 ⟨b, 0, none⟩).run Tryz.prog w = .ok (.agg (partV a p q f hA hQ hF ia ip iq jf)) w :=
 run_loadVar_row _ _ 107 107 _ (0, 0) _ h Tryz.underlying107 rfl pt_info
theorem pt_store (a p q f : ByteArray) (hA hQ hF : Bool) (ia ip iq jf : Nat) (b : Nat) (w : World) (h : w.heap[b]? = some (.cells (partV a p q f hA hQ hF ia ip iq jf) 107 (0, 0))) : (storeVar 107 ⟨b, 0, none⟩ (.agg (partV a p q f hA hQ hF ia ip iq jf))).run Tryz.prog w = .ok () w := by
 have := run_storeVar_row (P := Tryz.prog) w b 107 107 (partV a p q f hA hQ hF ia ip iq jf) (partV a p q f hA hQ hF ia ip iq jf) h pt_info rfl (by
  rw [Array.all_eq_true_iff_forall_mem]
  intro v hv
  simp only [partV, List.mem_toArray, List.mem_cons, List.not_mem_nil, or_false] at hv
  rcases hv with rfl | rfl | rfl | rfl | rfl | rfl | rfl | rfl | rfl | rfl | rfl <;> rfl)
 rw [row_same h] at this
 exact this
set_option maxRecDepth 100000 in
set_option maxHeartbeats 16000000 in
theorem split_core (s : ByteArray) (at_ : Nat) (w : World) (R0 R0d A R1 Pp R2 R2d Qq R3 F : ByteArray) (hA hQ hF : Bool) (ia ip iq jf y9 y10 : Nat)
    (_hs : s.size ≤ 1000000) (_hat : at_ ≤ 1000000)
    (sl0 : ∀ W, (Instr.slice 9 (.string s) (some (.int .i64 (at_ : Int))) none none).run Tryz.prog W = .ok (.string R0) W)
    (sl1 : hA = true → ∀ W, (Instr.slice 9 (.string R0) (some (.int .i64 2)) none none).run Tryz.prog W = .ok (.string R0d) W)
    (sl2 : hQ = true → ∀ W, (Instr.slice 9 (.string R2) (some (.int .i64 1)) none none).run Tryz.prog W = .ok (.string R2d) W)
    (sl3 : hF = true → ∀ W, (Instr.slice 9 (.string R3) (some (.int .i64 1)) none none).run Tryz.prog W = .ok (.string F) W)
    (h1 : ∀ W, Calls Tryz.prog 114 #[.string R0, .string ⟨#[47, 47]⟩] W fun e w' => e = .returned (.bool hA) ∧ w' = W)
    (u1 : hA = true → ∀ W, Calls Tryz.prog 143 #[.string R0d, .string ⟨#[47, 63, 35]⟩] W fun e w' => e = .returned (.tuple #[.string A, .string R1]) ∧ Below W.heap.size W w')
    (u2 : ∀ W, Calls Tryz.prog 143 #[.string R1, .string ⟨#[63, 35]⟩] W fun e w' => e = .returned (.tuple #[.string Pp, .string R2]) ∧ Below W.heap.size W w')
    (h2 : ∀ W, Calls Tryz.prog 114 #[.string R2, .string ⟨#[63]⟩] W fun e w' => e = .returned (.bool hQ) ∧ w' = W)
    (u3 : hQ = true → ∀ W, Calls Tryz.prog 143 #[.string R2d, .string ⟨#[35]⟩] W fun e w' => e = .returned (.tuple #[.string Qq, .string R3]) ∧ Below W.heap.size W w')
    (t3 : R3.toList.isEmpty = !hF)
    (nA : hA = false → R1 = R0 ∧ A = ⟨#[]⟩ ∧ ia = 0) (nQ : hQ = false → R3 = R2 ∧ Qq = ⟨#[]⟩ ∧ iq = 0) (nF : hF = false → F = ⟨#[]⟩ ∧ jf = 0)
    (e7 : hA = true → IntKind.i64.wrap ((at_ : Int) + 2) = (ia : Int)) (e8 : IntKind.i64.wrap ((s.size : Int) - (R1.size : Int)) = (ip : Int))
    (e9 : hQ = true → IntKind.i64.wrap ((s.size : Int) - (R2.size : Int)) = (y9 : Int)) (e9' : hQ = true → IntKind.i64.wrap ((y9 : Int) + 1) = (iq : Int))
    (e10 : hF = true → IntKind.i64.wrap ((s.size : Int) - (R3.size : Int)) = (y10 : Int)) (e10' : hF = true → IntKind.i64.wrap ((y10 : Int) + 1) = (jf : Int)) :
    Calls Tryz.prog 76 #[.string s, .int .i64 (at_ : Int)] w fun e w' => e = .returned (.agg (partV A Pp Qq F hA hQ hF ia ip iq jf)) ∧ Below w.heap.size w w' := by
 obtain ⟨Q, hQQ⟩ : ∃ Q : Ending → World → Prop, (fun e w' => e = .returned (.agg (partV A Pp Qq F hA hQ hF ia ip iq jf)) ∧ Below w.heap.size w w') = Q := ⟨_, rfl⟩
 have FIN : Hid (∀ W, Below w.heap.size w W → Q (.returned (.agg (partV A Pp Qq F hA hQ hF ia ip iq jf))) W) := Lib.hid (fun W h => by rw [← hQQ]; exact ⟨rfl, h⟩)
 rw [hQQ]
 obtain ⟨W1, hW1⟩ : ∃ W, w.alloc (.cells #[.string ⟨#[]⟩, .string ⟨#[]⟩, .string ⟨#[]⟩, .string ⟨#[]⟩, .bool false, .bool false, .bool false, .int .i64 0, .int .i64 0, .int .i64 0, .int .i64 0] 107) = W := ⟨_, rfl⟩
 have hb1 : Below w.heap.size w W1 := by rw [← hW1]; exact ext_alloc (Below.refl _ _) _
 have hx1 : W1.heap[w.heap.size]? = some (.cells #[.string ⟨#[]⟩, .string ⟨#[]⟩, .string ⟨#[]⟩, .string ⟨#[]⟩, .bool false, .bool false, .bool false, .int .i64 0, .int .i64 0, .int .i64 0, .int .i64 0] 107 (0, 0)) := by rw [← hW1]; exact heap_alloc_new w _
 have HB1 := Lib.hid hb1; have HX1 := Lib.hid hx1
 have H1 := Lib.hid h1; have UU1 := Lib.hid u1; have U2 := Lib.hid u2; have H2 := Lib.hid h2; have UU3 := Lib.hid u3
 clear hb1 hx1 h1 u1 u2 h2 u3 hQQ _hs _hat
 cases hA <;> cases hQ <;> cases hF
 · obtain ⟨rfl, rfl, rfl⟩ := nA rfl
   obtain ⟨rfl, rfl, rfl⟩ := nQ rfl
   obtain ⟨rfl, rfl⟩ := nF rfl
   have sl1 := sl0; have e7 := e8
   have sl2 := sl0; have e9 := e8; have e9' := e8
   have sl3 := sl0; have e10 := e8; have e10' := e8
   clear UU1 UU3
   simp only [Bool.not_false] at t3
   clear nA nQ nF
   go_enter Tryz.func76, Tryz.ntmps76
   go_wp2_with fail
   refine (H1.out _).mono ?_
   rintro e v1 ⟨rfl, hv⟩
   have hv' := hv.symm
   subst hv'
   clear hv hW1
   have c4 : W1.cell? ⟨w.heap.size, 4, none⟩ = some (.bool false) := Lib.cell_of_heap HX1.out 4
   have f4 : W1.frozen? ⟨w.heap.size, 4, none⟩ = false := Lib.frozen_of_heap HX1.out 4
   have c8 : W1.cell? ⟨w.heap.size, 8, none⟩ = some (.int .i64 0) := Lib.cell_of_heap HX1.out 8
   have f8 : W1.frozen? ⟨w.heap.size, 8, none⟩ = false := Lib.frozen_of_heap HX1.out 8
   obtain ⟨W2, hW2⟩ : ∃ W, ((W1.setCell ⟨w.heap.size, 4, none⟩ (.bool false)).setCell ⟨w.heap.size, 8, none⟩ (.int .i64 ip)) = W := ⟨_, rfl⟩
   have hx2 : W2.heap[w.heap.size]? = some (.cells #[.string ⟨#[]⟩, .string ⟨#[]⟩, .string ⟨#[]⟩, .string ⟨#[]⟩, .bool false, .bool false, .bool false, .int .i64 0, .int .i64 ip, .int .i64 0, .int .i64 0] 107 (0, 0)) := by have := (Go.Joins.block_setCell (i := 8) (Go.Joins.block_setCell (i := 4) HX1.out (.bool false)) (.int .i64 ip)); rw [hW2] at this; simpa using this
   have hb2 : Below w.heap.size w W2 := by have := ((HB1.out.setCell (p := ⟨w.heap.size, 4, none⟩) (Nat.le_refl _) (.bool false)).setCell (p := ⟨w.heap.size, 8, none⟩) (Nat.le_refl _) (.int .i64 ip)); rw [hW2] at this; exact this
   have HX2 := Lib.hid hx2; have HB2 := Lib.hid hb2
   clear hx2 hb2
   go_wp2_with fail
   refine (U2.out _).mono ?_
   rintro e W3 ⟨rfl, hbb⟩
   have hx3 : W3.heap[w.heap.size]? = some (.cells #[.string ⟨#[]⟩, .string ⟨#[]⟩, .string ⟨#[]⟩, .string ⟨#[]⟩, .bool false, .bool false, .bool false, .int .i64 0, .int .i64 ip, .int .i64 0, .int .i64 0] 107 (0, 0)) := (hbb.block _ (heap_lt HX2.out)).trans HX2.out
   have hb3 : Below w.heap.size w W3 := ext_trans HB2.out hbb
   have HX3 := Lib.hid hx3; have HB3 := Lib.hid hb3
   clear hx3 hb3 hbb
   clear c4 f4 c8 f8
   clear hW2
   have c1 : W3.cell? ⟨w.heap.size, 1, none⟩ = some (.string ⟨#[]⟩) := Lib.cell_of_heap HX3.out 1
   have f1 : W3.frozen? ⟨w.heap.size, 1, none⟩ = false := Lib.frozen_of_heap HX3.out 1
   obtain ⟨W4, hW4⟩ : ∃ W, (W3.setCell ⟨w.heap.size, 1, none⟩ (.string Pp)) = W := ⟨_, rfl⟩
   have hx4 : W4.heap[w.heap.size]? = some (.cells #[.string ⟨#[]⟩, .string Pp, .string ⟨#[]⟩, .string ⟨#[]⟩, .bool false, .bool false, .bool false, .int .i64 0, .int .i64 ip, .int .i64 0, .int .i64 0] 107 (0, 0)) := by have := (Go.Joins.block_setCell (i := 1) HX3.out (.string Pp)); rw [hW4] at this; simpa using this
   have hb4 : Below w.heap.size w W4 := by have := (HB3.out.setCell (p := ⟨w.heap.size, 1, none⟩) (Nat.le_refl _) (.string Pp)); rw [hW4] at this; exact this
   have HX4 := Lib.hid hx4; have HB4 := Lib.hid hb4
   clear hx4 hb4
   go_wp2_with fail
   refine (H2.out _).mono ?_
   rintro e v1 ⟨rfl, hv⟩
   have hv' := hv.symm
   subst hv'
   clear hv
   clear c1 f1
   clear hW4
   have c5 : W4.cell? ⟨w.heap.size, 5, none⟩ = some (.bool false) := Lib.cell_of_heap HX4.out 5
   have f5 : W4.frozen? ⟨w.heap.size, 5, none⟩ = false := Lib.frozen_of_heap HX4.out 5
   have c6 : W4.cell? ⟨w.heap.size, 6, none⟩ = some (.bool false) := Lib.cell_of_heap HX4.out 6
   have f6 : W4.frozen? ⟨w.heap.size, 6, none⟩ = false := Lib.frozen_of_heap HX4.out 6
   obtain ⟨W5, hW5⟩ : ∃ W, ((W4.setCell ⟨w.heap.size, 5, none⟩ (.bool false)).setCell ⟨w.heap.size, 6, none⟩ (.bool false)) = W := ⟨_, rfl⟩
   have hx5 : W5.heap[w.heap.size]? = some (.cells #[.string ⟨#[]⟩, .string Pp, .string ⟨#[]⟩, .string ⟨#[]⟩, .bool false, .bool false, .bool false, .int .i64 0, .int .i64 ip, .int .i64 0, .int .i64 0] 107 (0, 0)) := by have := (Go.Joins.block_setCell (i := 6) (Go.Joins.block_setCell (i := 5) HX4.out (.bool false)) (.bool false)); rw [hW5] at this; simpa using this
   have hb5 : Below w.heap.size w W5 := by have := ((HB4.out.setCell (p := ⟨w.heap.size, 5, none⟩) (Nat.le_refl _) (.bool false)).setCell (p := ⟨w.heap.size, 6, none⟩) (Nat.le_refl _) (.bool false)); rw [hW5] at this; exact this
   have HX5 := Lib.hid hx5; have HB5 := Lib.hid hb5
   clear hx5 hb5
   have d6 : W5.cell? ⟨w.heap.size, 6, none⟩ = some (.bool false) := Lib.cell_of_heap HX5.out 6
   have hld : (loadVar 107 ⟨w.heap.size, 0, none⟩).run Tryz.prog W5 = .ok (.agg #[.string ⟨#[]⟩, .string Pp, .string ⟨#[]⟩, .string ⟨#[]⟩, .bool false, .bool false, .bool false, .int .i64 0, .int .i64 ip, .int .i64 0, .int .i64 0]) W5 := pt_load ⟨#[]⟩ Pp ⟨#[]⟩ ⟨#[]⟩ false false false 0 ip 0 0 _ _ HX5.out
   have hst : (storeVar 107 ⟨w.heap.size, 0, none⟩ (.agg #[.string ⟨#[]⟩, .string Pp, .string ⟨#[]⟩, .string ⟨#[]⟩, .bool false, .bool false, .bool false, .int .i64 0, .int .i64 ip, .int .i64 0, .int .i64 0])).run Tryz.prog W5 = .ok () W5 := pt_store ⟨#[]⟩ Pp ⟨#[]⟩ ⟨#[]⟩ false false false 0 ip 0 0 _ _ HX5.out
   have HF := Lib.hid (FIN.out _ HB5.out)
   unfold partV at HF
   go_wp2_with ((with_reducible show wpList _ _ _ (_ :: _) _ _); first | (refine ld_arr 107 w.heap.size _ hld _ rfl rfl rfl ?_) | (refine st_arr 107 w.heap.size _ hst _ _ rfl rfl rfl rfl ?_))
   (try simp only [Exit.inBlock, Exit.then])
   exact bodyPost_ret (by simp [results, Tryz.results76, asAddr, hld, Act.put]) rfl HF.out
 · obtain ⟨rfl, rfl, rfl⟩ := nA rfl
   obtain ⟨rfl, rfl, rfl⟩ := nQ rfl
   have sl1 := sl0; have e7 := e8
   have sl2 := sl0; have e9 := e8; have e9' := e8
   have sl3 := sl3 rfl; have e10 := e10 rfl; have e10' := e10' rfl
   clear UU1 UU3
   simp only [Bool.not_true] at t3
   clear nA nQ nF
   go_enter Tryz.func76, Tryz.ntmps76
   go_wp2_with fail
   refine (H1.out _).mono ?_
   rintro e v1 ⟨rfl, hv⟩
   have hv' := hv.symm
   subst hv'
   clear hv hW1
   have c4 : W1.cell? ⟨w.heap.size, 4, none⟩ = some (.bool false) := Lib.cell_of_heap HX1.out 4
   have f4 : W1.frozen? ⟨w.heap.size, 4, none⟩ = false := Lib.frozen_of_heap HX1.out 4
   have c8 : W1.cell? ⟨w.heap.size, 8, none⟩ = some (.int .i64 0) := Lib.cell_of_heap HX1.out 8
   have f8 : W1.frozen? ⟨w.heap.size, 8, none⟩ = false := Lib.frozen_of_heap HX1.out 8
   obtain ⟨W2, hW2⟩ : ∃ W, ((W1.setCell ⟨w.heap.size, 4, none⟩ (.bool false)).setCell ⟨w.heap.size, 8, none⟩ (.int .i64 ip)) = W := ⟨_, rfl⟩
   have hx2 : W2.heap[w.heap.size]? = some (.cells #[.string ⟨#[]⟩, .string ⟨#[]⟩, .string ⟨#[]⟩, .string ⟨#[]⟩, .bool false, .bool false, .bool false, .int .i64 0, .int .i64 ip, .int .i64 0, .int .i64 0] 107 (0, 0)) := by have := (Go.Joins.block_setCell (i := 8) (Go.Joins.block_setCell (i := 4) HX1.out (.bool false)) (.int .i64 ip)); rw [hW2] at this; simpa using this
   have hb2 : Below w.heap.size w W2 := by have := ((HB1.out.setCell (p := ⟨w.heap.size, 4, none⟩) (Nat.le_refl _) (.bool false)).setCell (p := ⟨w.heap.size, 8, none⟩) (Nat.le_refl _) (.int .i64 ip)); rw [hW2] at this; exact this
   have HX2 := Lib.hid hx2; have HB2 := Lib.hid hb2
   clear hx2 hb2
   go_wp2_with fail
   refine (U2.out _).mono ?_
   rintro e W3 ⟨rfl, hbb⟩
   have hx3 : W3.heap[w.heap.size]? = some (.cells #[.string ⟨#[]⟩, .string ⟨#[]⟩, .string ⟨#[]⟩, .string ⟨#[]⟩, .bool false, .bool false, .bool false, .int .i64 0, .int .i64 ip, .int .i64 0, .int .i64 0] 107 (0, 0)) := (hbb.block _ (heap_lt HX2.out)).trans HX2.out
   have hb3 : Below w.heap.size w W3 := ext_trans HB2.out hbb
   have HX3 := Lib.hid hx3; have HB3 := Lib.hid hb3
   clear hx3 hb3 hbb
   clear c4 f4 c8 f8
   clear hW2
   have c1 : W3.cell? ⟨w.heap.size, 1, none⟩ = some (.string ⟨#[]⟩) := Lib.cell_of_heap HX3.out 1
   have f1 : W3.frozen? ⟨w.heap.size, 1, none⟩ = false := Lib.frozen_of_heap HX3.out 1
   obtain ⟨W4, hW4⟩ : ∃ W, (W3.setCell ⟨w.heap.size, 1, none⟩ (.string Pp)) = W := ⟨_, rfl⟩
   have hx4 : W4.heap[w.heap.size]? = some (.cells #[.string ⟨#[]⟩, .string Pp, .string ⟨#[]⟩, .string ⟨#[]⟩, .bool false, .bool false, .bool false, .int .i64 0, .int .i64 ip, .int .i64 0, .int .i64 0] 107 (0, 0)) := by have := (Go.Joins.block_setCell (i := 1) HX3.out (.string Pp)); rw [hW4] at this; simpa using this
   have hb4 : Below w.heap.size w W4 := by have := (HB3.out.setCell (p := ⟨w.heap.size, 1, none⟩) (Nat.le_refl _) (.string Pp)); rw [hW4] at this; exact this
   have HX4 := Lib.hid hx4; have HB4 := Lib.hid hb4
   clear hx4 hb4
   go_wp2_with fail
   refine (H2.out _).mono ?_
   rintro e v1 ⟨rfl, hv⟩
   have hv' := hv.symm
   subst hv'
   clear hv
   clear c1 f1
   clear hW4
   have c5 : W4.cell? ⟨w.heap.size, 5, none⟩ = some (.bool false) := Lib.cell_of_heap HX4.out 5
   have f5 : W4.frozen? ⟨w.heap.size, 5, none⟩ = false := Lib.frozen_of_heap HX4.out 5
   have c6 : W4.cell? ⟨w.heap.size, 6, none⟩ = some (.bool false) := Lib.cell_of_heap HX4.out 6
   have f6 : W4.frozen? ⟨w.heap.size, 6, none⟩ = false := Lib.frozen_of_heap HX4.out 6
   have c10 : W4.cell? ⟨w.heap.size, 10, none⟩ = some (.int .i64 0) := Lib.cell_of_heap HX4.out 10
   have f10 : W4.frozen? ⟨w.heap.size, 10, none⟩ = false := Lib.frozen_of_heap HX4.out 10
   have c3 : W4.cell? ⟨w.heap.size, 3, none⟩ = some (.string ⟨#[]⟩) := Lib.cell_of_heap HX4.out 3
   have f3 : W4.frozen? ⟨w.heap.size, 3, none⟩ = false := Lib.frozen_of_heap HX4.out 3
   obtain ⟨W5, hW5⟩ : ∃ W, ((((W4.setCell ⟨w.heap.size, 5, none⟩ (.bool false)).setCell ⟨w.heap.size, 6, none⟩ (.bool true)).setCell ⟨w.heap.size, 10, none⟩ (.int .i64 jf)).setCell ⟨w.heap.size, 3, none⟩ (.string F)) = W := ⟨_, rfl⟩
   have hx5 : W5.heap[w.heap.size]? = some (.cells #[.string ⟨#[]⟩, .string Pp, .string ⟨#[]⟩, .string F, .bool false, .bool false, .bool true, .int .i64 0, .int .i64 ip, .int .i64 0, .int .i64 jf] 107 (0, 0)) := by have := (Go.Joins.block_setCell (i := 3) (Go.Joins.block_setCell (i := 10) (Go.Joins.block_setCell (i := 6) (Go.Joins.block_setCell (i := 5) HX4.out (.bool false)) (.bool true)) (.int .i64 jf)) (.string F)); rw [hW5] at this; simpa using this
   have hb5 : Below w.heap.size w W5 := by have := ((((HB4.out.setCell (p := ⟨w.heap.size, 5, none⟩) (Nat.le_refl _) (.bool false)).setCell (p := ⟨w.heap.size, 6, none⟩) (Nat.le_refl _) (.bool true)).setCell (p := ⟨w.heap.size, 10, none⟩) (Nat.le_refl _) (.int .i64 jf)).setCell (p := ⟨w.heap.size, 3, none⟩) (Nat.le_refl _) (.string F)); rw [hW5] at this; exact this
   have HX5 := Lib.hid hx5; have HB5 := Lib.hid hb5
   clear hx5 hb5
   have hld : (loadVar 107 ⟨w.heap.size, 0, none⟩).run Tryz.prog W5 = .ok (.agg #[.string ⟨#[]⟩, .string Pp, .string ⟨#[]⟩, .string F, .bool false, .bool false, .bool true, .int .i64 0, .int .i64 ip, .int .i64 0, .int .i64 jf]) W5 := pt_load ⟨#[]⟩ Pp ⟨#[]⟩ F false false true 0 ip 0 jf _ _ HX5.out
   have hst : (storeVar 107 ⟨w.heap.size, 0, none⟩ (.agg #[.string ⟨#[]⟩, .string Pp, .string ⟨#[]⟩, .string F, .bool false, .bool false, .bool true, .int .i64 0, .int .i64 ip, .int .i64 0, .int .i64 jf])).run Tryz.prog W5 = .ok () W5 := pt_store ⟨#[]⟩ Pp ⟨#[]⟩ F false false true 0 ip 0 jf _ _ HX5.out
   have HF := Lib.hid (FIN.out _ HB5.out)
   unfold partV at HF
   go_wp2_with ((with_reducible show wpList _ _ _ (_ :: _) _ _); first | (refine ld_arr 107 w.heap.size _ hld _ rfl rfl rfl ?_) | (refine st_arr 107 w.heap.size _ hst _ _ rfl rfl rfl rfl ?_))
   (try simp only [Exit.inBlock, Exit.then])
   exact bodyPost_ret (by simp [results, Tryz.results76, asAddr, hld, Act.put]) rfl HF.out
 · obtain ⟨rfl, rfl, rfl⟩ := nA rfl
   obtain ⟨rfl, rfl⟩ := nF rfl
   have sl1 := sl0; have e7 := e8
   have sl2 := sl2 rfl; have e9 := e9 rfl; have e9' := e9' rfl
   have sl3 := sl0; have e10 := e8; have e10' := e8
   have U3 := Lib.hid (UU3.out rfl)
   clear UU1 UU3
   simp only [Bool.not_false] at t3
   clear nA nQ nF
   go_enter Tryz.func76, Tryz.ntmps76
   go_wp2_with fail
   refine (H1.out _).mono ?_
   rintro e v1 ⟨rfl, hv⟩
   have hv' := hv.symm
   subst hv'
   clear hv hW1
   have c4 : W1.cell? ⟨w.heap.size, 4, none⟩ = some (.bool false) := Lib.cell_of_heap HX1.out 4
   have f4 : W1.frozen? ⟨w.heap.size, 4, none⟩ = false := Lib.frozen_of_heap HX1.out 4
   have c8 : W1.cell? ⟨w.heap.size, 8, none⟩ = some (.int .i64 0) := Lib.cell_of_heap HX1.out 8
   have f8 : W1.frozen? ⟨w.heap.size, 8, none⟩ = false := Lib.frozen_of_heap HX1.out 8
   obtain ⟨W2, hW2⟩ : ∃ W, ((W1.setCell ⟨w.heap.size, 4, none⟩ (.bool false)).setCell ⟨w.heap.size, 8, none⟩ (.int .i64 ip)) = W := ⟨_, rfl⟩
   have hx2 : W2.heap[w.heap.size]? = some (.cells #[.string ⟨#[]⟩, .string ⟨#[]⟩, .string ⟨#[]⟩, .string ⟨#[]⟩, .bool false, .bool false, .bool false, .int .i64 0, .int .i64 ip, .int .i64 0, .int .i64 0] 107 (0, 0)) := by have := (Go.Joins.block_setCell (i := 8) (Go.Joins.block_setCell (i := 4) HX1.out (.bool false)) (.int .i64 ip)); rw [hW2] at this; simpa using this
   have hb2 : Below w.heap.size w W2 := by have := ((HB1.out.setCell (p := ⟨w.heap.size, 4, none⟩) (Nat.le_refl _) (.bool false)).setCell (p := ⟨w.heap.size, 8, none⟩) (Nat.le_refl _) (.int .i64 ip)); rw [hW2] at this; exact this
   have HX2 := Lib.hid hx2; have HB2 := Lib.hid hb2
   clear hx2 hb2
   go_wp2_with fail
   refine (U2.out _).mono ?_
   rintro e W3 ⟨rfl, hbb⟩
   have hx3 : W3.heap[w.heap.size]? = some (.cells #[.string ⟨#[]⟩, .string ⟨#[]⟩, .string ⟨#[]⟩, .string ⟨#[]⟩, .bool false, .bool false, .bool false, .int .i64 0, .int .i64 ip, .int .i64 0, .int .i64 0] 107 (0, 0)) := (hbb.block _ (heap_lt HX2.out)).trans HX2.out
   have hb3 : Below w.heap.size w W3 := ext_trans HB2.out hbb
   have HX3 := Lib.hid hx3; have HB3 := Lib.hid hb3
   clear hx3 hb3 hbb
   clear c4 f4 c8 f8
   clear hW2
   have c1 : W3.cell? ⟨w.heap.size, 1, none⟩ = some (.string ⟨#[]⟩) := Lib.cell_of_heap HX3.out 1
   have f1 : W3.frozen? ⟨w.heap.size, 1, none⟩ = false := Lib.frozen_of_heap HX3.out 1
   obtain ⟨W4, hW4⟩ : ∃ W, (W3.setCell ⟨w.heap.size, 1, none⟩ (.string Pp)) = W := ⟨_, rfl⟩
   have hx4 : W4.heap[w.heap.size]? = some (.cells #[.string ⟨#[]⟩, .string Pp, .string ⟨#[]⟩, .string ⟨#[]⟩, .bool false, .bool false, .bool false, .int .i64 0, .int .i64 ip, .int .i64 0, .int .i64 0] 107 (0, 0)) := by have := (Go.Joins.block_setCell (i := 1) HX3.out (.string Pp)); rw [hW4] at this; simpa using this
   have hb4 : Below w.heap.size w W4 := by have := (HB3.out.setCell (p := ⟨w.heap.size, 1, none⟩) (Nat.le_refl _) (.string Pp)); rw [hW4] at this; exact this
   have HX4 := Lib.hid hx4; have HB4 := Lib.hid hb4
   clear hx4 hb4
   go_wp2_with fail
   refine (H2.out _).mono ?_
   rintro e v1 ⟨rfl, hv⟩
   have hv' := hv.symm
   subst hv'
   clear hv
   clear c1 f1
   clear hW4
   have c5 : W4.cell? ⟨w.heap.size, 5, none⟩ = some (.bool false) := Lib.cell_of_heap HX4.out 5
   have f5 : W4.frozen? ⟨w.heap.size, 5, none⟩ = false := Lib.frozen_of_heap HX4.out 5
   have c9 : W4.cell? ⟨w.heap.size, 9, none⟩ = some (.int .i64 0) := Lib.cell_of_heap HX4.out 9
   have f9 : W4.frozen? ⟨w.heap.size, 9, none⟩ = false := Lib.frozen_of_heap HX4.out 9
   obtain ⟨W5, hW5⟩ : ∃ W, ((W4.setCell ⟨w.heap.size, 5, none⟩ (.bool true)).setCell ⟨w.heap.size, 9, none⟩ (.int .i64 iq)) = W := ⟨_, rfl⟩
   have hx5 : W5.heap[w.heap.size]? = some (.cells #[.string ⟨#[]⟩, .string Pp, .string ⟨#[]⟩, .string ⟨#[]⟩, .bool false, .bool true, .bool false, .int .i64 0, .int .i64 ip, .int .i64 iq, .int .i64 0] 107 (0, 0)) := by have := (Go.Joins.block_setCell (i := 9) (Go.Joins.block_setCell (i := 5) HX4.out (.bool true)) (.int .i64 iq)); rw [hW5] at this; simpa using this
   have hb5 : Below w.heap.size w W5 := by have := ((HB4.out.setCell (p := ⟨w.heap.size, 5, none⟩) (Nat.le_refl _) (.bool true)).setCell (p := ⟨w.heap.size, 9, none⟩) (Nat.le_refl _) (.int .i64 iq)); rw [hW5] at this; exact this
   have HX5 := Lib.hid hx5; have HB5 := Lib.hid hb5
   clear hx5 hb5
   go_wp2_with fail
   refine (U3.out _).mono ?_
   rintro e W6 ⟨rfl, hbb⟩
   have hx6 : W6.heap[w.heap.size]? = some (.cells #[.string ⟨#[]⟩, .string Pp, .string ⟨#[]⟩, .string ⟨#[]⟩, .bool false, .bool true, .bool false, .int .i64 0, .int .i64 ip, .int .i64 iq, .int .i64 0] 107 (0, 0)) := (hbb.block _ (heap_lt HX5.out)).trans HX5.out
   have hb6 : Below w.heap.size w W6 := ext_trans HB5.out hbb
   have HX6 := Lib.hid hx6; have HB6 := Lib.hid hb6
   clear hx6 hb6 hbb
   clear c5 f5 c9 f9
   clear hW5
   have c2 : W6.cell? ⟨w.heap.size, 2, none⟩ = some (.string ⟨#[]⟩) := Lib.cell_of_heap HX6.out 2
   have f2 : W6.frozen? ⟨w.heap.size, 2, none⟩ = false := Lib.frozen_of_heap HX6.out 2
   have c6 : W6.cell? ⟨w.heap.size, 6, none⟩ = some (.bool false) := Lib.cell_of_heap HX6.out 6
   have f6 : W6.frozen? ⟨w.heap.size, 6, none⟩ = false := Lib.frozen_of_heap HX6.out 6
   obtain ⟨W7, hW7⟩ : ∃ W, ((W6.setCell ⟨w.heap.size, 2, none⟩ (.string Qq)).setCell ⟨w.heap.size, 6, none⟩ (.bool false)) = W := ⟨_, rfl⟩
   have hx7 : W7.heap[w.heap.size]? = some (.cells #[.string ⟨#[]⟩, .string Pp, .string Qq, .string ⟨#[]⟩, .bool false, .bool true, .bool false, .int .i64 0, .int .i64 ip, .int .i64 iq, .int .i64 0] 107 (0, 0)) := by have := (Go.Joins.block_setCell (i := 6) (Go.Joins.block_setCell (i := 2) HX6.out (.string Qq)) (.bool false)); rw [hW7] at this; simpa using this
   have hb7 : Below w.heap.size w W7 := by have := ((HB6.out.setCell (p := ⟨w.heap.size, 2, none⟩) (Nat.le_refl _) (.string Qq)).setCell (p := ⟨w.heap.size, 6, none⟩) (Nat.le_refl _) (.bool false)); rw [hW7] at this; exact this
   have HX7 := Lib.hid hx7; have HB7 := Lib.hid hb7
   clear hx7 hb7
   have d6 : W7.cell? ⟨w.heap.size, 6, none⟩ = some (.bool false) := Lib.cell_of_heap HX7.out 6
   have hld : (loadVar 107 ⟨w.heap.size, 0, none⟩).run Tryz.prog W7 = .ok (.agg #[.string ⟨#[]⟩, .string Pp, .string Qq, .string ⟨#[]⟩, .bool false, .bool true, .bool false, .int .i64 0, .int .i64 ip, .int .i64 iq, .int .i64 0]) W7 := pt_load ⟨#[]⟩ Pp Qq ⟨#[]⟩ false true false 0 ip iq 0 _ _ HX7.out
   have hst : (storeVar 107 ⟨w.heap.size, 0, none⟩ (.agg #[.string ⟨#[]⟩, .string Pp, .string Qq, .string ⟨#[]⟩, .bool false, .bool true, .bool false, .int .i64 0, .int .i64 ip, .int .i64 iq, .int .i64 0])).run Tryz.prog W7 = .ok () W7 := pt_store ⟨#[]⟩ Pp Qq ⟨#[]⟩ false true false 0 ip iq 0 _ _ HX7.out
   have HF := Lib.hid (FIN.out _ HB7.out)
   unfold partV at HF
   go_wp2_with ((with_reducible show wpList _ _ _ (_ :: _) _ _); first | (refine ld_arr 107 w.heap.size _ hld _ rfl rfl rfl ?_) | (refine st_arr 107 w.heap.size _ hst _ _ rfl rfl rfl rfl ?_))
   (try simp only [Exit.inBlock, Exit.then])
   exact bodyPost_ret (by simp [results, Tryz.results76, asAddr, hld, Act.put]) rfl HF.out
 · obtain ⟨rfl, rfl, rfl⟩ := nA rfl
   have sl1 := sl0; have e7 := e8
   have sl2 := sl2 rfl; have e9 := e9 rfl; have e9' := e9' rfl
   have sl3 := sl3 rfl; have e10 := e10 rfl; have e10' := e10' rfl
   have U3 := Lib.hid (UU3.out rfl)
   clear UU1 UU3
   simp only [Bool.not_true] at t3
   clear nA nQ nF
   go_enter Tryz.func76, Tryz.ntmps76
   go_wp2_with fail
   refine (H1.out _).mono ?_
   rintro e v1 ⟨rfl, hv⟩
   have hv' := hv.symm
   subst hv'
   clear hv hW1
   have c4 : W1.cell? ⟨w.heap.size, 4, none⟩ = some (.bool false) := Lib.cell_of_heap HX1.out 4
   have f4 : W1.frozen? ⟨w.heap.size, 4, none⟩ = false := Lib.frozen_of_heap HX1.out 4
   have c8 : W1.cell? ⟨w.heap.size, 8, none⟩ = some (.int .i64 0) := Lib.cell_of_heap HX1.out 8
   have f8 : W1.frozen? ⟨w.heap.size, 8, none⟩ = false := Lib.frozen_of_heap HX1.out 8
   obtain ⟨W2, hW2⟩ : ∃ W, ((W1.setCell ⟨w.heap.size, 4, none⟩ (.bool false)).setCell ⟨w.heap.size, 8, none⟩ (.int .i64 ip)) = W := ⟨_, rfl⟩
   have hx2 : W2.heap[w.heap.size]? = some (.cells #[.string ⟨#[]⟩, .string ⟨#[]⟩, .string ⟨#[]⟩, .string ⟨#[]⟩, .bool false, .bool false, .bool false, .int .i64 0, .int .i64 ip, .int .i64 0, .int .i64 0] 107 (0, 0)) := by have := (Go.Joins.block_setCell (i := 8) (Go.Joins.block_setCell (i := 4) HX1.out (.bool false)) (.int .i64 ip)); rw [hW2] at this; simpa using this
   have hb2 : Below w.heap.size w W2 := by have := ((HB1.out.setCell (p := ⟨w.heap.size, 4, none⟩) (Nat.le_refl _) (.bool false)).setCell (p := ⟨w.heap.size, 8, none⟩) (Nat.le_refl _) (.int .i64 ip)); rw [hW2] at this; exact this
   have HX2 := Lib.hid hx2; have HB2 := Lib.hid hb2
   clear hx2 hb2
   go_wp2_with fail
   refine (U2.out _).mono ?_
   rintro e W3 ⟨rfl, hbb⟩
   have hx3 : W3.heap[w.heap.size]? = some (.cells #[.string ⟨#[]⟩, .string ⟨#[]⟩, .string ⟨#[]⟩, .string ⟨#[]⟩, .bool false, .bool false, .bool false, .int .i64 0, .int .i64 ip, .int .i64 0, .int .i64 0] 107 (0, 0)) := (hbb.block _ (heap_lt HX2.out)).trans HX2.out
   have hb3 : Below w.heap.size w W3 := ext_trans HB2.out hbb
   have HX3 := Lib.hid hx3; have HB3 := Lib.hid hb3
   clear hx3 hb3 hbb
   clear c4 f4 c8 f8
   clear hW2
   have c1 : W3.cell? ⟨w.heap.size, 1, none⟩ = some (.string ⟨#[]⟩) := Lib.cell_of_heap HX3.out 1
   have f1 : W3.frozen? ⟨w.heap.size, 1, none⟩ = false := Lib.frozen_of_heap HX3.out 1
   obtain ⟨W4, hW4⟩ : ∃ W, (W3.setCell ⟨w.heap.size, 1, none⟩ (.string Pp)) = W := ⟨_, rfl⟩
   have hx4 : W4.heap[w.heap.size]? = some (.cells #[.string ⟨#[]⟩, .string Pp, .string ⟨#[]⟩, .string ⟨#[]⟩, .bool false, .bool false, .bool false, .int .i64 0, .int .i64 ip, .int .i64 0, .int .i64 0] 107 (0, 0)) := by have := (Go.Joins.block_setCell (i := 1) HX3.out (.string Pp)); rw [hW4] at this; simpa using this
   have hb4 : Below w.heap.size w W4 := by have := (HB3.out.setCell (p := ⟨w.heap.size, 1, none⟩) (Nat.le_refl _) (.string Pp)); rw [hW4] at this; exact this
   have HX4 := Lib.hid hx4; have HB4 := Lib.hid hb4
   clear hx4 hb4
   go_wp2_with fail
   refine (H2.out _).mono ?_
   rintro e v1 ⟨rfl, hv⟩
   have hv' := hv.symm
   subst hv'
   clear hv
   clear c1 f1
   clear hW4
   have c5 : W4.cell? ⟨w.heap.size, 5, none⟩ = some (.bool false) := Lib.cell_of_heap HX4.out 5
   have f5 : W4.frozen? ⟨w.heap.size, 5, none⟩ = false := Lib.frozen_of_heap HX4.out 5
   have c9 : W4.cell? ⟨w.heap.size, 9, none⟩ = some (.int .i64 0) := Lib.cell_of_heap HX4.out 9
   have f9 : W4.frozen? ⟨w.heap.size, 9, none⟩ = false := Lib.frozen_of_heap HX4.out 9
   obtain ⟨W5, hW5⟩ : ∃ W, ((W4.setCell ⟨w.heap.size, 5, none⟩ (.bool true)).setCell ⟨w.heap.size, 9, none⟩ (.int .i64 iq)) = W := ⟨_, rfl⟩
   have hx5 : W5.heap[w.heap.size]? = some (.cells #[.string ⟨#[]⟩, .string Pp, .string ⟨#[]⟩, .string ⟨#[]⟩, .bool false, .bool true, .bool false, .int .i64 0, .int .i64 ip, .int .i64 iq, .int .i64 0] 107 (0, 0)) := by have := (Go.Joins.block_setCell (i := 9) (Go.Joins.block_setCell (i := 5) HX4.out (.bool true)) (.int .i64 iq)); rw [hW5] at this; simpa using this
   have hb5 : Below w.heap.size w W5 := by have := ((HB4.out.setCell (p := ⟨w.heap.size, 5, none⟩) (Nat.le_refl _) (.bool true)).setCell (p := ⟨w.heap.size, 9, none⟩) (Nat.le_refl _) (.int .i64 iq)); rw [hW5] at this; exact this
   have HX5 := Lib.hid hx5; have HB5 := Lib.hid hb5
   clear hx5 hb5
   go_wp2_with fail
   refine (U3.out _).mono ?_
   rintro e W6 ⟨rfl, hbb⟩
   have hx6 : W6.heap[w.heap.size]? = some (.cells #[.string ⟨#[]⟩, .string Pp, .string ⟨#[]⟩, .string ⟨#[]⟩, .bool false, .bool true, .bool false, .int .i64 0, .int .i64 ip, .int .i64 iq, .int .i64 0] 107 (0, 0)) := (hbb.block _ (heap_lt HX5.out)).trans HX5.out
   have hb6 : Below w.heap.size w W6 := ext_trans HB5.out hbb
   have HX6 := Lib.hid hx6; have HB6 := Lib.hid hb6
   clear hx6 hb6 hbb
   clear c5 f5 c9 f9
   clear hW5
   have c2 : W6.cell? ⟨w.heap.size, 2, none⟩ = some (.string ⟨#[]⟩) := Lib.cell_of_heap HX6.out 2
   have f2 : W6.frozen? ⟨w.heap.size, 2, none⟩ = false := Lib.frozen_of_heap HX6.out 2
   have c6 : W6.cell? ⟨w.heap.size, 6, none⟩ = some (.bool false) := Lib.cell_of_heap HX6.out 6
   have f6 : W6.frozen? ⟨w.heap.size, 6, none⟩ = false := Lib.frozen_of_heap HX6.out 6
   have c10 : W6.cell? ⟨w.heap.size, 10, none⟩ = some (.int .i64 0) := Lib.cell_of_heap HX6.out 10
   have f10 : W6.frozen? ⟨w.heap.size, 10, none⟩ = false := Lib.frozen_of_heap HX6.out 10
   have c3 : W6.cell? ⟨w.heap.size, 3, none⟩ = some (.string ⟨#[]⟩) := Lib.cell_of_heap HX6.out 3
   have f3 : W6.frozen? ⟨w.heap.size, 3, none⟩ = false := Lib.frozen_of_heap HX6.out 3
   obtain ⟨W7, hW7⟩ : ∃ W, ((((W6.setCell ⟨w.heap.size, 2, none⟩ (.string Qq)).setCell ⟨w.heap.size, 6, none⟩ (.bool true)).setCell ⟨w.heap.size, 10, none⟩ (.int .i64 jf)).setCell ⟨w.heap.size, 3, none⟩ (.string F)) = W := ⟨_, rfl⟩
   have hx7 : W7.heap[w.heap.size]? = some (.cells #[.string ⟨#[]⟩, .string Pp, .string Qq, .string F, .bool false, .bool true, .bool true, .int .i64 0, .int .i64 ip, .int .i64 iq, .int .i64 jf] 107 (0, 0)) := by have := (Go.Joins.block_setCell (i := 3) (Go.Joins.block_setCell (i := 10) (Go.Joins.block_setCell (i := 6) (Go.Joins.block_setCell (i := 2) HX6.out (.string Qq)) (.bool true)) (.int .i64 jf)) (.string F)); rw [hW7] at this; simpa using this
   have hb7 : Below w.heap.size w W7 := by have := ((((HB6.out.setCell (p := ⟨w.heap.size, 2, none⟩) (Nat.le_refl _) (.string Qq)).setCell (p := ⟨w.heap.size, 6, none⟩) (Nat.le_refl _) (.bool true)).setCell (p := ⟨w.heap.size, 10, none⟩) (Nat.le_refl _) (.int .i64 jf)).setCell (p := ⟨w.heap.size, 3, none⟩) (Nat.le_refl _) (.string F)); rw [hW7] at this; exact this
   have HX7 := Lib.hid hx7; have HB7 := Lib.hid hb7
   clear hx7 hb7
   have hld : (loadVar 107 ⟨w.heap.size, 0, none⟩).run Tryz.prog W7 = .ok (.agg #[.string ⟨#[]⟩, .string Pp, .string Qq, .string F, .bool false, .bool true, .bool true, .int .i64 0, .int .i64 ip, .int .i64 iq, .int .i64 jf]) W7 := pt_load ⟨#[]⟩ Pp Qq F false true true 0 ip iq jf _ _ HX7.out
   have hst : (storeVar 107 ⟨w.heap.size, 0, none⟩ (.agg #[.string ⟨#[]⟩, .string Pp, .string Qq, .string F, .bool false, .bool true, .bool true, .int .i64 0, .int .i64 ip, .int .i64 iq, .int .i64 jf])).run Tryz.prog W7 = .ok () W7 := pt_store ⟨#[]⟩ Pp Qq F false true true 0 ip iq jf _ _ HX7.out
   have HF := Lib.hid (FIN.out _ HB7.out)
   unfold partV at HF
   go_wp2_with ((with_reducible show wpList _ _ _ (_ :: _) _ _); first | (refine ld_arr 107 w.heap.size _ hld _ rfl rfl rfl ?_) | (refine st_arr 107 w.heap.size _ hst _ _ rfl rfl rfl rfl ?_))
   (try simp only [Exit.inBlock, Exit.then])
   exact bodyPost_ret (by simp [results, Tryz.results76, asAddr, hld, Act.put]) rfl HF.out
 · obtain ⟨rfl, rfl, rfl⟩ := nQ rfl
   obtain ⟨rfl, rfl⟩ := nF rfl
   have sl1 := sl1 rfl; have e7 := e7 rfl
   have sl2 := sl0; have e9 := e8; have e9' := e8
   have sl3 := sl0; have e10 := e8; have e10' := e8
   have U1 := Lib.hid (UU1.out rfl)
   clear UU1 UU3
   simp only [Bool.not_false] at t3
   clear nA nQ nF
   go_enter Tryz.func76, Tryz.ntmps76
   go_wp2_with fail
   refine (H1.out _).mono ?_
   rintro e v1 ⟨rfl, hv⟩
   have hv' := hv.symm
   subst hv'
   clear hv hW1
   have c4 : W1.cell? ⟨w.heap.size, 4, none⟩ = some (.bool false) := Lib.cell_of_heap HX1.out 4
   have f4 : W1.frozen? ⟨w.heap.size, 4, none⟩ = false := Lib.frozen_of_heap HX1.out 4
   have c7 : W1.cell? ⟨w.heap.size, 7, none⟩ = some (.int .i64 0) := Lib.cell_of_heap HX1.out 7
   have f7 : W1.frozen? ⟨w.heap.size, 7, none⟩ = false := Lib.frozen_of_heap HX1.out 7
   obtain ⟨W2, hW2⟩ : ∃ W, ((W1.setCell ⟨w.heap.size, 4, none⟩ (.bool true)).setCell ⟨w.heap.size, 7, none⟩ (.int .i64 ia)) = W := ⟨_, rfl⟩
   have hx2 : W2.heap[w.heap.size]? = some (.cells #[.string ⟨#[]⟩, .string ⟨#[]⟩, .string ⟨#[]⟩, .string ⟨#[]⟩, .bool true, .bool false, .bool false, .int .i64 ia, .int .i64 0, .int .i64 0, .int .i64 0] 107 (0, 0)) := by have := (Go.Joins.block_setCell (i := 7) (Go.Joins.block_setCell (i := 4) HX1.out (.bool true)) (.int .i64 ia)); rw [hW2] at this; simpa using this
   have hb2 : Below w.heap.size w W2 := by have := ((HB1.out.setCell (p := ⟨w.heap.size, 4, none⟩) (Nat.le_refl _) (.bool true)).setCell (p := ⟨w.heap.size, 7, none⟩) (Nat.le_refl _) (.int .i64 ia)); rw [hW2] at this; exact this
   have HX2 := Lib.hid hx2; have HB2 := Lib.hid hb2
   clear hx2 hb2
   go_wp2_with fail
   refine (U1.out _).mono ?_
   rintro e W3 ⟨rfl, hbb⟩
   have hx3 : W3.heap[w.heap.size]? = some (.cells #[.string ⟨#[]⟩, .string ⟨#[]⟩, .string ⟨#[]⟩, .string ⟨#[]⟩, .bool true, .bool false, .bool false, .int .i64 ia, .int .i64 0, .int .i64 0, .int .i64 0] 107 (0, 0)) := (hbb.block _ (heap_lt HX2.out)).trans HX2.out
   have hb3 : Below w.heap.size w W3 := ext_trans HB2.out hbb
   have HX3 := Lib.hid hx3; have HB3 := Lib.hid hb3
   clear hx3 hb3 hbb
   clear c4 f4 c7 f7
   clear hW2
   have c0 : W3.cell? ⟨w.heap.size, 0, none⟩ = some (.string ⟨#[]⟩) := Lib.cell_of_heap HX3.out 0
   have f0 : W3.frozen? ⟨w.heap.size, 0, none⟩ = false := Lib.frozen_of_heap HX3.out 0
   have c8 : W3.cell? ⟨w.heap.size, 8, none⟩ = some (.int .i64 0) := Lib.cell_of_heap HX3.out 8
   have f8 : W3.frozen? ⟨w.heap.size, 8, none⟩ = false := Lib.frozen_of_heap HX3.out 8
   obtain ⟨W4, hW4⟩ : ∃ W, ((W3.setCell ⟨w.heap.size, 0, none⟩ (.string A)).setCell ⟨w.heap.size, 8, none⟩ (.int .i64 ip)) = W := ⟨_, rfl⟩
   have hx4 : W4.heap[w.heap.size]? = some (.cells #[.string A, .string ⟨#[]⟩, .string ⟨#[]⟩, .string ⟨#[]⟩, .bool true, .bool false, .bool false, .int .i64 ia, .int .i64 ip, .int .i64 0, .int .i64 0] 107 (0, 0)) := by have := (Go.Joins.block_setCell (i := 8) (Go.Joins.block_setCell (i := 0) HX3.out (.string A)) (.int .i64 ip)); rw [hW4] at this; simpa using this
   have hb4 : Below w.heap.size w W4 := by have := ((HB3.out.setCell (p := ⟨w.heap.size, 0, none⟩) (Nat.le_refl _) (.string A)).setCell (p := ⟨w.heap.size, 8, none⟩) (Nat.le_refl _) (.int .i64 ip)); rw [hW4] at this; exact this
   have HX4 := Lib.hid hx4; have HB4 := Lib.hid hb4
   clear hx4 hb4
   go_wp2_with fail
   refine (U2.out _).mono ?_
   rintro e W5 ⟨rfl, hbb⟩
   have hx5 : W5.heap[w.heap.size]? = some (.cells #[.string A, .string ⟨#[]⟩, .string ⟨#[]⟩, .string ⟨#[]⟩, .bool true, .bool false, .bool false, .int .i64 ia, .int .i64 ip, .int .i64 0, .int .i64 0] 107 (0, 0)) := (hbb.block _ (heap_lt HX4.out)).trans HX4.out
   have hb5 : Below w.heap.size w W5 := ext_trans HB4.out hbb
   have HX5 := Lib.hid hx5; have HB5 := Lib.hid hb5
   clear hx5 hb5 hbb
   clear c0 f0 c8 f8
   clear hW4
   have c1 : W5.cell? ⟨w.heap.size, 1, none⟩ = some (.string ⟨#[]⟩) := Lib.cell_of_heap HX5.out 1
   have f1 : W5.frozen? ⟨w.heap.size, 1, none⟩ = false := Lib.frozen_of_heap HX5.out 1
   obtain ⟨W6, hW6⟩ : ∃ W, (W5.setCell ⟨w.heap.size, 1, none⟩ (.string Pp)) = W := ⟨_, rfl⟩
   have hx6 : W6.heap[w.heap.size]? = some (.cells #[.string A, .string Pp, .string ⟨#[]⟩, .string ⟨#[]⟩, .bool true, .bool false, .bool false, .int .i64 ia, .int .i64 ip, .int .i64 0, .int .i64 0] 107 (0, 0)) := by have := (Go.Joins.block_setCell (i := 1) HX5.out (.string Pp)); rw [hW6] at this; simpa using this
   have hb6 : Below w.heap.size w W6 := by have := (HB5.out.setCell (p := ⟨w.heap.size, 1, none⟩) (Nat.le_refl _) (.string Pp)); rw [hW6] at this; exact this
   have HX6 := Lib.hid hx6; have HB6 := Lib.hid hb6
   clear hx6 hb6
   go_wp2_with fail
   refine (H2.out _).mono ?_
   rintro e v1 ⟨rfl, hv⟩
   have hv' := hv.symm
   subst hv'
   clear hv
   clear c1 f1
   clear hW6
   have c5 : W6.cell? ⟨w.heap.size, 5, none⟩ = some (.bool false) := Lib.cell_of_heap HX6.out 5
   have f5 : W6.frozen? ⟨w.heap.size, 5, none⟩ = false := Lib.frozen_of_heap HX6.out 5
   have c6 : W6.cell? ⟨w.heap.size, 6, none⟩ = some (.bool false) := Lib.cell_of_heap HX6.out 6
   have f6 : W6.frozen? ⟨w.heap.size, 6, none⟩ = false := Lib.frozen_of_heap HX6.out 6
   obtain ⟨W7, hW7⟩ : ∃ W, ((W6.setCell ⟨w.heap.size, 5, none⟩ (.bool false)).setCell ⟨w.heap.size, 6, none⟩ (.bool false)) = W := ⟨_, rfl⟩
   have hx7 : W7.heap[w.heap.size]? = some (.cells #[.string A, .string Pp, .string ⟨#[]⟩, .string ⟨#[]⟩, .bool true, .bool false, .bool false, .int .i64 ia, .int .i64 ip, .int .i64 0, .int .i64 0] 107 (0, 0)) := by have := (Go.Joins.block_setCell (i := 6) (Go.Joins.block_setCell (i := 5) HX6.out (.bool false)) (.bool false)); rw [hW7] at this; simpa using this
   have hb7 : Below w.heap.size w W7 := by have := ((HB6.out.setCell (p := ⟨w.heap.size, 5, none⟩) (Nat.le_refl _) (.bool false)).setCell (p := ⟨w.heap.size, 6, none⟩) (Nat.le_refl _) (.bool false)); rw [hW7] at this; exact this
   have HX7 := Lib.hid hx7; have HB7 := Lib.hid hb7
   clear hx7 hb7
   have d6 : W7.cell? ⟨w.heap.size, 6, none⟩ = some (.bool false) := Lib.cell_of_heap HX7.out 6
   have hld : (loadVar 107 ⟨w.heap.size, 0, none⟩).run Tryz.prog W7 = .ok (.agg #[.string A, .string Pp, .string ⟨#[]⟩, .string ⟨#[]⟩, .bool true, .bool false, .bool false, .int .i64 ia, .int .i64 ip, .int .i64 0, .int .i64 0]) W7 := pt_load A Pp ⟨#[]⟩ ⟨#[]⟩ true false false ia ip 0 0 _ _ HX7.out
   have hst : (storeVar 107 ⟨w.heap.size, 0, none⟩ (.agg #[.string A, .string Pp, .string ⟨#[]⟩, .string ⟨#[]⟩, .bool true, .bool false, .bool false, .int .i64 ia, .int .i64 ip, .int .i64 0, .int .i64 0])).run Tryz.prog W7 = .ok () W7 := pt_store A Pp ⟨#[]⟩ ⟨#[]⟩ true false false ia ip 0 0 _ _ HX7.out
   have HF := Lib.hid (FIN.out _ HB7.out)
   unfold partV at HF
   go_wp2_with ((with_reducible show wpList _ _ _ (_ :: _) _ _); first | (refine ld_arr 107 w.heap.size _ hld _ rfl rfl rfl ?_) | (refine st_arr 107 w.heap.size _ hst _ _ rfl rfl rfl rfl ?_))
   (try simp only [Exit.inBlock, Exit.then])
   exact bodyPost_ret (by simp [results, Tryz.results76, asAddr, hld, Act.put]) rfl HF.out
 · obtain ⟨rfl, rfl, rfl⟩ := nQ rfl
   have sl1 := sl1 rfl; have e7 := e7 rfl
   have sl2 := sl0; have e9 := e8; have e9' := e8
   have sl3 := sl3 rfl; have e10 := e10 rfl; have e10' := e10' rfl
   have U1 := Lib.hid (UU1.out rfl)
   clear UU1 UU3
   simp only [Bool.not_true] at t3
   clear nA nQ nF
   go_enter Tryz.func76, Tryz.ntmps76
   go_wp2_with fail
   refine (H1.out _).mono ?_
   rintro e v1 ⟨rfl, hv⟩
   have hv' := hv.symm
   subst hv'
   clear hv hW1
   have c4 : W1.cell? ⟨w.heap.size, 4, none⟩ = some (.bool false) := Lib.cell_of_heap HX1.out 4
   have f4 : W1.frozen? ⟨w.heap.size, 4, none⟩ = false := Lib.frozen_of_heap HX1.out 4
   have c7 : W1.cell? ⟨w.heap.size, 7, none⟩ = some (.int .i64 0) := Lib.cell_of_heap HX1.out 7
   have f7 : W1.frozen? ⟨w.heap.size, 7, none⟩ = false := Lib.frozen_of_heap HX1.out 7
   obtain ⟨W2, hW2⟩ : ∃ W, ((W1.setCell ⟨w.heap.size, 4, none⟩ (.bool true)).setCell ⟨w.heap.size, 7, none⟩ (.int .i64 ia)) = W := ⟨_, rfl⟩
   have hx2 : W2.heap[w.heap.size]? = some (.cells #[.string ⟨#[]⟩, .string ⟨#[]⟩, .string ⟨#[]⟩, .string ⟨#[]⟩, .bool true, .bool false, .bool false, .int .i64 ia, .int .i64 0, .int .i64 0, .int .i64 0] 107 (0, 0)) := by have := (Go.Joins.block_setCell (i := 7) (Go.Joins.block_setCell (i := 4) HX1.out (.bool true)) (.int .i64 ia)); rw [hW2] at this; simpa using this
   have hb2 : Below w.heap.size w W2 := by have := ((HB1.out.setCell (p := ⟨w.heap.size, 4, none⟩) (Nat.le_refl _) (.bool true)).setCell (p := ⟨w.heap.size, 7, none⟩) (Nat.le_refl _) (.int .i64 ia)); rw [hW2] at this; exact this
   have HX2 := Lib.hid hx2; have HB2 := Lib.hid hb2
   clear hx2 hb2
   go_wp2_with fail
   refine (U1.out _).mono ?_
   rintro e W3 ⟨rfl, hbb⟩
   have hx3 : W3.heap[w.heap.size]? = some (.cells #[.string ⟨#[]⟩, .string ⟨#[]⟩, .string ⟨#[]⟩, .string ⟨#[]⟩, .bool true, .bool false, .bool false, .int .i64 ia, .int .i64 0, .int .i64 0, .int .i64 0] 107 (0, 0)) := (hbb.block _ (heap_lt HX2.out)).trans HX2.out
   have hb3 : Below w.heap.size w W3 := ext_trans HB2.out hbb
   have HX3 := Lib.hid hx3; have HB3 := Lib.hid hb3
   clear hx3 hb3 hbb
   clear c4 f4 c7 f7
   clear hW2
   have c0 : W3.cell? ⟨w.heap.size, 0, none⟩ = some (.string ⟨#[]⟩) := Lib.cell_of_heap HX3.out 0
   have f0 : W3.frozen? ⟨w.heap.size, 0, none⟩ = false := Lib.frozen_of_heap HX3.out 0
   have c8 : W3.cell? ⟨w.heap.size, 8, none⟩ = some (.int .i64 0) := Lib.cell_of_heap HX3.out 8
   have f8 : W3.frozen? ⟨w.heap.size, 8, none⟩ = false := Lib.frozen_of_heap HX3.out 8
   obtain ⟨W4, hW4⟩ : ∃ W, ((W3.setCell ⟨w.heap.size, 0, none⟩ (.string A)).setCell ⟨w.heap.size, 8, none⟩ (.int .i64 ip)) = W := ⟨_, rfl⟩
   have hx4 : W4.heap[w.heap.size]? = some (.cells #[.string A, .string ⟨#[]⟩, .string ⟨#[]⟩, .string ⟨#[]⟩, .bool true, .bool false, .bool false, .int .i64 ia, .int .i64 ip, .int .i64 0, .int .i64 0] 107 (0, 0)) := by have := (Go.Joins.block_setCell (i := 8) (Go.Joins.block_setCell (i := 0) HX3.out (.string A)) (.int .i64 ip)); rw [hW4] at this; simpa using this
   have hb4 : Below w.heap.size w W4 := by have := ((HB3.out.setCell (p := ⟨w.heap.size, 0, none⟩) (Nat.le_refl _) (.string A)).setCell (p := ⟨w.heap.size, 8, none⟩) (Nat.le_refl _) (.int .i64 ip)); rw [hW4] at this; exact this
   have HX4 := Lib.hid hx4; have HB4 := Lib.hid hb4
   clear hx4 hb4
   go_wp2_with fail
   refine (U2.out _).mono ?_
   rintro e W5 ⟨rfl, hbb⟩
   have hx5 : W5.heap[w.heap.size]? = some (.cells #[.string A, .string ⟨#[]⟩, .string ⟨#[]⟩, .string ⟨#[]⟩, .bool true, .bool false, .bool false, .int .i64 ia, .int .i64 ip, .int .i64 0, .int .i64 0] 107 (0, 0)) := (hbb.block _ (heap_lt HX4.out)).trans HX4.out
   have hb5 : Below w.heap.size w W5 := ext_trans HB4.out hbb
   have HX5 := Lib.hid hx5; have HB5 := Lib.hid hb5
   clear hx5 hb5 hbb
   clear c0 f0 c8 f8
   clear hW4
   have c1 : W5.cell? ⟨w.heap.size, 1, none⟩ = some (.string ⟨#[]⟩) := Lib.cell_of_heap HX5.out 1
   have f1 : W5.frozen? ⟨w.heap.size, 1, none⟩ = false := Lib.frozen_of_heap HX5.out 1
   obtain ⟨W6, hW6⟩ : ∃ W, (W5.setCell ⟨w.heap.size, 1, none⟩ (.string Pp)) = W := ⟨_, rfl⟩
   have hx6 : W6.heap[w.heap.size]? = some (.cells #[.string A, .string Pp, .string ⟨#[]⟩, .string ⟨#[]⟩, .bool true, .bool false, .bool false, .int .i64 ia, .int .i64 ip, .int .i64 0, .int .i64 0] 107 (0, 0)) := by have := (Go.Joins.block_setCell (i := 1) HX5.out (.string Pp)); rw [hW6] at this; simpa using this
   have hb6 : Below w.heap.size w W6 := by have := (HB5.out.setCell (p := ⟨w.heap.size, 1, none⟩) (Nat.le_refl _) (.string Pp)); rw [hW6] at this; exact this
   have HX6 := Lib.hid hx6; have HB6 := Lib.hid hb6
   clear hx6 hb6
   go_wp2_with fail
   refine (H2.out _).mono ?_
   rintro e v1 ⟨rfl, hv⟩
   have hv' := hv.symm
   subst hv'
   clear hv
   clear c1 f1
   clear hW6
   have c5 : W6.cell? ⟨w.heap.size, 5, none⟩ = some (.bool false) := Lib.cell_of_heap HX6.out 5
   have f5 : W6.frozen? ⟨w.heap.size, 5, none⟩ = false := Lib.frozen_of_heap HX6.out 5
   have c6 : W6.cell? ⟨w.heap.size, 6, none⟩ = some (.bool false) := Lib.cell_of_heap HX6.out 6
   have f6 : W6.frozen? ⟨w.heap.size, 6, none⟩ = false := Lib.frozen_of_heap HX6.out 6
   have c10 : W6.cell? ⟨w.heap.size, 10, none⟩ = some (.int .i64 0) := Lib.cell_of_heap HX6.out 10
   have f10 : W6.frozen? ⟨w.heap.size, 10, none⟩ = false := Lib.frozen_of_heap HX6.out 10
   have c3 : W6.cell? ⟨w.heap.size, 3, none⟩ = some (.string ⟨#[]⟩) := Lib.cell_of_heap HX6.out 3
   have f3 : W6.frozen? ⟨w.heap.size, 3, none⟩ = false := Lib.frozen_of_heap HX6.out 3
   obtain ⟨W7, hW7⟩ : ∃ W, ((((W6.setCell ⟨w.heap.size, 5, none⟩ (.bool false)).setCell ⟨w.heap.size, 6, none⟩ (.bool true)).setCell ⟨w.heap.size, 10, none⟩ (.int .i64 jf)).setCell ⟨w.heap.size, 3, none⟩ (.string F)) = W := ⟨_, rfl⟩
   have hx7 : W7.heap[w.heap.size]? = some (.cells #[.string A, .string Pp, .string ⟨#[]⟩, .string F, .bool true, .bool false, .bool true, .int .i64 ia, .int .i64 ip, .int .i64 0, .int .i64 jf] 107 (0, 0)) := by have := (Go.Joins.block_setCell (i := 3) (Go.Joins.block_setCell (i := 10) (Go.Joins.block_setCell (i := 6) (Go.Joins.block_setCell (i := 5) HX6.out (.bool false)) (.bool true)) (.int .i64 jf)) (.string F)); rw [hW7] at this; simpa using this
   have hb7 : Below w.heap.size w W7 := by have := ((((HB6.out.setCell (p := ⟨w.heap.size, 5, none⟩) (Nat.le_refl _) (.bool false)).setCell (p := ⟨w.heap.size, 6, none⟩) (Nat.le_refl _) (.bool true)).setCell (p := ⟨w.heap.size, 10, none⟩) (Nat.le_refl _) (.int .i64 jf)).setCell (p := ⟨w.heap.size, 3, none⟩) (Nat.le_refl _) (.string F)); rw [hW7] at this; exact this
   have HX7 := Lib.hid hx7; have HB7 := Lib.hid hb7
   clear hx7 hb7
   have hld : (loadVar 107 ⟨w.heap.size, 0, none⟩).run Tryz.prog W7 = .ok (.agg #[.string A, .string Pp, .string ⟨#[]⟩, .string F, .bool true, .bool false, .bool true, .int .i64 ia, .int .i64 ip, .int .i64 0, .int .i64 jf]) W7 := pt_load A Pp ⟨#[]⟩ F true false true ia ip 0 jf _ _ HX7.out
   have hst : (storeVar 107 ⟨w.heap.size, 0, none⟩ (.agg #[.string A, .string Pp, .string ⟨#[]⟩, .string F, .bool true, .bool false, .bool true, .int .i64 ia, .int .i64 ip, .int .i64 0, .int .i64 jf])).run Tryz.prog W7 = .ok () W7 := pt_store A Pp ⟨#[]⟩ F true false true ia ip 0 jf _ _ HX7.out
   have HF := Lib.hid (FIN.out _ HB7.out)
   unfold partV at HF
   go_wp2_with ((with_reducible show wpList _ _ _ (_ :: _) _ _); first | (refine ld_arr 107 w.heap.size _ hld _ rfl rfl rfl ?_) | (refine st_arr 107 w.heap.size _ hst _ _ rfl rfl rfl rfl ?_))
   (try simp only [Exit.inBlock, Exit.then])
   exact bodyPost_ret (by simp [results, Tryz.results76, asAddr, hld, Act.put]) rfl HF.out
 · obtain ⟨rfl, rfl⟩ := nF rfl
   have sl1 := sl1 rfl; have e7 := e7 rfl
   have sl2 := sl2 rfl; have e9 := e9 rfl; have e9' := e9' rfl
   have sl3 := sl0; have e10 := e8; have e10' := e8
   have U1 := Lib.hid (UU1.out rfl)
   have U3 := Lib.hid (UU3.out rfl)
   clear UU1 UU3
   simp only [Bool.not_false] at t3
   clear nA nQ nF
   go_enter Tryz.func76, Tryz.ntmps76
   go_wp2_with fail
   refine (H1.out _).mono ?_
   rintro e v1 ⟨rfl, hv⟩
   have hv' := hv.symm
   subst hv'
   clear hv hW1
   have c4 : W1.cell? ⟨w.heap.size, 4, none⟩ = some (.bool false) := Lib.cell_of_heap HX1.out 4
   have f4 : W1.frozen? ⟨w.heap.size, 4, none⟩ = false := Lib.frozen_of_heap HX1.out 4
   have c7 : W1.cell? ⟨w.heap.size, 7, none⟩ = some (.int .i64 0) := Lib.cell_of_heap HX1.out 7
   have f7 : W1.frozen? ⟨w.heap.size, 7, none⟩ = false := Lib.frozen_of_heap HX1.out 7
   obtain ⟨W2, hW2⟩ : ∃ W, ((W1.setCell ⟨w.heap.size, 4, none⟩ (.bool true)).setCell ⟨w.heap.size, 7, none⟩ (.int .i64 ia)) = W := ⟨_, rfl⟩
   have hx2 : W2.heap[w.heap.size]? = some (.cells #[.string ⟨#[]⟩, .string ⟨#[]⟩, .string ⟨#[]⟩, .string ⟨#[]⟩, .bool true, .bool false, .bool false, .int .i64 ia, .int .i64 0, .int .i64 0, .int .i64 0] 107 (0, 0)) := by have := (Go.Joins.block_setCell (i := 7) (Go.Joins.block_setCell (i := 4) HX1.out (.bool true)) (.int .i64 ia)); rw [hW2] at this; simpa using this
   have hb2 : Below w.heap.size w W2 := by have := ((HB1.out.setCell (p := ⟨w.heap.size, 4, none⟩) (Nat.le_refl _) (.bool true)).setCell (p := ⟨w.heap.size, 7, none⟩) (Nat.le_refl _) (.int .i64 ia)); rw [hW2] at this; exact this
   have HX2 := Lib.hid hx2; have HB2 := Lib.hid hb2
   clear hx2 hb2
   go_wp2_with fail
   refine (U1.out _).mono ?_
   rintro e W3 ⟨rfl, hbb⟩
   have hx3 : W3.heap[w.heap.size]? = some (.cells #[.string ⟨#[]⟩, .string ⟨#[]⟩, .string ⟨#[]⟩, .string ⟨#[]⟩, .bool true, .bool false, .bool false, .int .i64 ia, .int .i64 0, .int .i64 0, .int .i64 0] 107 (0, 0)) := (hbb.block _ (heap_lt HX2.out)).trans HX2.out
   have hb3 : Below w.heap.size w W3 := ext_trans HB2.out hbb
   have HX3 := Lib.hid hx3; have HB3 := Lib.hid hb3
   clear hx3 hb3 hbb
   clear c4 f4 c7 f7
   clear hW2
   have c0 : W3.cell? ⟨w.heap.size, 0, none⟩ = some (.string ⟨#[]⟩) := Lib.cell_of_heap HX3.out 0
   have f0 : W3.frozen? ⟨w.heap.size, 0, none⟩ = false := Lib.frozen_of_heap HX3.out 0
   have c8 : W3.cell? ⟨w.heap.size, 8, none⟩ = some (.int .i64 0) := Lib.cell_of_heap HX3.out 8
   have f8 : W3.frozen? ⟨w.heap.size, 8, none⟩ = false := Lib.frozen_of_heap HX3.out 8
   obtain ⟨W4, hW4⟩ : ∃ W, ((W3.setCell ⟨w.heap.size, 0, none⟩ (.string A)).setCell ⟨w.heap.size, 8, none⟩ (.int .i64 ip)) = W := ⟨_, rfl⟩
   have hx4 : W4.heap[w.heap.size]? = some (.cells #[.string A, .string ⟨#[]⟩, .string ⟨#[]⟩, .string ⟨#[]⟩, .bool true, .bool false, .bool false, .int .i64 ia, .int .i64 ip, .int .i64 0, .int .i64 0] 107 (0, 0)) := by have := (Go.Joins.block_setCell (i := 8) (Go.Joins.block_setCell (i := 0) HX3.out (.string A)) (.int .i64 ip)); rw [hW4] at this; simpa using this
   have hb4 : Below w.heap.size w W4 := by have := ((HB3.out.setCell (p := ⟨w.heap.size, 0, none⟩) (Nat.le_refl _) (.string A)).setCell (p := ⟨w.heap.size, 8, none⟩) (Nat.le_refl _) (.int .i64 ip)); rw [hW4] at this; exact this
   have HX4 := Lib.hid hx4; have HB4 := Lib.hid hb4
   clear hx4 hb4
   go_wp2_with fail
   refine (U2.out _).mono ?_
   rintro e W5 ⟨rfl, hbb⟩
   have hx5 : W5.heap[w.heap.size]? = some (.cells #[.string A, .string ⟨#[]⟩, .string ⟨#[]⟩, .string ⟨#[]⟩, .bool true, .bool false, .bool false, .int .i64 ia, .int .i64 ip, .int .i64 0, .int .i64 0] 107 (0, 0)) := (hbb.block _ (heap_lt HX4.out)).trans HX4.out
   have hb5 : Below w.heap.size w W5 := ext_trans HB4.out hbb
   have HX5 := Lib.hid hx5; have HB5 := Lib.hid hb5
   clear hx5 hb5 hbb
   clear c0 f0 c8 f8
   clear hW4
   have c1 : W5.cell? ⟨w.heap.size, 1, none⟩ = some (.string ⟨#[]⟩) := Lib.cell_of_heap HX5.out 1
   have f1 : W5.frozen? ⟨w.heap.size, 1, none⟩ = false := Lib.frozen_of_heap HX5.out 1
   obtain ⟨W6, hW6⟩ : ∃ W, (W5.setCell ⟨w.heap.size, 1, none⟩ (.string Pp)) = W := ⟨_, rfl⟩
   have hx6 : W6.heap[w.heap.size]? = some (.cells #[.string A, .string Pp, .string ⟨#[]⟩, .string ⟨#[]⟩, .bool true, .bool false, .bool false, .int .i64 ia, .int .i64 ip, .int .i64 0, .int .i64 0] 107 (0, 0)) := by have := (Go.Joins.block_setCell (i := 1) HX5.out (.string Pp)); rw [hW6] at this; simpa using this
   have hb6 : Below w.heap.size w W6 := by have := (HB5.out.setCell (p := ⟨w.heap.size, 1, none⟩) (Nat.le_refl _) (.string Pp)); rw [hW6] at this; exact this
   have HX6 := Lib.hid hx6; have HB6 := Lib.hid hb6
   clear hx6 hb6
   go_wp2_with fail
   refine (H2.out _).mono ?_
   rintro e v1 ⟨rfl, hv⟩
   have hv' := hv.symm
   subst hv'
   clear hv
   clear c1 f1
   clear hW6
   have c5 : W6.cell? ⟨w.heap.size, 5, none⟩ = some (.bool false) := Lib.cell_of_heap HX6.out 5
   have f5 : W6.frozen? ⟨w.heap.size, 5, none⟩ = false := Lib.frozen_of_heap HX6.out 5
   have c9 : W6.cell? ⟨w.heap.size, 9, none⟩ = some (.int .i64 0) := Lib.cell_of_heap HX6.out 9
   have f9 : W6.frozen? ⟨w.heap.size, 9, none⟩ = false := Lib.frozen_of_heap HX6.out 9
   obtain ⟨W7, hW7⟩ : ∃ W, ((W6.setCell ⟨w.heap.size, 5, none⟩ (.bool true)).setCell ⟨w.heap.size, 9, none⟩ (.int .i64 iq)) = W := ⟨_, rfl⟩
   have hx7 : W7.heap[w.heap.size]? = some (.cells #[.string A, .string Pp, .string ⟨#[]⟩, .string ⟨#[]⟩, .bool true, .bool true, .bool false, .int .i64 ia, .int .i64 ip, .int .i64 iq, .int .i64 0] 107 (0, 0)) := by have := (Go.Joins.block_setCell (i := 9) (Go.Joins.block_setCell (i := 5) HX6.out (.bool true)) (.int .i64 iq)); rw [hW7] at this; simpa using this
   have hb7 : Below w.heap.size w W7 := by have := ((HB6.out.setCell (p := ⟨w.heap.size, 5, none⟩) (Nat.le_refl _) (.bool true)).setCell (p := ⟨w.heap.size, 9, none⟩) (Nat.le_refl _) (.int .i64 iq)); rw [hW7] at this; exact this
   have HX7 := Lib.hid hx7; have HB7 := Lib.hid hb7
   clear hx7 hb7
   go_wp2_with fail
   refine (U3.out _).mono ?_
   rintro e W8 ⟨rfl, hbb⟩
   have hx8 : W8.heap[w.heap.size]? = some (.cells #[.string A, .string Pp, .string ⟨#[]⟩, .string ⟨#[]⟩, .bool true, .bool true, .bool false, .int .i64 ia, .int .i64 ip, .int .i64 iq, .int .i64 0] 107 (0, 0)) := (hbb.block _ (heap_lt HX7.out)).trans HX7.out
   have hb8 : Below w.heap.size w W8 := ext_trans HB7.out hbb
   have HX8 := Lib.hid hx8; have HB8 := Lib.hid hb8
   clear hx8 hb8 hbb
   clear c5 f5 c9 f9
   clear hW7
   have c2 : W8.cell? ⟨w.heap.size, 2, none⟩ = some (.string ⟨#[]⟩) := Lib.cell_of_heap HX8.out 2
   have f2 : W8.frozen? ⟨w.heap.size, 2, none⟩ = false := Lib.frozen_of_heap HX8.out 2
   have c6 : W8.cell? ⟨w.heap.size, 6, none⟩ = some (.bool false) := Lib.cell_of_heap HX8.out 6
   have f6 : W8.frozen? ⟨w.heap.size, 6, none⟩ = false := Lib.frozen_of_heap HX8.out 6
   obtain ⟨W9, hW9⟩ : ∃ W, ((W8.setCell ⟨w.heap.size, 2, none⟩ (.string Qq)).setCell ⟨w.heap.size, 6, none⟩ (.bool false)) = W := ⟨_, rfl⟩
   have hx9 : W9.heap[w.heap.size]? = some (.cells #[.string A, .string Pp, .string Qq, .string ⟨#[]⟩, .bool true, .bool true, .bool false, .int .i64 ia, .int .i64 ip, .int .i64 iq, .int .i64 0] 107 (0, 0)) := by have := (Go.Joins.block_setCell (i := 6) (Go.Joins.block_setCell (i := 2) HX8.out (.string Qq)) (.bool false)); rw [hW9] at this; simpa using this
   have hb9 : Below w.heap.size w W9 := by have := ((HB8.out.setCell (p := ⟨w.heap.size, 2, none⟩) (Nat.le_refl _) (.string Qq)).setCell (p := ⟨w.heap.size, 6, none⟩) (Nat.le_refl _) (.bool false)); rw [hW9] at this; exact this
   have HX9 := Lib.hid hx9; have HB9 := Lib.hid hb9
   clear hx9 hb9
   have d6 : W9.cell? ⟨w.heap.size, 6, none⟩ = some (.bool false) := Lib.cell_of_heap HX9.out 6
   have hld : (loadVar 107 ⟨w.heap.size, 0, none⟩).run Tryz.prog W9 = .ok (.agg #[.string A, .string Pp, .string Qq, .string ⟨#[]⟩, .bool true, .bool true, .bool false, .int .i64 ia, .int .i64 ip, .int .i64 iq, .int .i64 0]) W9 := pt_load A Pp Qq ⟨#[]⟩ true true false ia ip iq 0 _ _ HX9.out
   have hst : (storeVar 107 ⟨w.heap.size, 0, none⟩ (.agg #[.string A, .string Pp, .string Qq, .string ⟨#[]⟩, .bool true, .bool true, .bool false, .int .i64 ia, .int .i64 ip, .int .i64 iq, .int .i64 0])).run Tryz.prog W9 = .ok () W9 := pt_store A Pp Qq ⟨#[]⟩ true true false ia ip iq 0 _ _ HX9.out
   have HF := Lib.hid (FIN.out _ HB9.out)
   unfold partV at HF
   go_wp2_with ((with_reducible show wpList _ _ _ (_ :: _) _ _); first | (refine ld_arr 107 w.heap.size _ hld _ rfl rfl rfl ?_) | (refine st_arr 107 w.heap.size _ hst _ _ rfl rfl rfl rfl ?_))
   (try simp only [Exit.inBlock, Exit.then])
   exact bodyPost_ret (by simp [results, Tryz.results76, asAddr, hld, Act.put]) rfl HF.out
 · have sl1 := sl1 rfl; have e7 := e7 rfl
   have sl2 := sl2 rfl; have e9 := e9 rfl; have e9' := e9' rfl
   have sl3 := sl3 rfl; have e10 := e10 rfl; have e10' := e10' rfl
   have U1 := Lib.hid (UU1.out rfl)
   have U3 := Lib.hid (UU3.out rfl)
   clear UU1 UU3
   simp only [Bool.not_true] at t3
   clear nA nQ nF
   go_enter Tryz.func76, Tryz.ntmps76
   go_wp2_with fail
   refine (H1.out _).mono ?_
   rintro e v1 ⟨rfl, hv⟩
   have hv' := hv.symm
   subst hv'
   clear hv hW1
   have c4 : W1.cell? ⟨w.heap.size, 4, none⟩ = some (.bool false) := Lib.cell_of_heap HX1.out 4
   have f4 : W1.frozen? ⟨w.heap.size, 4, none⟩ = false := Lib.frozen_of_heap HX1.out 4
   have c7 : W1.cell? ⟨w.heap.size, 7, none⟩ = some (.int .i64 0) := Lib.cell_of_heap HX1.out 7
   have f7 : W1.frozen? ⟨w.heap.size, 7, none⟩ = false := Lib.frozen_of_heap HX1.out 7
   obtain ⟨W2, hW2⟩ : ∃ W, ((W1.setCell ⟨w.heap.size, 4, none⟩ (.bool true)).setCell ⟨w.heap.size, 7, none⟩ (.int .i64 ia)) = W := ⟨_, rfl⟩
   have hx2 : W2.heap[w.heap.size]? = some (.cells #[.string ⟨#[]⟩, .string ⟨#[]⟩, .string ⟨#[]⟩, .string ⟨#[]⟩, .bool true, .bool false, .bool false, .int .i64 ia, .int .i64 0, .int .i64 0, .int .i64 0] 107 (0, 0)) := by have := (Go.Joins.block_setCell (i := 7) (Go.Joins.block_setCell (i := 4) HX1.out (.bool true)) (.int .i64 ia)); rw [hW2] at this; simpa using this
   have hb2 : Below w.heap.size w W2 := by have := ((HB1.out.setCell (p := ⟨w.heap.size, 4, none⟩) (Nat.le_refl _) (.bool true)).setCell (p := ⟨w.heap.size, 7, none⟩) (Nat.le_refl _) (.int .i64 ia)); rw [hW2] at this; exact this
   have HX2 := Lib.hid hx2; have HB2 := Lib.hid hb2
   clear hx2 hb2
   go_wp2_with fail
   refine (U1.out _).mono ?_
   rintro e W3 ⟨rfl, hbb⟩
   have hx3 : W3.heap[w.heap.size]? = some (.cells #[.string ⟨#[]⟩, .string ⟨#[]⟩, .string ⟨#[]⟩, .string ⟨#[]⟩, .bool true, .bool false, .bool false, .int .i64 ia, .int .i64 0, .int .i64 0, .int .i64 0] 107 (0, 0)) := (hbb.block _ (heap_lt HX2.out)).trans HX2.out
   have hb3 : Below w.heap.size w W3 := ext_trans HB2.out hbb
   have HX3 := Lib.hid hx3; have HB3 := Lib.hid hb3
   clear hx3 hb3 hbb
   clear c4 f4 c7 f7
   clear hW2
   have c0 : W3.cell? ⟨w.heap.size, 0, none⟩ = some (.string ⟨#[]⟩) := Lib.cell_of_heap HX3.out 0
   have f0 : W3.frozen? ⟨w.heap.size, 0, none⟩ = false := Lib.frozen_of_heap HX3.out 0
   have c8 : W3.cell? ⟨w.heap.size, 8, none⟩ = some (.int .i64 0) := Lib.cell_of_heap HX3.out 8
   have f8 : W3.frozen? ⟨w.heap.size, 8, none⟩ = false := Lib.frozen_of_heap HX3.out 8
   obtain ⟨W4, hW4⟩ : ∃ W, ((W3.setCell ⟨w.heap.size, 0, none⟩ (.string A)).setCell ⟨w.heap.size, 8, none⟩ (.int .i64 ip)) = W := ⟨_, rfl⟩
   have hx4 : W4.heap[w.heap.size]? = some (.cells #[.string A, .string ⟨#[]⟩, .string ⟨#[]⟩, .string ⟨#[]⟩, .bool true, .bool false, .bool false, .int .i64 ia, .int .i64 ip, .int .i64 0, .int .i64 0] 107 (0, 0)) := by have := (Go.Joins.block_setCell (i := 8) (Go.Joins.block_setCell (i := 0) HX3.out (.string A)) (.int .i64 ip)); rw [hW4] at this; simpa using this
   have hb4 : Below w.heap.size w W4 := by have := ((HB3.out.setCell (p := ⟨w.heap.size, 0, none⟩) (Nat.le_refl _) (.string A)).setCell (p := ⟨w.heap.size, 8, none⟩) (Nat.le_refl _) (.int .i64 ip)); rw [hW4] at this; exact this
   have HX4 := Lib.hid hx4; have HB4 := Lib.hid hb4
   clear hx4 hb4
   go_wp2_with fail
   refine (U2.out _).mono ?_
   rintro e W5 ⟨rfl, hbb⟩
   have hx5 : W5.heap[w.heap.size]? = some (.cells #[.string A, .string ⟨#[]⟩, .string ⟨#[]⟩, .string ⟨#[]⟩, .bool true, .bool false, .bool false, .int .i64 ia, .int .i64 ip, .int .i64 0, .int .i64 0] 107 (0, 0)) := (hbb.block _ (heap_lt HX4.out)).trans HX4.out
   have hb5 : Below w.heap.size w W5 := ext_trans HB4.out hbb
   have HX5 := Lib.hid hx5; have HB5 := Lib.hid hb5
   clear hx5 hb5 hbb
   clear c0 f0 c8 f8
   clear hW4
   have c1 : W5.cell? ⟨w.heap.size, 1, none⟩ = some (.string ⟨#[]⟩) := Lib.cell_of_heap HX5.out 1
   have f1 : W5.frozen? ⟨w.heap.size, 1, none⟩ = false := Lib.frozen_of_heap HX5.out 1
   obtain ⟨W6, hW6⟩ : ∃ W, (W5.setCell ⟨w.heap.size, 1, none⟩ (.string Pp)) = W := ⟨_, rfl⟩
   have hx6 : W6.heap[w.heap.size]? = some (.cells #[.string A, .string Pp, .string ⟨#[]⟩, .string ⟨#[]⟩, .bool true, .bool false, .bool false, .int .i64 ia, .int .i64 ip, .int .i64 0, .int .i64 0] 107 (0, 0)) := by have := (Go.Joins.block_setCell (i := 1) HX5.out (.string Pp)); rw [hW6] at this; simpa using this
   have hb6 : Below w.heap.size w W6 := by have := (HB5.out.setCell (p := ⟨w.heap.size, 1, none⟩) (Nat.le_refl _) (.string Pp)); rw [hW6] at this; exact this
   have HX6 := Lib.hid hx6; have HB6 := Lib.hid hb6
   clear hx6 hb6
   go_wp2_with fail
   refine (H2.out _).mono ?_
   rintro e v1 ⟨rfl, hv⟩
   have hv' := hv.symm
   subst hv'
   clear hv
   clear c1 f1
   clear hW6
   have c5 : W6.cell? ⟨w.heap.size, 5, none⟩ = some (.bool false) := Lib.cell_of_heap HX6.out 5
   have f5 : W6.frozen? ⟨w.heap.size, 5, none⟩ = false := Lib.frozen_of_heap HX6.out 5
   have c9 : W6.cell? ⟨w.heap.size, 9, none⟩ = some (.int .i64 0) := Lib.cell_of_heap HX6.out 9
   have f9 : W6.frozen? ⟨w.heap.size, 9, none⟩ = false := Lib.frozen_of_heap HX6.out 9
   obtain ⟨W7, hW7⟩ : ∃ W, ((W6.setCell ⟨w.heap.size, 5, none⟩ (.bool true)).setCell ⟨w.heap.size, 9, none⟩ (.int .i64 iq)) = W := ⟨_, rfl⟩
   have hx7 : W7.heap[w.heap.size]? = some (.cells #[.string A, .string Pp, .string ⟨#[]⟩, .string ⟨#[]⟩, .bool true, .bool true, .bool false, .int .i64 ia, .int .i64 ip, .int .i64 iq, .int .i64 0] 107 (0, 0)) := by have := (Go.Joins.block_setCell (i := 9) (Go.Joins.block_setCell (i := 5) HX6.out (.bool true)) (.int .i64 iq)); rw [hW7] at this; simpa using this
   have hb7 : Below w.heap.size w W7 := by have := ((HB6.out.setCell (p := ⟨w.heap.size, 5, none⟩) (Nat.le_refl _) (.bool true)).setCell (p := ⟨w.heap.size, 9, none⟩) (Nat.le_refl _) (.int .i64 iq)); rw [hW7] at this; exact this
   have HX7 := Lib.hid hx7; have HB7 := Lib.hid hb7
   clear hx7 hb7
   go_wp2_with fail
   refine (U3.out _).mono ?_
   rintro e W8 ⟨rfl, hbb⟩
   have hx8 : W8.heap[w.heap.size]? = some (.cells #[.string A, .string Pp, .string ⟨#[]⟩, .string ⟨#[]⟩, .bool true, .bool true, .bool false, .int .i64 ia, .int .i64 ip, .int .i64 iq, .int .i64 0] 107 (0, 0)) := (hbb.block _ (heap_lt HX7.out)).trans HX7.out
   have hb8 : Below w.heap.size w W8 := ext_trans HB7.out hbb
   have HX8 := Lib.hid hx8; have HB8 := Lib.hid hb8
   clear hx8 hb8 hbb
   clear c5 f5 c9 f9
   clear hW7
   have c2 : W8.cell? ⟨w.heap.size, 2, none⟩ = some (.string ⟨#[]⟩) := Lib.cell_of_heap HX8.out 2
   have f2 : W8.frozen? ⟨w.heap.size, 2, none⟩ = false := Lib.frozen_of_heap HX8.out 2
   have c6 : W8.cell? ⟨w.heap.size, 6, none⟩ = some (.bool false) := Lib.cell_of_heap HX8.out 6
   have f6 : W8.frozen? ⟨w.heap.size, 6, none⟩ = false := Lib.frozen_of_heap HX8.out 6
   have c10 : W8.cell? ⟨w.heap.size, 10, none⟩ = some (.int .i64 0) := Lib.cell_of_heap HX8.out 10
   have f10 : W8.frozen? ⟨w.heap.size, 10, none⟩ = false := Lib.frozen_of_heap HX8.out 10
   have c3 : W8.cell? ⟨w.heap.size, 3, none⟩ = some (.string ⟨#[]⟩) := Lib.cell_of_heap HX8.out 3
   have f3 : W8.frozen? ⟨w.heap.size, 3, none⟩ = false := Lib.frozen_of_heap HX8.out 3
   obtain ⟨W9, hW9⟩ : ∃ W, ((((W8.setCell ⟨w.heap.size, 2, none⟩ (.string Qq)).setCell ⟨w.heap.size, 6, none⟩ (.bool true)).setCell ⟨w.heap.size, 10, none⟩ (.int .i64 jf)).setCell ⟨w.heap.size, 3, none⟩ (.string F)) = W := ⟨_, rfl⟩
   have hx9 : W9.heap[w.heap.size]? = some (.cells #[.string A, .string Pp, .string Qq, .string F, .bool true, .bool true, .bool true, .int .i64 ia, .int .i64 ip, .int .i64 iq, .int .i64 jf] 107 (0, 0)) := by have := (Go.Joins.block_setCell (i := 3) (Go.Joins.block_setCell (i := 10) (Go.Joins.block_setCell (i := 6) (Go.Joins.block_setCell (i := 2) HX8.out (.string Qq)) (.bool true)) (.int .i64 jf)) (.string F)); rw [hW9] at this; simpa using this
   have hb9 : Below w.heap.size w W9 := by have := ((((HB8.out.setCell (p := ⟨w.heap.size, 2, none⟩) (Nat.le_refl _) (.string Qq)).setCell (p := ⟨w.heap.size, 6, none⟩) (Nat.le_refl _) (.bool true)).setCell (p := ⟨w.heap.size, 10, none⟩) (Nat.le_refl _) (.int .i64 jf)).setCell (p := ⟨w.heap.size, 3, none⟩) (Nat.le_refl _) (.string F)); rw [hW9] at this; exact this
   have HX9 := Lib.hid hx9; have HB9 := Lib.hid hb9
   clear hx9 hb9
   have hld : (loadVar 107 ⟨w.heap.size, 0, none⟩).run Tryz.prog W9 = .ok (.agg #[.string A, .string Pp, .string Qq, .string F, .bool true, .bool true, .bool true, .int .i64 ia, .int .i64 ip, .int .i64 iq, .int .i64 jf]) W9 := pt_load A Pp Qq F true true true ia ip iq jf _ _ HX9.out
   have hst : (storeVar 107 ⟨w.heap.size, 0, none⟩ (.agg #[.string A, .string Pp, .string Qq, .string F, .bool true, .bool true, .bool true, .int .i64 ia, .int .i64 ip, .int .i64 iq, .int .i64 jf])).run Tryz.prog W9 = .ok () W9 := pt_store A Pp Qq F true true true ia ip iq jf _ _ HX9.out
   have HF := Lib.hid (FIN.out _ HB9.out)
   unfold partV at HF
   go_wp2_with ((with_reducible show wpList _ _ _ (_ :: _) _ _); first | (refine ld_arr 107 w.heap.size _ hld _ rfl rfl rfl ?_) | (refine st_arr 107 w.heap.size _ hst _ _ rfl rfl rfl rfl ?_))
   (try simp only [Exit.inBlock, Exit.then])
   exact bodyPost_ret (by simp [results, Tryz.results76, asAddr, hld, Act.put]) rfl HF.out
end Go.Proofs.YtbeodjipdpcaiaaGreatDoor
