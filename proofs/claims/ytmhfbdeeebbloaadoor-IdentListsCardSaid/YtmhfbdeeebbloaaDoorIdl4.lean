/- Regions that draw their order and whose calls make memory: one walk in the text's order. ref04.Ahead. -/
import Derived.Test.YtmhfbdeeebbloaaDoorIdl1
import Derived.Test.YtmhfbdeeebbloaaDoorOwn0
namespace Go.Proofs.YtmhfbdeeebbloaaDoor
open Go.RowKit
/-- The worlds in which whatever lay below B lies as it lay. -/
def BW (B : Nat) (W : World) : Type := {w' : World // Below B W w'}
instance (B : Nat) (W : World) : Nonempty (BW B W) := ⟨⟨W, Below.refl B W⟩⟩
def BW.w {B : Nat} {W : World} (n : BW B W) : World := n.1
theorem BW.below {B : Nat} {W : World} (n : BW B W) : Below B W n.w := n.2
theorem wp_region_quietB {P : Program} {id : Nat} {Q : Exit → Act → World → Prop} {a : Act} {w : World} {l : List Oper} (B : Nat) (hm : P.follows .mixedOrders = true) (hB : Region.lexB .any l.toArray = true)
    (h : wpQuiet P l.toArray (fun w' => ∃ n : BW B w, w' = n.w) (fun a' => ∀ w', (∃ n : BW B w, w' = n.w) → Q .normal a' w') l a) : (Code.region id l.toArray true).wp P Q a w :=
  wp_region_quiet (C := fun w' => ∃ n : BW B w, w' = n.w) hm hB ⟨⟨w.drew, (Below.refl B w).drew⟩, rfl⟩ (by simpa using h)
theorem quiet_callB {P : Program} {f : FuncId} {args : Array Value} {B : Nat} {W : World} {n : BW B W} {v : Value} (h : Calls P f args n.w fun e w' => e = .returned v ∧ Below n.w.heap.size n.w w') (hs : B ≤ W.heap.size) : Calls P f args n.w fun e w' => e = .returned v ∧ ∃ m : BW B W, w' = m.w :=
  h.mono fun _e w' ⟨h1, h2⟩ => ⟨h1, ⟨w', n.below.trans (h2.mono (Nat.le_trans hs n.below.size))⟩, rfl⟩
theorem bytesLess_cB : ∀ a b : List UInt8, Op.bytesLess a b = cB a b
  | [], [] => rfl
  | _ :: _, [] => rfl
  | [], _ :: _ => rfl
  | a :: x, b :: y => by
    have h := bytesLess_cB x y
    rw [Bool.eq_iff_iff, cB_cons, Op.bytesLess, h]
    simp
theorem pr_text {w : World} {b c : Nat} {x : Pr} (h : w.heap[b]? = some (.cells (prV x) 23 (0, 0))) : (convert 26 9 (.slice (some ⟨b, 0, none⟩) 32 c)).run Tryd.prog w = .ok (.string ⟨x.1.toArray⟩) w :=
  bytes_back w b 0 32 c ⟨x.1.toArray⟩ (by show x.1.toArray.size = 32; simp [x.2]) (fun j hj => by
    have h2 := prC_get x.b 32 j hj
    rw [if_pos hj] at h2
    rw [cell_of_row w b (0 + j) _ _ _ h, Nat.zero_add]
    have hjl : j < x.1.length := by rw [x.2]; exact hj
    have e1 : byteAt ⟨x.1.toArray⟩ j = ((x.b j : Nat) : Int) := by
      unfold byteAt Pr.b
      simp [List.getD, List.getElem?_eq_getElem hjl]
    rw [e1]; exact h2)
set_option maxRecDepth 100000 in
set_option maxHeartbeats 8000000 in
theorem rahead_any (x y : Pr) (W : World) : Calls Tryd.prog 45 #[.agg (prV x), .agg (prV y)] W fun e w' => e = .returned (.bool (cB x.1 y.1)) ∧ Below W.heap.size W w' := by
  have hb2 : Below W.heap.size W ((W.alloc (.cells (prV x) 23)).alloc (.cells (prV y) 23)) := ext_alloc (ext_alloc (Below.refl _ _) _) _
  have hx1 : ((W.alloc (.cells (prV x) 23)).alloc (.cells (prV y) 23)).heap[W.heap.size]? = some (.cells (prV x) 23 (0, 0)) := by
    rw [Below.heap_alloc _ _ _ (by simp)]; exact heap_alloc_new W _
  have hx2 : ((W.alloc (.cells (prV x) 23)).alloc (.cells (prV y) 23)).heap[W.heap.size + 1]? = some (.cells (prV y) 23 (0, 0)) := by
    have := heap_alloc_new (W.alloc (.cells (prV x) 23)) (.cells (prV y) 23)
    simpa using this
  have CV1 := fun q => pr_text (w := ((W.alloc (.cells (prV x) 23)).alloc (.cells (prV y) 23)).drewN q) (c := 32) hx1
  have CV2 := fun q => pr_text (w := ((W.alloc (.cells (prV x) 23)).alloc (.cells (prV y) 23)).drewN q) (c := 32) hx2
  have BL := bytesLess_cB x.1 y.1
  have BL2 : Op.bytesLess (ByteArray.toList ⟨x.1.toArray⟩) (ByteArray.toList ⟨y.1.toArray⟩) = cB x.1 y.1 := by rw [ByteArray.toList_mk, ByteArray.toList_mk]; exact BL
  clear BL
  obtain ⟨sx, hsx⟩ : ∃ s : ByteArray, (⟨x.1.toArray⟩ : ByteArray) = s := ⟨_, rfl⟩
  obtain ⟨sy, hsy⟩ : ∃ s : ByteArray, (⟨y.1.toArray⟩ : ByteArray) = s := ⟨_, rfl⟩
  rw [hsx] at CV1 BL2
  rw [hsy] at CV2 BL2
  clear hsx hsy
  generalize cB x.1 y.1 = r at *
  generalize prV x = cx at *
  generalize prV y = cy at *
  obtain ⟨W2, hW2⟩ : ∃ w, (W.alloc (.cells cx 23)).alloc (.cells cy 23) = w := ⟨_, rfl⟩
  rw [hW2] at hb2 CV1 CV2
  have HB2 := Lib.hid hb2
  clear hb2 hx1 hx2
  go_enter Tryd.func45, Tryd.ntmps45
  go_wp2_with fail
  clear hW2
  go_quiet (fail)
  go_wp2
  go_ret
  exact ⟨by first | rfl | rw [BL2], drewN_heap0 HB2.out _⟩
end Go.Proofs.YtmhfbdeeebbloaaDoor
