/- The order of fingerprints, as the program's sort asks it: walked. -/
import Derived.Test.YtmhfbdeeebbloaaDoorIdl1
import Derived.Lib.Bytealg
import Derived.Sort.Grow
namespace Go.Proofs.YtmhfbdeeebbloaaDoor
open Go.RowKit
theorem loadBytes_run {P : Program} (w : World) (b : Nat) : ∀ (l : List UInt8) (o : Nat) (acc : ByteArray), (∀ (i : Nat) (c : UInt8), l[i]? = some c → w.cell? ⟨b, o + i, none⟩ = some (.int .u8 ((c.toNat : Nat) : Int))) →
    (Extern.Bytes.loadBytes ⟨b, o, none⟩ l.length acc).run P w = .ok ⟨acc.data ++ l.toArray⟩ w
  | [], o, acc, _ => by simp [Extern.Bytes.loadBytes]
  | c :: l, o, acc, h => by
    have h0 := h 0 c rfl
    rw [Nat.add_zero] at h0
    have ih := loadBytes_run (P := P) w b l (o + 1) (acc.push c) (fun i d hd => by
      have := h (i + 1) d (by simpa using hd)
      rw [show o + (i + 1) = o + 1 + i by omega] at this
      exact this)
    have ea : (⟨b, o, none⟩ : Addr).add 1 = ⟨b, o + 1, none⟩ := Addr.add_lit ..
    have ec : ((c.toNat : Nat) : Int).toNat.toUInt8 = c := by simp
    have ed : (⟨(acc.push c).data ++ l.toArray⟩ : ByteArray) = ⟨acc.data ++ (c :: l).toArray⟩ := by
      congr 1
      simp [ByteArray.push]
    rw [List.length_cons, Extern.Bytes.loadBytes]
    simp only [Sem.run_bind, run_load, h0, Result.andThen, ea, ec]
    rw [ih, ed]
theorem compare_run (w : World) (b1 c1 b2 c2 : Nat) (la lb : List UInt8) (h1 : ∀ (i : Nat) (c : UInt8), la[i]? = some c → w.cell? ⟨b1, 0 + i, none⟩ = some (.int .u8 ((c.toNat : Nat) : Int))) (h2 : ∀ (i : Nat) (c : UInt8), lb[i]? = some c → w.cell? ⟨b2, 0 + i, none⟩ = some (.int .u8 ((c.toNat : Nat) : Int))) :
    (Extern.BytealgCompare.compare #[.slice (some ⟨b1, 0, none⟩) la.length c1, .slice (some ⟨b2, 0, none⟩) lb.length c2]).run Tryd.prog w = .ok (.int .i64 (Lib.compareBytes la lb)) w := by
  change Sem.run Tryd.prog (do pure (goInt (Extern.BytealgCompare.cmp (← Extern.Bytes.bytesOf (.slice (some ⟨b1, 0, none⟩) la.length c1)) (← Extern.Bytes.bytesOf (.slice (some ⟨b2, 0, none⟩) lb.length c2))))) w = _
  simp only [Extern.Bytes.bytesOf, Sem.run_bind, Sem.run_pure, Result.andThen, loadBytes_run w b1 la 0 _ h1, loadBytes_run w b2 lb 0 _ h2]
  have e1 : (⟨ByteArray.empty.data ++ la.toArray⟩ : ByteArray) = ⟨la.toArray⟩ := by congr 1; simp
  have e2 : (⟨ByteArray.empty.data ++ lb.toArray⟩ : ByteArray) = ⟨lb.toArray⟩ := by congr 1; simp
  rw [e1, e2, Lib.cmp_eq]
  simp
  rfl
set_option maxRecDepth 100000 in
theorem bytesCompare_any (w : World) (b1 c1 b2 c2 : Nat) (la lb : List UInt8) (h1 : ∀ (i : Nat) (c : UInt8), la[i]? = some c → w.cell? ⟨b1, 0 + i, none⟩ = some (.int .u8 ((c.toNat : Nat) : Int))) (h2 : ∀ (i : Nat) (c : UInt8), lb[i]? = some c → w.cell? ⟨b2, 0 + i, none⟩ = some (.int .u8 ((c.toNat : Nat) : Int))) :
    Calls Tryd.prog 43 #[.slice (some ⟨b1, 0, none⟩) la.length c1, .slice (some ⟨b2, 0, none⟩) lb.length c2] w fun e w' => e = .returned (.int .i64 (Lib.compareBytes la lb)) ∧ w = w' := by
  have CR := Lib.hid (compare_run w b1 c1 b2 c2 la lb h1 h2)
  clear h1 h2
  generalize Lib.compareBytes la lb = r at *
  go_enter Tryd.func43, Tryd.ntmps43
  go_wp2
  rw [run_callFunc_extern Tryd.func77 (by kernel_rfl) (by kernel_rfl) (by kernel_rfl) (e := Extern.BytealgCompare.compare) (by kernel_rfl), CR.out]
  simp only [Result.andThen]
  rw [Oper.upon_value]
  go_wp2
  go_ret
  exact ⟨rfl, rfl⟩
theorem pr_cells {w : World} {b : Nat} {x : Pr} (h : w.heap[b]? = some (.cells (prV x) 23 (0, 0))) : ∀ (i : Nat) (c : UInt8), x.1[i]? = some c → w.cell? ⟨b, 0 + i, none⟩ = some (.int .u8 ((c.toNat : Nat) : Int)) := fun i c hc => by
  have hi := (List.getElem?_eq_some_iff.1 hc).1
  rw [x.2] at hi
  have := prC_get x.b 32 i hi
  rw [if_pos hi] at this
  have hb : x.b i = c.toNat := by unfold Pr.b; rw [List.getD, hc]; rfl
  rw [hb] at this
  simp only [World.cell?, h, Nat.zero_add]
  simpa [prV] using this
set_option maxRecDepth 100000 in
set_option maxHeartbeats 8000000 in
theorem prints1_any (x y : Pr) (W : World) : Calls Tryd.prog 42 #[.agg (prV x), .agg (prV y)] W fun e w' => e = .returned (.int .i64 (Lib.compareBytes x.1 y.1)) ∧ ∃ q os', w' = Go.Sort.grow (W.drewN q) os' := by
  have b1 : Below W.heap.size W (W.alloc (.cells (prV x) 23)) := ext_alloc (Below.refl _ _) _
  have hx1 : ((W.alloc (.cells (prV x) 23)).alloc (.cells (prV y) 23)).heap[W.heap.size]? = some (.cells (prV x) 23 (0, 0)) := by
    rw [Below.heap_alloc _ _ _ (by simp)]; exact heap_alloc_new W _
  have hx2 : ((W.alloc (.cells (prV x) 23)).alloc (.cells (prV y) 23)).heap[W.heap.size + 1]? = some (.cells (prV y) 23 (0, 0)) := by
    have := heap_alloc_new (W.alloc (.cells (prV x) 23)) (.cells (prV y) 23)
    simpa using this
  have BC := Lib.hid (fun q => by
    have := bytesCompare_any (((W.alloc (.cells (prV x) 23)).alloc (.cells (prV y) 23)).drewN q) W.heap.size 32 (W.heap.size + 1) 32 x.1 y.1 (pr_cells (w := ((W.alloc (.cells (prV x) 23)).alloc (.cells (prV y) 23)).drewN q) hx1) (pr_cells (w := ((W.alloc (.cells (prV x) 23)).alloc (.cells (prV y) 23)).drewN q) hx2)
    rw [x.2, y.2] at this
    exact this)
  generalize Lib.compareBytes x.1 y.1 = r at *
  generalize prV x = cx at *
  generalize prV y = cy at *
  clear b1 hx1 hx2
  go_enter Tryd.func42, Tryd.ntmps42
  go_wp2_with fail
  go_quiet ((go_at_call 43; exact quiet_eq (BC.out _)))
  go_wp2
  go_ret
  refine ⟨rfl, nq, #[.cells cx 23 (0, 0), .cells cy 23 (0, 0)], ?_⟩
  rw [Go.Sort.alloc_eq_grow, Go.Sort.alloc_eq_grow, Go.Sort.grow_grow]
  rfl
end Go.Proofs.YtmhfbdeeebbloaaDoor
