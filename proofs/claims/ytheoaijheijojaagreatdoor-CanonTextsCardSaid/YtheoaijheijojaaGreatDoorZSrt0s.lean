/- Srt0, Dec0, Dec3, Qb0 in one text (a claim holds at most 60 files). -/
import Derived.Test.YtheoaijheijojaaGreatDoorZOwn0s
import Derived.Shelf.SlSortCmp.NoneTotal
import Derived.Test.YtheoaijheijojaaGreatDoorZFold0s
import Derived.Test.YtheoaijheijojaaGreatDoorZScan4s
import Derived.Lib.SmallJoins
import Derived.Test.YtheoaijheijojaaGreatDoorZIdl0s
import Derived.WalkKit
import Derived.BigQuiet
namespace Go.Proofs.YtheoaijheijojaaGreatDoor
section
open Go.RowKit
section
variable {α : Type} [Inhabited α] {enc : α → List Value} {k : Nat}
theorem flatK_toList (hk : ∀ x, (enc x).length = k) (xs : List α) : (Go.Sort.flatK enc k xs.toArray).toList = xs.flatMap enc := by
  apply List.ext_getElem?
  intro t
  by_cases ht : t < xs.length * k
  · have k0 : 0 < k := by rcases Nat.eq_zero_or_pos k with h | h; · subst h; simp at ht
                          · exact h
    have hd : t / k < xs.length := (Nat.div_lt_iff_lt_mul k0).2 ht
    have hm := Nat.mod_lt t k0
    have hx : xs[t / k]? = some xs[t / k] := List.getElem?_eq_getElem hd
    have h1 := vflat_get? hk xs (t / k) (t % k) _ hx hm
    rw [show t / k * k + t % k = t by rw [Nat.mul_comm]; exact Nat.div_add_mod t k] at h1
    have h2 := Go.Sort.get_flatK enc k xs.toArray t (by simpa using ht)
    have hz : t < (Go.Sort.flatK enc k xs.toArray).size := by rw [Go.Sort.size_flatK]; simpa using ht
    rw [getElem!_pos (Go.Sort.flatK enc k xs.toArray) t hz] at h2
    have hx2 : xs.toArray[t / k]! = xs[t / k] := by
      rw [getElem!_pos xs.toArray (t / k) (by simpa using hd)]; simp
    have hl3 : t % k < (enc xs[t / k]).length := by rw [hk]; exact hm
    rw [hx2, getElem!_pos (enc xs[t / k]) (t % k) hl3] at h2
    rw [h1, Array.getElem?_toList, Array.getElem?_eq_getElem hz, h2, ← List.getElem?_eq_getElem hl3]
  · rw [List.getElem?_eq_none (by rw [Array.length_toList, Go.Sort.size_flatK]; simp; omega), List.getElem?_eq_none (by rw [vflat_length hk]; omega)]
theorem own_holdsK (hk : ∀ x, (enc x).length = k) {w : World} {base g cap : Nat} {e : TypeId} {xs : List α} (h : w.ownsRow base e k (.slice (some ⟨g, 0, none⟩) xs.length cap) xs.length (xs.flatMap enc)) : Go.Sort.HoldsK enc k w g 0 xs.toArray := by
  intro t ht
  rw [Go.Sort.size_flatK] at ht
  have ht2 : t < xs.length * k := by simpa using ht
  have hfl : (Go.Sort.flatK enc k xs.toArray)[t]? = (xs.flatMap enc)[t]? := by rw [← flatK_toList hk, Array.getElem?_toList]
  have hz : t < (Go.Sort.flatK enc k xs.toArray).size := by rw [Go.Sort.size_flatK]; exact ht
  refine ⟨?_, ?_⟩
  · rw [getElem!_pos (Go.Sort.flatK enc k xs.toArray) t hz, Nat.zero_add, World.ownsRow.cellAt h t ht2, ← hfl, Array.getElem?_eq_getElem hz]
    rfl
  · rw [Nat.zero_add]
    exact World.ownsRow.frozenAt h t
theorem own_sortedK (hk : ∀ x, (enc x).length = k) {w : World} {base g cap n : Nat} {e : TypeId} {xs ys : List α} {os : Array Obj} (h : w.ownsRow base e k (.slice (some ⟨g, 0, none⟩) xs.length cap) xs.length (xs.flatMap enc)) (hl : ys.length = xs.length) :
    (sortWorldK enc k w g 0 n ys.toArray os).ownsRow base e k (.slice (some ⟨g, 0, none⟩) xs.length cap) xs.length (ys.flatMap enc) ∧ w.grownBy (sortWorldK enc k w g 0 n ys.toArray os) (some g) := by
  have hg : g < w.heap.size := (h.lt g rfl).2
  refine ⟨?_, ⟨rfl, rfl, rfl, by simp [sortWorldK, Go.Sort.putRowK, Go.Sort.putRow, Go.Sort.mapBlock, Go.Sort.ahead], fun j hj hne => ?_⟩⟩
  · rcases h.2 with ⟨h2, _⟩ | ⟨g', cap', cur, hv, hbase, hc, h1, h2, h3, h4⟩
    · cases h2
    · simp only [Value.slice.injEq, Option.some.injEq, Addr.mk.injEq, and_true, true_and] at hv
      obtain ⟨rfl, rfl⟩ := hv
      refine ⟨by rw [vflat_length hk, hl], .inr ⟨g, cap, Go.Sort.putCells id 0 (Go.Sort.flatK enc k ys.toArray) cur, rfl, hbase, ?_, h1, h2, by simp [Go.Sort.putCells, h3], ?_⟩⟩
      · unfold sortWorldK
        rw [Go.Sort.heap_grow_old _ _ (by simpa [Go.Sort.putRowK, Go.Sort.putRow, Go.Sort.mapBlock, Go.Sort.ahead] using hg)]
        simp [Go.Sort.putRowK, Go.Sort.putRow, Go.Sort.mapBlock, Go.Sort.ahead, Array.getElem?_modify, hc, Go.Sort.onCells]
      · apply List.ext_getElem?
        intro j
        by_cases hj : j < xs.length * k
        · have hz : j < (Go.Sort.flatK enc k ys.toArray).size := by rw [Go.Sort.size_flatK]; simpa [hl] using hj
          have hjc : j < cur.size := by rw [h3]; exact Nat.lt_of_lt_of_le hj (Nat.mul_le_mul_right _ h1)
          have hz2 : j < ys.length * k := by rw [hl]; exact hj
          rw [List.getElem?_take_of_lt hj, Array.getElem?_toList, ← flatK_toList hk, Array.getElem?_toList]
          rw [Array.getElem?_eq_getElem hz, ← getElem!_pos (Go.Sort.flatK enc k ys.toArray) j hz]
          simp [Go.Sort.putCells, hjc, hz2]
        · rw [List.getElem?_take_eq_none (by omega), List.getElem?_eq_none (by rw [vflat_length hk, hl]; omega)]
  · unfold sortWorldK
    rw [Go.Sort.heap_grow_old _ _ (by simpa [Go.Sort.putRowK, Go.Sort.putRow, Go.Sort.mapBlock, Go.Sort.ahead] using hj)]
    have : g ≠ j := fun e => hne (by rw [e])
    simp [Go.Sort.putRowK, Go.Sort.putRow, Go.Sort.mapBlock, Go.Sort.ahead, Array.getElem?_modify, this]
end
end
section
open Go.RowKit
end
section
open Go.RowKit
theorem dec_any (s : ByteArray) (most : Nat) (w : World) (hs : s.size ≤ 1000000) (hm : most < two64) :
    Calls Tryz.prog 80 #[.string s, .int .u64 most] w (ScU w (numberF 10 most s)) := by
  have C := Lib.hid (numberF_any s 10 most w hs (by decide) (by decide) hm)
  clear hm
  go_enter Tryz.func80, Tryz.ntmps80
  go_wp2_with fail
  refine C.out.mono ?_
  intro e w1 hsc
  cases hr : numberF 10 most s with
  | ok n =>
    rw [hr] at hsc
    obtain ⟨rfl, hb⟩ := hsc
    have HB := Lib.hid hb; have HR := Lib.hid hr; clear hb hr
    go_wp2
    go_ret2
    rw [HR.out]
    exact ⟨rfl, HB.out⟩
  | no k i =>
    rw [hr] at hsc
    obtain ⟨u, rfl, hf⟩ := hsc
    have HF := Lib.hid hf; have HR := Lib.hid hr; clear hf hr
    go_wp2
    go_ret2
    rw [HR.out]
    exact ⟨_, rfl, HF.out⟩
end
section
open Go.RowKit
/-- The worlds in which whatever lay below B lies as it lay. -/
def BW (B : Nat) (W : World) : Type := {w' : World // Below B W w'}
instance (B : Nat) (W : World) : Nonempty (BW B W) := ⟨⟨W, Below.refl B W⟩⟩
def BW.w {B : Nat} {W : World} (n : BW B W) : World := n.1
theorem BW.below {B : Nat} {W : World} (n : BW B W) : Below B W n.w := n.2
theorem wp_region_quietB {P : Program} {id : Nat} {Q : Exit → Act → World → Prop} {a : Act} {w : World} {l : List Oper} (B : Nat) (hm : P.follows .mixedOrders = true) (hB : Region.lexB .any l.toArray = true)
    (h : wpQuiet P l.toArray (fun w' => ∃ n : BW B w, w' = n.w) (fun a' => ∀ w', (∃ n : BW B w, w' = n.w) → Q .normal a' w') l a) : (Code.region id l.toArray true).wp P Q a w :=
  wp_region_quiet (C := fun w' => ∃ n : BW B w, w' = n.w) hm hB ⟨⟨w.drew, (Below.refl B w).drew⟩, rfl⟩ (by simpa using h)
theorem quiet_callB {P : Program} {f : FuncId} {args : Array Value} {B : Nat} {W : World} {n : BW B W} {v : Value} (h : Calls P f args n.w fun e w' => e = .returned v ∧ Below n.w.heap.size n.w w') (hs : B ≤ W.heap.size) : Calls P f args n.w fun e w' => e = .returned v ∧ ∃ m : BW B W, w' = m.w :=
  h.mono fun _e w' ⟨h1, h2⟩ => ⟨h1, ⟨w', n.below.trans (h2.mono (Nat.le_trans hs n.below.size))⟩, rfl⟩
theorem bytesLess_cB : ∀ a b : List UInt8, Op.bytesLess a b = cB a b
  | [], [] => rfl
  | _ :: _, [] => rfl
  | [], _ :: _ => rfl
  | a :: x, b :: y => by
    have h := bytesLess_cB x y
    rw [Bool.eq_iff_iff, cB_cons, Op.bytesLess, h]
    simp
end
end Go.Proofs.YtheoaijheijojaaGreatDoor
