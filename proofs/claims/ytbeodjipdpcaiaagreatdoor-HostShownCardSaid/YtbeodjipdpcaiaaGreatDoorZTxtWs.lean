
/- TxtW, Srt1 in one text (a claim holds at most 60 files). -/
import Derived.Test.YtbeodjipdpcaiaaGreatDoorZOwn0s
import Derived.Test.YtbeodjipdpcaiaaGreatDoorZFoldWs
import Derived.Test.YtbeodjipdpcaiaaGreatDoorZFold0s
import Derived.Test.YtbeodjipdpcaiaaGreatDoorZErrs1s
import Derived.BigQuiet
import Derived.Test.YtbeodjipdpcaiaaGreatDoorZLib0s
import Derived.Deep.DeepCutAuto
import Derived.Test.YtbeodjipdpcaiaaGreatDoorZScan4s
import Derived.Deep.RegionWith
import Derived.Deep.RegionHeld3
import Derived.Test.YtbeodjipdpcaiaaGreatDoorShelf
import Derived.Sort.OwnSorted
import Derived.Lib.RowBridge
-- @auto
namespace Go.Proofs.YtbeodjipdpcaiaaGreatDoor
section
open Go.RowKit
set_option maxRecDepth 100000 in
theorem uright_any (n : Int) (w : World) : Calls Tryz.prog 185 #[.int .i64 n] w fun e w' => e = .returned (.bool (rightN n)) ∧ w = w' := by
  cases h1 : decide ((0 : Int) ≤ n) with
  | false =>
    have HE : Hid (rightN n = false) := Lib.hid (by unfold rightN; rw [h1]; rfl)
    go_enter Tryz.func185, Tryz.ntmps185
    go_wp2
    go_ret
    exact ⟨by rw [HE.out]; rfl, rfl⟩
  | true =>
    cases h2 : decide (n ≤ 1114111) with
    | false =>
      have HE : Hid (rightN n = false) := Lib.hid (by
        have : decide (n < 1114112) = false := by simp at h2 ⊢; omega
        unfold rightN; rw [h1, this]; rfl)
      go_enter Tryz.func185, Tryz.ntmps185
      go_wp2
      go_ret
      exact ⟨by rw [HE.out]; rfl, rfl⟩
    | true =>
      have HE : Hid (rightN n = (halfN n == 0)) := Lib.hid (by
        have : decide (n < 1114112) = true := by simp at h2 ⊢; omega
        unfold rightN; rw [h1, this]; rfl)
      go_enter Tryz.func185, Tryz.ntmps185
      go_wp2_with fail
      refine (half_any n w).mono ?_
      rintro e w' ⟨rfl, rfl⟩
      go_wp2
      go_ret
      exact ⟨by rw [HE.out]; rfl, rfl⟩
theorem Rd.nats_inv {S : Nat → Prop} {w : World} {v : Value} {acc : List Nat} (h : Rd S w v (intsD acc)) : ∃ a c, v = .slice a acc.length c ∧ (a = none → acc.length = 0 ∧ c = 0) ∧ acc.length ≤ c ∧
    (0 < acc.length → ∃ b off, a = some ⟨b, off, none⟩ ∧ S b ∧ ∀ j (hj : j < acc.length), w.cell? ⟨b, off + j, none⟩ = some (.int .i64 (acc[j] : Nat))) := by
  obtain ⟨a, n, c, rfl, hl, hac, hnc, h⟩ := h.list_inv
  simp only [List.length_map, Nat.mul_one] at hl
  subst hl
  refine ⟨a, c, rfl, hac, hnc, fun h0 => ?_⟩
  obtain ⟨b, off, rfl, hS, hc⟩ := h h0
  refine ⟨b, off, rfl, hS, fun j hj => ?_⟩
  obtain ⟨u, hu, hr⟩ := hc j (by simpa using hj)
  rw [List.getElem_map] at hr
  rw [hu, hr.int_inv]
end
section
open Go.RowKit Go.Sort
def natZ (l : List Nat) : List Int := l.map fun n : Nat => (n : Int)
theorem intsV_natZ (l : List Nat) : intsV l = (natZ l).map (Value.int .i64) := by simp [intsV, natZ]
section
variable {d : Array Int}
theorem compact_mem (d : Array Int) : ∀ (m : Nat) (x : Int), x ∈ Go.Lib.compactUpTo d m ↔ ∃ j, j < m ∧ d[j]! = x
  | 0, x => by simp [Go.Lib.compactUpTo]
  | m + 1, x => by
    rw [Go.Lib.compactUpTo_succ, List.mem_append, compact_mem d m x]
    by_cases hk : Go.Lib.keeps d m = true
    · rw [if_pos hk, List.mem_singleton]
      constructor
      · rintro (⟨j, hj, h⟩ | h)
        · exact ⟨j, by omega, h⟩
        · exact ⟨m, by omega, h.symm⟩
      · rintro ⟨j, hj, h⟩
        by_cases e : j = m
        · subst e; exact .inr h.symm
        · exact .inl ⟨j, by omega, h⟩
    · rw [if_neg hk]
      have hk2 : ¬ (m = 0 ∨ d[m]! ≠ d[m - 1]!) := by
        unfold Go.Lib.keeps at hk
        simpa using hk
      constructor
      · rintro (⟨j, hj, h⟩ | h)
        · exact ⟨j, by omega, h⟩
        · simp at h
      · rintro ⟨j, hj, h⟩
        refine .inl ?_
        by_cases e : j = m
        · subst e
          exact ⟨j - 1, by omega, by rw [← h]; exact (Decidable.not_not.1 (fun e => hk2 (.inr (fun h => e h.symm))))⟩
        · exact ⟨j, by omega, h⟩
theorem compact_lt (hs : ∀ i j, i ≤ j → j < d.size → d[i]! ≤ d[j]!) : ∀ m, m ≤ d.size → (Go.Lib.compactUpTo d m).Pairwise (· < ·)
  | 0, _ => by simp [Go.Lib.compactUpTo]
  | m + 1, hm => by
    have ih := compact_lt hs m (by omega)
    rw [Go.Lib.compactUpTo_succ]
    by_cases hk : Go.Lib.keeps d m = true
    · rw [if_pos hk, List.pairwise_append]
      refine ⟨ih, by simp, fun x hx y hy => ?_⟩
      rw [List.mem_singleton.1 hy]
      obtain ⟨j, hj, rfl⟩ := (compact_mem d m x).1 hx
      have hk2 : m = 0 ∨ d[m]! ≠ d[m - 1]! := by
        unfold Go.Lib.keeps at hk
        simpa using hk
      have h1 := hs j (m - 1) (by omega) (by omega)
      have h2 := hs (m - 1) m (by omega) (by omega)
      rcases hk2 with h | h
      · omega
      · have : d[m - 1]! ≠ d[m]! := fun e => h e.symm
        omega
    · rw [if_neg hk, List.append_nil]; exact ih
end
theorem compact_spec {zs : List Int} (hs : zs.Pairwise (· ≤ ·)) : (Go.Lib.compact zs).Pairwise (· < ·) ∧ ∀ x, x ∈ Go.Lib.compact zs ↔ x ∈ zs := by
  have hmono : ∀ i j, i ≤ j → j < zs.toArray.size → zs.toArray[i]! ≤ zs.toArray[j]! := by
    intro i j hij hj
    have hj' : j < zs.length := by simpa using hj
    rw [getElem!_pos zs.toArray i (by simp; omega), getElem!_pos zs.toArray j (by simpa using hj')]
    simp only [List.getElem_toArray]
    by_cases e : i = j
    · subst e; exact Int.le_refl _
    · exact List.pairwise_iff_getElem.1 hs i j (by omega) hj' (by omega)
  refine ⟨compact_lt hmono _ (by simp), fun x => ?_⟩
  unfold Go.Lib.compact
  rw [compact_mem]
  constructor
  · rintro ⟨j, hj, rfl⟩
    rw [getElem!_pos zs.toArray j (by simpa using hj)]
    simp
  · intro hx
    obtain ⟨j, hj, rfl⟩ := List.mem_iff_getElem.1 hx
    exact ⟨j, hj, by rw [getElem!_pos zs.toArray j (by simpa using hj)]; simp⟩
/-- A row of numbers in a block of its own. -/
structure IRow (w : World) (g n cap : Nat) (l : List Int) : Prop where
  len : l.length = n
  blk : ∃ cur : Array Value, w.heap[g]? = some (.cells cur 3 (0, 0)) ∧ cur.size = cap ∧ cur.toList.take n = l.map (Value.int .i64)
  nc : n ≤ cap
  cm : cap ≤ maxLen
theorem IRow.holds {w : World} {g n cap : Nat} {l : List Int} (h : IRow w g n cap l) : Holds (Value.int .i64) w g 0 l.toArray := by
  obtain ⟨hl, ⟨cur, hb, _, ht⟩, _, _⟩ := h
  intro j hj
  have hj' : j < l.length := by simpa using hj
  refine ⟨?_, by simp [World.frozen?, hb]⟩
  have h1 : (cur.toList.take n)[j]? = (l.map (Value.int .i64))[j]? := by rw [ht]
  rw [List.getElem?_take_of_lt (by omega)] at h1
  simp only [World.cell?, hb, Nat.zero_add]
  simp only [Option.isSome_none, Bool.false_eq_true, if_false]
  rw [← Array.getElem?_toList, h1]
  simp [hj']
theorem IRow.lt {w : World} {g n cap : Nat} {l : List Int} (h : IRow w g n cap l) : g < w.heap.size := by
  obtain ⟨_, ⟨cur, hb, _⟩, _⟩ := h
  exact (Array.getElem?_eq_some_iff.1 hb).1
theorem IRow.cell {w : World} {g n cap : Nat} {l : List Int} (h : IRow w g n cap l) {j : Nat} {x : Int} (hx : l[j]? = some x) : w.cell? ⟨g, j, none⟩ = some (.int .i64 x) := by
  obtain ⟨hj, rfl⟩ := List.getElem?_eq_some_iff.1 hx
  have := (h.holds j (by simpa using hj)).1
  rw [Nat.zero_add, getElem!_pos l.toArray j (by simpa using hj)] at this
  simpa using this
theorem IRow.keep {w w' : World} {g n cap : Nat} {l : List Int} (h : IRow w g n cap l) (hb : w'.heap[g]? = w.heap[g]?) : IRow w' g n cap l := ⟨h.len, by rw [hb]; exact h.blk, h.nc, h.cm⟩
theorem irow_own {w : World} {B n : Nat} {v : Value} {l : List Int} (h : w.ownsRow B 3 1 v n (l.map (Value.int .i64))) (hv : v ≠ .slice none 0 0) : ∃ g cap, v = .slice (some ⟨g, 0, none⟩) n cap ∧ IRow w g n cap l ∧ B ≤ g := by
  rcases h.2 with ⟨rfl, rfl⟩ | ⟨g, cap, cur, rfl, hB, hb, h1, h2, h3, h4⟩
  · exact absurd rfl hv
  · have hl := h.1
    simp only [List.length_map, Nat.mul_one] at hl
    exact ⟨g, cap, rfl, ⟨hl, ⟨cur, hb, by omega, by simpa using h4⟩, h1, h2⟩, hB⟩
theorem take_putInts (cur : Array Value) (ts : List Int) (n : Nat) (hn : n ≤ ts.length) (h : n ≤ cur.size) : (putCells (Value.int .i64) 0 ts.toArray cur).toList.take n = (ts.take n).map (Value.int .i64) := by
  apply List.ext_getElem?
  intro j
  by_cases hj : j < n
  · rw [List.getElem?_take_of_lt hj, Array.getElem?_toList, List.getElem?_map, List.getElem?_take_of_lt hj]
    simp [putCells, show j < ts.length by omega, show j < cur.size by omega]
  · rw [List.getElem?_take_eq_none (by omega), List.getElem?_map, List.getElem?_take_eq_none (by omega)]; rfl
theorem putRow_heap (w : World) (g : Nat) (d : Array Int) (k : Nat) (hk : k ≠ g) : (putRow (Value.int .i64) w g 0 d).heap[k]? = w.heap[k]? := by
  simp [putRow, mapBlock, Array.getElem?_modify, Ne.symm hk]
theorem IRow.put {w : World} {g n cap : Nat} {l ts : List Int} (h : IRow w g n cap l) (ht : ts.length = n) (m : Nat) (hm : m ≤ n) : IRow (putRow (Value.int .i64) w g 0 ts.toArray) g m cap (ts.take m) := by
  obtain ⟨hl, ⟨cur, hb, hc, h4⟩, h1, h2⟩ := h
  refine ⟨by rw [List.length_take]; omega, ⟨putCells (Value.int .i64) 0 ts.toArray cur, ?_, by simp [putCells, hc], take_putInts _ _ _ (by omega) (by omega)⟩, by omega, h2⟩
  simp [putRow, mapBlock, Array.getElem?_modify, hb, onCells]
set_option maxRecDepth 100000 in
theorem clone_ints (v : Value) (l : List Nat) (w : World) (h : Rd (Own w) w v (intsD l)) (hl : l.length ≤ 1000000) :
    Calls Tryz.prog 219 #[v] w fun e w' => ∃ v', e = .returned v' ∧ w'.ownsRow w.heap.size 3 1 v' l.length ((natZ l).map (Value.int .i64)) ∧ Below w.heap.size w w' := by
  obtain ⟨a, c, rfl, hac, _, hc⟩ := h.nats_inv
  cases a with
  | none =>
    have h0 : l = [] := List.eq_nil_of_length_eq_zero (hac rfl).1
    subst h0
    refine (Tryz.slices_Clone_int_nil _ _ _).mono ?_
    rintro e w' ⟨rfl, rfl⟩
    exact ⟨_, rfl, World.ownsRow_nil _ _ _ _, Below.refl _ _⟩
  | some a =>
    by_cases h0 : l.length = 0
    · obtain rfl := List.eq_nil_of_length_eq_zero h0
      refine (Tryz.slices_Clone_int_zero _ _ _).mono ?_
      rintro e w' ⟨v', rfl, ho, _, hb⟩
      exact ⟨_, rfl, ho, hb⟩
    · obtain ⟨b, off, ha, _, hx⟩ := hc (by omega)
      obtain rfl := Option.some.inj ha
      refine (Tryz.slices_Clone_int b off l.length c (natZ l) w (by simp [natZ]) (by omega) (fun j hj => ?_)).mono ?_
      · have hj' : j < l.length := by simpa [natZ] using hj
        rw [hx j hj']
        simp [natZ, hj']
      · rintro e w' ⟨v', rfl, ho, _, hb⟩
        rw [List.take_of_length_le (by simp [natZ])] at ho
        exact ⟨_, rfl, ho, hb⟩
theorem sort_ints (g cap : Nat) (l : List Nat) (w : World) (h : IRow w g l.length cap (natZ l)) (hl : l.length ≤ 1000000) :
    Calls Tryz.prog 220 #[.slice (some ⟨g, 0, none⟩) l.length cap] w fun e w' => e = .returned (.tuple #[]) ∧ ∃ zs, zs.Pairwise (· ≤ ·) ∧ zs.Perm (natZ l) ∧ IRow w' g l.length cap zs ∧ w.heap.size ≤ w'.heap.size ∧ (∀ k, k ≠ g → k < w.heap.size → w'.heap[k]? = w.heap[k]?) ∧ w'.os = w.os ∧ w'.tape = w.tape ∧ w'.output = w.output := by
  have hlen : (natZ l).length = l.length := by simp [natZ]
  have C := Tryz.slices_Sort_int g 0 cap (natZ l) w h.holds h.lt (by omega)
  rw [hlen] at C
  refine C.mono ?_
  rintro e w' ⟨rfl, n, os, rfl⟩
  have hperm := List.mergeSort_perm (natZ l) (fun x y => decide (x ≤ y))
  have hput := IRow.put (w := Sort.ahead w n) (h.keep rfl) (ts := (natZ l).mergeSort fun x y => decide (x ≤ y)) (by rw [hperm.length_eq, hlen]) l.length (Nat.le_refl _)
  rw [List.take_of_length_le (by rw [hperm.length_eq, hlen]; exact Nat.le_refl _)] at hput
  refine ⟨rfl, _, ?_, hperm, hput.keep ?_, by simp, fun k hk hlt => ?_, rfl, rfl, rfl⟩
  · have := List.pairwise_mergeSort (le := fun x y : Int => decide (x ≤ y)) (fun a b c h1 h2 => by simp at *; omega) (fun a b => by simp; omega) (natZ l)
    exact this.imp (fun h => by simpa using h)
  · exact heap_grow_old _ _ (by have := h.lt; simpa [putRow, mapBlock, Sort.ahead] using this)
  · rw [heap_grow_old _ _ (by simpa [putRow, mapBlock, Sort.ahead] using hlt), putRow_heap _ _ _ _ hk]; rfl
theorem compact_ints (g cap n : Nat) (zs : List Int) (w : World) (h : IRow w g n cap zs) (hs : zs.Pairwise (· ≤ ·)) (hl : n ≤ 1000000) :
    Calls Tryz.prog 221 #[.slice (some ⟨g, 0, none⟩) n cap] w fun e w' => ∃ L, e = .returned (.slice (some ⟨g, 0, none⟩) L.length cap) ∧ L.Pairwise (· < ·) ∧ (∀ x, x ∈ L ↔ x ∈ zs) ∧ L.length ≤ n ∧ IRow w' g L.length cap L ∧ (∀ k, k ≠ g → w'.heap[k]? = w.heap[k]?) ∧ w.heap.size ≤ w'.heap.size ∧ w'.os = w.os ∧ w'.tape = w.tape ∧ w'.output = w.output := by
  have hlen := h.len
  subst hlen
  have C := Tryz.slices_Compact_int g 0 cap zs w h.holds (by omega) h.nc
  refine C.mono ?_
  rintro e w' ⟨rfl, q, rfl⟩
  obtain ⟨c1, c2⟩ := compact_spec hs
  have hle := Go.Lib.compact_length_le zs
  have hput := IRow.put (w := Sort.ahead w q) (h.keep rfl) (ts := Go.Lib.compact zs ++ List.replicate (zs.length - (Go.Lib.compact zs).length) 0) (by simp; omega) (Go.Lib.compact zs).length hle
  rw [List.take_left] at hput
  exact ⟨_, rfl, c1, c2, hle, hput, fun k hk => by rw [putRow_heap _ _ _ _ hk]; rfl, by simp [putRow, mapBlock, Sort.ahead], rfl, rfl, rfl⟩
end
end Go.Proofs.YtbeodjipdpcaiaaGreatDoor
