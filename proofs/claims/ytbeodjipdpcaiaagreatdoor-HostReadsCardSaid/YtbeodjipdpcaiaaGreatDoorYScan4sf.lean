/- Texts put together. -/
import Derived.Test.YtbeodjipdpcaiaaGreatDoorYFold0sf
import Derived.Test.YtbeodjipdpcaiaaGreatDoorYFoldWs
import Derived.Test.YtbeodjipdpcaiaaGreatDoorYLib0s
import Derived.Test.YtbeodjipdpcaiaaGreatDoorYErrs1s
import Derived.Laws.OwnMore
import Derived.Test.YtbeodjipdpcaiaaGreatDoorProg
import Derived.Lib.SmallJoins
import Derived.Laws.BytesString
import Derived.Deep.AppendLies
import Derived.Lib.RuneBytes
import Derived.BigQuiet
import Derived.Deep.DeepCutAuto
import Derived.Deep.RegionWith
import Derived.Deep.RegionHeld3
import Derived.Test.YtbeodjipdpcaiaaGreatDoorZShelf
import Derived.Sort.OwnSorted
import Derived.Lib.RowBridge
set_option maxRecDepth 100000
set_option maxHeartbeats 4000000
namespace Go.Proofs.YtbeodjipdpcaiaaGreatDoor
section
open Go.RowKit
def subB (B : ByteArray) (p n : Nat) : ByteArray := ⟨B.data.extract p (p + n)⟩
theorem subB_size (B : ByteArray) (p n : Nat) (h : p + n ≤ B.size) : (subB B p n).size = n := by
 show (B.data.extract p (p + n)).size = n
 have h' : p + n ≤ B.data.size := h
 simp; omega
theorem subB_at (B : ByteArray) (p n j : Nat) (hj : j < n) : byteAt (subB B p n) j = byteAt B (p + j) := by
 unfold byteAt subB
 simp only [Array.getElem?_extract]
 split
 · rfl
 · rename_i h
   have hz : B.data.size = B.size := rfl
   have : B.data.size ≤ p + j := by simp at h; omega
   rw [Array.getElem?_eq_none this]
theorem bytes_back (w : World) (b off n cap : Nat) (S : ByteArray) (hS : S.size = n) (hc : ∀ j, j < n → w.cell? ⟨b, off + j, none⟩ = some (.int .u8 (byteAt S j))) :
    (convert 29 9 (.slice (some ⟨b, off, none⟩) n cap)).run Tryz.prog w = .ok (.string S) w := by
 have hl : S.data.toList.length = n := by rw [Array.length_toList]; exact hS
 have := run_convert_bytes_back (P := Tryz.prog) w 29 9 5 ⟨b, off, none⟩ cap S.data.toList Tryz.underlying29 Tryz.underlying5 Tryz.underlying9 (fun j hj => by
  rw [Addr.add_lit, hc j (by omega)]
  have hj' : j < S.data.size := by rw [← Array.length_toList]; exact hj
  unfold byteAt
  rw [Array.getElem?_eq_getElem hj']; rfl)
 rwa [hl, Array.toArray_toList] at this
section
variable {v : Value} {B : ByteArray} {w : World}
end
end
section
open Go.RowKit
end
end Go.Proofs.YtbeodjipdpcaiaaGreatDoor
namespace Go.Proofs.YtbeodjipdpcaiaaGreatDoor
section
open Go.RowKit
section
variable {α β : Type} {enc : α → List β} {k : Nat}
end
section
variable {α : Type} {enc : α → List Value} {k : Nat} {w : World} {base g n cap : Nat} {e : TypeId} {xs : List α}
end
theorem aown_form {w : World} {base : Nat} {e : TypeId} {sz n : Nat} {v : Value} {xs : List Value} (h : w.ownsRow base e sz v n xs) :
    ∃ ao cap, v = .slice ao n cap ∧ (n = 0 ∧ ao = none ∨ ∃ g, ao = some ⟨g, 0, none⟩ ∧ base ≤ g ∧ g < w.heap.size) := by
 have hlt := h.lt
 rcases h.2 with ⟨rfl, rfl⟩ | ⟨g, cap, cur, rfl, _⟩
 · exact ⟨none, 0, rfl, .inl ⟨rfl, rfl⟩⟩
 · exact ⟨_, cap, rfl, .inr ⟨g, rfl, hlt g rfl⟩⟩
theorem aown_ext {w w' : World} {base base' : Nat} {e : TypeId} {sz n : Nat} {v : Value} {xs : List Value} (h : w.ownsRow base e sz v n xs) (hb : ∀ g, v.ownBlock = some g → w'.heap[g]? = w.heap[g]?) (hB : base' ≤ base) : w'.ownsRow base' e sz v n xs := by
 refine ⟨h.1, ?_⟩
 rcases h.2 with h2 | ⟨g, cap, cur, rfl, h3, hg, h4⟩
 · exact .inl h2
 · exact .inr ⟨g, cap, cur, rfl, Nat.le_trans hB h3, by rw [hb g rfl]; exact hg, h4⟩
structure Only (T : Nat → Prop) (w w' : World) : Prop where
 os : w'.os = w.os
 tape : w'.tape = w.tape
 output : w'.output = w.output
 size : w.heap.size ≤ w'.heap.size
 block : ∀ k, k < w.heap.size → ¬ T k → w'.heap[k]? = w.heap[k]?
theorem Only.refl (T : Nat → Prop) (w : World) : Only T w w := ⟨rfl, rfl, rfl, Nat.le_refl _, fun _ _ _ => rfl⟩
theorem Only.of {T : Nat → Prop} {w w' : World} (h : Below w.heap.size w w') : Only T w w' := ⟨h.os, h.tape, h.output, h.size, fun k hk _ => h.block k hk⟩
theorem Only.trans {T : Nat → Prop} {a b c : World} (h : Only T a b) (k : Only T b c) : Only T a c :=
 ⟨k.os.trans h.os, k.tape.trans h.tape, k.output.trans h.output, Nat.le_trans h.size k.size, fun j hj hn => (k.block j (Nat.lt_of_lt_of_le hj h.size) hn).trans (h.block j hj hn)⟩
theorem Only.wide {T T' : Nat → Prop} {a b : World} (h : Only T a b) (hT : ∀ k, k < a.heap.size → T k → T' k) : Only T' a b := ⟨h.os, h.tape, h.output, h.size, fun k hk hn => h.block k hk (fun ht => hn (hT k hk ht))⟩
theorem Only.below {T : Nat → Prop} {B : Nat} {a b : World} (h : Only T a b) (hB : B ≤ a.heap.size) (hT : ∀ k, T k → B ≤ k) : Below B a b :=
 ⟨h.os, h.tape, h.output, h.size, fun k hk => h.block k (by omega) (fun ht => by have := hT k ht; omega)⟩
theorem Only.alloc {T : Nat → Prop} {a b : World} (h : Only T a b) (o : Obj) : Only T a (b.alloc o) := h.trans (.of (ext_alloc (Below.refl _ _) o))
theorem Only.set {T : Nat → Prop} {a b : World} (h : Only T a b) {p : Addr} (hp : p.block < a.heap.size → T p.block) (u : Value) : Only T a (b.setCell p u) :=
 ⟨h.os, h.tape, h.output, by simpa using h.size, fun k hk hn => (Below.heap_setCell b p u k (fun e => hn (by rw [e]; exact hp (by omega)))).trans (h.block k hk hn)⟩
theorem Only.grown {T : Nat → Prop} {a b c : World} {row : Option Nat} (h : Only T a b) (hg : b.grownBy c row) (hr : ∀ k, row = some k → k < a.heap.size → T k) : Only T a c :=
 ⟨hg.os.trans h.os, hg.tape.trans h.tape, hg.output.trans h.output, Nat.le_trans h.size hg.size, fun k hk hn => (hg.block k (Nat.lt_of_lt_of_le hk h.size) (fun e => hn (hr k e.symm hk))).trans (h.block k hk hn)⟩
end
section
open Go.RowKit
theorem elInt : ElemTy Tryz.prog 144 3 1 8 (.int .i64 0) := ⟨Tryz.underlying144, by kernel_rfl, rfl, by decide⟩
def intsV (l : List Nat) : List Value := l.map fun n : Nat => .int .i64 (n : Int)
def intsD (l : List Nat) : Dat := .list 1 (l.map fun n : Nat => .int .i64 (n : Int))
theorem intsV_rds {S : Nat → Prop} {w : World} (l : List Nat) : Rds S w (intsV l) (l.map fun n : Nat => Dat.int .i64 (n : Int)) :=
 ⟨by simp [intsV], fun i u d h1 h2 => by
  simp only [intsV, List.getElem?_map] at h1 h2
  cases hl : l[i]? with
  | none => rw [hl] at h1; cases h1
  | some n => rw [hl] at h1 h2; cases h1; cases h2; exact .int _ _⟩
theorem size_zero {B : ByteArray} (h : ¬ 0 < B.size) : B = ByteArray.empty := by
 cases B with
 | mk d =>
   have : d.size = 0 := by have h' : ¬ 0 < d.size := h; omega
   rw [Array.eq_empty_of_size_eq_zero this]; rfl
theorem elByte : ElemTy Tryz.prog 29 5 1 1 (.int .u8 0) := ⟨Tryz.underlying29, by kernel_rfl, rfl, by decide⟩
def byV (B : ByteArray) : List Value := B.data.toList.map fun x => Value.int .u8 (x.toNat : Nat)
def byD (B : ByteArray) : List Dat := B.data.toList.map fun x => Dat.int .u8 (x.toNat : Nat)
theorem bytesDB_eq (B : ByteArray) : bytesDB B = .list 1 (byD B) := rfl
theorem byV_rds {S : Nat → Prop} {w : World} (B : ByteArray) : Rds S w (byV B) (byD B) :=
 ⟨by simp [byV, byD], fun i u d hu hd => by
  simp only [byV, byD, List.getElem?_map, Option.map_eq_some_iff] at hu hd
  obtain ⟨x, hx, rfl⟩ := hu
  obtain ⟨y, hy, rfl⟩ := hd
  rw [hx] at hy; cases hy; exact .int _ _⟩
end
section
open Go.RowKit
def putC (n : Nat) : List Value := (putN n).map fun x : Nat => Value.int .u8 (x : Int)
theorem byV_strOf : ∀ {acc : List Nat}, AllRight acc → byV (strOf acc) = acc.flatMap putC
 | [], _ => rfl
 | c :: acc, h => by
   have ih := byV_strOf (acc := acc) (fun x hx => h x (List.mem_cons_of_mem _ hx))
   have hc := right_lt (h c (by simp))
   unfold byV strOf at ih ⊢
   rw [List.toList_toArray] at ih ⊢
   rw [List.flatMap_cons, List.map_append, List.map_append, ih, List.flatMap_cons]
   congr 1
   unfold putC
   rw [List.map_map]
   apply List.map_congr_left
   intro x hx
   have := putN_lt hc x hx
   simp; omega
theorem rune_put {c : Nat} (h : rightN (c : Int) = true) : Go.Lib.runeCells (c : Int) = putC c := by
 have hc := (right_iff _).1 h
 unfold Go.Lib.runeCells putC putN
 by_cases h1 : c < 128
 · rw [if_pos h1, Go.Lib.encodeRuneZ_one (by omega) (by omega)]; rfl
 · rw [if_neg h1]
   by_cases h2 : c < 2048
   · rw [if_pos h2, Go.Lib.encodeRuneZ_two (by omega) (by omega)]
     simp
   · rw [if_neg h2]
     by_cases h3 : c < 65536
     · rw [if_pos h3, Go.Lib.encodeRuneZ_three (by omega)]
       simp
     · rw [if_neg h3, Go.Lib.encodeRuneZ_four (by omega) (by omega)]
       simp
theorem byV_length (B : ByteArray) : (byV B).length = B.size := by simp [byV]
/-! ### Errors have a number -/
end
section
open Go.RowKit
theorem conv_rd {S : Nat → Prop} {w : World} {v : Value} {B : ByteArray} (h : Rd S w v (bytesDB B)) : (convert 29 9 v).run Tryz.prog w = .ok (.string B) w := by
 obtain ⟨a, c, rfl, _, _, hx⟩ := h.by_inv
 by_cases h0 : 0 < B.size
 · obtain ⟨b, off, rfl, _, hx⟩ := hx h0
   exact bytes_back w b off B.size c B rfl hx
 · obtain rfl := size_zero h0
   rw [run_convert_bytes_string w 29 9 5 a _ c Tryz.underlying29 Tryz.underlying5 Tryz.underlying9]
   cases a with
   | none => simp [Conv.bytesToString]
   | some a =>
     exact run_bytesToString w a 0 c [] (by simp [loadCells, loadCellsFrom])
theorem rd_of_cells {S : Nat → Prop} {w : World} {b cap : Nat} {B : ByteArray} (hS : S b) (hcap : B.size ≤ cap) (h : ∀ i, i < B.size → w.cell? ⟨b, i, none⟩ = some (.int .u8 (byteAt B i))) : Rd S w (.slice (some ⟨b, 0, none⟩) B.size cap) (bytesDB B) := by
 by_cases h0 : B.size = 0
 · have e := empty_of h0
   subst e
   exact .list0 _ _ _ nofun
 · refine .list b 0 B.size cap 1 _ (fun j => .int .u8 (byteAt B j)) hS (by omega) hcap (by simp) (fun j hj => ?_) (fun j hj => ?_)
   · rw [Nat.zero_add]; exact h j (by simpa using hj)
   · have hj' : j < B.data.size := by simpa using hj
     have e : (B.data.toList.map fun x => Dat.int .u8 ((x.toNat : Nat) : Int))[j] = Dat.int .u8 (byteAt B j) := by
      simp only [List.getElem_map, Array.getElem_toList]
      unfold byteAt; rw [Array.getElem?_eq_getElem hj']; rfl
     rw [e]; exact .int _ _
end
end Go.Proofs.YtbeodjipdpcaiaaGreatDoor
namespace Go.Proofs.YtbeodjipdpcaiaaGreatDoor
section
open Go.RowKit
theorem uright_any (n : Int) (w : World) : Calls Tryz.prog 185 #[.int .i64 n] w fun e w' => e = .returned (.bool (rightN n)) ∧ w = w' := by
 cases h1 : decide ((0 : Int) ≤ n) with
 | false =>
   have HE : Hid (rightN n = false) := hid (by unfold rightN; rw [h1]; rfl)
   go_enter Tryz.func185, Tryz.ntmps185
   go_wp2
   go_ret
   exact ⟨by rw [HE.out]; rfl, rfl⟩
 | true =>
   cases h2 : decide (n ≤ 1114111) with
   | false =>
     have HE : Hid (rightN n = false) := hid (by
      have : decide (n < 1114112) = false := by simp at h2 ⊢; omega
      unfold rightN; rw [h1, this]; rfl)
     go_enter Tryz.func185, Tryz.ntmps185
     go_wp2
     go_ret
     exact ⟨by rw [HE.out]; rfl, rfl⟩
   | true =>
     have HE : Hid (rightN n = (halfN n == 0)) := hid (by
      have : decide (n < 1114112) = true := by simp at h2 ⊢; omega
      unfold rightN; rw [h1, this]; rfl)
     go_enter Tryz.func185, Tryz.ntmps185
     go_wp2_with fail
     refine (half_any n w).mono ?_
     rintro e w' ⟨rfl, rfl⟩
     go_wp2
     go_ret
     exact ⟨by rw [HE.out]; rfl, rfl⟩
theorem Rd.nats_inv {S : Nat → Prop} {w : World} {v : Value} {acc : List Nat} (h : Rd S w v (intsD acc)) : ∃ a c, v = .slice a acc.length c ∧ (a = none → acc.length = 0 ∧ c = 0) ∧ acc.length ≤ c ∧
    (0 < acc.length → ∃ b off, a = some ⟨b, off, none⟩ ∧ S b ∧ ∀ j (hj : j < acc.length), w.cell? ⟨b, off + j, none⟩ = some (.int .i64 (acc[j] : Nat))) := by
 obtain ⟨a, n, c, rfl, hl, hac, hnc, h⟩ := h.list_inv
 simp only [List.length_map, Nat.mul_one] at hl
 subst hl
 refine ⟨a, c, rfl, hac, hnc, fun h0 => ?_⟩
 obtain ⟨b, off, rfl, hS, hc⟩ := h h0
 refine ⟨b, off, rfl, hS, fun j hj => ?_⟩
 obtain ⟨u, hu, hr⟩ := hc j (by simpa using hj)
 rw [List.getElem_map] at hr
 rw [hu, hr.int_inv]
end
section
open Go.RowKit Go.Sort
def natZ (l : List Nat) : List Int := l.map fun n : Nat => (n : Int)
theorem intsV_natZ (l : List Nat) : intsV l = (natZ l).map (Value.int .i64) := by simp [intsV, natZ]
section
variable {d : Array Int}
theorem compact_mem (d : Array Int) : ∀ (m : Nat) (x : Int), x ∈ Go.Lib.compactUpTo d m ↔ ∃ j, j < m ∧ d[j]! = x
 | 0, x => by simp [Go.Lib.compactUpTo]
 | m + 1, x => by
   rw [Go.Lib.compactUpTo_succ, List.mem_append, compact_mem d m x]
   by_cases hk : Go.Lib.keeps d m = true
   · rw [if_pos hk, List.mem_singleton]
     constructor
     · rintro (⟨j, hj, h⟩ | h)
       · exact ⟨j, by omega, h⟩
       · exact ⟨m, by omega, h.symm⟩
     · rintro ⟨j, hj, h⟩
       by_cases e : j = m
       · subst e; exact .inr h.symm
       · exact .inl ⟨j, by omega, h⟩
   · rw [if_neg hk]
     have hk2 : ¬ (m = 0 ∨ d[m]! ≠ d[m - 1]!) := by
      unfold Go.Lib.keeps at hk
      simpa using hk
     constructor
     · rintro (⟨j, hj, h⟩ | h)
       · exact ⟨j, by omega, h⟩
       · simp at h
     · rintro ⟨j, hj, h⟩
       refine .inl ?_
       by_cases e : j = m
       · subst e
         exact ⟨j - 1, by omega, by rw [← h]; exact (Decidable.not_not.1 (fun e => hk2 (.inr (fun h => e h.symm))))⟩
       · exact ⟨j, by omega, h⟩
theorem compact_lt (hs : ∀ i j, i ≤ j → j < d.size → d[i]! ≤ d[j]!) : ∀ m, m ≤ d.size → (Go.Lib.compactUpTo d m).Pairwise (· < ·)
 | 0, _ => by simp [Go.Lib.compactUpTo]
 | m + 1, hm => by
   have ih := compact_lt hs m (by omega)
   rw [Go.Lib.compactUpTo_succ]
   by_cases hk : Go.Lib.keeps d m = true
   · rw [if_pos hk, List.pairwise_append]
     refine ⟨ih, by simp, fun x hx y hy => ?_⟩
     rw [List.mem_singleton.1 hy]
     obtain ⟨j, hj, rfl⟩ := (compact_mem d m x).1 hx
     have hk2 : m = 0 ∨ d[m]! ≠ d[m - 1]! := by
      unfold Go.Lib.keeps at hk
      simpa using hk
     have h1 := hs j (m - 1) (by omega) (by omega)
     have h2 := hs (m - 1) m (by omega) (by omega)
     rcases hk2 with h | h
     · omega
     · have : d[m - 1]! ≠ d[m]! := fun e => h e.symm
       omega
   · rw [if_neg hk, List.append_nil]; exact ih
end
theorem compact_spec {zs : List Int} (hs : zs.Pairwise (· ≤ ·)) : (Go.Lib.compact zs).Pairwise (· < ·) ∧ ∀ x, x ∈ Go.Lib.compact zs ↔ x ∈ zs := by
 have hmono : ∀ i j, i ≤ j → j < zs.toArray.size → zs.toArray[i]! ≤ zs.toArray[j]! := by
  intro i j hij hj
  have hj' : j < zs.length := by simpa using hj
  rw [getElem!_pos zs.toArray i (by simp; omega), getElem!_pos zs.toArray j (by simpa using hj')]
  simp only [List.getElem_toArray]
  by_cases e : i = j
  · subst e; exact Int.le_refl _
  · exact List.pairwise_iff_getElem.1 hs i j (by omega) hj' (by omega)
 refine ⟨compact_lt hmono _ (by simp), fun x => ?_⟩
 unfold Go.Lib.compact
 rw [compact_mem]
 constructor
 · rintro ⟨j, hj, rfl⟩
   rw [getElem!_pos zs.toArray j (by simpa using hj)]
   simp
 · intro hx
   obtain ⟨j, hj, rfl⟩ := List.mem_iff_getElem.1 hx
   exact ⟨j, hj, by rw [getElem!_pos zs.toArray j (by simpa using hj)]; simp⟩
structure IRow (w : World) (g n cap : Nat) (l : List Int) : Prop where
 len : l.length = n
 blk : ∃ cur : Array Value, w.heap[g]? = some (.cells cur 3 (0, 0)) ∧ cur.size = cap ∧ cur.toList.take n = l.map (Value.int .i64)
 nc : n ≤ cap
 cm : cap ≤ maxLen
theorem IRow.holds {w : World} {g n cap : Nat} {l : List Int} (h : IRow w g n cap l) : Holds (Value.int .i64) w g 0 l.toArray := by
 obtain ⟨hl, ⟨cur, hb, _, ht⟩, _, _⟩ := h
 intro j hj
 have hj' : j < l.length := by simpa using hj
 refine ⟨?_, by simp [World.frozen?, hb]⟩
 have h1 : (cur.toList.take n)[j]? = (l.map (Value.int .i64))[j]? := by rw [ht]
 rw [List.getElem?_take_of_lt (by omega)] at h1
 simp only [World.cell?, hb, Nat.zero_add]
 simp only [Option.isSome_none, Bool.false_eq_true, if_false]
 rw [← Array.getElem?_toList, h1]
 simp [hj']
theorem IRow.lt {w : World} {g n cap : Nat} {l : List Int} (h : IRow w g n cap l) : g < w.heap.size := by
 obtain ⟨_, ⟨cur, hb, _⟩, _⟩ := h
 exact (Array.getElem?_eq_some_iff.1 hb).1
theorem IRow.cell {w : World} {g n cap : Nat} {l : List Int} (h : IRow w g n cap l) {j : Nat} {x : Int} (hx : l[j]? = some x) : w.cell? ⟨g, j, none⟩ = some (.int .i64 x) := by
 obtain ⟨hj, rfl⟩ := List.getElem?_eq_some_iff.1 hx
 have := (h.holds j (by simpa using hj)).1
 rw [Nat.zero_add, getElem!_pos l.toArray j (by simpa using hj)] at this
 simpa using this
theorem IRow.keep {w w' : World} {g n cap : Nat} {l : List Int} (h : IRow w g n cap l) (hb : w'.heap[g]? = w.heap[g]?) : IRow w' g n cap l := ⟨h.len, by rw [hb]; exact h.blk, h.nc, h.cm⟩
theorem irow_own {w : World} {B n : Nat} {v : Value} {l : List Int} (h : w.ownsRow B 3 1 v n (l.map (Value.int .i64))) (hv : v ≠ .slice none 0 0) : ∃ g cap, v = .slice (some ⟨g, 0, none⟩) n cap ∧ IRow w g n cap l ∧ B ≤ g := by
 rcases h.2 with ⟨rfl, rfl⟩ | ⟨g, cap, cur, rfl, hB, hb, h1, h2, h3, h4⟩
 · exact absurd rfl hv
 · have hl := h.1
   simp only [List.length_map, Nat.mul_one] at hl
   exact ⟨g, cap, rfl, ⟨hl, ⟨cur, hb, by omega, by simpa using h4⟩, h1, h2⟩, hB⟩
theorem take_putInts (cur : Array Value) (ts : List Int) (n : Nat) (hn : n ≤ ts.length) (h : n ≤ cur.size) : (putCells (Value.int .i64) 0 ts.toArray cur).toList.take n = (ts.take n).map (Value.int .i64) := by
 apply List.ext_getElem?
 intro j
 by_cases hj : j < n
 · rw [List.getElem?_take_of_lt hj, Array.getElem?_toList, List.getElem?_map, List.getElem?_take_of_lt hj]
   simp [putCells, show j < ts.length by omega, show j < cur.size by omega]
 · rw [List.getElem?_take_eq_none (by omega), List.getElem?_map, List.getElem?_take_eq_none (by omega)]; rfl
theorem putRow_heap (w : World) (g : Nat) (d : Array Int) (k : Nat) (hk : k ≠ g) : (putRow (Value.int .i64) w g 0 d).heap[k]? = w.heap[k]? := by
 simp [putRow, mapBlock, Array.getElem?_modify, Ne.symm hk]
theorem IRow.put {w : World} {g n cap : Nat} {l ts : List Int} (h : IRow w g n cap l) (ht : ts.length = n) (m : Nat) (hm : m ≤ n) : IRow (putRow (Value.int .i64) w g 0 ts.toArray) g m cap (ts.take m) := by
 obtain ⟨hl, ⟨cur, hb, hc, h4⟩, h1, h2⟩ := h
 refine ⟨by rw [List.length_take]; omega, ⟨putCells (Value.int .i64) 0 ts.toArray cur, ?_, by simp [putCells, hc], take_putInts _ _ _ (by omega) (by omega)⟩, by omega, h2⟩
 simp [putRow, mapBlock, Array.getElem?_modify, hb, onCells]
theorem clone_ints (v : Value) (l : List Nat) (w : World) (h : Rd (Own w) w v (intsD l)) (hl : l.length ≤ 1000000) :
    Calls Tryz.prog 219 #[v] w fun e w' => ∃ v', e = .returned v' ∧ w'.ownsRow w.heap.size 3 1 v' l.length ((natZ l).map (Value.int .i64)) ∧ Below w.heap.size w w' := by
 obtain ⟨a, c, rfl, hac, _, hc⟩ := h.nats_inv
 cases a with
 | none =>
   have h0 : l = [] := List.eq_nil_of_length_eq_zero (hac rfl).1
   subst h0
   refine (Tryz.slices_Clone_int_nil _ _ _).mono ?_
   rintro e w' ⟨rfl, rfl⟩
   exact ⟨_, rfl, World.ownsRow_nil _ _ _ _, Below.refl _ _⟩
 | some a =>
   by_cases h0 : l.length = 0
   · obtain rfl := List.eq_nil_of_length_eq_zero h0
     refine (Tryz.slices_Clone_int_zero _ _ _).mono ?_
     rintro e w' ⟨v', rfl, ho, _, hb⟩
     exact ⟨_, rfl, ho, hb⟩
   · obtain ⟨b, off, ha, _, hx⟩ := hc (by omega)
     obtain rfl := Option.some.inj ha
     refine (Tryz.slices_Clone_int b off l.length c (natZ l) w (by simp [natZ]) (by omega) (fun j hj => ?_)).mono ?_
     · have hj' : j < l.length := by simpa [natZ] using hj
       rw [hx j hj']
       simp [natZ, hj']
     · rintro e w' ⟨v', rfl, ho, _, hb⟩
       rw [List.take_of_length_le (by simp [natZ])] at ho
       exact ⟨_, rfl, ho, hb⟩
theorem sort_ints (g cap : Nat) (l : List Nat) (w : World) (h : IRow w g l.length cap (natZ l)) (hl : l.length ≤ 1000000) :
    Calls Tryz.prog 220 #[.slice (some ⟨g, 0, none⟩) l.length cap] w fun e w' => e = .returned (.tuple #[]) ∧ ∃ zs, zs.Pairwise (· ≤ ·) ∧ zs.Perm (natZ l) ∧ IRow w' g l.length cap zs ∧ w.heap.size ≤ w'.heap.size ∧ (∀ k, k ≠ g → k < w.heap.size → w'.heap[k]? = w.heap[k]?) ∧ w'.os = w.os ∧ w'.tape = w.tape ∧ w'.output = w.output := by
 have hlen : (natZ l).length = l.length := by simp [natZ]
 have C := Tryz.slices_Sort_int g 0 cap (natZ l) w h.holds h.lt (by omega)
 rw [hlen] at C
 refine C.mono ?_
 rintro e w' ⟨rfl, n, os, rfl⟩
 have hperm := List.mergeSort_perm (natZ l) (fun x y => decide (x ≤ y))
 have hput := IRow.put (w := Sort.ahead w n) (h.keep rfl) (ts := (natZ l).mergeSort fun x y => decide (x ≤ y)) (by rw [hperm.length_eq, hlen]) l.length (Nat.le_refl _)
 rw [List.take_of_length_le (by rw [hperm.length_eq, hlen]; exact Nat.le_refl _)] at hput
 refine ⟨rfl, _, ?_, hperm, hput.keep ?_, by simp, fun k hk hlt => ?_, rfl, rfl, rfl⟩
 · have := List.pairwise_mergeSort (le := fun x y : Int => decide (x ≤ y)) (fun a b c h1 h2 => by simp at *; omega) (fun a b => by simp; omega) (natZ l)
   exact this.imp (fun h => by simpa using h)
 · exact heap_grow_old _ _ (by have := h.lt; simpa [putRow, mapBlock, Sort.ahead] using this)
 · rw [heap_grow_old _ _ (by simpa [putRow, mapBlock, Sort.ahead] using hlt), putRow_heap _ _ _ _ hk]; rfl
theorem compact_ints (g cap n : Nat) (zs : List Int) (w : World) (h : IRow w g n cap zs) (hs : zs.Pairwise (· ≤ ·)) (hl : n ≤ 1000000) :
    Calls Tryz.prog 221 #[.slice (some ⟨g, 0, none⟩) n cap] w fun e w' => ∃ L, e = .returned (.slice (some ⟨g, 0, none⟩) L.length cap) ∧ L.Pairwise (· < ·) ∧ (∀ x, x ∈ L ↔ x ∈ zs) ∧ L.length ≤ n ∧ IRow w' g L.length cap L ∧ (∀ k, k ≠ g → w'.heap[k]? = w.heap[k]?) ∧ w.heap.size ≤ w'.heap.size ∧ w'.os = w.os ∧ w'.tape = w.tape ∧ w'.output = w.output := by
 have hlen := h.len
 subst hlen
 have C := Tryz.slices_Compact_int g 0 cap zs w h.holds (by omega) h.nc
 refine C.mono ?_
 rintro e w' ⟨rfl, q, rfl⟩
 obtain ⟨c1, c2⟩ := compact_spec hs
 have hle := Go.Lib.compact_length_le zs
 have hput := IRow.put (w := Sort.ahead w q) (h.keep rfl) (ts := Go.Lib.compact zs ++ List.replicate (zs.length - (Go.Lib.compact zs).length) 0) (by simp; omega) (Go.Lib.compact zs).length hle
 rw [List.take_left] at hput
 exact ⟨_, rfl, c1, c2, hle, hput, fun k hk => by rw [putRow_heap _ _ _ _ hk]; rfl, by simp [putRow, mapBlock, Sort.ahead], rfl, rfl, rfl⟩
end
end Go.Proofs.YtbeodjipdpcaiaaGreatDoor
namespace Go.Proofs.YtbeodjipdpcaiaaGreatDoor
section
open Go.RowKit
theorem rhalf_any (n : Int) (w : World) : Calls Tryz.prog 237 #[.int .i64 n] w fun e w' => e = .returned (.int .i64 (halfN n)) ∧ w = w' := by
 by_cases h1 : n < 55296
 · have t1 : decide ((55296 : Int) ≤ n) = false := dcF (by omega)
   have t2 : decide ((56320 : Int) ≤ n) = false := dcF (by omega)
   have HE : Hid (halfN n = 0) := hid (by unfold halfN; rw [if_neg (by omega), if_neg (by omega)])
   clear h1
   go_enter Tryz.func237, Tryz.ntmps237
   go_wp2
   go_ret
   exact ⟨by rw [HE.out]; rfl, rfl⟩
 · have t1 : decide ((55296 : Int) ≤ n) = true := dcT (by omega)
   by_cases h2 : n < 56320
   · have t2 : decide (n < 56320) = true := dcT (by omega)
     have HE : Hid (halfN n = 1) := hid (by unfold halfN; rw [if_pos (by omega)])
     clear h1 h2
     go_enter Tryz.func237, Tryz.ntmps237
     go_wp2
     go_ret
     exact ⟨by rw [HE.out]; rfl, rfl⟩
   · have t2 : decide (n < 56320) = false := dcF (by omega)
     have t3 : decide ((56320 : Int) ≤ n) = true := dcT (by omega)
     by_cases h3 : n < 57344
     · have t4 : decide (n < 57344) = true := dcT (by omega)
       have HE : Hid (halfN n = 2) := hid (by unfold halfN; rw [if_neg (by omega), if_pos (by omega)])
       clear h1 h2 h3
       go_enter Tryz.func237, Tryz.ntmps237
       go_wp2
       go_ret
       exact ⟨by rw [HE.out]; rfl, rfl⟩
     · have t4 : decide (n < 57344) = false := dcF (by omega)
       have HE : Hid (halfN n = 0) := hid (by unfold halfN; rw [if_neg (by omega), if_neg (by omega)])
       clear h1 h2 h3
       go_enter Tryz.func237, Tryz.ntmps237
       go_wp2
       go_ret
       exact ⟨by rw [HE.out]; rfl, rfl⟩
theorem rright_any (n : Int) (w : World) : Calls Tryz.prog 192 #[.int .i64 n] w fun e w' => e = .returned (.bool (rightN n)) ∧ w = w' := by
 cases h1 : decide ((0 : Int) ≤ n) with
 | false =>
   have HE : Hid (rightN n = false) := hid (by unfold rightN; rw [h1]; rfl)
   go_enter Tryz.func192, Tryz.ntmps192
   go_wp2
   go_ret
   exact ⟨by rw [HE.out]; rfl, rfl⟩
 | true =>
   cases h2 : decide (n < 1114112) with
   | false =>
     have HE : Hid (rightN n = false) := hid (by unfold rightN; rw [h1, h2]; rfl)
     go_enter Tryz.func192, Tryz.ntmps192
     go_wp2
     go_ret
     exact ⟨by rw [HE.out]; rfl, rfl⟩
   | true =>
     have HE : Hid (rightN n = (halfN n == 0)) := hid (by unfold rightN; rw [h1, h2]; rfl)
     go_enter Tryz.func192, Tryz.ntmps192
     go_wp2_with fail
     refine (rhalf_any n w).mono ?_
     rintro e w' ⟨rfl, rfl⟩
     go_wp2
     go_ret
     exact ⟨by rw [HE.out]; rfl, rfl⟩
end
section
open Go.RowKit
def putV (n : Nat) : Array Value := ((putN n).map fun (b : Nat) => Value.int .u8 (b : Int)).toArray
theorem arr1 {a c : Int} (h1 : a = c) : (#[.int .u8 a] : Array Value) = #[.int .u8 c] := by rw [h1]
theorem arr2 {a b c d : Int} (h1 : a = c) (h2 : b = d) : (#[.int .u8 a, .int .u8 b] : Array Value) = #[.int .u8 c, .int .u8 d] := by rw [h1, h2]
theorem arr3 {a b c d e f : Int} (h1 : a = d) (h2 : b = e) (h3 : c = f) : (#[.int .u8 a, .int .u8 b, .int .u8 c] : Array Value) = #[.int .u8 d, .int .u8 e, .int .u8 f] := by rw [h1, h2, h3]
theorem arr4 {a b c d e f g h : Int} (h1 : a = e) (h2 : b = f) (h3 : c = g) (h4 : d = h) : (#[.int .u8 a, .int .u8 b, .int .u8 c, .int .u8 d] : Array Value) = #[.int .u8 e, .int .u8 f, .int .u8 g, .int .u8 h] := by rw [h1, h2, h3, h4]
theorem rput_any (n : Nat) (hn : n < 1114112) (w : World) : Calls Tryz.prog 193 #[.int .i64 n] w fun e w' => e = .returned (.slice (some ⟨w.heap.size, 0, none⟩) (putN n).length (putN n).length) ∧ w' = w.alloc (.cells (putV n) 5) := by
 by_cases h1 : n < 128
 · have t1 : decide ((n : Int) < 128) = true := dcT (by omega)
   have HE : putN n = [n] := by unfold putN; rw [if_pos h1]
   have HV : putV n = #[.int .u8 (n : Int)] := by unfold putV; rw [HE]; rfl
   rw [HE, HV]
   clear HE HV
   go_enter Tryz.func193, Tryz.ntmps193
   go_wp2
   go_ret
   exact ⟨rfl, congrArg (fun x => w.alloc (.cells x 5)) (arr1 (by omega))⟩
 · have t1 : decide ((n : Int) < 128) = false := dcF (by omega)
   by_cases h2 : n < 2048
   · have t2 : decide ((n : Int) < 2048) = true := dcT (by omega)
     have HE : putN n = [192 + n / 64, 128 + n % 64] := by unfold putN; rw [if_neg h1, if_pos h2]
     have HV : putV n = #[.int .u8 ((192 + n / 64 : Nat) : Int), .int .u8 ((128 + n % 64 : Nat) : Int)] := by unfold putV; rw [HE]; rfl
     rw [HE, HV]
     clear HE HV
     go_enter Tryz.func193, Tryz.ntmps193
     go_wp2
     go_ret
     exact ⟨rfl, congrArg (fun x => w.alloc (.cells x 5)) (arr2 (by omega) (by omega))⟩
   · have t2 : decide ((n : Int) < 2048) = false := dcF (by omega)
     by_cases h3 : n < 65536
     · have t3 : decide ((n : Int) < 65536) = true := dcT (by omega)
       have HE : putN n = [224 + n / 4096, 128 + n / 64 % 64, 128 + n % 64] := by unfold putN; rw [if_neg h1, if_neg h2, if_pos h3]
       have HV : putV n = #[.int .u8 ((224 + n / 4096 : Nat) : Int), .int .u8 ((128 + n / 64 % 64 : Nat) : Int), .int .u8 ((128 + n % 64 : Nat) : Int)] := by unfold putV; rw [HE]; rfl
       rw [HE, HV]
       clear HE HV
       go_enter Tryz.func193, Tryz.ntmps193
       go_wp2
       go_ret
       exact ⟨rfl, congrArg (fun x => w.alloc (.cells x 5)) (arr3 (by omega) (by omega) (by omega))⟩
     · have t3 : decide ((n : Int) < 65536) = false := dcF (by omega)
       have HE : putN n = [240 + n / 262144, 128 + n / 4096 % 64, 128 + n / 64 % 64, 128 + n % 64] := by unfold putN; rw [if_neg h1, if_neg h2, if_neg h3]
       have HV : putV n = #[.int .u8 ((240 + n / 262144 : Nat) : Int), .int .u8 ((128 + n / 4096 % 64 : Nat) : Int), .int .u8 ((128 + n / 64 % 64 : Nat) : Int), .int .u8 ((128 + n % 64 : Nat) : Int)] := by unfold putV; rw [HE]; rfl
       rw [HE, HV]
       clear HE HV
       go_enter Tryz.func193, Tryz.ntmps193
       go_wp2
       go_ret
       exact ⟨rfl, congrArg (fun x => w.alloc (.cells x 5)) (arr4 (by omega) (by omega) (by omega) (by omega))⟩
end
section
open Go.RowKit
end
section
open Go.RowKit
end
section
open Go.RowKit
end
end Go.Proofs.YtbeodjipdpcaiaaGreatDoor
