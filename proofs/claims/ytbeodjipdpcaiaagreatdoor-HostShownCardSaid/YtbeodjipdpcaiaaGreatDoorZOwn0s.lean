
/- Own0, Ints0, Txt0, Conv0 in one text (a claim holds at most 60 files). -/
import Derived.Test.YtbeodjipdpcaiaaGreatDoorZLib0s
import Derived.Laws.OwnMore
import Derived.Test.YtbeodjipdpcaiaaGreatDoorProg
import Derived.Lib.SmallJoins
import Derived.Laws.BytesString
import Derived.Deep.AppendLies
import Derived.Test.YtbeodjipdpcaiaaGreatDoorZScan0s
import Derived.Test.YtbeodjipdpcaiaaGreatDoorZScan4s
import Derived.Test.YtbeodjipdpcaiaaGreatDoorZFold0s
import Derived.Test.YtbeodjipdpcaiaaGreatDoorZQuo0s
import Derived.Lib.RuneBytes
import Derived.Test.YtbeodjipdpcaiaaGreatDoorZFoldWs
-- @auto
namespace Go.Proofs.YtbeodjipdpcaiaaGreatDoor
section
open Go.RowKit
section
variable {α β : Type} {enc : α → List β} {k : Nat}
end
section
variable {α : Type} {enc : α → List Value} {k : Nat} {w : World} {base g n cap : Nat} {e : TypeId} {xs : List α}
end
theorem aown_form {w : World} {base : Nat} {e : TypeId} {sz n : Nat} {v : Value} {xs : List Value} (h : w.ownsRow base e sz v n xs) :
    ∃ ao cap, v = .slice ao n cap ∧ (n = 0 ∧ ao = none ∨ ∃ g, ao = some ⟨g, 0, none⟩ ∧ base ≤ g ∧ g < w.heap.size) := by
  have hlt := h.lt
  rcases h.2 with ⟨rfl, rfl⟩ | ⟨g, cap, cur, rfl, _⟩
  · exact ⟨none, 0, rfl, .inl ⟨rfl, rfl⟩⟩
  · exact ⟨_, cap, rfl, .inr ⟨g, rfl, hlt g rfl⟩⟩
theorem aown_ext {w w' : World} {base base' : Nat} {e : TypeId} {sz n : Nat} {v : Value} {xs : List Value} (h : w.ownsRow base e sz v n xs) (hb : ∀ g, v.ownBlock = some g → w'.heap[g]? = w.heap[g]?) (hB : base' ≤ base) : w'.ownsRow base' e sz v n xs := by
  refine ⟨h.1, ?_⟩
  rcases h.2 with h2 | ⟨g, cap, cur, rfl, h3, hg, h4⟩
  · exact .inl h2
  · exact .inr ⟨g, cap, cur, rfl, Nat.le_trans hB h3, by rw [hb g rfl]; exact hg, h4⟩
/-- Nothing has turned but the blocks in T; blocks may have been made. -/
structure Only (T : Nat → Prop) (w w' : World) : Prop where
  os : w'.os = w.os
  tape : w'.tape = w.tape
  output : w'.output = w.output
  size : w.heap.size ≤ w'.heap.size
  block : ∀ k, k < w.heap.size → ¬ T k → w'.heap[k]? = w.heap[k]?
theorem Only.refl (T : Nat → Prop) (w : World) : Only T w w := ⟨rfl, rfl, rfl, Nat.le_refl _, fun _ _ _ => rfl⟩
theorem Only.of {T : Nat → Prop} {w w' : World} (h : Below w.heap.size w w') : Only T w w' := ⟨h.os, h.tape, h.output, h.size, fun k hk _ => h.block k hk⟩
theorem Only.trans {T : Nat → Prop} {a b c : World} (h : Only T a b) (k : Only T b c) : Only T a c :=
  ⟨k.os.trans h.os, k.tape.trans h.tape, k.output.trans h.output, Nat.le_trans h.size k.size, fun j hj hn => (k.block j (Nat.lt_of_lt_of_le hj h.size) hn).trans (h.block j hj hn)⟩
theorem Only.wide {T T' : Nat → Prop} {a b : World} (h : Only T a b) (hT : ∀ k, k < a.heap.size → T k → T' k) : Only T' a b := ⟨h.os, h.tape, h.output, h.size, fun k hk hn => h.block k hk (fun ht => hn (hT k hk ht))⟩
theorem Only.below {T : Nat → Prop} {B : Nat} {a b : World} (h : Only T a b) (hB : B ≤ a.heap.size) (hT : ∀ k, T k → B ≤ k) : Below B a b :=
  ⟨h.os, h.tape, h.output, h.size, fun k hk => h.block k (by omega) (fun ht => by have := hT k ht; omega)⟩
theorem Only.alloc {T : Nat → Prop} {a b : World} (h : Only T a b) (o : Obj) : Only T a (b.alloc o) := h.trans (.of (ext_alloc (Below.refl _ _) o))
theorem Only.set {T : Nat → Prop} {a b : World} (h : Only T a b) {p : Addr} (hp : p.block < a.heap.size → T p.block) (u : Value) : Only T a (b.setCell p u) :=
  ⟨h.os, h.tape, h.output, by simpa using h.size, fun k hk hn => (Below.heap_setCell b p u k (fun e => hn (by rw [e]; exact hp (by omega)))).trans (h.block k hk hn)⟩
theorem Only.grown {T : Nat → Prop} {a b c : World} {row : Option Nat} (h : Only T a b) (hg : b.grownBy c row) (hr : ∀ k, row = some k → k < a.heap.size → T k) : Only T a c :=
  ⟨hg.os.trans h.os, hg.tape.trans h.tape, hg.output.trans h.output, Nat.le_trans h.size hg.size, fun k hk hn => (hg.block k (Nat.lt_of_lt_of_le hk h.size) (fun e => hn (hr k e.symm hk))).trans (h.block k hk hn)⟩
end
section
open Go.RowKit
theorem elInt : ElemTy Tryz.prog 144 3 1 8 (.int .i64 0) := ⟨Tryz.underlying144, by kernel_rfl, rfl, by decide⟩
def intsV (l : List Nat) : List Value := l.map fun n : Nat => .int .i64 (n : Int)
def intsD (l : List Nat) : Dat := .list 1 (l.map fun n : Nat => .int .i64 (n : Int))
theorem intsV_rds {S : Nat → Prop} {w : World} (l : List Nat) : Rds S w (intsV l) (l.map fun n : Nat => Dat.int .i64 (n : Int)) :=
  ⟨by simp [intsV], fun i u d h1 h2 => by
    simp only [intsV, List.getElem?_map] at h1 h2
    cases hl : l[i]? with
    | none => rw [hl] at h1; cases h1
    | some n => rw [hl] at h1 h2; cases h1; cases h2; exact .int _ _⟩
theorem size_zero {B : ByteArray} (h : ¬ 0 < B.size) : B = ByteArray.empty := by
  cases B with
  | mk d =>
    have : d.size = 0 := by have h' : ¬ 0 < d.size := h; omega
    rw [Array.eq_empty_of_size_eq_zero this]; rfl
theorem elByte : ElemTy Tryz.prog 29 5 1 1 (.int .u8 0) := ⟨Tryz.underlying29, by kernel_rfl, rfl, by decide⟩
def byV (B : ByteArray) : List Value := B.data.toList.map fun x => Value.int .u8 (x.toNat : Nat)
def byD (B : ByteArray) : List Dat := B.data.toList.map fun x => Dat.int .u8 (x.toNat : Nat)
theorem bytesDB_eq (B : ByteArray) : bytesDB B = .list 1 (byD B) := rfl
theorem byV_rds {S : Nat → Prop} {w : World} (B : ByteArray) : Rds S w (byV B) (byD B) :=
  ⟨by simp [byV, byD], fun i u d hu hd => by
    simp only [byV, byD, List.getElem?_map, Option.map_eq_some_iff] at hu hd
    obtain ⟨x, hx, rfl⟩ := hu
    obtain ⟨y, hy, rfl⟩ := hd
    rw [hx] at hy; cases hy; exact .int _ _⟩
end
section
open Go.RowKit
def putC (n : Nat) : List Value := (putN n).map fun x : Nat => Value.int .u8 (x : Int)
theorem byV_strOf : ∀ {acc : List Nat}, AllRight acc → byV (strOf acc) = acc.flatMap putC
  | [], _ => rfl
  | c :: acc, h => by
    have ih := byV_strOf (acc := acc) (fun x hx => h x (List.mem_cons_of_mem _ hx))
    have hc := right_lt (h c (by simp))
    unfold byV strOf at ih ⊢
    rw [List.toList_toArray] at ih ⊢
    rw [List.flatMap_cons, List.map_append, List.map_append, ih, List.flatMap_cons]
    congr 1
    unfold putC
    rw [List.map_map]
    apply List.map_congr_left
    intro x hx
    have := putN_lt hc x hx
    simp; omega
theorem rune_put {c : Nat} (h : rightN (c : Int) = true) : Go.Lib.runeCells (c : Int) = putC c := by
  have hc := (right_iff _).1 h
  unfold Go.Lib.runeCells putC putN
  by_cases h1 : c < 128
  · rw [if_pos h1, Go.Lib.encodeRuneZ_one (by omega) (by omega)]; rfl
  · rw [if_neg h1]
    by_cases h2 : c < 2048
    · rw [if_pos h2, Go.Lib.encodeRuneZ_two (by omega) (by omega)]
      simp
    · rw [if_neg h2]
      by_cases h3 : c < 65536
      · rw [if_pos h3, Go.Lib.encodeRuneZ_three (by omega)]
        simp
      · rw [if_neg h3, Go.Lib.encodeRuneZ_four (by omega) (by omega)]
        simp
theorem byV_length (B : ByteArray) : (byV B).length = B.size := by simp [byV]
/-! ### Errors have a number -/
end
section
open Go.RowKit
theorem conv_rd {S : Nat → Prop} {w : World} {v : Value} {B : ByteArray} (h : Rd S w v (bytesDB B)) : (convert 29 9 v).run Tryz.prog w = .ok (.string B) w := by
  obtain ⟨a, c, rfl, _, _, hx⟩ := h.by_inv
  by_cases h0 : 0 < B.size
  · obtain ⟨b, off, rfl, _, hx⟩ := hx h0
    exact bytes_back w b off B.size c B rfl hx
  · obtain rfl := size_zero h0
    rw [run_convert_bytes_string w 29 9 5 a _ c Tryz.underlying29 Tryz.underlying5 Tryz.underlying9]
    cases a with
    | none => simp [Conv.bytesToString]
    | some a =>
      exact run_bytesToString w a 0 c [] (by simp [loadCells, loadCellsFrom])
theorem rd_of_cells {S : Nat → Prop} {w : World} {b cap : Nat} {B : ByteArray} (hS : S b) (hcap : B.size ≤ cap) (h : ∀ i, i < B.size → w.cell? ⟨b, i, none⟩ = some (.int .u8 (byteAt B i))) : Rd S w (.slice (some ⟨b, 0, none⟩) B.size cap) (bytesDB B) := by
  by_cases h0 : B.size = 0
  · have e := empty_of h0
    subst e
    exact .list0 _ _ _ nofun
  · refine .list b 0 B.size cap 1 _ (fun j => .int .u8 (byteAt B j)) hS (by omega) hcap (by simp) (fun j hj => ?_) (fun j hj => ?_)
    · rw [Nat.zero_add]; exact h j (by simpa using hj)
    · have hj' : j < B.data.size := by simpa using hj
      have e : (B.data.toList.map fun x => Dat.int .u8 ((x.toNat : Nat) : Int))[j] = Dat.int .u8 (byteAt B j) := by
        simp only [List.getElem_map, Array.getElem_toList]
        unfold byteAt; rw [Array.getElem?_eq_getElem hj']; rfl
      rw [e]; exact .int _ _
end
end Go.Proofs.YtbeodjipdpcaiaaGreatDoor
