/- Rows of numbers; the text of bytes. -/
import Derived.Test.YtmhfbdeeebbloaaDoorOwn0
import Derived.Test.YtmhfbdeeebbloaaDoorBytes0
import Derived.Test.YtmhfbdeeebbloaaDoorProg
import Derived.Lib.SmallJoins
import Derived.Laws.BytesString
import Derived.Deep.AppendLies
namespace Go.Proofs.YtmhfbdeeebbloaaDoor
open Go.RowKit
theorem elInt : ElemTy Tryd.prog 37 3 1 8 (.int .i64 0) := ⟨Tryd.underlying37, by kernel_rfl, rfl, by decide⟩
def intsV (l : List Nat) : List Value := l.map fun n : Nat => .int .i64 (n : Int)
def intsD (l : List Nat) : Dat := .list 1 (l.map fun n : Nat => .int .i64 (n : Int))
theorem intsV_rds {S : Nat → Prop} {w : World} (l : List Nat) : Rds S w (intsV l) (l.map fun n : Nat => Dat.int .i64 (n : Int)) :=
  ⟨by simp [intsV], fun i u d h1 h2 => by
    simp only [intsV, List.getElem?_map] at h1 h2
    cases hl : l[i]? with
    | none => rw [hl] at h1; cases h1
    | some n => rw [hl] at h1 h2; cases h1; cases h2; exact .int _ _⟩
theorem size_zero {B : ByteArray} (h : ¬ 0 < B.size) : B = ByteArray.empty := by
  cases B with
  | mk d =>
    have : d.size = 0 := by have h' : ¬ 0 < d.size := h; omega
    rw [Array.eq_empty_of_size_eq_zero this]; rfl
theorem elByte : ElemTy Tryd.prog 26 5 1 1 (.int .u8 0) := ⟨Tryd.underlying26, by kernel_rfl, rfl, by decide⟩
def byV (B : ByteArray) : List Value := B.data.toList.map fun x => Value.int .u8 (x.toNat : Nat)
def byD (B : ByteArray) : List Dat := B.data.toList.map fun x => Dat.int .u8 (x.toNat : Nat)
theorem bytesDB_eq (B : ByteArray) : bytesDB B = .list 1 (byD B) := rfl
theorem byV_rds {S : Nat → Prop} {w : World} (B : ByteArray) : Rds S w (byV B) (byD B) :=
  ⟨by simp [byV, byD], fun i u d hu hd => by
    simp only [byV, byD, List.getElem?_map, Option.map_eq_some_iff] at hu hd
    obtain ⟨x, hx, rfl⟩ := hu
    obtain ⟨y, hy, rfl⟩ := hd
    rw [hx] at hy; cases hy; exact .int _ _⟩
theorem byD_app (P B : ByteArray) : byD (P ++ B) = byD P ++ byD B := by simp [byD, ByteArray.data_append]
theorem byD_length (B : ByteArray) : (byD B).length = B.size := by simp [byD]
theorem byV_push (P : ByteArray) (x : UInt8) : byV (P.push x) = byV P ++ [.int .u8 (x.toNat : Nat)] := by simp [byV, ByteArray.push]
theorem size_push (P : ByteArray) (x : UInt8) : (P.push x).size = P.size + 1 := by
  show (P.data.push x).size = P.data.size + 1
  exact Array.size_push _
theorem byteAt_push_lt (P : ByteArray) (x : UInt8) (i : Nat) (h : i < P.size) : byteAt (P.push x) i = byteAt P i := by
  have h' : i < P.data.size := h
  unfold byteAt ByteArray.push
  simp only
  rw [Array.getElem?_push_lt h', Array.getElem?_eq_getElem h']
theorem byteAt_push_eq (P : ByteArray) (x : UInt8) : byteAt (P.push x) P.size = x.toNat := by
  unfold byteAt ByteArray.push
  show ((P.data.push x)[P.data.size]?.getD 0).toNat = _
  rw [Array.getElem?_push_size]; rfl
end Go.Proofs.YtmhfbdeeebbloaaDoor
