/- The text of bytes. -/
import Derived.Test.YtmhfbdeeebbloaaDoorInts0
import Derived.Test.YtmhfbdeeebbloaaDoorScan4
import Derived.Test.YtmhfbdeeebbloaaDoorFoldW
import Derived.Laws.BytesString
namespace Go.Proofs.YtmhfbdeeebbloaaDoor
open Go.RowKit
theorem conv_rd {S : Nat → Prop} {w : World} {v : Value} {B : ByteArray} (h : Rd S w v (bytesDB B)) : (convert 26 9 v).run Tryd.prog w = .ok (.string B) w := by
  obtain ⟨a, c, rfl, _, _, hx⟩ := h.by_inv
  by_cases h0 : 0 < B.size
  · obtain ⟨b, off, rfl, _, hx⟩ := hx h0
    exact bytes_back w b off B.size c B rfl hx
  · obtain rfl := size_zero h0
    rw [run_convert_bytes_string w 26 9 5 a _ c Tryd.underlying26 Tryd.underlying5 Tryd.underlying9]
    cases a with
    | none => simp [Conv.bytesToString]
    | some a =>
      exact run_bytesToString w a 0 c [] (by simp [loadCells, loadCellsFrom])
theorem rd_of_cells {S : Nat → Prop} {w : World} {b cap : Nat} {B : ByteArray} (hS : S b) (hcap : B.size ≤ cap) (h : ∀ i, i < B.size → w.cell? ⟨b, i, none⟩ = some (.int .u8 (byteAt B i))) : Rd S w (.slice (some ⟨b, 0, none⟩) B.size cap) (bytesDB B) := by
  by_cases h0 : B.size = 0
  · have e := empty_of h0
    subst e
    exact .list0 _ _ _ nofun
  · refine .list b 0 B.size cap 1 _ (fun j => .int .u8 (byteAt B j)) hS (by omega) hcap (by simp) (fun j hj => ?_) (fun j hj => ?_)
    · rw [Nat.zero_add]; exact h j (by simpa using hj)
    · have hj' : j < B.data.size := by simpa using hj
      have e : (B.data.toList.map fun x => Dat.int .u8 ((x.toNat : Nat) : Int))[j] = Dat.int .u8 (byteAt B j) := by
        simp only [List.getElem_map, Array.getElem_toList]
        unfold byteAt; rw [Array.getElem?_eq_getElem hj']; rfl
      rw [e]; exact .int _ _
end Go.Proofs.YtmhfbdeeebbloaaDoor
