/- Quo5, Quo7 in one text (a claim holds at most 60 files). -/
import Derived.Test.YtheoaijheijojaaGreatDoorZQuo3s
import Derived.Lib.Strings
import Derived.Lib.Slices
import Derived.Lib.Walk
import Derived.Lib.Builder
import Derived.Lib.AppendStr
import Derived.Lib.UnsafeStr
import Derived.Lib.MakeNoZero
import Derived.WalkKit
import Derived.Laws.Externs
import Derived.Test.YtheoaijheijojaaGreatDoorZTxt1
namespace Go.Proofs.YtheoaijheijojaaGreatDoor
section
open Go.RowKit
theorem bdSize : (Tryz.prog.info? 171).map (·.size) = some 2 := by kernel_rfl
theorem bdLies : liesAt Tryz.prog Tryz.prog.depth 171 (2 / Tryz.prog.cellsOf 171) 0 171 1 = true := by kernel_rfl
theorem bdByte : (Tryz.prog.info? 5).map (fun i => (i.zero, i.size, i.bytes)) = some (some (.int .u8 0), 1, 1) := by kernel_rfl
abbrev BAt (B b : Nat) (p : Value) (l : List UInt8) (w : World) : Prop := Lib.BuilderAt 171 5 B b p (Lib.byteCells l) w
abbrev BIs (B b : Nat) (l : List UInt8) (w : World) : Prop := Lib.IsBuilder 171 5 B b (Lib.byteCells l) w
/-- Every block but the builder's and the rows of bytes that may be written stands as it stood. -/
def Kept (b : Nat) (w w' : World) : Prop := ∀ k, k ≠ b → k < w.heap.size → (∀ cs, w.heap[k]? ≠ some (.cells cs 5 (0, 0))) → w'.heap[k]? = w.heap[k]?
theorem Kept.refl (b : Nat) (w : World) : Kept b w w := fun _ _ _ _ => rfl
theorem Kept.trans {b : Nat} {w w1 w2 : World} (h : Kept b w w1) (hz : w.heap.size ≤ w1.heap.size) (h2 : Kept b w1 w2) : Kept b w w2 := fun k h1 hk hr => by
  have e := h k h1 hk hr
  rw [h2 k h1 (by omega) (fun cs => by rw [e]; exact hr cs), e]
theorem Kept.write {b : Nat} {w w1 wx w2 : World} {B n : Nat} {v v' : Value} {l : List Value} (h : ∀ k, k ≠ b → w1.heap[k]? = w.heap[k]?) (hz : w.heap.size ≤ w1.heap.size) (hx : ∀ k, k < w1.heap.size → wx.heap[k]? = w1.heap[k]?) (hzx : w1.heap.size ≤ wx.heap.size) (hown : w1.ownsRow B 5 1 v n l) (hg : wx.grownBy w2 v.ownBlock) : Kept b w (w2.setCell ⟨b, 1, none⟩ v') := fun k h1 hk hr => by
  rw [Below.heap_setCell _ _ _ _ h1, hg.block k (by omega) (fun e => ?_), hx k (by omega), h k h1]
  rcases hown.2 with ⟨rfl, _⟩ | ⟨g, cap, cur, rfl, _, hgg, _⟩
  · simp [Value.ownBlock] at e
  · simp only [Value.ownBlock, Option.some.injEq] at e
    subst e
    rw [h k h1] at hgg
    exact hr _ hgg
set_option maxHeartbeats 1000000 in
set_option maxRecDepth 100000 in
theorem copyCheck_used (b : Nat) (w : World) (h0 : w.cell? ⟨b, 0, none⟩ = some (.pointer (some ⟨b, 0, none⟩))) :
    Calls Tryz.prog 128 #[.pointer (some ⟨b, 0, none⟩)] w fun e w' => e = .returned (.tuple #[]) ∧ w' = w := by
  obtain ⟨j, hj, _⟩ := Option.map_eq_some_iff.1 bdSize
  go_enter Tryz.func128, Tryz.ntmps128
  go_wp2
  rw [Lib.run_neq_ptr_same w _ Tryz.underlying169 hj]
  go_wp2
  go_end0
  exact ⟨rfl, rfl⟩
set_option maxHeartbeats 1000000 in
set_option maxRecDepth 100000 in
theorem copyCheck_fresh (b : Nat) (w : World) (h0 : w.cell? ⟨b, 0, none⟩ = some (.pointer none)) (hsh : w.shape? b = some (171, 2)) (hfz : w.frozen? ⟨b, 0, none⟩ = false) :
    Calls Tryz.prog 128 #[.pointer (some ⟨b, 0, none⟩)] w fun e w' => e = .returned (.tuple #[]) ∧ w' = w.setCell ⟨b, 0, none⟩ (.pointer (some ⟨b, 0, none⟩)) := by
  obtain ⟨j, hj, hjs⟩ := Option.map_eq_some_iff.1 bdSize
  go_enter Tryz.func128, Tryz.ntmps128
  go_wp2
  rw [Lib.run_to_unsafe w ⟨b, 0, none⟩ Tryz.underlying169 Tryz.underlying157 hj (by rw [hjs]; decide) hsh (Nat.zero_lt_succ 1)]
  simp only [Result.andThen]
  rw [Oper.upon_value]
  go_wp2
  rw [run_callFunc_extern Tryz.func163 (by kernel_rfl) (by kernel_rfl) (by kernel_rfl) (e := Extern.AbiNoEscape.same) (by kernel_rfl)]
  rw [Lib.run_noEscape]
  simp only [Result.andThen]
  rw [Oper.upon_value]
  go_wp2
  rw [Lib.run_from_unsafe w ⟨b, 0, none⟩ Tryz.underlying157 Tryz.underlying169 hj hsh bdLies]
  simp only [Result.andThen]
  rw [Oper.upon_value]
  go_wp2
  go_end0
  exact ⟨rfl, rfl⟩
theorem copyCheck_any (B b : Nat) (l : List UInt8) (w : World) (h : BIs B b l w) :
    Calls Tryz.prog 128 #[.pointer (some ⟨b, 0, none⟩)] w fun e w' => e = .returned (.tuple #[]) ∧ (BAt B b (.pointer (some ⟨b, 0, none⟩)) l w' ∧ Below B w w' ∧ w.heap.size ≤ w'.heap.size ∧ ∀ k, k ≠ b → w'.heap[k]? = w.heap[k]?) := by
  rcases h with h | h
  · refine (copyCheck_fresh b w h.cell0 h.shape h.frozen0).mono ?_
    rintro e w' ⟨rfl, rfl⟩
    exact ⟨rfl, h.used _, (Below.refl B w).setCell (p := ⟨b, 0, none⟩) h.1 _, by simp, fun k hk => Below.heap_setCell _ _ _ _ hk⟩
  · refine (copyCheck_used b w h.cell0).mono ?_
    rintro e w' ⟨rfl, rfl⟩
    exact ⟨rfl, h, Below.refl B _, Nat.le_refl _, fun _ _ => rfl⟩
set_option maxHeartbeats 2000000 in
set_option maxRecDepth 100000 in
theorem writeByte_any (B b : Nat) (l : List UInt8) (c : UInt8) (w : World) (h : BIs B b l w) (hlen : l.length ≤ 1000000) (hBw : B ≤ w.heap.size) :
    Calls Tryz.prog 120 #[.pointer (some ⟨b, 0, none⟩), .int .u8 c.toNat] w fun e w' => e = .returned .nilIface ∧ (BIs B b (l ++ [c]) w' ∧ Below B w w' ∧ Kept b w w') := by
  obtain ⟨i0, hi, hz0, hz1, hz2⟩ := info_parts bdByte
  have HC := Lib.hid (copyCheck_any B b l w h)
  clear h
  have hlb : (Lib.byteCells l).length = l.length := Lib.byteCells_length l
  go_enter Tryz.func120, Tryz.ntmps120
  go_wp2_with fail
  refine HC.out.mono ?_
  rintro e w1 ⟨rfl, h1, hb1, hz1, hk1⟩
  obtain ⟨hB, v, hbk, hown, hne⟩ := h1
  rw [hlb] at hown
  have HK := Lib.hid hk1
  have HZ1 := Lib.hid hz1
  clear hk1 hz1
  have c0 : w1.cell? ⟨b, 0, none⟩ = some (.pointer (some ⟨b, 0, none⟩)) := by rw [Lib.cell_of_heap hbk]; rfl
  have c1 : w1.cell? ⟨b, 1, none⟩ = some v := by rw [Lib.cell_of_heap hbk]; rfl
  go_wp2_with (at_builtin; refine wpList_append_own _ rfl _ _ 22 rfl B 5 i0 (.int .u8 0) 1 1 Tryz.underlying22 hi hz0 hz1 hz2 rfl (by decide) _ _ _ rfl (hown.alloc _) ⟨w1.heap.size, 0, none⟩ 1 1 [.int .u8 c.toNat] rfl rfl ?c1 ?c2 ?c3 ?c4 ?c5 ?_)
  case c1 =>
    intro j u hj
    match j, hj with
    | 0, hj => simp at hj; subst hj; simp [Addr.add]
  case c2 => intro u hu; simp at hu; subst hu; rfl
  case c3 => unfold maxLen; omega
  case c4 => omega
  case c5 => have := hb1.size; simp; omega
  intro v' w2 hown' hgrow _
  have hlt : b < w1.heap.size := by
    rcases Nat.lt_or_ge b w1.heap.size with h' | h'
    · exact h'
    · simp [Array.getElem?_eq_none h'] at hbk
  have hb2 : w2.heap[b]? = some (.cells #[.pointer (some ⟨b, 0, none⟩), v] 171 (0, 0)) := by
    rw [hgrow.block b (by simp; omega) (fun e => hne e.symm), Lib.alloc_old w1 _ b hlt]
    exact hbk
  have d0 : w2.cell? ⟨b, 0, none⟩ = some (.pointer (some ⟨b, 0, none⟩)) := by rw [Lib.cell_of_heap hb2]; rfl
  have d1 : w2.cell? ⟨b, 1, none⟩ = some v := by rw [Lib.cell_of_heap hb2]; rfl
  have f1 : w2.frozen? ⟨b, 1, none⟩ = false := Lib.frozen_of_heap hb2 1
  obtain ⟨g, cap, rfl⟩ : ∃ g cap, v' = .slice (some ⟨g, 0, none⟩) (l.length + 1) cap := by
    rcases hown'.2 with ⟨_, h0⟩ | ⟨g, cap, cur, hv, _⟩
    · omega
    · exact ⟨g, cap, hv⟩
  have hbs : Lib.byteCells (l ++ [c]) = Lib.byteCells l ++ [.int .u8 c.toNat] := by simp [Lib.byteCells]
  have hls : (Lib.byteCells (l ++ [c])).length = l.length + 1 := by rw [Lib.byteCells_length]; simp
  go_wp2
  go_ret
  refine ⟨rfl, .inr ?_, ?_, ?_⟩
  · exact Lib.BuilderAt.put hB hb2 (bs' := Lib.byteCells (l ++ [c])) (by rw [hls, hbs]; exact hown') (by decide)
  · exact ((hb1.alloc (by have := hb1.size; omega) _).grown hgrow (by have := hb1.size; simp; omega) (fun k hk => (hown.lt k hk).1)).setCell (p := ⟨b, 1, none⟩) hB _
  · exact Kept.write HK.out HZ1.out (fun k hk => Below.heap_alloc w1 _ k hk) (by simp) hown hgrow
theorem strCells_data (s : ByteArray) : Lib.strCells s = Lib.byteCells s.data.toList := by
  simp [Lib.strCells, Lib.byteCells]
set_option maxHeartbeats 2000000 in
set_option maxRecDepth 100000 in
theorem writeString_any (B b : Nat) (l : List UInt8) (s : ByteArray) (w : World) (h : BIs B b l w) (hlen : l.length + s.size ≤ 1000000) (hBw : B ≤ w.heap.size) :
    Calls Tryz.prog 94 #[.pointer (some ⟨b, 0, none⟩), .string s] w fun e w' => e = .returned (.tuple #[.int .i64 s.size, .nilIface]) ∧ (BIs B b (l ++ s.data.toList) w' ∧ Below B w w' ∧ Kept b w w') := by
  obtain ⟨i0, hi, hz0, hz1, hz2⟩ := info_parts bdByte
  have HC := Lib.hid (copyCheck_any B b l w h)
  clear h
  have hlb : (Lib.byteCells l).length = l.length := Lib.byteCells_length l
  go_enter Tryz.func94, Tryz.ntmps94
  go_wp2_with fail
  refine HC.out.mono ?_
  rintro e w1 ⟨rfl, h1, hb1, hz1, hk1⟩
  obtain ⟨hB, v, hbk, hown, hne⟩ := h1
  rw [hlb] at hown
  have HK := Lib.hid hk1
  have HZ1 := Lib.hid hz1
  clear hk1 hz1
  have c0 : w1.cell? ⟨b, 0, none⟩ = some (.pointer (some ⟨b, 0, none⟩)) := by rw [Lib.cell_of_heap hbk]; rfl
  have c1 : w1.cell? ⟨b, 1, none⟩ = some v := by rw [Lib.cell_of_heap hbk]; rfl
  go_wp2_with (at_builtin; refine Lib.wpList_append_own_string _ rfl _ _ 22 9 rfl B 5 i0 Tryz.underlying22 Tryz.underlying9 hi hz0 hz1 hz2 _ _ _ rfl hown s rfl ?c3 ?c4 ?c5 ?_)
  case c3 => unfold maxLen; omega
  case c4 => omega
  case c5 => have := hb1.size; omega
  intro v' w2 hown' hgrow _
  have hlt : b < w1.heap.size := by
    rcases Nat.lt_or_ge b w1.heap.size with h' | h'
    · exact h'
    · simp [Array.getElem?_eq_none h'] at hbk
  have hb2 : w2.heap[b]? = some (.cells #[.pointer (some ⟨b, 0, none⟩), v] 171 (0, 0)) := by
    rw [hgrow.block b hlt (fun e => hne e.symm)]
    exact hbk
  have d0 : w2.cell? ⟨b, 0, none⟩ = some (.pointer (some ⟨b, 0, none⟩)) := by rw [Lib.cell_of_heap hb2]; rfl
  have d1 : w2.cell? ⟨b, 1, none⟩ = some v := by rw [Lib.cell_of_heap hb2]; rfl
  have f1 : w2.frozen? ⟨b, 1, none⟩ = false := Lib.frozen_of_heap hb2 1
  obtain ⟨ao, n', cap, rfl⟩ : ∃ ao n' cap, v' = .slice ao n' cap := by
    rcases hown'.2 with ⟨hv, _⟩ | ⟨g, cap, cur, hv, _⟩
    · exact ⟨_, _, _, hv⟩
    · exact ⟨_, _, _, hv⟩
  have hbs : Lib.byteCells (l ++ s.data.toList) = Lib.byteCells l ++ Lib.strCells s := by rw [strCells_data]; simp [Lib.byteCells]
  have hls : (Lib.byteCells (l ++ s.data.toList)).length = l.length + s.size := by rw [Lib.byteCells_length, List.length_append]; rfl
  go_wp2
  go_ret2
  refine ⟨rfl, .inr ?_, ?_, ?_⟩
  · exact Lib.BuilderAt.put hB hb2 (bs' := Lib.byteCells (l ++ s.data.toList)) (by rw [hls, hbs]; exact hown') (by decide)
  · exact (hb1.grown hgrow (by have := hb1.size; omega) (fun k hk => (hown.lt k hk).1)).setCell (p := ⟨b, 1, none⟩) hB _
  · exact Kept.write HK.out HZ1.out (fun k hk => rfl) (Nat.le_refl _) hown hgrow
end
section
open Go.RowKit
/-- What '[]byte(s)' lays, with its mark. -/
theorem bytes_of_marked (s : ByteArray) (w : World) : ∃ (W0 : World) (cap : Nat), (convert 9 22 (.string s)).run Tryz.prog w = .ok (.slice (some ⟨w.heap.size, 0, none⟩) s.size cap) W0 ∧ s.size ≤ cap ∧ Below w.heap.size w W0 ∧ w.heap.size < W0.heap.size ∧
    (∀ i, i < s.size → W0.cell? ⟨w.heap.size, i, none⟩ = some (.int .u8 (byteAt s i))) ∧ ∀ cs, W0.heap[w.heap.size]? ≠ some (.cells cs 5 (0, 0)) := by
  have hcv := run_bytes_of_string (P := Tryz.prog) w 9 22 5 s Tryz.underlying9 Tryz.underlying22 Tryz.underlying5
  have hx : (w.drew.alloc (.cells (bytesRow s (grownCap w s.size 0 5)) 5 ((bytesRow s (grownCap w s.size 0 5)).size, (bytesRow s (grownCap w s.size 0 5)).size + 1))).heap[w.heap.size]? = some (.cells (bytesRow s (grownCap w s.size 0 5)) 5 ((bytesRow s (grownCap w s.size 0 5)).size, (bytesRow s (grownCap w s.size 0 5)).size + 1)) := heap_alloc_new w.drew _
  refine ⟨_, _, hcv, ?_, ⟨rfl, rfl, rfl, by simp, fun k hk => Below.heap_alloc w.drew _ k hk⟩, by simp, fun i hi => ?_, fun cs e => ?_⟩
  · exact grownCap_ge _ _ _ _
  · have hi' : i < s.data.size := hi
    have := bytesRow_at s (grownCap w s.size 0 5) i hi'
    rw [byteAt, Array.getElem?_eq_getElem hi']
    rw [cell_of_row _ w.heap.size i _ _ _ hx]
    simpa using this
  · rw [hx] at e
    simp at e
/-- What the token holds ahead of the j-th byte. -/
def qL (B : ByteArray) (j : Nat) : List UInt8 := (34 :: ((bytesN B).take j).flatMap escB).map UInt8.ofNat
theorem qL_next {B : ByteArray} {j : Nat} (hj : j < B.size) : qL B (j + 1) = qL B j ++ (escB (byteAt B j)).map UInt8.ofNat := by
  unfold qL
  rw [take_more hj, List.flatMap_append]
  simp
theorem qL_len {B : ByteArray} {j : Nat} : (qL B j).length = offQ B j := by simp [qL, offQ]; omega
theorem offQ_le {B : ByteArray} : ∀ j, j ≤ B.size → offQ B j ≤ 1 + 6 * j
  | 0, _ => by rw [offQ_zero]; omega
  | j + 1, h => by
    have := offQ_le (B := B) j (by omega)
    have h2 := offQ_next (B := B) (i := j) (by omega)
    have := (escB_len (byteAt B j)).2
    omega
theorem qL_full (B : ByteArray) : (⟨(qL B B.size ++ [34]).toArray⟩ : ByteArray) = quoteB B := by
  unfold quoteB quoteL qL
  rw [List.take_of_length_le (by rw [bytesN_len]; exact Nat.le_refl _)]
  simp
theorem bis_keep {B b : Nat} {l : List UInt8} {w w' : World} (h : BIs B b l w) (hk : ∀ k, k < w.heap.size → w'.heap[k]? = w.heap[k]?) : BIs B b l w' := by
  have one : ∀ p, BAt B b p l w → BAt B b p l w' := fun p h => by
    have hlt := Lib.BuilderAt.lt h
    obtain ⟨hB, v, hb, hown, hne⟩ := h
    exact ⟨hB, v, by rw [hk b hlt]; exact hb, aown_ext hown (fun g hg => hk g (hown.lt g hg).2) (Nat.le_refl _), hne⟩
  exact h.imp (one _) (one _)
def QtRel (s : ByteArray) (w : World) (b X : Nat) (W1 : World) (k : Value) (wr : World) : Prop := ∃ j : Nat, k = .int .i64 j ∧ j ≤ s.size ∧ BIs b b (qL s j) wr ∧ Below w.heap.size w wr ∧ wr.heap[X]? = W1.heap[X]? ∧ X < wr.heap.size ∧ b ≤ wr.heap.size
def QtPost (s : ByteArray) (w : World) (e : Ending) (w' : World) : Prop := match charsS s 0 [] with
  | .ok _ => e = .returned (.tuple #[.string (quoteB s), .nilIface]) ∧ Below w.heap.size w w'
  | .no k i => ∃ u, e = .returned (.tuple #[.string ⟨#[]⟩, .iface 115 (.pointer (some u))]) ∧ Failed w k i (.iface 115 (.pointer (some u))) w'
def u8At (s : ByteArray) (j : Nat) : UInt8 := s.data[j]?.getD 0
theorem u8At_nat (s : ByteArray) (j : Nat) : (u8At s j).toNat = byteAt s j := rfl
set_option maxRecDepth 100000 in
set_option maxHeartbeats 16000000 in
theorem quote_any (s : ByteArray) (w : World) (he : ScEnv w) (hm : s.size ≤ 100000) :
    Calls Tryz.prog 85 #[.string s] w (QtPost s w) := by
  obtain ⟨W0, c0, cv0, hc0, hb0, hz0, hx0, _⟩ := bytes_of_marked s w
  have r0 : Rd (Own W0) W0 (.slice (some ⟨w.heap.size, 0, none⟩) s.size c0) (bytesDB s) := rd_of_cells (by exact hz0) hc0 hx0
  have VD := uvalid_any _ s W0 r0 (he.tabs.ext hb0) (by omega)
  unfold QtPost
  have HB0 := Lib.hid hb0
  clear he hx0 r0 hc0 hb0 hz0
  cases hch : charsS s 0 [] with
  | no k p =>
    rw [hch] at VD
    have HV := Lib.hid VD
    clear VD hch
    go_enter Tryz.func85, Tryz.ntmps85
    go_wp2_with fail
    refine HV.out.mono ?_
    rintro e w1 ⟨u, rfl, hf⟩
    have HF := Lib.hid (hf.after HB0.out)
    clear hf
    go_wp2
    go_ret2
    exact ⟨u, rfl, HF.out⟩
  | ok cs =>
    rw [hch] at VD
    have HV := Lib.hid VD
    clear VD hch
    go_enter Tryz.func85, Tryz.ntmps85
    go_wp2_with fail
    refine HV.out.mono ?_
    rintro e w1 ⟨rfl, hb1⟩
    have HB1 := Lib.hid (ext_trans HB0.out hb1)
    clear hb1
    obtain ⟨b, hb⟩ : ∃ b, w1.heap.size = b := ⟨_, rfl⟩
    obtain ⟨W2, hW2⟩ : ∃ W, w1.alloc (.cells #[.pointer none, .slice none 0 0] 171) = W := ⟨_, rfl⟩
    have I0 : BIs b b [] W2 := by rw [← hW2, ← hb]; exact Lib.fresh_isBuilder _ _ w1
    have hz2 : b < W2.heap.size := by rw [← hW2, ← hb]; simp
    have HB2 := Lib.hid (show Below w.heap.size w W2 by rw [← hW2]; exact ext_alloc HB1.out _)
    have WB0 := Lib.hid (writeByte_any b b [] 34 W2 I0 (by simp) (by omega))
    have HE2 := Lib.hid hW2
    have HEb := Lib.hid hb
    clear I0 hW2 hb
    go_wp2_with fail
    rw [HEb.out, HE2.out]
    refine WB0.out.mono ?_
    rintro e w3 ⟨rfl, hI, hb3, _⟩
    have hwb : w.heap.size ≤ b := by rw [← HEb.out]; exact HB1.out.size
    have HB3 := Lib.hid (HB2.out.trans (hb3.mono hwb))
    have hz3 : b < w3.heap.size := Nat.lt_of_lt_of_le hz2 (by have := hb3.size; exact this)
    have HI := Lib.hid hI
    clear hI hb3 WB0 HE2 HEb
    obtain ⟨W4, c4, cv4, hc4, hb4, hz4, hx4, hmk⟩ := bytes_of_marked s w3
    have HB4 := Lib.hid (ext_trans HB3.out hb4)
    have hbz : b < w3.heap.size := hz3
    have hI4 : BIs b b (qL s 0) W4 := by
      have h3 := HI.out
      have hbk : ∀ k, k < w3.heap.size → W4.heap[k]? = w3.heap[k]? := fun k hk => hb4.block k hk
      exact bis_keep h3 hbk
    have HX4 : Hid (∀ cs, W4.heap[w3.heap.size]? ≠ some (.cells cs 5 (0, 0))) := Lib.hid hmk
    have HC4 := Lib.hid hx4
    have R0 : QtRel s w b w3.heap.size W4 (.int .i64 0) W4 := ⟨0, rfl, Nat.zero_le _, hI4, HB4.out, rfl, hz4, by have := hb4.size; omega⟩
    have HR0 := Lib.hid R0
    obtain ⟨X, hX⟩ : ∃ X, w3.heap.size = X := ⟨_, rfl⟩
    rw [hX] at HR0 HX4 HC4 cv4 hz4
    have hXb : X ≠ b := by omega
    clear hx4 hmk hb4 hI4 R0 HI HV
    go_wp2_with fail
    go_loopw [19] (QtRel s w b X W4) (fun k _ => s.size - (intOf k).toNat)
    case atStart => exact HR0.out
    case round =>
      obtain ⟨j, rfl, hj, hI, hB, hxx, hxz, hbr⟩ := hrel
      have HB := Lib.hid hB
      have HXX := Lib.hid hxx
      have hlen : (qL s j).length ≤ 700000 := by rw [qL_len]; have := offQ_le j hj; omega
      by_cases hlt : j < s.size
      · have hst : ∀ W, BIs b b (qL s (j + 1)) W → Below b wr W → Kept b wr W → QtRel s w b X W4 (.int .i64 ((j : Int) + 1)) W := fun W h1 h2 h3 => by
          refine ⟨j + 1, by go_num, hlt, h1, HB.out.trans (h2.mono hwb), ?_, Nat.lt_of_lt_of_le hxz h2.size, Nat.le_trans hbr h2.size⟩
          rw [h3 X hXb hxz (fun cs => by rw [HXX.out]; exact HX4.out cs), HXX.out]
        have HST := Lib.hid hst
        have cx : wr.cell? ⟨X, j, none⟩ = some (.int .u8 ((u8At s j).toNat : Nat)) := by
          rw [cell_keep HXX.out]; exact HC4.out j hlt
        have hqn := qL_next hlt
        have hx256 := byteAt_lt s j
        have he := escB_short ⟨byteAt s j, hx256⟩
        have heu := escB_unit ⟨byteAt s j, hx256⟩
        have hep : valL.contains (byteAt s j) = false → 32 ≤ byteAt s j → escB (byteAt s j) = [byteAt s j] := fun h1 h2 => by unfold escB; rw [h1, if_neg (by decide), if_neg (by omega)]
        have hes : valL.contains (byteAt s j) = true → escB (byteAt s j) = [92, namL[valL.idxOf (byteAt s j)]?.getD 0] := fun h1 => by unfold escB; rw [h1, if_pos rfl]
        have heh : valL.contains (byteAt s j) = false → byteAt s j < 32 → escB (byteAt s j) = [92, 117, 48, 48, hexU (byteAt s j / 16), hexU (byteAt s j % 16)] := fun h1 h2 => by unfold escB; rw [h1, if_neg (by decide), if_pos h2]
        clear he heu
        rw [← u8At_nat] at hqn hx256 hep hes heh
        have IB := Lib.hid (ib_any ⟨#[34, 92, 8, 12, 10, 13, 9]⟩ valL rfl (u8At s j).toNat hx256 wr)
        have t1 : decide ((j : Int) < (s.size : Int)) = true := decide_eq_true (by omega)
        have t1' : decide (j < s.size) = true := decide_eq_true hlt
        have q1 : IntKind.i64.wrap ((j : Int) + 1) = (j : Int) + 1 := IntWalk.i64_in _ (by omega)
        have HI := Lib.hid hI
        have HL := Lib.hid hlen
        have HMS := Lib.hid (show intOf (.int .i64 ((j : Int) + 1)) = (j : Int) + 1 from rfl)
        clear hst hI hB hxx hlen
        generalize hxe : u8At s j = x at *
        clear hxe
        cases hct : valL.contains x.toNat with
        | true =>
          have e1 := hes hct
          have hidx : valL.idxOf x.toNat < 7 := by
            have := List.idxOf_lt_length_iff.2 (List.contains_iff_mem.1 hct)
            exact this
          have hibv : ibV valL x.toNat = (valL.idxOf x.toNat : Int) := by unfold ibV; rw [if_pos hct]
          rw [hibv] at IB
          generalize valL.idxOf x.toNat = n at *
          rw [e1] at hqn
          have HQN := Lib.hid hqn
          clear hct hes hep heh e1 hibv hqn
          obtain ⟨S, hS⟩ : ∃ S : ByteArray, (⟨#[34, 92, 98, 102, 110, 114, 116]⟩ : ByteArray) = S := ⟨_, rfl⟩
          have hzS : S.size = 7 := by rw [← hS]; rfl
          have hi1 : n < S.size := by omega
          have hgx : Hid (S[n]'hi1 = UInt8.ofNat (namL[n]?.getD 0)) := Lib.hid (by
            revert hi1
            subst hS
            intro hi1
            have hj : n = 0 ∨ n = 1 ∨ n = 2 ∨ n = 3 ∨ n = 4 ∨ n = 5 ∨ n = 6 := by omega
            rcases hj with rfl | rfl | rfl | rfl | rfl | rfl | rfl <;> rfl)
          have hi2 : (n : Int) < (S.size : Int) := by omega
          rw [hS]
          clear hS hzS
          have t2 : decide ((0 : Int) ≤ (n : Int)) = true := decide_eq_true (by omega)
          have WB1 := Lib.hid (writeByte_any b b (qL s j) 92 wr HI.out (by have := HL.out; omega) hbr)
          go_wp2_with fail
          refine IB.out.mono ?_
          rintro e w5 ⟨rfl, rfl⟩
          go_wp2_with fail
          refine WB1.out.mono ?_
          rintro e w5 ⟨rfl, h5, hb5, hk5⟩
          have WB2 := Lib.hid (writeByte_any b b _ (S[n]'hi1) w5 h5 (by have := HL.out; simp; omega) (Nat.le_trans hbr hb5.size))
          have HB5 := Lib.hid hb5; have HK5 := Lib.hid hk5
          clear h5 hb5 hk5
          go_wp2_with fail
          refine WB2.out.mono ?_
          rintro e w6 ⟨rfl, h6, hb6, hk6⟩
          have R := HST.out w6 (by
            rw [HQN.out]
            have := h6
            rw [hgx.out] at this
            simpa using this) (HB5.out.trans hb6) (HK5.out.trans HB5.out.size hk6)
          have HR := Lib.hid R
          clear R h6 hb6 hk6
          go_wp2
          refine ⟨?_, by simp [intOf]; omega⟩
          have R := HR.out
          first | exact R | ((repeat apply Exists.intro); exact ⟨R, rfl⟩)
        | false =>
          have hibv : ibV valL x.toNat = -1 := by unfold ibV; rw [hct]; rfl
          rw [hibv] at IB
          by_cases h32 : x.toNat < 32
          · have e1 := heh hct h32
            rw [e1] at hqn
            have HQN := Lib.hid hqn
            have t2 : decide (x.toNat < 32) = true := decide_eq_true h32
            have t3 : decide ((x.toNat : Int) < 32) = true := decide_eq_true (by omega)
            have HD := Lib.hid (hexdig2_any x.toNat wr hx256)
            have q2 : IntKind.u64.wrap (x.toNat : Int) = (x.toNat : Int) := IntWalk.u64_in _ (by omega)
            clear hct hes hep heh e1 hibv hqn h32
            go_wp2_with fail
            refine IB.out.mono ?_
            rintro e w5 ⟨rfl, rfl⟩
            go_wp2_with fail
            refine HD.out.mono ?_
            rintro e w5 ⟨rfl, hb5⟩
            generalize hdg : (⟨#[UInt8.ofNat (hexU (x.toNat / 16)), UInt8.ofNat (hexU (x.toNat % 16))]⟩ : ByteArray) = D
            have hzD : D.size = 2 := by rw [← hdg]; rfl
            have h5 := bis_keep HI.out (fun k hk => hb5.block k hk)
            have WS := Lib.hid (writeString_any b b (qL s j) (⟨#[92, 117, 48, 48]⟩ ++ D) w5 h5 (by have := HL.out; rw [ByteArray.size_append, hzD]; have : (⟨#[92, 117, 48, 48]⟩ : ByteArray).size = 4 := rfl; omega) (Nat.le_trans hbr hb5.size))
            have HB5 := Lib.hid hb5; have HDG := Lib.hid hdg
            clear h5 hb5 hdg
            obtain ⟨E, hE⟩ : ∃ E : ByteArray, (⟨#[92, 117, 48, 48]⟩ : ByteArray) ++ D = E := ⟨_, rfl⟩
            rw [hE] at WS
            go_wp2_with fail
            refine WS.out.mono ?_
            rintro e w6 ⟨rfl, h6, hb6, hk6⟩
            have R := HST.out w6 (by
              rw [HQN.out]
              have := h6
              rw [← hE, ← HDG.out] at this
              simpa [ByteArray.data_append] using this) ((HB5.out.mono hbr).trans hb6) (Kept.trans (fun k _ hk _ => HB5.out.block k hk) HB5.out.size hk6)
            have HR := Lib.hid R
            clear R h6 hb6 hk6 hE
            go_wp2
            refine ⟨?_, by simp [intOf]; omega⟩
            have R := HR.out
            first | exact R | ((repeat apply Exists.intro); exact ⟨R, rfl⟩)
          · have e1 := hep hct (by omega)
            rw [e1] at hqn
            have HQN := Lib.hid hqn
            have t2 : decide (x.toNat < 32) = false := decide_eq_false h32
            have t3 : decide ((x.toNat : Int) < 32) = false := decide_eq_false (by omega)
            have WB1 := Lib.hid (writeByte_any b b (qL s j) x wr HI.out (by have := HL.out; omega) hbr)
            clear hct hes hep heh e1 hibv hqn h32
            go_wp2_with fail
            refine IB.out.mono ?_
            rintro e w5 ⟨rfl, rfl⟩
            go_wp2_with fail
            refine WB1.out.mono ?_
            rintro e w6 ⟨rfl, h6, hb6, hk6⟩
            have R := HST.out w6 (by
              rw [HQN.out]
              simpa using h6) hb6 hk6
            have HR := Lib.hid R
            clear R h6 hb6 hk6
            go_wp2
            refine ⟨?_, by simp [intOf]; omega⟩
            have R := HR.out
            first | exact R | ((repeat apply Exists.intro); exact ⟨R, rfl⟩)
      · have t1 : decide ((j : Int) < (s.size : Int)) = false := decide_eq_false (by omega)
        have t1' : decide (j < s.size) = false := decide_eq_false hlt
        obtain rfl : j = s.size := by omega
        have WB1 := Lib.hid (writeByte_any b b (qL s s.size) 34 wr hI (by omega) hbr)
        clear hI hB hxx hlen
        go_wp2_with fail
        refine WB1.out.mono ?_
        rintro e w5 ⟨rfl, h5, hb5, _⟩
        have SG := Tryz.Builder_String_any b b _ w5 h5 (Nat.le_trans hbr hb5.size)
        rw [qL_full] at SG
        have SG := Lib.hid SG
        have HB5 := Lib.hid hb5
        clear h5 hb5
        go_wp2_with fail
        refine SG.out.mono ?_
        rintro e w6 ⟨rfl, hb6⟩
        have HF := Lib.hid (HB.out.trans ((HB5.out.trans hb6).mono hwb))
        clear hb6
        go_wp2
        go_ret2
        exact ⟨rfl, HF.out⟩
end
end Go.Proofs.YtheoaijheijojaaGreatDoor
