/- The laws' own speaks and told, of chapter 6. -/
import Derived.Test.YtmhfbdeeebbloaaDoorScan8
import Derived.Laws.StructEq
import Derived.Lib.SmallJoins
namespace Go.Proofs.YtmhfbdeeebbloaaDoor
open Go.RowKit
theorem Rd.toks_inv {S : Nat → Prop} {w : World} {v : Value} {l : List Tok} (h : Rd S w v (toksD l)) : ∃ a c, v = .slice a l.length c ∧ (a = none → l.length = 0 ∧ c = 0) ∧ l.length ≤ c ∧
    (0 < l.length → ∃ b off, a = some ⟨b, off, none⟩ ∧ S b ∧ ∀ i t, l[i]? = some t → w.cell? ⟨b, off + i * 3, none⟩ = some (.int .i64 t.kind) ∧ w.cell? ⟨b, off + i * 3 + 1, none⟩ = some (.int .i64 t.fr) ∧ w.cell? ⟨b, off + i * 3 + 2, none⟩ = some (.int .i64 t.to)) := by
  obtain ⟨a, c, rfl, h1, h2, hc⟩ := Rd.rows_inv (enc := tokD) (k := 3) (fun _ => rfl) (by decide) h
  refine ⟨a, c, rfl, h1, h2, fun h0 => ?_⟩
  obtain ⟨b, off, rfl, hS, hx⟩ := hc h0
  refine ⟨b, off, rfl, hS, fun i t ht => ⟨?_, ?_, ?_⟩⟩
  · obtain ⟨u, hu, hr⟩ := hx i t ht 0 _ rfl
    rw [hr.int_inv] at hu; exact hu
  · obtain ⟨u, hu, hr⟩ := hx i t ht 1 _ rfl
    rw [hr.int_inv] at hu; exact hu
  · obtain ⟨u, hu, hr⟩ := hx i t ht 2 _ rfl
    rw [hr.int_inv] at hu; exact hu
theorem speaks_toks : allS ⟨#[123, 34, 97, 34, 58, 49, 125]⟩ 0 = .ok [⟨1, 0, 1⟩, ⟨7, 1, 4⟩, ⟨5, 4, 5⟩, ⟨8, 5, 6⟩, ⟨2, 6, 7⟩, ⟨0, 7, 7⟩] := by decide +kernel
set_option maxRecDepth 100000 in
set_option maxHeartbeats 8000000 in
theorem speaks06 (w : World) (he : ScEnv w) : Calls Tryd.prog 16 #[] w fun e w' => e = .returned (.bool true) ∧ Below w.heap.size w w' := by
  obtain ⟨W0, hW0⟩ : ∃ W, w.alloc (.cells #[.int .u8 123, .int .u8 34, .int .u8 97, .int .u8 34, .int .u8 58, .int .u8 49, .int .u8 125] 5 (7, 8)) = W := ⟨_, rfl⟩
  have cv := Go.Joins.run_convert_bytes_const_at (P := Tryd.prog) w 26 5 #[.int .u8 123, .int .u8 34, .int .u8 97, .int .u8 34, .int .u8 58, .int .u8 49, .int .u8 125] 7 7 w.heap.size rfl Tryd.underlying26 Tryd.underlying5
  rw [show (w.alloc (.cells #[.int .u8 123, .int .u8 34, .int .u8 97, .int .u8 34, .int .u8 58, .int .u8 49, .int .u8 125] 5 ((#[.int .u8 123, .int .u8 34, .int .u8 97, .int .u8 34, .int .u8 58, .int .u8 49, .int .u8 125] : Array Value).size, (#[.int .u8 123, .int .u8 34, .int .u8 97, .int .u8 34, .int .u8 58, .int .u8 49, .int .u8 125] : Array Value).size + 1))) = W0 from hW0] at cv
  have hb0 : Below w.heap.size w W0 := by rw [← hW0]; exact ext_alloc (Below.refl _ _) _
  have hz0 : w.heap.size < W0.heap.size := by rw [← hW0]; simp
  have L : Rd (Own W0) W0 (.slice (some ⟨w.heap.size, 0, none⟩) 7 7) (bytesDB ⟨#[123, 34, 97, 34, 58, 49, 125]⟩) := by
    refine .list w.heap.size 0 7 7 1 _ (fun j => ((#[.int .u8 123, .int .u8 34, .int .u8 97, .int .u8 34, .int .u8 58, .int .u8 49, .int .u8 125] : Array Value)[j]?).getD undef) hz0 (by decide) (Nat.le_refl _) rfl (fun j hj => ?_) (fun j hj => ?_)
    · have hj' : j < 7 := hj
      rw [← hW0, Nat.zero_add, World.cell?_alloc_mark]
      have : j = 0 ∨ j = 1 ∨ j = 2 ∨ j = 3 ∨ j = 4 ∨ j = 5 ∨ j = 6 := by omega
      rcases this with rfl | rfl | rfl | rfl | rfl | rfl | rfl <;> rfl
    · have hj' : j < 7 := hj
      have : j = 0 ∨ j = 1 ∨ j = 2 ∨ j = 3 ∨ j = 4 ∨ j = 5 ∨ j = 6 := by omega
      rcases this with rfl | rfl | rfl | rfl | rfl | rfl | rfl <;> exact .int _ _
  have A := all_any _ _ _ L (he.ext hb0) (by decide)
  rw [speaks_toks] at A
  have HA := Lib.hid A; have HB0 := Lib.hid hb0
  clear A L hb0 he hW0
  go_enter Tryd.func16, Tryd.ntmps16
  go_wp2_with fail
  refine HA.out.mono ?_
  rintro e w1 ⟨v, rfl, hr, hb⟩
  obtain ⟨a, c, rfl, _, _, hx⟩ := hr.toks_inv
  obtain ⟨b, off, rfl, _, hc⟩ := hx (by decide)
  obtain ⟨x1, y1, z1⟩ := hc 1 _ rfl
  obtain ⟨x3, y3, z3⟩ := hc 3 _ rfl
  obtain ⟨x5, y5, z5⟩ := hc 5 _ rfl
  simp only [Nat.one_mul, Nat.reduceMul, Nat.add_assoc, Nat.reduceAdd] at x1 y1 z1 x3 y3 z3 x5 y5 z5
  have HB := Lib.hid (ext_trans HB0.out hb)
  clear hr hb hx hc
  go_wp2
  go_ret
  exact ⟨rfl, HB.out⟩
/-- An error as it is to be told. -/
theorem told06_any (v : Value) (c : List (Int × Int)) (k a : Int) (w : World) (hg : Glob w) (h : Rd (Own w) w v (errD 119 c)) :
    Calls Tryd.prog 19 #[v, .int .i64 k, .int .i64 a] w fun e w' => e = .returned (.bool ((kindI c == k) && (c.isEmpty || (atI c == a)))) ∧ Below w.heap.size w w' := by
  have HK := Lib.hid (kind_any v c w hg h)
  have HA := Lib.hid (fun W hW => at_any v c W (hg.ext hW) (h.ext hW))
  have hv : (c = [] ∧ v = .nilIface) ∨ (c.isEmpty = false ∧ ∃ p, v = .iface 119 (.pointer (some p))) := by
    cases c with
    | nil => simp only [errD] at h; exact .inl ⟨rfl, h.nilI_inv⟩
    | cons x r =>
      obtain ⟨x1, x2⟩ := x
      obtain ⟨b, off, u, rfl, _⟩ := fault_inv h
      exact .inr ⟨rfl, _, rfl⟩
  clear h hg
  cases hk : (kindI c == k) with
  | false =>
    rw [Bool.false_and]
    rcases hv with ⟨rfl, rfl⟩ | ⟨he, p, rfl⟩
    · go_enter Tryd.func19, Tryd.ntmps19
      go_wp2_with fail
      refine HK.out.mono ?_
      rintro e w1 ⟨rfl, hb⟩
      have HB := Lib.hid hb; clear hb
      go_wp2
      go_ret
      exact ⟨rfl, HB.out⟩
    · clear he
      go_enter Tryd.func19, Tryd.ntmps19
      go_wp2_with fail
      refine HK.out.mono ?_
      rintro e w1 ⟨rfl, hb⟩
      have HB := Lib.hid hb; clear hb
      go_wp2
      go_ret
      exact ⟨rfl, HB.out⟩
  | true =>
    rw [Bool.true_and]
    rcases hv with ⟨rfl, rfl⟩ | ⟨he, p, rfl⟩
    · go_enter Tryd.func19, Tryd.ntmps19
      go_wp2_with fail
      refine HK.out.mono ?_
      rintro e w1 ⟨rfl, hb⟩
      have HB := Lib.hid hb; clear hb
      go_wp2
      go_ret
      exact ⟨rfl, HB.out⟩
    · rw [he, Bool.false_or]
      clear he
      go_enter Tryd.func19, Tryd.ntmps19
      go_wp2_with fail
      refine HK.out.mono ?_
      rintro e w1 ⟨rfl, hb⟩
      have HA1 := Lib.hid (HA.out _ hb)
      have HB := Lib.hid hb; clear hb
      go_wp2_with fail
      refine HA1.out.mono ?_
      rintro e w2 ⟨rfl, hb⟩
      have HB2 := Lib.hid (ext_trans HB.out hb); clear hb
      go_wp2
      go_ret
      exact ⟨rfl, HB2.out⟩
end Go.Proofs.YtmhfbdeeebbloaaDoor
