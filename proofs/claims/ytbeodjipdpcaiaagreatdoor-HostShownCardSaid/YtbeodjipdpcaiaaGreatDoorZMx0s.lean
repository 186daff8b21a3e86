
/- Joi0, Mx0, Spl0 in one text (a claim holds at most 60 files). -/
import Derived.Test.YtbeodjipdpcaiaaGreatDoorZLab0s
import Derived.Test.YtbeodjipdpcaiaaGreatDoorZFow1s
import Derived.Test.YtbeodjipdpcaiaaGreatDoorShelf
import Derived.Test.YtbeodjipdpcaiaaGreatDoorZLib0s
import Derived.Test.YtbeodjipdpcaiaaGreatDoorProg
import Derived.WalkKit
import Derived.Shelf.Vars
import Derived.Lib.SplitLaws
import Derived.Lib.CountLaws
import Derived.Lib.IndexLaws
import Derived.Lib.IndexBytes
-- @auto
namespace Go.Proofs.YtbeodjipdpcaiaaGreatDoor
section
open Go.RowKit
theorem joinTail_L (m : Nat) : ∀ ps : List (List Nat), Lib.joinTail [UInt8.ofNat m] ((ps.map bytesL).map (·.data.toList)) = (ps.flatMap (fun q => m :: q)).map UInt8.ofNat
  | [] => rfl
  | p :: ps => by
    have ih := joinTail_L m ps
    unfold Lib.joinTail at ih ⊢
    simp only [List.map_cons, List.flatten_cons, List.flatMap_cons, List.map_append] at ih ⊢
    rw [ih]
    rfl
theorem join_L (m : Nat) (ps : List (List Nat)) : Lib.join ((ps.map bytesL).map (·.data.toList)) [UInt8.ofNat m] = (joinN m ps).map UInt8.ofNat := by
  cases ps with
  | nil => rfl
  | cons p ps =>
    have h := joinTail_L m ps
    rw [List.map_cons, List.map_cons, Lib.join_cons, h, joinN_flat, List.map_append]; rfl
theorem joinP_any (m : Nat) (S : ByteArray) (hS : S.data.toList = [UInt8.ofNat m]) (w : World) (base : Nat) (v : Value) (ps : List (List Nat)) (h : w.ownsRow base 9 1 v ps.length (strV (ps.map bytesL))) (hm : ps.length ≤ 1000000) (hz : (joinN m ps).length ≤ 1000000000) :
    Calls Tryz.prog 58 #[v, .string S] w fun e w' => e = .returned (.string (bytesL (joinN m ps))) ∧ Below w.heap.size w w' := by
  have hj : Lib.join ((ps.map bytesL).map (·.data.toList)) S.data.toList = (joinN m ps).map UInt8.ofNat := by rw [hS]; exact join_L m ps
  rcases h.2 with ⟨rfl, h0⟩ | ⟨g, cap, cur, rfl, h1, h2, h3, _⟩
  · obtain rfl := List.eq_nil_of_length_eq_zero h0
    exact (Tryz.strings_Join_none none 0 S w).mono (fun e w' ⟨h1, h2⟩ => ⟨h1, by rw [h2]; exact Below.refl _ _⟩)
  · have K := Tryz.strings_Join g 0 cap (ps.map bytesL) S w (fun j x hx => by
      have hj := (List.getElem?_eq_some_iff.1 hx).1
      rw [List.length_map] at hj
      rw [Nat.zero_add, World.ownsRow.cellAt h j (by omega)]
      simp only [strV, List.getElem?_map] at hx ⊢
      rw [hx]; rfl) (h.lt g rfl).2 (by rw [List.length_map]; omega) (by rw [List.length_map]; exact h3) (by rw [hj, List.length_map]; omega)
    rw [hj, List.length_map] at K
    exact K
end
section
open Go.RowKit
/-- The library's variable holds some number. -/
def MaxT (w : World) : Prop := 2 < w.heap.size ∧ ∃ m, w.cell? ⟨2, 0, none⟩ = some (.int .i64 m)
theorem MaxT.ext {w w' : World} (h : MaxT w) (hb : Below w.heap.size w w') : MaxT w' := by
  obtain ⟨h1, m, h2⟩ := h
  exact ⟨Nat.lt_of_lt_of_le h1 hb.size, m, (bcell1 hb h1 0).trans h2⟩
theorem maxT_of {w : World} (h : w.ShapedOpen Tryz.prog) : MaxT w := by
  have hg : 2 < Tryz.prog.globals.size := of_decide_eq_true (by kernel_rfl)
  obtain ⟨m, hm⟩ := cell_of_shapedOpen_int (P := Tryz.prog) (g := 2) (t := 3) (zero := #[.int .i64 0]) (k := .i64) h hg (by kernel_rfl) rfl (by kernel_rfl) (by kernel_rfl) Tryz.underlying3
  refine ⟨?_, m, hm⟩
  exact World.block_lt_of_cell? w ⟨2, 0, none⟩ hm
end
section
open Go.RowKit
theorem ixb_miss : ∀ {l : List UInt8} {c : UInt8}, Lib.indexByte l c = -1 → ∀ x ∈ l, x ≠ c := by
  intro l c h x hx e
  subst e
  obtain ⟨k, hk, he⟩ := List.mem_iff_getElem.1 hx
  exact Lib.indexByte_none h k (by rw [List.getElem?_eq_getElem hk, he])
theorem ixb_first : ∀ {l : List UInt8} {c : UInt8} {i : Nat}, Lib.indexByte l c = i → (∀ x ∈ l.take i, x ≠ c) ∧ l[i]? = some c
  | [], c, i, h => by simp [Lib.indexByte] at h
  | x :: l, c, i, h => by
    rw [Lib.indexByte] at h
    by_cases hx : x = c
    · have : i = 0 := by simp [hx] at h; omega
      subst this
      exact ⟨by simp, by simp [hx]⟩
    · have hx2 : (x == c) = false := by simpa using hx
      simp only [hx2, Bool.false_eq_true, if_false] at h
      split at h
      · omega
      · obtain ⟨j, rfl⟩ : ∃ j, i = j + 1 := by
          refine ⟨i - 1, ?_⟩
          have : i ≠ 0 := fun e => by
            subst e
            have hn : Lib.indexByte l c = -1 := by omega
            rename_i hne
            exact hne (by simp [hn])
          omega
        obtain ⟨h1, h2⟩ := ixb_first (l := l) (c := c) (i := j) (by omega)
        refine ⟨fun y hy => ?_, by simpa using h2⟩
        rw [List.take_succ_cons] at hy
        rcases List.mem_cons.1 hy with rfl | hy
        · exact hx
        · exact h1 y hy
theorem ext_drop (s : ByteArray) (i : Nat) : bytesN (s.extract i s.size) = (bytesN s).drop i := by
  rw [bytesN_extract, List.take_of_length_le]
  rw [List.length_drop, bytesN_len]
  exact Nat.le_refl _
theorem ext_take (s : ByteArray) (i : Nat) : s.extract 0 i = bytesL ((bytesN s).take i) := by rw [extract_bytesL]; simp
theorem split_eq (m : UInt8) : ∀ (n : Nat) (s : ByteArray), s.size = n → Lib.splitB ⟨#[m]⟩ 0 (Lib.countB s ⟨#[m]⟩) s = (splitN m.toNat (bytesN s)).map bytesL := by
  intro n
  induction n using Nat.strongRecOn with
  | ind n ih =>
    intro s hn
    have hidx : Lib.indexB s ⟨#[m]⟩ = Lib.indexByte s.data.toList m := Lib.index_one _ _
    have hb : bytesN s = s.data.toList.map (·.toNat) := rfl
    rcases Lib.indexB_cases s ⟨#[m]⟩ with h | ⟨i, h, hi⟩
    · rw [Lib.splitB_miss _ _ _ _ h]
      rw [hidx] at h
      rw [splitN_none (fun c hc => by
        rw [hb] at hc
        obtain ⟨x, hx, rfl⟩ := List.mem_map.1 hc
        exact fun e => ixb_miss h x hx (UInt8.toNat.inj e))]
      simp [bytesL_bytesN]
    · have hi : i + 1 ≤ s.size := hi
      rw [Lib.countB_hit s ⟨#[m]⟩ i (Nat.le_refl 1) h, Nat.add_comm, Lib.splitB_hit _ _ _ _ i h]
      have hrec := ih (s.extract (i + 1) s.size).size (by rw [ByteArray.size_extract]; omega) _ rfl
      show s.extract 0 i :: Lib.splitB ⟨#[m]⟩ 0 (Lib.countB (s.extract (i + 1) s.size) ⟨#[m]⟩) (s.extract (i + 1) s.size) = _
      rw [hrec, ext_drop]
      rw [hidx] at h
      obtain ⟨h1, h2⟩ := ixb_first h
      obtain ⟨hl, he⟩ := List.getElem?_eq_some_iff.1 h2
      have e0 : bytesN s = (bytesN s).take i ++ m.toNat :: (bytesN s).drop (i + 1) := by
        have e1 : s.data.toList = s.data.toList.take i ++ m :: s.data.toList.drop (i + 1) := by
          rw [← he, ← List.drop_eq_getElem_cons hl, List.take_append_drop]
        rw [hb, ← List.map_take, ← List.map_drop]
        conv => lhs; rw [e1]
        rw [List.map_append, List.map_cons]
      conv => rhs; rw [e0]
      rw [splitN_hit (fun c hc => by
        rw [hb, ← List.map_take] at hc
        obtain ⟨x, hx, rfl⟩ := List.mem_map.1 hc
        exact fun e => h1 x hx (UInt8.toNat.inj e)), List.map_cons, ext_take]
/-- strings.Split at one byte. -/
theorem splitP_any (m : UInt8) (s : ByteArray) (w : World) (hM : MaxT w) (hs : s.size ≤ 1000000) :
    Calls Tryz.prog 116 #[.string s, .string ⟨#[m]⟩] w fun e w' => ∃ v, e = .returned v ∧ w'.ownsRow w.heap.size 9 1 v (splitN m.toNat (bytesN s)).length (strV ((splitN m.toNat (bytesN s)).map bytesL)) ∧ Below w.heap.size w w' := by
  obtain ⟨hm1, mm, hm2⟩ := hM
  have hseg := split_eq m s.size s rfl
  have hsl := Lib.splitB_all ⟨#[m]⟩ (Nat.le_refl 1) 0 _ s rfl
  have K := Tryz.strings_Split s ⟨#[m]⟩ mm w (by omega) hm2 (Nat.le_refl 1)
  rw [hseg] at hsl K
  rw [List.length_map] at hsl
  rw [← hsl] at K
  refine K.mono ?_
  rintro e w' ⟨rfl, rfl⟩
  refine ⟨_, rfl, ?_, ext_alloc (Below.refl _ _) _⟩
  have hcl := Lib.countB_le ⟨#[m]⟩ (Nat.le_refl 1) s.size s (Nat.le_refl _)
  exact World.ownsRow_lit w ((splitN m.toNat (bytesN s)).map bytesL |>.map Value.string).toArray _ (Nat.le_refl _) (by rw [hsl]; simp [maxLen]; omega) (by simp)
end
end Go.Proofs.YtbeodjipdpcaiaaGreatDoor
