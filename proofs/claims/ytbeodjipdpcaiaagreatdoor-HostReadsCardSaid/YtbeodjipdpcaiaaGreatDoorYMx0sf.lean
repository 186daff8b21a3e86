/- Texts put together. -/
import Derived.Test.YtbeodjipdpcaiaaGreatDoorYLab0s
import Derived.Test.YtbeodjipdpcaiaaGreatDoorYFow1s
import Derived.Test.YtbeodjipdpcaiaaGreatDoorYLib0s
import Derived.Test.YtbeodjipdpcaiaaGreatDoorYDec0s
import Derived.Test.YtbeodjipdpcaiaaGreatDoorYScan4sf
import Derived.Test.YtbeodjipdpcaiaaGreatDoorYFoldWs
import Derived.Test.YtbeodjipdpcaiaaGreatDoorZShelf
import Derived.Test.YtbeodjipdpcaiaaGreatDoorProg
import Derived.WalkKit
import Derived.Shelf.Vars
import Derived.Lib.SplitLaws
import Derived.Lib.CountLaws
import Derived.Lib.IndexLaws
import Derived.Lib.IndexBytes
import Derived.Lib.SmallJoins
set_option maxRecDepth 100000
set_option maxHeartbeats 16000000
namespace Go.Proofs.YtbeodjipdpcaiaaGreatDoor
section
open Go.RowKit
theorem joinTail_L (m : Nat) : ∀ ps : List (List Nat), Lib.joinTail [UInt8.ofNat m] ((ps.map bytesL).map (·.data.toList)) = (ps.flatMap (fun q => m :: q)).map UInt8.ofNat
 | [] => rfl
 | p :: ps => by
   have ih := joinTail_L m ps
   unfold Lib.joinTail at ih ⊢
   simp only [List.map_cons, List.flatten_cons, List.flatMap_cons, List.map_append] at ih ⊢
   rw [ih]
   rfl
theorem join_L (m : Nat) (ps : List (List Nat)) : Lib.join ((ps.map bytesL).map (·.data.toList)) [UInt8.ofNat m] = (joinN m ps).map UInt8.ofNat := by
 cases ps with
 | nil => rfl
 | cons p ps =>
   have h := joinTail_L m ps
   rw [List.map_cons, List.map_cons, Lib.join_cons, h, joinN_flat, List.map_append]; rfl
theorem joinP_any (m : Nat) (S : ByteArray) (hS : S.data.toList = [UInt8.ofNat m]) (w : World) (base : Nat) (v : Value) (ps : List (List Nat)) (h : w.ownsRow base 9 1 v ps.length (strV (ps.map bytesL))) (hm : ps.length ≤ 1000000) (hz : (joinN m ps).length ≤ 1000000000) :
    Calls Tryz.prog 58 #[v, .string S] w fun e w' => e = .returned (.string (bytesL (joinN m ps))) ∧ Below w.heap.size w w' := by
 have hj : Lib.join ((ps.map bytesL).map (·.data.toList)) S.data.toList = (joinN m ps).map UInt8.ofNat := by rw [hS]; exact join_L m ps
 rcases h.2 with ⟨rfl, h0⟩ | ⟨g, cap, cur, rfl, h1, h2, h3, _⟩
 · obtain rfl := List.eq_nil_of_length_eq_zero h0
   exact (Tryz.strings_Join_none none 0 S w).mono (fun e w' ⟨h1, h2⟩ => ⟨h1, by rw [h2]; exact Below.refl _ _⟩)
 · have K := Tryz.strings_Join g 0 cap (ps.map bytesL) S w (fun j x hx => by
     have hj := (List.getElem?_eq_some_iff.1 hx).1
     rw [List.length_map] at hj
     rw [Nat.zero_add, World.ownsRow.cellAt h j (by omega)]
     simp only [strV, List.getElem?_map] at hx ⊢
     rw [hx]; rfl) (h.lt g rfl).2 (by rw [List.length_map]; omega) (by rw [List.length_map]; exact h3) (by rw [hj, List.length_map]; omega)
   rw [hj, List.length_map] at K
   exact K
end
section
open Go.RowKit
def MaxT (w : World) : Prop := 2 < w.heap.size ∧ ∃ m, w.cell? ⟨2, 0, none⟩ = some (.int .i64 m)
theorem MaxT.ext {w w' : World} (h : MaxT w) (hb : Below w.heap.size w w') : MaxT w' := by
 obtain ⟨h1, m, h2⟩ := h
 exact ⟨Nat.lt_of_lt_of_le h1 hb.size, m, (bcell1 hb h1 0).trans h2⟩
theorem maxT_of {w : World} (h : w.ShapedOpen Tryz.prog) : MaxT w := by
 have hg : 2 < Tryz.prog.globals.size := of_decide_eq_true (by kernel_rfl)
 obtain ⟨m, hm⟩ := cell_of_shapedOpen_int (P := Tryz.prog) (g := 2) (t := 3) (zero := #[.int .i64 0]) (k := .i64) h hg (by kernel_rfl) rfl (by kernel_rfl) (by kernel_rfl) Tryz.underlying3
 refine ⟨?_, m, hm⟩
 exact World.block_lt_of_cell? w ⟨2, 0, none⟩ hm
end
section
open Go.RowKit
theorem ixb_miss : ∀ {l : List UInt8} {c : UInt8}, Lib.indexByte l c = -1 → ∀ x ∈ l, x ≠ c := by
 intro l c h x hx e
 subst e
 obtain ⟨k, hk, he⟩ := List.mem_iff_getElem.1 hx
 exact Lib.indexByte_none h k (by rw [List.getElem?_eq_getElem hk, he])
theorem ixb_first : ∀ {l : List UInt8} {c : UInt8} {i : Nat}, Lib.indexByte l c = i → (∀ x ∈ l.take i, x ≠ c) ∧ l[i]? = some c
 | [], c, i, h => by simp [Lib.indexByte] at h
 | x :: l, c, i, h => by
   rw [Lib.indexByte] at h
   by_cases hx : x = c
   · have : i = 0 := by simp [hx] at h; omega
     subst this
     exact ⟨by simp, by simp [hx]⟩
   · have hx2 : (x == c) = false := by simpa using hx
     simp only [hx2, Bool.false_eq_true, if_false] at h
     split at h
     · omega
     · obtain ⟨j, rfl⟩ : ∃ j, i = j + 1 := by
         refine ⟨i - 1, ?_⟩
         have : i ≠ 0 := fun e => by
          subst e
          have hn : Lib.indexByte l c = -1 := by omega
          rename_i hne
          exact hne (by simp [hn])
         omega
       obtain ⟨h1, h2⟩ := ixb_first (l := l) (c := c) (i := j) (by omega)
       refine ⟨fun y hy => ?_, by simpa using h2⟩
       rw [List.take_succ_cons] at hy
       rcases List.mem_cons.1 hy with rfl | hy
       · exact hx
       · exact h1 y hy
theorem ext_drop (s : ByteArray) (i : Nat) : bytesN (s.extract i s.size) = (bytesN s).drop i := by
 rw [bytesN_extract, List.take_of_length_le]
 rw [List.length_drop, bytesN_len]
 exact Nat.le_refl _
theorem ext_take (s : ByteArray) (i : Nat) : s.extract 0 i = bytesL ((bytesN s).take i) := by rw [extract_bytesL]; simp
theorem split_eq (m : UInt8) : ∀ (n : Nat) (s : ByteArray), s.size = n → Lib.splitB ⟨#[m]⟩ 0 (Lib.countB s ⟨#[m]⟩) s = (splitN m.toNat (bytesN s)).map bytesL := by
 intro n
 induction n using Nat.strongRecOn with
 | ind n ih =>
   intro s hn
   have hidx : Lib.indexB s ⟨#[m]⟩ = Lib.indexByte s.data.toList m := Lib.index_one _ _
   have hb : bytesN s = s.data.toList.map (·.toNat) := rfl
   rcases Lib.indexB_cases s ⟨#[m]⟩ with h | ⟨i, h, hi⟩
   · rw [Lib.splitB_miss _ _ _ _ h]
     rw [hidx] at h
     rw [splitN_none (fun c hc => by
      rw [hb] at hc
      obtain ⟨x, hx, rfl⟩ := List.mem_map.1 hc
      exact fun e => ixb_miss h x hx (UInt8.toNat.inj e))]
     simp [bytesL_bytesN]
   · have hi : i + 1 ≤ s.size := hi
     rw [Lib.countB_hit s ⟨#[m]⟩ i (Nat.le_refl 1) h, Nat.add_comm, Lib.splitB_hit _ _ _ _ i h]
     have hrec := ih (s.extract (i + 1) s.size).size (by rw [ByteArray.size_extract]; omega) _ rfl
     show s.extract 0 i :: Lib.splitB ⟨#[m]⟩ 0 (Lib.countB (s.extract (i + 1) s.size) ⟨#[m]⟩) (s.extract (i + 1) s.size) = _
     rw [hrec, ext_drop]
     rw [hidx] at h
     obtain ⟨h1, h2⟩ := ixb_first h
     obtain ⟨hl, he⟩ := List.getElem?_eq_some_iff.1 h2
     have e0 : bytesN s = (bytesN s).take i ++ m.toNat :: (bytesN s).drop (i + 1) := by
      have e1 : s.data.toList = s.data.toList.take i ++ m :: s.data.toList.drop (i + 1) := by
       rw [← he, ← List.drop_eq_getElem_cons hl, List.take_append_drop]
      rw [hb, ← List.map_take, ← List.map_drop]
      conv => lhs; rw [e1]
      rw [List.map_append, List.map_cons]
     conv => rhs; rw [e0]
     rw [splitN_hit (fun c hc => by
      rw [hb, ← List.map_take] at hc
      obtain ⟨x, hx, rfl⟩ := List.mem_map.1 hc
      exact fun e => h1 x hx (UInt8.toNat.inj e)), List.map_cons, ext_take]
theorem splitP_any (m : UInt8) (s : ByteArray) (w : World) (hM : MaxT w) (hs : s.size ≤ 1000000) :
    Calls Tryz.prog 116 #[.string s, .string ⟨#[m]⟩] w fun e w' => ∃ v, e = .returned v ∧ w'.ownsRow w.heap.size 9 1 v (splitN m.toNat (bytesN s)).length (strV ((splitN m.toNat (bytesN s)).map bytesL)) ∧ Below w.heap.size w w' := by
 obtain ⟨hm1, mm, hm2⟩ := hM
 have hseg := split_eq m s.size s rfl
 have hsl := Lib.splitB_all ⟨#[m]⟩ (Nat.le_refl 1) 0 _ s rfl
 have K := Tryz.strings_Split s ⟨#[m]⟩ mm w (by omega) hm2 (Nat.le_refl 1)
 rw [hseg] at hsl K
 rw [List.length_map] at hsl
 rw [← hsl] at K
 refine K.mono ?_
 rintro e w' ⟨rfl, rfl⟩
 refine ⟨_, rfl, ?_, ext_alloc (Below.refl _ _) _⟩
 have hcl := Lib.countB_le ⟨#[m]⟩ (Nat.le_refl 1) s.size s (Nat.le_refl _)
 exact World.ownsRow_lit w ((splitN m.toNat (bytesN s)).map bytesL |>.map Value.string).toArray _ (Nat.le_refl _) (by rw [hsl]; simp [maxLen]; omega) (by simp)
end
end Go.Proofs.YtbeodjipdpcaiaaGreatDoor
namespace Go.Proofs.YtbeodjipdpcaiaaGreatDoor
section
open Go.RowKit
structure WrAt10 (n : Nat) (w : World) (r : Nat) (arr : Array Value) (wr : World) : Prop where
 box : wr.heap[w.heap.size]? = some (.cells arr 250 (0, 0))
 size : arr.size = 64
 below : Below w.heap.size w wr
 dig : ∀ j, j < r → arr[63 - j]? = some (.int .u8 ((48 + n / 10 ^ j % 10 : Nat) : Int))
def WrRel10 (n : Nat) (w : World) (nv av : Value) (wr : World) : Prop := ∃ (r a : Nat) (arr : Array Value), nv = .int .u64 ((n / 10 ^ r : Nat) : Int) ∧ av = .int .i64 (a : Nat) ∧ a + r = 64 ∧ r ≤ lenD n ∧ WrAt10 n w r arr wr
theorem WrAt10.step {n r a : Nat} {w wr : World} {arr : Array Value} (h : WrAt10 n w r arr wr) (ha : a + 1 + r = 64) (hr : r < lenD n) : WrRel10 n w (.int .u64 ((n / 10 ^ r / 10 : Nat) : Int)) (.int .i64 (a : Nat)) (wr.setCell ⟨w.heap.size, a, none⟩ (.int .u8 ((48 + n / 10 ^ r % 10 : Nat) : Int))) := by
 have hs := h.size
 have hb := Go.Joins.block_setCell h.box (i := a) (.int .u8 ((48 + n / 10 ^ r % 10 : Nat) : Int))
 refine ⟨r + 1, a, _, by rw [Nat.pow_succ, Nat.div_div_eq_div_mul], rfl, by omega, hr, ⟨hb, by simp [hs], h.below.setCell (Nat.le_refl _) _, fun j hj => ?_⟩⟩
 rw [Array.getElem?_setIfInBounds]
 by_cases e : j = r
 · subst e
   rw [if_pos (by omega), if_pos (by omega)]
 · rw [if_neg (by omega)]
   exact h.dig j (by omega)
theorem written10_any (n : Nat) (w : World) (hn : n < 18446744073709551616) :
    Calls Tryz.prog 180 #[.int .u64 n, .int .u64 10, .int .i64 1] w fun e w' => e = .returned (.string (decB n)) ∧ Below w.heap.size w w' := by
 have HL := hid (lenD_iff n)
 have HP := hid (lenD_pos n)
 have HX := hid (lenD_le hn)
 have HN := hid hn
 clear hn
 go_enter Tryz.func180, Tryz.ntmps180
 go_wp2_with fail
 go_loopw [0, 8] (WrRel10 n w) (fun _ a _ => (intOf a).toNat)
 case atStart => exact ⟨0, 64, _, by simp, rfl, rfl, Nat.zero_le _, ⟨heap_alloc_new w _, rfl, ext_alloc (Below.refl _ _) _, fun j h => by omega⟩⟩
 case round =>
  obtain ⟨r, a, arr, rfl, rfl, har, hr, hA⟩ := hrel
  have hL := (Array.getElem?_eq_some_iff.1 hA.box).1
  have HA := hid hA
  have HDL : Hid (decB n = decS (lenD n) n) := hid rfl
  obtain ⟨m, hm⟩ : ∃ m, n / 10 ^ r = m := ⟨_, rfl⟩
  have hm64 : m < 18446744073709551616 := by
   have := Nat.div_le_self n (10 ^ r)
   have := HN.out
   omega
  by_cases hgo : r < lenD n
  · -- one more digit
    obtain ⟨S, hS⟩ : ∃ S : ByteArray, (⟨#[48, 49, 50, 51, 52, 53, 54, 55, 56, 57, 65, 66, 67, 68, 69, 70]⟩ : ByteArray) = S := ⟨_, rfl⟩
    have hzS : S.size = 16 := by rw [← hS]; rfl
    have hgt : ∀ d (h : d < S.size), d < 10 → (S[d]'h).toNat = 48 + d := by
     subst hS
     intro d h h10
     revert h
     have hj : d = 0 ∨ d = 1 ∨ d = 2 ∨ d = 3 ∨ d = 4 ∨ d = 5 ∨ d = 6 ∨ d = 7 ∨ d = 8 ∨ d = 9 := by omega
     rcases hj with rfl | rfl | rfl | rfl | rfl | rfl | rfl | rfl | rfl | rfl <;> exact fun _ => rfl
    have hr20 := Nat.lt_of_lt_of_le hgo HX.out
    obtain ⟨b, rfl⟩ : ∃ b, a = b + 1 := ⟨a - 1, by omega⟩
    have HST := hA.step (a := b) har hgo
    rw [hm] at HST ⊢
    rw [hS]
    obtain ⟨d, hd⟩ : ∃ d, m % 10 = d := ⟨_, rfl⟩
    obtain ⟨p, hp⟩ : ∃ p, m / 10 = p := ⟨_, rfl⟩
    rw [hd, hp] at HST
    have hd10 : d < 10 := by omega
    have tm : (m : Int).tmod 10 = (d : Int) := by rw [Int.tmod_eq_emod_of_nonneg (by omega)]; omega
    have td : (m : Int).tdiv 10 = (p : Int) := by rw [Int.tdiv_eq_ediv_of_nonneg (by omega)]; omega
    have wr0 : IntKind.u64.wrap (p : Int) = (p : Int) := IntWalk.u64_in _ (by omega)
    have hi1 : d < S.size := by omega
    have hgx := hgt d hi1 hd10
    obtain ⟨x, hx⟩ : ∃ x, wr.cell? ⟨w.heap.size, b, none⟩ = some x := by
     have hs := hA.size
     exact ⟨arr[b], by simp [World.cell?, hA.box, Array.getElem?_eq_getElem (show b < arr.size by omega)]⟩
    have hf : wr.frozen? ⟨w.heap.size, b, none⟩ = false := Go.Joins.unfrozen_of_block hA.box b
    have hb64 : b < 64 := by omega
    have hrm : r = 0 → m = n := fun e => by rw [e] at hm; simpa using hm.symm
    have hm0 : m = 0 → r = 0 := fun e => by
     refine Nat.le_zero.1 (Nat.le_of_not_lt fun h => ?_)
     have := (HL.out r h).2 (by rw [hm, e])
     omega
    have HST := hid HST
    have HG := hid hgx
    have HGT := hid hgt
    by_cases h0 : m = 0
    · have hb63 : b = 63 := by have := hm0 h0; omega
      have t1 : decide ((0 : Int) < (m : Int)) = false := dcF (by omega)
      have t1' : decide (0 < m) = false := dcF (by omega)
      subst hb63
      have HM0 := hid h0
      have HR := hid har
      clear hgx hgt hA hm hd hp hS hrm hm0 h0 har hgo hr
      go_wp2
      rw [HG.out]
      refine ⟨?_, by simp [intOf]⟩
      first | exact HST.out | ((repeat apply Exists.intro); exact ⟨HST.out, rfl⟩)
    · have t1 : decide ((0 : Int) < (m : Int)) = true := dcT (by omega)
      have t1' : decide (0 < m) = true := dcT (by omega)
      have HR := hid har
      clear hgx hgt hA hm hd hp hS hrm hm0 h0 har hgo hr
      go_wp2
      rw [HG.out]
      refine ⟨?_, by simp [intOf]⟩
      first | exact HST.out | ((repeat apply Exists.intro); exact ⟨HST.out, rfl⟩)
  · have hre : r = lenD n := by omega
    have hp1 := HP.out
    have hm0 : m = 0 := by rw [← hm]; exact (HL.out r (by omega)).1 (by omega)
    have hr20 := HX.out
    rw [hm]
    subst hm0
    have cv := bytes_back wr w.heap.size a r r (decS r n) (decS_size r n) (fun j hj => by
     rw [decS_at hj]
     have := hA.dig (r - 1 - j) (by omega)
     rw [show 63 - (r - 1 - j) = a + j by omega] at this
     simp [World.cell?, hA.box, this])
    have HB := hid hA.below
    have HRE := hid hre
    have hr1 : 1 ≤ r := by omega
    have t2 : decide ((64 : Int) - (a : Int) < 1) = false := dcF (by omega)
    have h64 : 64 - a = r := by omega
    have hac : ¬ 64 = a := by omega
    have ha1 : a ≤ 64 := by omega
    have ha2 : (a : Int) ≤ 64 := by omega
    obtain ⟨X, hX⟩ : ∃ X, decS r n = X := ⟨_, rfl⟩
    rw [hX] at cv
    have HX2 : Hid (decB n = X) := hid (by rw [HDL.out, ← hre, hX])
    clear hA hm hre hgo hp1 hr20 hX HDL har hr
    go_wp2
    go_ret
    exact ⟨by rw [HX2.out]; rfl, HB.out⟩
theorem digits_dec (n : Nat) (w : World) (hn : n < 18446744073709551616) : Calls Tryz.prog 112 #[.int .u64 n] w fun e w' => e = .returned (.string (decB n)) ∧ Below w.heap.size w w' := by
 have HW := hid (written10_any n w hn)
 clear hn
 go_enter Tryz.func112, Tryz.ntmps112
 go_wp2_with fail
 refine HW.out.mono ?_
 rintro e w1 ⟨rfl, hb⟩
 have HB := hid hb
 clear hb
 go_wp2
 go_ret
 exact ⟨rfl, HB.out⟩
end
section
open Go.RowKit
structure WrAt16 (n : Nat) (w : World) (r : Nat) (arr : Array Value) (wr : World) : Prop where
 box : wr.heap[w.heap.size]? = some (.cells arr 250 (0, 0))
 size : arr.size = 64
 below : Below w.heap.size w wr
 dig : ∀ j, j < r → arr[63 - j]? = some (.int .u8 ((hexU (n / 16 ^ j % 16) : Nat) : Int))
def WrRel16 (n : Nat) (w : World) (nv av : Value) (wr : World) : Prop := ∃ (r a : Nat) (arr : Array Value), nv = .int .u64 ((n / 16 ^ r : Nat) : Int) ∧ av = .int .i64 (a : Nat) ∧ a + r = 64 ∧ r ≤ lenH n ∧ WrAt16 n w r arr wr
theorem WrAt16.step {n r a : Nat} {w wr : World} {arr : Array Value} (h : WrAt16 n w r arr wr) (ha : a + 1 + r = 64) (hr : r < lenH n) : WrRel16 n w (.int .u64 ((n / 16 ^ r / 16 : Nat) : Int)) (.int .i64 (a : Nat)) (wr.setCell ⟨w.heap.size, a, none⟩ (.int .u8 ((hexU (n / 16 ^ r % 16) : Nat) : Int))) := by
 have hs := h.size
 have hb := Go.Joins.block_setCell h.box (i := a) (.int .u8 ((hexU (n / 16 ^ r % 16) : Nat) : Int))
 refine ⟨r + 1, a, _, by rw [Nat.pow_succ, Nat.div_div_eq_div_mul], rfl, by omega, hr, ⟨hb, by simp [hs], h.below.setCell (Nat.le_refl _) _, fun j hj => ?_⟩⟩
 rw [Array.getElem?_setIfInBounds]
 by_cases e : j = r
 · subst e
   rw [if_pos (by omega), if_pos (by omega)]
 · rw [if_neg (by omega)]
   exact h.dig j (by omega)
theorem written16_any (n : Nat) (w : World) (hn : n < 65536) :
    Calls Tryz.prog 180 #[.int .u64 n, .int .u64 16, .int .i64 1] w fun e w' => e = .returned (.string (hexB6 n)) ∧ Below w.heap.size w w' := by
 have HL := hid (lenH_iff n)
 have HP := hid (lenH_pos n)
 have HX := hid (lenH_le hn)
 have HN := hid hn
 clear hn
 go_enter Tryz.func180, Tryz.ntmps180
 go_wp2_with fail
 go_loopw [0, 8] (WrRel16 n w) (fun _ a _ => (intOf a).toNat)
 case atStart => exact ⟨0, 64, _, by simp, rfl, rfl, Nat.zero_le _, ⟨heap_alloc_new w _, rfl, ext_alloc (Below.refl _ _) _, fun j h => by omega⟩⟩
 case round =>
  obtain ⟨r, a, arr, rfl, rfl, har, hr, hA⟩ := hrel
  have hL := (Array.getElem?_eq_some_iff.1 hA.box).1
  have HA := hid hA
  have HDL : Hid (hexB6 n = hexS6 (lenH n) n) := hid rfl
  obtain ⟨m, hm⟩ : ∃ m, n / 16 ^ r = m := ⟨_, rfl⟩
  have hm64 : m < 18446744073709551616 := by
   have := Nat.div_le_self n (16 ^ r)
   have := HN.out
   omega
  by_cases hgo : r < lenH n
  · -- one more digit
    obtain ⟨S, hS⟩ : ∃ S : ByteArray, (⟨#[48, 49, 50, 51, 52, 53, 54, 55, 56, 57, 65, 66, 67, 68, 69, 70]⟩ : ByteArray) = S := ⟨_, rfl⟩
    have hzS : S.size = 16 := by rw [← hS]; rfl
    have hgt : ∀ d (h : d < S.size), d < 16 → (S[d]'h).toNat = hexU d := by
     subst hS
     intro d h h10
     revert h
     have hj : d = 0 ∨ d = 1 ∨ d = 2 ∨ d = 3 ∨ d = 4 ∨ d = 5 ∨ d = 6 ∨ d = 7 ∨ d = 8 ∨ d = 9 ∨ d = 10 ∨ d = 11 ∨ d = 12 ∨ d = 13 ∨ d = 14 ∨ d = 15 := by omega
     rcases hj with rfl | rfl | rfl | rfl | rfl | rfl | rfl | rfl | rfl | rfl | rfl | rfl | rfl | rfl | rfl | rfl <;> exact fun _ => rfl
    have hr20 := Nat.lt_of_lt_of_le hgo HX.out
    obtain ⟨b, rfl⟩ : ∃ b, a = b + 1 := ⟨a - 1, by omega⟩
    have HST := hA.step (a := b) har hgo
    rw [hm] at HST ⊢
    rw [hS]
    obtain ⟨d, hd⟩ : ∃ d, m % 16 = d := ⟨_, rfl⟩
    obtain ⟨p, hp⟩ : ∃ p, m / 16 = p := ⟨_, rfl⟩
    rw [hd, hp] at HST
    have hd10 : d < 16 := by omega
    have tm : (m : Int).tmod 16 = (d : Int) := by rw [Int.tmod_eq_emod_of_nonneg (by omega)]; omega
    have td : (m : Int).tdiv 16 = (p : Int) := by rw [Int.tdiv_eq_ediv_of_nonneg (by omega)]; omega
    have wr0 : IntKind.u64.wrap (p : Int) = (p : Int) := IntWalk.u64_in _ (by omega)
    have hi1 : d < S.size := by omega
    have hgx := hgt d hi1 hd10
    obtain ⟨x, hx⟩ : ∃ x, wr.cell? ⟨w.heap.size, b, none⟩ = some x := by
     have hs := hA.size
     exact ⟨arr[b], by simp [World.cell?, hA.box, Array.getElem?_eq_getElem (show b < arr.size by omega)]⟩
    have hf : wr.frozen? ⟨w.heap.size, b, none⟩ = false := Go.Joins.unfrozen_of_block hA.box b
    have hb64 : b < 64 := by omega
    have hrm : r = 0 → m = n := fun e => by rw [e] at hm; simpa using hm.symm
    have hm0 : m = 0 → r = 0 := fun e => by
     refine Nat.le_zero.1 (Nat.le_of_not_lt fun h => ?_)
     have := (HL.out r h).2 (by rw [hm, e])
     omega
    have HST := hid HST
    have HG := hid hgx
    have HGT := hid hgt
    by_cases h0 : m = 0
    · have hb63 : b = 63 := by have := hm0 h0; omega
      have t1 : decide ((0 : Int) < (m : Int)) = false := dcF (by omega)
      have t1' : decide (0 < m) = false := dcF (by omega)
      subst hb63
      have HM0 := hid h0
      have HR := hid har
      clear hgx hgt hA hm hd hp hS hrm hm0 h0 har hgo hr
      go_wp2
      rw [HG.out]
      refine ⟨?_, by simp [intOf]⟩
      first | exact HST.out | ((repeat apply Exists.intro); exact ⟨HST.out, rfl⟩)
    · have t1 : decide ((0 : Int) < (m : Int)) = true := dcT (by omega)
      have t1' : decide (0 < m) = true := dcT (by omega)
      have HR := hid har
      clear hgx hgt hA hm hd hp hS hrm hm0 h0 har hgo hr
      go_wp2
      rw [HG.out]
      refine ⟨?_, by simp [intOf]⟩
      first | exact HST.out | ((repeat apply Exists.intro); exact ⟨HST.out, rfl⟩)
  · have hre : r = lenH n := by omega
    have hp1 := HP.out
    have hm0 : m = 0 := by rw [← hm]; exact (HL.out r (by omega)).1 (by omega)
    have hr20 := HX.out
    rw [hm]
    subst hm0
    have cv := bytes_back wr w.heap.size a r r (hexS6 r n) (hexS6_size r n) (fun j hj => by
     rw [hexS6_at hj]
     have := hA.dig (r - 1 - j) (by omega)
     rw [show 63 - (r - 1 - j) = a + j by omega] at this
     simp [World.cell?, hA.box, this])
    have HB := hid hA.below
    have HRE := hid hre
    have hr1 : 1 ≤ r := by omega
    have t2 : decide ((64 : Int) - (a : Int) < 1) = false := dcF (by omega)
    have h64 : 64 - a = r := by omega
    have hac : ¬ 64 = a := by omega
    have ha1 : a ≤ 64 := by omega
    have ha2 : (a : Int) ≤ 64 := by omega
    obtain ⟨X, hX⟩ : ∃ X, hexS6 r n = X := ⟨_, rfl⟩
    rw [hX] at cv
    have HX2 : Hid (hexB6 n = X) := hid (by rw [HDL.out, ← hre, hX])
    clear hA hm hre hgo hp1 hr20 hX HDL har hr
    go_wp2
    go_ret
    exact ⟨by rw [HX2.out]; rfl, HB.out⟩
end
end Go.Proofs.YtbeodjipdpcaiaaGreatDoor
