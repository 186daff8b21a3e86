/- The walk of the document's answer in words. -/
import Derived.Test.YtjbbpmjbohedkaaDoorPick2
namespace Go.Proofs.YtjbbpmjbohedkaaDoor
open Go.RowKit
def tailB : List ByteArray → ByteArray
  | [] => bs []
  | s :: ss => (bs [32] ++ s) ++ tailB ss
theorem map_get (l : List ByteArray) (k : Nat) (x : ByteArray) (hx : l[k]? = some x) (h : k < (l.map Value.string).length) : (l.map Value.string)[k] = .string x := by
  simp only [List.getElem_map]
  obtain ⟨_, e⟩ := List.getElem?_eq_some_iff.1 hx
  rw [e]
theorem bs_nil (s : ByteArray) : s ++ bs [] = s := by apply ByteArray.ext; simp [bs]
theorem nil_bs (s : ByteArray) : bs [] ++ s = s := by apply ByteArray.ext; simp [bs]
theorem tailB_snoc (s : ByteArray) : ∀ l : List ByteArray, tailB (l ++ [s]) = tailB l ++ (bs [32] ++ s)
  | [] => by simp only [List.nil_append, tailB]; rw [bs_nil, nil_bs]
  | x :: l => by simp only [List.cons_append, tailB]; rw [tailB_snoc s l]; simp [ByteArray.append_assoc]
def outB (f : ByteArray) (ss : List ByteArray) (j : Nat) : ByteArray := f ++ tailB (ss.take j)
theorem outB_zero (f : ByteArray) (ss : List ByteArray) : outB f ss 0 = f := by simp only [outB, List.take_zero, tailB]; rw [bs_nil]
theorem outB_succ (f : ByteArray) (ss : List ByteArray) (j : Nat) (x : ByteArray) (h : ss[j]? = some x) : outB f ss (j + 1) = outB f ss j ++ ({ data := #[32] } ++ x) := by
  simp only [outB, List.take_add_one, h, Option.toList_some, tailB_snoc]; rw [ByteArray.append_assoc]; rfl
theorem outB_all (f : ByteArray) (ss : List ByteArray) (j : Nat) (h : ss.length ≤ j) : outB f ss j = f ++ tailB ss := by simp only [outB, List.take_of_length_le h]
def lensB (ss : List ByteArray) : Nat := (ss.map (fun s => s.size + 1)).sum
theorem tailB_size : ∀ ss : List ByteArray, (tailB ss).size = lensB ss
  | [] => rfl
  | s :: ss => by simp only [tailB, lensB, List.map_cons, List.sum_cons, ByteArray.size_append]; have := tailB_size ss; simp only [lensB] at this; rw [this]; have : (bs [32]).size = 1 := rfl; omega
theorem lensB_take (ss : List ByteArray) (j : Nat) : lensB (ss.take j) ≤ lensB ss := by
  have : ss = ss.take j ++ ss.drop j := (List.take_append_drop j ss).symm
  conv => rhs; rw [this]
  simp only [lensB, List.map_append, List.sum_append]; omega
theorem lensB_mem (ss : List ByteArray) (j : Nat) (x : ByteArray) (h : ss[j]? = some x) : x.size ≤ lensB ss := by
  obtain ⟨hj, e⟩ := List.getElem?_eq_some_iff.1 h
  have : ss = ss.take j ++ ss[j] :: ss.drop (j + 1) := by rw [List.getElem_cons_drop]; exact (List.take_append_drop j ss).symm
  rw [e] at this
  conv => rhs; rw [this]
  simp only [lensB, List.map_append, List.map_cons, List.sum_append, List.sum_cons]; omega
theorem outB_size (f : ByteArray) (ss : List ByteArray) (j : Nat) : (outB f ss j).size ≤ f.size + lensB ss := by
  have := lensB_take ss j
  simp only [outB, ByteArray.size_append, tailB_size]; omega
def WordsRel (ss : List ByteArray) (f : ByteArray) (o i : Value) : Prop := ∃ j : Nat, i = .int .i64 j ∧ j ≤ ss.length ∧ o = .string (outB f ss j)
theorem kinds_get (k : Nat) (x : ByteArray) (h : ([bs [114, 101, 106, 101, 99, 116], bs [98, 114, 111, 119, 115, 101, 114], bs [111, 112, 101, 110], bs [99, 104, 111, 111, 115, 101]])[k]? = some x) : wordB kindsL (k + 1) = x ∧ x.size ≤ 20 := by
  obtain ⟨hk, _⟩ := List.getElem?_eq_some_iff.1 h
  have hk : k < 4 := hk
  have := wordB_size kindsL (k + 1) (by decide)
  rcases (by omega : k = 0 ∨ k = 1 ∨ k = 2 ∨ k = 3) with rfl | rfl | rfl | rfl <;> (cases h; exact ⟨rfl, this⟩)
theorem reasons_get (k : Nat) (x : ByteArray) (h : ([bs [117, 114, 108], bs [117, 115, 101, 114], bs [104, 111, 115, 116], bs [110, 111, 98, 111, 100, 121], bs [117, 110, 107, 110, 111, 119, 110], bs [114, 117, 108, 101, 115], bs [111, 102, 102], bs [111, 110, 101], bs [115, 101, 118, 101, 114, 97, 108]])[k]? = some x) : wordB reasonsL (k + 1) = x ∧ x.size ≤ 20 := by
  obtain ⟨hk, _⟩ := List.getElem?_eq_some_iff.1 h
  have hk : k < 9 := hk
  have := wordB_size reasonsL (k + 1) (by decide)
  rcases (by omega : k = 0 ∨ k = 1 ∨ k = 2 ∨ k = 3 ∨ k = 4 ∨ k = 5 ∨ k = 6 ∨ k = 7 ∨ k = 8) with rfl | rfl | rfl | rfl | rfl | rfl | rfl | rfl | rfl <;> (cases h; exact ⟨rfl, this⟩)
theorem wordB_out (ss : List ByteArray) (n : Int) (h : ¬ (1 ≤ n ∧ n < ss.length)) : wordB ss n = { data := #[63] } := if_neg h

set_option maxHeartbeats 1600000 in
theorem rwords_ii (v : Value) (ss : List ByteArray) (k : Nat) (hk : k < 4) (r : Nat) (hr : r < 9) (w : World) (hs : Rd (Own w) w v (strsD ss)) (hl : ss.length ≤ 2000000) (hlen : lensB ss ≤ 140737488355328) :
    Calls Tryd.prog 16 #[.agg #[.int .i64 ((k : Int) + 1), v, .int .i64 ((r : Int) + 1)]] w fun e w' => e = .returned (.string (firstB ((k : Int) + 1) ((r : Int) + 1) ++ tailB ss)) ∧ Below w.heap.size w w' := by
  obtain ⟨a, c, rfl, hac, hnc, hc⟩ := hs.strs_inv
  obtain ⟨x, hx⟩ := get_ex [bs [114, 101, 106, 101, 99, 116], bs [98, 114, 111, 119, 115, 101, 114], bs [111, 112, 101, 110], bs [99, 104, 111, 111, 115, 101]] k hk
  have E1 : ([.string { data := #[114, 101, 106, 101, 99, 116] }, .string { data := #[98, 114, 111, 119, 115, 101, 114] }, .string { data := #[111, 112, 101, 110] }, .string { data := #[99, 104, 111, 111, 115, 101] }] : List Value)[k]'(by simpa using hk) = .string x := map_get [bs [114, 101, 106, 101, 99, 116], bs [98, 114, 111, 119, 115, 101, 114], bs [111, 112, 101, 110], bs [99, 104, 111, 111, 115, 101]] k x hx _
  obtain ⟨ex, z1⟩ := kinds_get k x hx
  obtain ⟨y, hy⟩ := get_ex [bs [117, 114, 108], bs [117, 115, 101, 114], bs [104, 111, 115, 116], bs [110, 111, 98, 111, 100, 121], bs [117, 110, 107, 110, 111, 119, 110], bs [114, 117, 108, 101, 115], bs [111, 102, 102], bs [111, 110, 101], bs [115, 101, 118, 101, 114, 97, 108]] r hr
  have E2 : ([.string { data := #[117, 114, 108] }, .string { data := #[117, 115, 101, 114] }, .string { data := #[104, 111, 115, 116] }, .string { data := #[110, 111, 98, 111, 100, 121] }, .string { data := #[117, 110, 107, 110, 111, 119, 110] }, .string { data := #[114, 117, 108, 101, 115] }, .string { data := #[111, 102, 102] }, .string { data := #[111, 110, 101] }, .string { data := #[115, 101, 118, 101, 114, 97, 108] }] : List Value)[r]'(by simpa using hr) = .string y := map_get [bs [117, 114, 108], bs [117, 115, 101, 114], bs [104, 111, 115, 116], bs [110, 111, 98, 111, 100, 121], bs [117, 110, 107, 110, 111, 119, 110], bs [114, 117, 108, 101, 115], bs [111, 102, 102], bs [111, 110, 101], bs [115, 101, 118, 101, 114, 97, 108]] r y hy _
  obtain ⟨ey, z2⟩ := reasons_get r y hy
  have ef : firstB ((k : Int) + 1) ((r : Int) + 1) = (x ++ ({ data := #[58] } ++ y)) := by
    unfold firstB; rw [ex, ey]; rw [ByteArray.append_assoc]; rfl
  have zf : (x ++ ({ data := #[58] } ++ y)).size ≤ 50 := by
    have e1 : ({ data := #[58] } : ByteArray).size = 1 := rfl
    have e2 : ({ data := #[63] } : ByteArray).size = 1 := rfl
    have e3 : ({ data := #[58, 63] } : ByteArray).size = 2 := rfl
    simp only [ByteArray.size_append]; omega
  have zo : ∀ j, (outB (x ++ ({ data := #[58] } ++ y)) ss j).size ≤ 50 + lensB ss := fun j => Nat.le_trans (outB_size _ ss j) (by omega)
  have zm : ∀ (j : Nat) z, ss[j]? = some z → z.size ≤ lensB ss := fun j z h => lensB_mem ss j z h
  have EF := Lib.hid ef
  have ZO := Lib.hid zo
  have ZM := Lib.hid zm
  have HC := Lib.hid hc
  have HAC := Lib.hid hac
  clear ef zf zo zm hc hac ex ey hx hy
  go_enter Tryd.func16, Tryd.ntmps16
  go_wp2
  go_loop [5, 6] (WordsRel ss (x ++ ({ data := #[58] } ++ y))) (fun _ i => ss.length - (intOf i).toNat)
  case atStart => exact ⟨0, rfl, Nat.zero_le _, by rw [outB_zero]⟩
  case round =>
    obtain ⟨j, rfl, hj, rfl⟩ := hrel
    by_cases hlt : j < ss.length
    · obtain ⟨b, off, rfl, hb, hc⟩ := HC.out (by omega)
      obtain ⟨z, hz⟩ := get_ex ss j hlt
      have q1 := hc j z hz
      have q2 := ZO.out j
      have q3 := ZM.out j z hz
      have R : WordsRel ss (x ++ ({ data := #[58] } ++ y)) (.string (outB (x ++ ({ data := #[58] } ++ y)) ss j ++ ({ data := #[32] } ++ z))) (.int .i64 (j + 1)) := ⟨j + 1, by go_num, by omega, by rw [outB_succ _ _ _ _ hz]⟩
      have hb' : b < w.heap.size := hb
      have hb1 : b < w.heap.size + 1 := by omega
      have hb2 : b < w.heap.size + 1 + 1 := by omega
      clear hc hz hb
      generalize outB (x ++ ({ data := #[58] } ++ y)) ss j = o at *
      have HR := Lib.hid R; clear R
      go_wp2
      refine ⟨?_, by simp [intOf]; omega⟩
      have R := HR.out
      first | exact R | ((repeat apply Exists.intro); exact ⟨R, rfl⟩)
    · have e := outB_all (x ++ ({ data := #[58] } ++ y)) ss j (by omega)
      have E := Lib.hid e; clear e
      generalize outB (x ++ ({ data := #[58] } ++ y)) ss j = o at *
      go_wp2
      go_ret
      exact ⟨by rw [EF.out, ← E.out]; rfl, (((Below.refl _ _).alloc (Nat.le_refl _) _).alloc (by simp) _).alloc (by simp; omega) _⟩

set_option maxHeartbeats 1600000 in
theorem rwords_io (v : Value) (ss : List ByteArray) (k : Nat) (hk : k < 4) (r : Int) (hr : r < 1 ∨ 9 < r) (w : World) (hs : Rd (Own w) w v (strsD ss)) (hl : ss.length ≤ 2000000) (hlen : lensB ss ≤ 140737488355328) :
    Calls Tryd.prog 16 #[.agg #[.int .i64 ((k : Int) + 1), v, .int .i64 r]] w fun e w' => e = .returned (.string (firstB ((k : Int) + 1) r ++ tailB ss)) ∧ Below w.heap.size w w' := by
  obtain ⟨a, c, rfl, hac, hnc, hc⟩ := hs.strs_inv
  obtain ⟨x, hx⟩ := get_ex [bs [114, 101, 106, 101, 99, 116], bs [98, 114, 111, 119, 115, 101, 114], bs [111, 112, 101, 110], bs [99, 104, 111, 111, 115, 101]] k hk
  have E1 : ([.string { data := #[114, 101, 106, 101, 99, 116] }, .string { data := #[98, 114, 111, 119, 115, 101, 114] }, .string { data := #[111, 112, 101, 110] }, .string { data := #[99, 104, 111, 111, 115, 101] }] : List Value)[k]'(by simpa using hk) = .string x := map_get [bs [114, 101, 106, 101, 99, 116], bs [98, 114, 111, 119, 115, 101, 114], bs [111, 112, 101, 110], bs [99, 104, 111, 111, 115, 101]] k x hx _
  obtain ⟨ex, z1⟩ := kinds_get k x hx
  have ey := wordB_out reasonsL r (by show ¬ (1 ≤ r ∧ r < (10 : Int)); omega)
  have ef : firstB ((k : Int) + 1) r = (x ++ { data := #[58, 63] }) := by
    unfold firstB; rw [ex, ey]; rw [ByteArray.append_assoc]; rfl
  have zf : (x ++ { data := #[58, 63] }).size ≤ 50 := by
    have e1 : ({ data := #[58] } : ByteArray).size = 1 := rfl
    have e2 : ({ data := #[63] } : ByteArray).size = 1 := rfl
    have e3 : ({ data := #[58, 63] } : ByteArray).size = 2 := rfl
    simp only [ByteArray.size_append]; omega
  have zo : ∀ j, (outB (x ++ { data := #[58, 63] }) ss j).size ≤ 50 + lensB ss := fun j => Nat.le_trans (outB_size _ ss j) (by omega)
  have zm : ∀ (j : Nat) z, ss[j]? = some z → z.size ≤ lensB ss := fun j z h => lensB_mem ss j z h
  have EF := Lib.hid ef
  have ZO := Lib.hid zo
  have ZM := Lib.hid zm
  have HC := Lib.hid hc
  have HAC := Lib.hid hac
  clear ef zf zo zm hc hac ex ey hx
  rcases hr with hr | hr
  all_goals
    go_enter Tryd.func16, Tryd.ntmps16
    go_wp2
    go_loop [5, 6] (WordsRel ss (x ++ { data := #[58, 63] })) (fun _ i => ss.length - (intOf i).toNat)
    case atStart => exact ⟨0, rfl, Nat.zero_le _, by rw [outB_zero]⟩
    case round =>
      obtain ⟨j, rfl, hj, rfl⟩ := hrel
      by_cases hlt : j < ss.length
      · obtain ⟨b, off, rfl, hb, hc⟩ := HC.out (by omega)
        obtain ⟨z, hz⟩ := get_ex ss j hlt
        have q1 := hc j z hz
        have q2 := ZO.out j
        have q3 := ZM.out j z hz
        have R : WordsRel ss (x ++ { data := #[58, 63] }) (.string (outB (x ++ { data := #[58, 63] }) ss j ++ ({ data := #[32] } ++ z))) (.int .i64 (j + 1)) := ⟨j + 1, by go_num, by omega, by rw [outB_succ _ _ _ _ hz]⟩
        have hb' : b < w.heap.size := hb
        have hb1 : b < w.heap.size + 1 := by omega
        have hb2 : b < w.heap.size + 1 + 1 := by omega
        clear hc hz hb
        generalize outB (x ++ { data := #[58, 63] }) ss j = o at *
        have HR := Lib.hid R; clear R
        go_wp2
        refine ⟨?_, by simp [intOf]; omega⟩
        have R := HR.out
        first | exact R | ((repeat apply Exists.intro); exact ⟨R, rfl⟩)
      · have e := outB_all (x ++ { data := #[58, 63] }) ss j (by omega)
        have E := Lib.hid e; clear e
        generalize outB (x ++ { data := #[58, 63] }) ss j = o at *
        go_wp2
        go_ret
        exact ⟨by rw [EF.out, ← E.out]; rfl, (((Below.refl _ _).alloc (Nat.le_refl _) _).alloc (by simp) _).alloc (by simp; omega) _⟩

set_option maxHeartbeats 1600000 in
theorem rwords_oi (v : Value) (ss : List ByteArray) (k : Int) (hk : k < 1 ∨ 4 < k) (r : Nat) (hr : r < 9) (w : World) (hs : Rd (Own w) w v (strsD ss)) (hl : ss.length ≤ 2000000) (hlen : lensB ss ≤ 140737488355328) :
    Calls Tryd.prog 16 #[.agg #[.int .i64 k, v, .int .i64 ((r : Int) + 1)]] w fun e w' => e = .returned (.string (firstB k ((r : Int) + 1) ++ tailB ss)) ∧ Below w.heap.size w w' := by
  obtain ⟨a, c, rfl, hac, hnc, hc⟩ := hs.strs_inv
  have ex := wordB_out kindsL k (by show ¬ (1 ≤ k ∧ k < (5 : Int)); omega)
  obtain ⟨y, hy⟩ := get_ex [bs [117, 114, 108], bs [117, 115, 101, 114], bs [104, 111, 115, 116], bs [110, 111, 98, 111, 100, 121], bs [117, 110, 107, 110, 111, 119, 110], bs [114, 117, 108, 101, 115], bs [111, 102, 102], bs [111, 110, 101], bs [115, 101, 118, 101, 114, 97, 108]] r hr
  have E2 : ([.string { data := #[117, 114, 108] }, .string { data := #[117, 115, 101, 114] }, .string { data := #[104, 111, 115, 116] }, .string { data := #[110, 111, 98, 111, 100, 121] }, .string { data := #[117, 110, 107, 110, 111, 119, 110] }, .string { data := #[114, 117, 108, 101, 115] }, .string { data := #[111, 102, 102] }, .string { data := #[111, 110, 101] }, .string { data := #[115, 101, 118, 101, 114, 97, 108] }] : List Value)[r]'(by simpa using hr) = .string y := map_get [bs [117, 114, 108], bs [117, 115, 101, 114], bs [104, 111, 115, 116], bs [110, 111, 98, 111, 100, 121], bs [117, 110, 107, 110, 111, 119, 110], bs [114, 117, 108, 101, 115], bs [111, 102, 102], bs [111, 110, 101], bs [115, 101, 118, 101, 114, 97, 108]] r y hy _
  obtain ⟨ey, z2⟩ := reasons_get r y hy
  have ef : firstB k ((r : Int) + 1) = ({ data := #[63] } ++ ({ data := #[58] } ++ y)) := by
    unfold firstB; rw [ex, ey]; rw [ByteArray.append_assoc]; rfl
  have zf : ({ data := #[63] } ++ ({ data := #[58] } ++ y)).size ≤ 50 := by
    have e1 : ({ data := #[58] } : ByteArray).size = 1 := rfl
    have e2 : ({ data := #[63] } : ByteArray).size = 1 := rfl
    have e3 : ({ data := #[58, 63] } : ByteArray).size = 2 := rfl
    simp only [ByteArray.size_append]; omega
  have zo : ∀ j, (outB ({ data := #[63] } ++ ({ data := #[58] } ++ y)) ss j).size ≤ 50 + lensB ss := fun j => Nat.le_trans (outB_size _ ss j) (by omega)
  have zm : ∀ (j : Nat) z, ss[j]? = some z → z.size ≤ lensB ss := fun j z h => lensB_mem ss j z h
  have EF := Lib.hid ef
  have ZO := Lib.hid zo
  have ZM := Lib.hid zm
  have HC := Lib.hid hc
  have HAC := Lib.hid hac
  clear ef zf zo zm hc hac ex ey hy
  rcases hk with hk | hk
  all_goals
    go_enter Tryd.func16, Tryd.ntmps16
    go_wp2
    go_loop [5, 6] (WordsRel ss ({ data := #[63] } ++ ({ data := #[58] } ++ y))) (fun _ i => ss.length - (intOf i).toNat)
    case atStart => exact ⟨0, rfl, Nat.zero_le _, by rw [outB_zero]⟩
    case round =>
      obtain ⟨j, rfl, hj, rfl⟩ := hrel
      by_cases hlt : j < ss.length
      · obtain ⟨b, off, rfl, hb, hc⟩ := HC.out (by omega)
        obtain ⟨z, hz⟩ := get_ex ss j hlt
        have q1 := hc j z hz
        have q2 := ZO.out j
        have q3 := ZM.out j z hz
        have R : WordsRel ss ({ data := #[63] } ++ ({ data := #[58] } ++ y)) (.string (outB ({ data := #[63] } ++ ({ data := #[58] } ++ y)) ss j ++ ({ data := #[32] } ++ z))) (.int .i64 (j + 1)) := ⟨j + 1, by go_num, by omega, by rw [outB_succ _ _ _ _ hz]⟩
        have hb' : b < w.heap.size := hb
        have hb1 : b < w.heap.size + 1 := by omega
        have hb2 : b < w.heap.size + 1 + 1 := by omega
        clear hc hz hb
        generalize outB ({ data := #[63] } ++ ({ data := #[58] } ++ y)) ss j = o at *
        have HR := Lib.hid R; clear R
        go_wp2
        refine ⟨?_, by simp [intOf]; omega⟩
        have R := HR.out
        first | exact R | ((repeat apply Exists.intro); exact ⟨R, rfl⟩)
      · have e := outB_all ({ data := #[63] } ++ ({ data := #[58] } ++ y)) ss j (by omega)
        have E := Lib.hid e; clear e
        generalize outB ({ data := #[63] } ++ ({ data := #[58] } ++ y)) ss j = o at *
        go_wp2
        go_ret
        exact ⟨by rw [EF.out, ← E.out]; rfl, (((Below.refl _ _).alloc (Nat.le_refl _) _).alloc (by simp) _).alloc (by simp; omega) _⟩

set_option maxHeartbeats 1600000 in
theorem rwords_oo (v : Value) (ss : List ByteArray) (k : Int) (hk : k < 1 ∨ 4 < k) (r : Int) (hr : r < 1 ∨ 9 < r) (w : World) (hs : Rd (Own w) w v (strsD ss)) (hl : ss.length ≤ 2000000) (hlen : lensB ss ≤ 140737488355328) :
    Calls Tryd.prog 16 #[.agg #[.int .i64 k, v, .int .i64 r]] w fun e w' => e = .returned (.string (firstB k r ++ tailB ss)) ∧ Below w.heap.size w w' := by
  obtain ⟨a, c, rfl, hac, hnc, hc⟩ := hs.strs_inv
  have ex := wordB_out kindsL k (by show ¬ (1 ≤ k ∧ k < (5 : Int)); omega)
  have ey := wordB_out reasonsL r (by show ¬ (1 ≤ r ∧ r < (10 : Int)); omega)
  have ef : firstB k r = (({ data := #[63] } : ByteArray) ++ { data := #[58, 63] }) := by
    unfold firstB; rw [ex, ey]; rw [ByteArray.append_assoc]; rfl
  have zf : (({ data := #[63] } : ByteArray) ++ { data := #[58, 63] }).size ≤ 50 := by
    have e1 : ({ data := #[58] } : ByteArray).size = 1 := rfl
    have e2 : ({ data := #[63] } : ByteArray).size = 1 := rfl
    have e3 : ({ data := #[58, 63] } : ByteArray).size = 2 := rfl
    simp only [ByteArray.size_append]; omega
  have zo : ∀ j, (outB (({ data := #[63] } : ByteArray) ++ { data := #[58, 63] }) ss j).size ≤ 50 + lensB ss := fun j => Nat.le_trans (outB_size _ ss j) (by omega)
  have zm : ∀ (j : Nat) z, ss[j]? = some z → z.size ≤ lensB ss := fun j z h => lensB_mem ss j z h
  have EF := Lib.hid ef
  have ZO := Lib.hid zo
  have ZM := Lib.hid zm
  have HC := Lib.hid hc
  have HAC := Lib.hid hac
  clear ef zf zo zm hc hac ex ey
  rcases hk with hk | hk <;> rcases hr with hr | hr
  all_goals
    go_enter Tryd.func16, Tryd.ntmps16
    go_wp2
    go_loop [5, 6] (WordsRel ss (({ data := #[63] } : ByteArray) ++ { data := #[58, 63] })) (fun _ i => ss.length - (intOf i).toNat)
    case atStart => exact ⟨0, rfl, Nat.zero_le _, by rw [outB_zero]⟩
    case round =>
      obtain ⟨j, rfl, hj, rfl⟩ := hrel
      by_cases hlt : j < ss.length
      · obtain ⟨b, off, rfl, hb, hc⟩ := HC.out (by omega)
        obtain ⟨z, hz⟩ := get_ex ss j hlt
        have q1 := hc j z hz
        have q2 := ZO.out j
        have q3 := ZM.out j z hz
        have R : WordsRel ss (({ data := #[63] } : ByteArray) ++ { data := #[58, 63] }) (.string (outB (({ data := #[63] } : ByteArray) ++ { data := #[58, 63] }) ss j ++ ({ data := #[32] } ++ z))) (.int .i64 (j + 1)) := ⟨j + 1, by go_num, by omega, by rw [outB_succ _ _ _ _ hz]⟩
        have hb' : b < w.heap.size := hb
        have hb1 : b < w.heap.size + 1 := by omega
        have hb2 : b < w.heap.size + 1 + 1 := by omega
        clear hc hz hb
        generalize outB (({ data := #[63] } : ByteArray) ++ { data := #[58, 63] }) ss j = o at *
        have HR := Lib.hid R; clear R
        go_wp2
        refine ⟨?_, by simp [intOf]; omega⟩
        have R := HR.out
        first | exact R | ((repeat apply Exists.intro); exact ⟨R, rfl⟩)
      · have e := outB_all (({ data := #[63] } : ByteArray) ++ { data := #[58, 63] }) ss j (by omega)
        have E := Lib.hid e; clear e
        generalize outB (({ data := #[63] } : ByteArray) ++ { data := #[58, 63] }) ss j = o at *
        go_wp2
        go_ret
        exact ⟨by rw [EF.out, ← E.out]; rfl, (((Below.refl _ _).alloc (Nat.le_refl _) _).alloc (by simp) _).alloc (by simp; omega) _⟩

theorem rwords_any (v : Value) (ss : List ByteArray) (k r : Int) (w : World) (hs : Rd (Own w) w v (strsD ss)) (hl : ss.length ≤ 2000000) (hlen : lensB ss ≤ 140737488355328) :
    Calls Tryd.prog 16 #[.agg #[.int .i64 k, v, .int .i64 r]] w fun e w' => e = .returned (.string (firstB k r ++ tailB ss)) ∧ Below w.heap.size w w' := by
  by_cases h1 : 1 ≤ k ∧ k ≤ 4
  · obtain ⟨k, rfl⟩ : ∃ k' : Nat, k = k' + 1 := ⟨(k - 1).toNat, by omega⟩
    by_cases h2 : 1 ≤ r ∧ r ≤ 9
    · obtain ⟨r, rfl⟩ : ∃ k' : Nat, r = k' + 1 := ⟨(r - 1).toNat, by omega⟩
      exact rwords_ii v ss k (by omega) r (by omega) w hs hl hlen
    · exact rwords_io v ss k (by omega) r (by omega) w hs hl hlen
  · by_cases h2 : 1 ≤ r ∧ r ≤ 9
    · obtain ⟨r, rfl⟩ : ∃ k' : Nat, r = k' + 1 := ⟨(r - 1).toNat, by omega⟩
      exact rwords_oi v ss k (by omega) r (by omega) w hs hl hlen
    · exact rwords_oo v ss k (by omega) r (by omega) w hs hl hlen
end Go.Proofs.YtjbbpmjbohedkaaDoor
