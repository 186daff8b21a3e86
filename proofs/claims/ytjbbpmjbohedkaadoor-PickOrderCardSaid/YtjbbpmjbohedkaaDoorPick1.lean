/- The walks of the package pick, and of its law's small functions. -/
import Derived.Test.YtjbbpmjbohedkaaDoorRows
import Derived.Test.YtjbbpmjbohedkaaDoorLib0
import Derived.Test.YtjbbpmjbohedkaaDoorShelf
import Derived.Outline
import Derived.WalkLawsBesides
import Derived.WalkSpells
namespace Go.Proofs.YtjbbpmjbohedkaaDoor
open Go.RowKit
theorem elStr : ElemTy Tryd.prog 22 9 1 16 (.string ⟨#[]⟩) := ⟨Tryd.underlying22, by kernel_rfl, rfl, by decide⟩
abbrev strsD (ss : List ByteArray) : Dat := .list 1 (ss.map .str)

def wordB (ss : List ByteArray) (n : Int) : ByteArray := if 1 ≤ n ∧ n < ss.length then ss.getD n.toNat ByteArray.empty else ⟨#[63]⟩

set_option maxHeartbeats 400000 in
theorem word_any {S : Nat → Prop} (v : Value) (ss : List ByteArray) (n : Int) (w : World) (hs : Rd S w v (strsD ss)) :
    Calls Tryd.prog 45 #[v, .int .i64 n] w fun e w' => e = .returned (.string (wordB ss n)) ∧ w = w' := by
  obtain ⟨a, c, rfl, _, _, h⟩ := hs.strs_inv
  by_cases h1 : 1 ≤ n ∧ n < ss.length
  · obtain ⟨k, rfl⟩ : ∃ k : Nat, n = k := ⟨n.toNat, by omega⟩
    obtain ⟨b, off, rfl, hb, hc⟩ := h (by omega)
    obtain ⟨x, hx⟩ := get_ex ss k (by omega)
    have e : wordB ss k = x := by unfold wordB; rw [if_pos h1]; simp [List.getD, hx]
    have E := Lib.hid e; clear e
    obtain ⟨h2, h3⟩ := h1
    have hk := hc k x hx
    clear hx hc
    go_enter Tryd.func45, Tryd.ntmps45
    go_wp2
    go_ret
    rw [E.out]; exact ⟨rfl, rfl⟩
  · have e : wordB ss n = ⟨#[63]⟩ := by unfold wordB; rw [if_neg h1]
    have E := Lib.hid e; clear e h
    go_enter Tryd.func45, Tryd.ntmps45
    go_wp2
    all_goals go_ret
    all_goals (rw [E.out]; exact ⟨rfl, rfl⟩)

def chosenK (n : Nat) : Int := if n = 1 then 3 else 4
def chosenR (n : Nat) : Int := if n = 1 then 8 else 9

set_option maxHeartbeats 400000 in
theorem chosen_any (a : Option Addr) (n c : Nat) (w : World) :
    Calls Tryd.prog 42 #[.slice a n c] w fun e w' => e = .returned (.agg #[.int .i64 (chosenK n), .slice a n c, .int .i64 (chosenR n)]) ∧ Below w.heap.size w w' := by
  by_cases h : n = 1
  · subst h
    go_enter Tryd.func42, Tryd.ntmps42
    go_wp2
    exact bodyPost_ret (v := .agg #[.int .i64 3, .slice a 1 c, .int .i64 8]) (by simp [results, Tryd.results42, go_sem]) rfl ⟨rfl, (Below.refl _ _).alloc (Nat.le_refl _) _⟩
  · have h1 : ((n : Int) == 1) = false := by simp; omega
    have e : chosenK n = 4 := if_neg h
    have e' : chosenR n = 9 := if_neg h
    rw [e, e']; clear e e'
    go_enter Tryd.func42, Tryd.ntmps42
    go_wp2
    exact bodyPost_ret (v := .agg #[.int .i64 4, .slice a n c, .int .i64 9]) (by simp [results, Tryd.results42, go_sem]) rfl ⟨rfl, (Below.refl _ _).alloc (Nat.le_refl _) _⟩

set_option maxHeartbeats 400000 in
theorem clone_any {S : Nat → Prop} (v : Value) (ss : List ByteArray) (w : World) (hs : Rd S w v (strsD ss)) (hS : ∀ b, S b → b < w.heap.size) (hl : ss.length ≤ 8000000000000) :
    Calls Tryd.prog 43 #[v] w fun e w' => ∃ v', e = .returned v' ∧ Rd (Fresh w w') w' v' (strsD ss) ∧ Below w.heap.size w w' := by
  obtain ⟨a, c, rfl, hac, _, h⟩ := hs.strs_inv
  cases a with
  | none =>
    obtain ⟨h0, rfl⟩ := hac rfl
    obtain rfl : ss = [] := List.eq_nil_of_length_eq_zero h0
    have q1 := fun w => Lib.run_eql_slice_nil (P := Tryd.prog) w 22 9 none 0 0 0 0 Tryd.underlying22
    go_enter Tryd.func43, Tryd.ntmps43
    go_wp2
    go_ret
    exact ⟨_, rfl, .list0 _ _ _ (fun _ => rfl), Below.refl _ _⟩
  | some a =>
    have q1 := fun w => Lib.run_eql_slice_nil (P := Tryd.prog) w 22 9 (some a) ss.length c 0 0 Tryd.underlying22
    go_enter Tryd.func43, Tryd.ntmps43
    have hr := (hs.wide (S' := Own w) (fun b _ => hS b ‹_›)).ext ((Below.refl w.heap.size w).alloc (Nat.le_refl _) (.cells #[] 9))
    go_wp2_with (at_builtin; refine wpList_appD _ rfl _ _ 22 rfl w.heap.size elStr _ 0 [] rfl (World.ownsRow_lit w #[] 0 (Nat.le_refl _) ?c0 rfl) _ rfl _ ss.length hr ?c1 ?c2 ?c3 ?c4 ?_)
    case c0 => decide
    case c1 => simp
    case c2 => simp [maxLen]; omega
    case c3 => omega
    case c4 => simp
    intro v' w1 ys hown hys hgr
    go_wp2
    go_ret
    have hb : Below w.heap.size w w1 := grown_below ((Below.refl _ w).alloc (Nat.le_refl _) _) (World.ownsRow_lit w #[] 0 (e := 9) (size := 1) (Nat.le_refl _) (by decide) rfl) hgr (by simp) (Nat.le_refl _)
    exact ⟨_, rfl, rd_owned hown hys.strs (fun g hg => hown.lt g hg), hb⟩

/-- An answer's parts. -/
def ansV (k : Int) (v : Value) (r : Int) : Value := .agg #[.int .i64 k, v, .int .i64 r]
def customK (n : Nat) : Int := if n = 0 then 1 else chosenK n
def customR (n : Nat) : Int := if n = 0 then 4 else chosenR n

set_option maxHeartbeats 400000 in
theorem custom_any {S : Nat → Prop} (v : Value) (ss : List ByteArray) (w : World) (hs : Rd S w v (strsD ss)) (hS : ∀ b, S b → b < w.heap.size) (hl : ss.length ≤ 8000000000000) :
    Calls Tryd.prog 12 #[v] w fun e w' => ∃ v', e = .returned (.agg #[.int .i64 (customK ss.length), v', .int .i64 (customR ss.length)]) ∧ Rd (Fresh w w') w' v' (strsD ss) ∧ Below w.heap.size w w' := by
  obtain ⟨a, c, rfl, hac, _, h⟩ := hs.strs_inv
  by_cases h0 : ss.length = 0
  · obtain rfl : ss = [] := List.eq_nil_of_length_eq_zero h0
    have hb := (Below.refl w.heap.size w).alloc (Nat.le_refl _) (.cells #[.int .i64 1, .slice none 0 0, .int .i64 4] 24)
    go_enter Tryd.func12, Tryd.ntmps12
    go_wp2
    exact bodyPost_ret (v := .agg #[.int .i64 1, .slice none 0 0, .int .i64 4]) (by simp [results, Tryd.results12, go_sem]) rfl ⟨_, rfl, .list0 _ _ _ (fun _ => rfl), hb⟩
  · have h1 : ((ss.length : Int) == 0) = false := beq_eq_false_iff_ne.2 (by omega)
    have e : customK ss.length = chosenK ss.length := if_neg h0
    have e' : customR ss.length = chosenR ss.length := if_neg h0
    rw [e, e']; clear e e'
    have hb := (Below.refl w.heap.size w).alloc (Nat.le_refl _) (.cells #[.int .i64 0, .slice none 0 0, .int .i64 0] 24)
    have hs' := hs.mono (fun b hb' => hb.block b (hS b hb')) (fun _ h => h)
    have HB := Lib.hid hb; clear hb h
    go_enter Tryd.func12, Tryd.ntmps12
    go_wp2_with (go_at_call 43; refine (clone_any _ ss _ hs' ?c1 hl).mono ?_)
    case c1 => exact fun b hb => Nat.lt_of_lt_of_le (hS b hb) (by simp)
    rintro e w1 ⟨v', rfl, hr, hb1⟩
    obtain ⟨a', c', rfl, _⟩ := hr.strs_inv
    go_wp2_with (go_at_call 42; refine (chosen_any _ _ _ _).mono ?_)
    rintro e w2 ⟨rfl, hb2⟩
    have hb3 := hb1.trans (hb2.mono hb1.size)
    have hz : w.heap.size < w2.heap.size := by have := hb3.size; simp at this; omega
    have q1 := bcell1 hb3 (b := w.heap.size) (by simp)
    have q2 := bfrozen1 hb3 (b := w.heap.size) (by simp)
    have HB3 := Lib.hid hb3; have HB2 := Lib.hid hb2; clear hb1 hb2 hb3 hs hs' hac
    go_wp2
    have hb : Below w.heap.size w w2 := HB.out.trans (HB3.out.mono (by simp))
    refine bodyPost_ret (v := .agg #[.int .i64 (chosenK ss.length), .slice a' ss.length c', .int .i64 (chosenR ss.length)]) (by simp [results, Tryd.results12, go_sem, q1]) rfl ⟨_, rfl, ?_, ((hb.setCell (Nat.le_refl _) _).setCell (Nat.le_refl _) _).setCell (Nat.le_refl _) _⟩
    refine Rd.res hr HB2.out ?_
    repeat apply OnlyB.set
    exact OnlyB.refl _ _

def bs (l : List UInt8) : ByteArray := ⟨l.toArray⟩
def kindsL : List ByteArray := [bs [], bs [114, 101, 106, 101, 99, 116], bs [98, 114, 111, 119, 115, 101, 114], bs [111, 112, 101, 110], bs [99, 104, 111, 111, 115, 101]]
def reasonsL : List ByteArray := [bs [], bs [117, 114, 108], bs [117, 115, 101, 114], bs [104, 111, 115, 116], bs [110, 111, 98, 111, 100, 121], bs [117, 110, 107, 110, 111, 119, 110], bs [114, 117, 108, 101, 115], bs [111, 102, 102], bs [111, 110, 101], bs [115, 101, 118, 101, 114, 97, 108]]
/-- The two tables lie where they were laid. -/
structure Tables (w : World) : Prop where
  kinds : Rd (· < 2) w (.slice (some ⟨0, 0, none⟩) 5 5) (strsD kindsL)
  reasons : Rd (· < 2) w (.slice (some ⟨1, 0, none⟩) 10 10) (strsD reasonsL)
def firstB (k r : Int) : ByteArray := wordB kindsL k ++ bs [58] ++ wordB reasonsL r
def wordsB (k r : Int) (ss : List ByteArray) : ByteArray := ⟨(Lib.join ((firstB k r :: ss).map (·.data.toList)) [32]).toArray⟩

theorem wordB_size (ss : List ByteArray) (n : Int) (h : ∀ s ∈ ss, s.size ≤ 20) : (wordB ss n).size ≤ 20 := by
  unfold wordB
  split
  · rename_i h1
    have : n.toNat < ss.length := by omega
    simp only [List.getD, List.getElem?_eq_getElem this, Option.getD_some]
    exact h _ (List.getElem_mem _)
  · decide

set_option maxHeartbeats 400000 in
theorem words_any (v : Value) (ss : List ByteArray) (k r : Int) (w : World) (ht : Tables w) (h2 : 2 ≤ w.heap.size) (hs : Rd (Own w) w v (strsD ss)) (hl : ss.length ≤ 2000000) (hlen : (wordsB k r ss).size ≤ 140737488355328) :
    Calls Tryd.prog 15 #[.agg #[.int .i64 k, v, .int .i64 r]] w fun e w' => e = .returned (.string (wordsB k r ss)) ∧ Below w.heap.size w w' := by
  have H1 := ht.kinds.alloc (fun b hb => by omega) (.cells #[.int .i64 k, v, .int .i64 r] 24)
  have H2 := ht.reasons.alloc (fun b hb => by omega) (.cells #[.int .i64 k, v, .int .i64 r] 24)
  obtain ⟨a, c, rfl, hac, hnc, _⟩ := hs.strs_inv
  have z1 := wordB_size kindsL k (by decide)
  have z2 := wordB_size reasonsL r (by decide)
  have f1 : ¬ (9223372036854775807 < (wordB kindsL k).size + 1) := by omega
  have f2 : ¬ (9223372036854775807 < (wordB kindsL k).size + 1 + (wordB reasonsL r).size) := by omega
  go_enter Tryd.func15, Tryd.ntmps15
  go_wp2_with fail
  go_quiet ((first | (go_at_call 45; exact quiet_eq (word_any _ kindsL _ _ (H1.drewN _))) | (go_at_call 45; exact quiet_eq (word_any _ reasonsL _ _ (H2.drewN _)))))
  clear f1 f2 H1 H2
  have hown0 := World.ownsRow_lit (base := w.heap.size) (e := 9) (size := 1) ((w.alloc (.cells #[.int .i64 k, .slice a ss.length c, .int .i64 r] 24)).drewN nq) #[.string (wordB kindsL k ++ { data := #[58] } ++ wordB reasonsL r)] 1 (by simp) (by decide) rfl
  simp only [drewN_heap, World.size_alloc] at hown0
  have hs2 := ((hs.alloc (fun _ h => h) (.cells #[.int .i64 k, .slice a ss.length c, .int .i64 r] 24)).drewN nq).alloc (fun b hb => Nat.lt_of_lt_of_le hb (by simp)) (.cells #[.string (wordB kindsL k ++ { data := #[58] } ++ wordB reasonsL r)] 9)
  go_wp2_with (at_builtin; refine wpList_appD _ rfl _ _ 22 rfl w.heap.size elStr _ 1 _ rfl hown0 _ rfl _ ss.length hs2 ?c1 ?c2 ?c3 ?c4 ?_)
  case c1 => simp
  case c2 => simp [maxLen]; omega
  case c3 => omega
  case c4 => simp; omega
  intro v' w1 ys hown hys hgr
  have hb0 : Below w.heap.size w ((((w.alloc (.cells #[.int .i64 k, .slice a ss.length c, .int .i64 r] 24)).drewN nq).alloc (.cells #[.string (wordB kindsL k ++ { data := #[58] } ++ wordB reasonsL r)] 9))) := by
    refine Below.alloc ?_ (by simp) _
    exact ⟨rfl, rfl, rfl, by simp, fun j hj => Below.heap_alloc w _ j hj⟩
  have hb : Below w.heap.size w w1 := grown_below hb0 hown0 hgr (by simp; omega) (Nat.le_refl _)
  have hr : Rd (Own w1) w1 v' (strsD (firstB k r :: ss)) := by
    refine rd_owned hown (Rds.append (.cons (.str _) .nil) hys.strs) (fun g hg => (hown.lt g hg).2)
  have hz := hb.size
  have HB := Lib.hid hb; clear hb0 hb hs2 hown hgr hs hys hown0
  obtain ⟨a', c', rfl, hac', hnc', hc'⟩ := hr.strs_inv
  obtain ⟨b, off, rfl, hbo, hcell⟩ := hc' (by simp)
  go_wp2_with fail
  refine (Tryd.strings_Join b off c' (firstB k r :: ss) ⟨#[32]⟩ _ (fun j x hx => ?_) hbo (by simp; omega) hnc' hlen).mono ?_
  · exact hcell j x hx
  rintro e w2 ⟨rfl, hb2⟩
  go_wp2
  go_ret
  exact ⟨rfl, HB.out.trans (hb2.mono hz)⟩
end Go.Proofs.YtjbbpmjbohedkaaDoor
