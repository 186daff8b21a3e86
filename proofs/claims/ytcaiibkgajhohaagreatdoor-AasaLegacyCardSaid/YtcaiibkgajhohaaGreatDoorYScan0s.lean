/- Scan0, ScanAll0, ScanLe in one text (a claim holds at most 60 files). -/
import Derived.Test.YtcaiibkgajhohaaGreatDoorYLib0s
import Derived.Lib.DecodeNEq
namespace Go.Proofs.YtcaiibkgajhohaaGreatDoor
section
open Go.RowKit
def isDig (c : Nat) : Bool := decide (48 ≤ c) && decide (c ≤ 57)
def isBlank (c : Nat) : Bool := [32, 9, 10, 13].contains c
def isHex (c : Nat) : Bool := isDig c || (decide (97 ≤ c) && decide (c ≤ 102)) || (decide (65 ≤ c) && decide (c ≤ 70))
def hexV (c : Nat) : Nat := if c ≤ 57 then c - 48 else if c ≤ 70 then c - 55 else c - 87
/-- At least one digit. -/
def digitsS (B : ByteArray) (i : Nat) : Sc Nat := if i < skip isDig B i then .ok (skip isDig B i) else if i = B.size then .no 10 B.size else .no 11 i
def numberS (B : ByteArray) (i : Nat) : Sc Nat :=
 (if onAt [48] B (if onAt [45] B i then i + 1 else i) then .ok ((if onAt [45] B i then i + 1 else i) + 1) else digitsS B (if onAt [45] B i then i + 1 else i)).bind fun i2 =>
 (if onAt [46] B i2 then digitsS B (i2 + 1) else .ok i2).bind fun i3 =>
 if onAt [101, 69] B i3 then digitsS B (if onAt [43, 45] B (i3 + 1) then i3 + 2 else i3 + 1) else .ok i3
def unitFit (B : ByteArray) (i k : Nat) : Bool := decide (i + k < B.size) && (if k = 0 then byteAt B i == 92 else if k = 1 then byteAt B (i + 1) == 117 else isHex (byteAt B (i + k)))
/-- The first of the places from i on, n at most, at which something does not fit. -/
def firstBad (B : ByteArray) (i n : Nat) (fit : Nat → Bool) : Sc Unit := match (List.range n).find? (fun k => !fit k) with
 | some k => if i + k = B.size then .no 10 B.size else .no 11 (i + k : Nat)
 | none => .ok ()
theorem firstBad_no {B : ByteArray} {i n k : Nat} {fit : Nat → Bool} (hk : k < n) (hb : fit k = false) (h : ∀ m, m < k → fit m = true) : firstBad B i n fit = if i + k = B.size then .no 10 B.size else .no 11 (i + k : Nat) := by
 have : (List.range n).find? (fun k => !fit k) = some k := by
  rw [List.find?_range_eq_some]
  exact ⟨by simp [hb], List.mem_range.2 hk, fun m hm => by simp [h m hm]⟩
 simp [firstBad, this]
theorem firstBad_ok {B : ByteArray} {i n : Nat} {fit : Nat → Bool} (h : ∀ m, m < n → fit m = true) : firstBad B i n fit = .ok () := by
 have : (List.range n).find? (fun k => !fit k) = none := by
  rw [List.find?_range_eq_none]
  exact fun m hm => by simp [h m hm]
 simp [firstBad, this]
def hex4 (B : ByteArray) (i : Nat) : Nat := 4096 * hexV (byteAt B i) + 256 * hexV (byteAt B (i + 1)) + 16 * hexV (byteAt B (i + 2)) + hexV (byteAt B (i + 3))
def unitS (B : ByteArray) (i : Nat) : Sc Nat := (firstBad B i 6 (unitFit B i)).bind fun _ => .ok (hex4 B (i + 2))
def pairLow (_B : ByteArray) (i n : Nat) : Sc Nat → Sc (Nat × Nat)
 | .ok m => if 56320 ≤ m ∧ m ≤ 57343 then .ok (65536 + (n - 55296) * 1024 + (m - 56320), 12) else .no 11 i
 | .no k j => if k = 10 then .no 10 j else .no 11 i
def pairS (B : ByteArray) (i : Nat) : Sc (Nat × Nat) := (unitS B i).bind fun n =>
 if n < 55296 ∨ 57343 < n then .ok (n, 6) else if n < 56320 then pairLow B i n (unitS B (i + 6)) else .no 11 i
def simpleS (c : Nat) : Option Nat := if c = 34 ∨ c = 92 ∨ c = 47 then some c else if c = 98 then some 8 else if c = 102 then some 12 else if c = 110 then some 10 else if c = 114 then some 13 else if c = 116 then some 9 else none
def escapeS (B : ByteArray) (i : Nat) : Sc (Nat × Nat) := if i + 1 = B.size then .no 10 B.size else if byteAt B (i + 1) = 117 then pairS B i else match simpleS (byteAt B (i + 1)) with
 | some x => .ok (x, 2)
 | none => .no 11 (i + 1 : Nat)
def decU (B : ByteArray) (i : Nat) : Nat × Nat := Go.Lib.decodeN (B.size - i) (byteAt B i) (byteAt B (i + 1)) (byteAt B (i + 2)) (byteAt B (i + 3))
def charS (B : ByteArray) (i : Nat) : Sc (Nat × Nat) := if i = B.size then .no 10 i else if decU B i = (65533, 1) then .no 12 i else .ok (decU B i)
def textStep (B : ByteArray) (i : Nat) : Sc (Nat × Nat) := if byteAt B i = 92 then escapeS B i else charS B i
def textF (B : ByteArray) : Nat → Nat → List Nat → Sc (List Nat × Nat)
 | 0, _, _ => .no 10 B.size
 | f + 1, i, acc => if i = B.size then .no 10 B.size else if byteAt B i = 34 then .ok (acc, i + 1) else if byteAt B i < 32 then .no 11 i else
   (textStep B i).bind fun x => textF B f (i + x.2) (acc ++ [x.1])
def textS (B : ByteArray) (i : Nat) (acc : List Nat) : Sc (List Nat × Nat) := textF B (B.size - i + 1) i acc
structure Tok where
 kind : Int
 fr : Int
 to : Int
deriving DecidableEq
def wordS (B : ByteArray) (i : Nat) (w : List Nat) : Sc Nat := (firstBad B i w.length fun k => decide (i + k < B.size) && (byteAt B (i + k) == w[k]?.getD 0)).bind fun _ => .ok (i + w.length)
def marksL : List Nat := [123, 125, 91, 93, 58, 44]
def trueL : List Nat := [116, 114, 117, 101]
def falseL : List Nat := [102, 97, 108, 115, 101]
def nullL : List Nat := [110, 117, 108, 108]
/-- The token at a place: its kind and its end. -/
def tokenS (B : ByteArray) (p : Nat) : Sc (Nat × Nat) := if p = B.size then .ok (0, p) else if marksL.contains (byteAt B p) then .ok (1 + marksL.idxOf (byteAt B p), p + 1)
 else if byteAt B p = 34 then (textS B (p + 1) []).bind fun x => .ok (7, x.2)
 else if byteAt B p = 45 ∨ isDig (byteAt B p) = true then (numberS B p).bind fun e => .ok (8, e)
 else if byteAt B p = 116 then (wordS B p trueL).bind fun e => .ok (9, e)
 else if byteAt B p = 102 then (wordS B p falseL).bind fun e => .ok (10, e)
 else if byteAt B p = 110 then (wordS B p nullL).bind fun e => .ok (11, e)
 else .no 11 p
def nextS (B : ByteArray) (i : Nat) : Sc Tok := (tokenS B (skip isBlank B i)).bind fun x => .ok ⟨x.1, skip isBlank B i, x.2⟩
def nextI (B : ByteArray) (at_ : Int) : Sc Tok := if at_ < 0 ∨ (B.size : Int) < at_ then .no 1 at_ else nextS B at_.toNat

/-! ### Ends -/
theorem digitsS_ok {B : ByteArray} {i e : Nat} (hi : i ≤ B.size) (h : digitsS B i = .ok e) : i < e ∧ e ≤ B.size := by
 unfold digitsS at h
 split at h
 · cases h; rename_i h1; exact ⟨h1, skip_le _ _ _ hi⟩
 · split at h <;> cases h
theorem Sc.bind_eq_ok {α β : Type} {r : Sc α} {f : α → Sc β} {b : β} (h : r.bind f = .ok b) : ∃ a, r = .ok a ∧ f a = .ok b := by
 cases r with
 | ok a => exact ⟨a, rfl, h⟩
 | no k i => cases h
theorem numberS_ok {B : ByteArray} {i e : Nat} (hi : i < B.size) (h : numberS B i = .ok e) : i < e ∧ e ≤ B.size := by
 unfold numberS at h
 have h1 : i ≤ (if onAt [45] B i then i + 1 else i) ∧ (if onAt [45] B i then i + 1 else i) ≤ B.size := by split <;> omega
 generalize (if onAt [45] B i then i + 1 else i) = i1 at h h1
 obtain ⟨i2, h2, h⟩ := Sc.bind_eq_ok h
 have q2 : i < i2 ∧ i2 ≤ B.size := by
  split at h2
  · rename_i ho; have := onAt_lt ho; cases h2; omega
  · have := digitsS_ok h1.2 h2; omega
 obtain ⟨i3, h3, h⟩ := Sc.bind_eq_ok h
 have q3 : i < i3 ∧ i3 ≤ B.size := by
  split at h3
  · rename_i ho; have := onAt_lt ho; have := digitsS_ok (by omega) h3; omega
  · cases h3; exact q2
 split at h
 · rename_i ho
   have := onAt_lt ho
   by_cases hs : onAt [43, 45] B (i3 + 1) = true
   · rw [if_pos hs] at h
     have := onAt_lt hs
     have := digitsS_ok (by omega) h; omega
   · rw [if_neg hs] at h
     have := digitsS_ok (by omega) h; omega
 · cases h; exact q3
theorem unitFit_lt {B : ByteArray} {i k : Nat} (h : unitFit B i k = true) : i + k < B.size := by
 simp [unitFit] at h; exact h.1
theorem firstBad_unit {B : ByteArray} {i n : Nat} {fit : Nat → Bool} (h : firstBad B i n fit = .ok ()) : ∀ m, m < n → fit m = true := by
 unfold firstBad at h
 split at h
 · split at h <;> cases h
 · rename_i h1
   rw [List.find?_range_eq_none] at h1
   intro m hm
   simpa using h1 m hm
theorem unitS_ok {B : ByteArray} {i n : Nat} (h : unitS B i = .ok n) : (∀ m, m < 6 → unitFit B i m = true) ∧ n = hex4 B (i + 2) ∧ i + 6 ≤ B.size := by
 obtain ⟨u, h1, h2⟩ := Sc.bind_eq_ok h
 have hf := firstBad_unit h1
 have := unitFit_lt (hf 5 (by omega))
 cases h2
 exact ⟨hf, rfl, by omega⟩
theorem hexV_lt {c : Nat} (h : isHex c = true) : hexV c < 16 := by
 simp [isHex, isDig] at h
 unfold hexV
 split
 · omega
 · split <;> omega
theorem unitS_lt {B : ByteArray} {i n : Nat} (h : unitS B i = .ok n) : n < 65536 := by
 obtain ⟨hf, rfl, _⟩ := unitS_ok h
 have key : ∀ k, 2 ≤ k → k < 6 → hexV (byteAt B (i + k)) < 16 := fun k h2 h6 => by
  have := hf k h6
  simp only [unitFit, Bool.and_eq_true] at this
  rw [if_neg (by omega), if_neg (by omega)] at this
  exact hexV_lt this.2
 have h2 := key 2 (by omega) (by omega); have h3 := key 3 (by omega) (by omega); have h4 := key 4 (by omega) (by omega); have h5 := key 5 (by omega) (by omega)
 unfold hex4
 simp only [Nat.add_assoc, Nat.reduceAdd] at *
 omega
theorem pairS_ok {B : ByteArray} {i : Nat} {x : Nat × Nat} (h : pairS B i = .ok x) : 0 < x.2 ∧ i + x.2 ≤ B.size := by
 obtain ⟨n, h1, h2⟩ := Sc.bind_eq_ok h
 have hu := (unitS_ok h1).2.2
 split at h2
 · obtain rfl := Sc.ok.inj h2; exact ⟨Nat.succ_pos _, hu⟩
 · split at h2
   · cases hl : unitS B (i + 6) with
     | ok m =>
       rw [hl] at h2
       have := (unitS_ok hl).2.2
       simp only [pairLow] at h2
       split at h2
       · obtain rfl := Sc.ok.inj h2; exact ⟨Nat.succ_pos _, this⟩
       · cases h2
     | no k j =>
       rw [hl] at h2
       simp only [pairLow] at h2
       split at h2 <;> cases h2
   · cases h2
theorem escapeS_ok {B : ByteArray} {i : Nat} {x : Nat × Nat} (hi : i < B.size) (h : escapeS B i = .ok x) : 0 < x.2 ∧ i + x.2 ≤ B.size := by
 unfold escapeS at h
 split at h
 · cases h
 · split at h
   · exact pairS_ok h
   · split at h
     · cases h; simp only; omega
     · cases h
theorem decodeN_size (n b0 b1 b2 b3 : Nat) (h : 0 < n) : 0 < (Go.Lib.decodeN n b0 b1 b2 b3).2 ∧ (Go.Lib.decodeN n b0 b1 b2 b3).2 ≤ n := by
 unfold Go.Lib.decodeN
 repeat' split
 all_goals simp only <;> omega
theorem charS_ok {B : ByteArray} {i : Nat} {x : Nat × Nat} (hi : i ≤ B.size) (h : charS B i = .ok x) : 0 < x.2 ∧ i + x.2 ≤ B.size := by
 unfold charS at h
 split at h
 · cases h
 · split at h
   · cases h
   · cases h
     have := decodeN_size (B.size - i) (byteAt B i) (byteAt B (i + 1)) (byteAt B (i + 2)) (byteAt B (i + 3)) (by omega)
     unfold decU; omega
theorem textStep_ok {B : ByteArray} {i : Nat} {x : Nat × Nat} (hi : i < B.size) (h : textStep B i = .ok x) : 0 < x.2 ∧ i + x.2 ≤ B.size := by
 unfold textStep at h
 split at h
 · exact escapeS_ok hi h
 · exact charS_ok (by omega) h
theorem textF_fuel (B : ByteArray) : ∀ n f g i acc, B.size - i = n → i ≤ B.size → n < f → n < g → textF B f i acc = textF B g i acc := by
 intro n
 induction n using Nat.strongRecOn with
 | ind n ih =>
   intro f g i acc hn hi hf hg
   cases f with
   | zero => omega
   | succ f =>
     cases g with
     | zero => omega
     | succ g =>
       rw [textF, textF]
       split
       · rfl
       · split
         · rfl
         · split
           · rfl
           · cases hs : textStep B i with
             | no k j => rfl
             | ok x =>
               have := textStep_ok (by omega) hs
               simp only [Sc.bind_ok]
               exact ih (B.size - (i + x.2)) (by omega) f g _ _ rfl (by omega) (by omega) (by omega)
theorem textS_step {B : ByteArray} {i : Nat} {acc : List Nat} (hi : i ≤ B.size) : textS B i acc = if i = B.size then .no 10 B.size else if byteAt B i = 34 then .ok (acc, i + 1) else if byteAt B i < 32 then .no 11 i else
    (textStep B i).bind fun x => textS B (i + x.2) (acc ++ [x.1]) := by
 unfold textS
 rw [textF]
 split
 · rfl
 · split
   · rfl
   · split
     · rfl
     · cases hs : textStep B i with
       | no k j => rfl
       | ok x =>
         have := textStep_ok (by omega) hs
         simp only [Sc.bind_ok]
         exact textF_fuel B (B.size - (i + x.2)) _ _ _ _ rfl (by omega) (by omega) (by omega)
theorem textS_ok {B : ByteArray} : ∀ n i acc x, B.size - i = n → i ≤ B.size → textS B i acc = .ok x → i < x.2 ∧ x.2 ≤ B.size := by
 intro n
 induction n using Nat.strongRecOn with
 | ind n ih =>
   intro i acc x hn hi h
   rw [textS_step hi] at h
   split at h
   · cases h
   · split at h
     · cases h; simp only; omega
     · split at h
       · cases h
       · obtain ⟨y, h1, h2⟩ := Sc.bind_eq_ok h
         have := textStep_ok (by omega) h1
         have := ih (B.size - (i + y.2)) (by omega) (i + y.2) _ x rfl (by omega) h2
         omega
theorem wordS_ok {B : ByteArray} {i e : Nat} {w : List Nat} (hw : 0 < w.length) (h : wordS B i w = .ok e) : i < e ∧ e ≤ B.size := by
 obtain ⟨u, h1, h2⟩ := Sc.bind_eq_ok h
 have := firstBad_unit h1 (w.length - 1) (by omega)
 simp only [Bool.and_eq_true, decide_eq_true_eq] at this
 cases h2
 omega
theorem tokenS_ok {B : ByteArray} {p : Nat} {x : Nat × Nat} (hp : p ≤ B.size) (h : tokenS B p = .ok x) : (x.1 = 0 ∧ p = B.size ∧ x.2 = p) ∨ (0 < x.1 ∧ p < x.2 ∧ x.2 ≤ B.size) := by
 unfold tokenS at h
 split at h
 · cases h; left; simp_all
 · right
   split at h
   · cases h; simp only; omega
   · split at h
     · obtain ⟨y, h1, h2⟩ := Sc.bind_eq_ok h
       have := textS_ok _ _ _ _ rfl (by omega) h1
       cases h2; simp only; omega
     · split at h
       · obtain ⟨y, h1, h2⟩ := Sc.bind_eq_ok h
         have := numberS_ok (by omega) h1
         cases h2; simp only; omega
       · split at h
         · obtain ⟨y, h1, h2⟩ := Sc.bind_eq_ok h
           have := wordS_ok (by decide) h1
           cases h2; simp only; omega
         · split at h
           · obtain ⟨y, h1, h2⟩ := Sc.bind_eq_ok h
             have := wordS_ok (by decide) h1
             cases h2; simp only; omega
           · split at h
             · obtain ⟨y, h1, h2⟩ := Sc.bind_eq_ok h
               have := wordS_ok (by decide) h1
               cases h2; simp only; omega
             · cases h
end
section
open Go.RowKit
end
section
open Go.RowKit
variable {B : ByteArray}
end
end Go.Proofs.YtcaiibkgajhohaaGreatDoor
