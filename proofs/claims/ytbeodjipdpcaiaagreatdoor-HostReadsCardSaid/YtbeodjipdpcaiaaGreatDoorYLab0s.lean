/- Lab0, Lab1, Lab2, Lab3, Pun3, Lab4, Pun4 in one text (a claim holds at most 60 files). -/
import Derived.Test.YtbeodjipdpcaiaaGreatDoorYPun0s
import Derived.Test.YtbeodjipdpcaiaaGreatDoorYFold0sf
import Derived.Lib.Strings
namespace Go.Proofs.YtbeodjipdpcaiaaGreatDoor
section
open Go.RowKit
def ByteL (l : List Nat) : Prop := ∀ x ∈ l, x < 256
theorem bytesN_lt (B : ByteArray) : ByteL (bytesN B) := fun x hx => by
 obtain ⟨y, _, rfl⟩ := List.mem_map.1 hx
 exact UInt8.toNat_lt _
theorem bytesN_bytesL {l : List Nat} (h : ByteL l) : bytesN (bytesL l) = l := by
 unfold bytesN bytesL
 simp only [List.map_map]
 refine (List.map_congr_left (fun x hx => ?_)).trans (List.map_id _)
 have := h x hx
 show (UInt8.ofNat x).toNat = x
 simp; omega
theorem bytesL_bytesN (B : ByteArray) : bytesL (bytesN B) = B := by
 apply toList_inj
 unfold bytesN bytesL
 rw [ByteArray.toList_eq, ByteArray.toList_eq, List.map_map]
 show (List.map _ B.data.toList).toArray.toList = _
 refine (List.map_congr_left (fun x hx => ?_)).trans (List.map_id _)
 show UInt8.ofNat x.toNat = x
 simp
theorem bytesL_inj {a b : List Nat} (ha : ByteL a) (hb : ByteL b) (h : bytesL a = bytesL b) : a = b := by
 rw [← bytesN_bytesL ha, h, bytesN_bytesL hb]
theorem bytesN_inj {a b : ByteArray} (h : bytesN a = bytesN b) : a = b := by
 rw [← bytesL_bytesN a, h, bytesL_bytesN]
theorem ByteL.append {a b : List Nat} (ha : ByteL a) (hb : ByteL b) : ByteL (a ++ b) := fun x hx => by
 rcases List.mem_append.1 hx with h | h
 · exact ha x h
 · exact hb x h
theorem ByteL.sub {a b : List Nat} (h : ByteL b) (hs : ∀ x ∈ a, x ∈ b) : ByteL a := fun x hx => h x (hs x hx)
theorem ByteL.drop {l : List Nat} (h : ByteL l) (n : Nat) : ByteL (l.drop n) := fun x hx => h x (List.mem_of_mem_drop hx)
theorem ByteL.take {l : List Nat} (h : ByteL l) (n : Nat) : ByteL (l.take n) := fun x hx => h x (List.mem_of_mem_take hx)
theorem strOf_bytesL (cs : List Nat) : strOf cs = bytesL (cs.flatMap putN) := rfl
theorem chars_right {B : ByteArray} : ∀ n i acc cs, B.size - i = n → AllRight acc → charsS B i acc = .ok cs → AllRight cs := by
 intro n
 induction n using Nat.strongRecOn with
 | ind n ih =>
   intro i acc cs hn ha h
   by_cases hlt : i < B.size
   · rw [charsS_step hlt] at h
     by_cases hd : decU B i = (65533, 1)
     · rw [if_pos hd] at h; cases h
     · rw [if_neg hd] at h
       have hz := decU_size hlt
       refine ih (B.size - (i + (decU B i).2)) (by omega) (i + (decU B i).2) _ cs rfl (ha.snoc ?_) h
       obtain ⟨k, k1, k4, kz, hh⟩ := dec_ok hlt hd
       obtain ⟨e, _, _⟩ := dec_hit k1 k4 kz hh
       rw [e]
       unfold hitN at hh
       have h2 := (Bool.and_eq_true _ _ ▸ hh).1
       have h3 := ((right_iff _).1 h2).1
       rw [Int.toNat_of_nonneg h3]
       exact h2
   · rw [charsS_end hlt] at h
     cases h
     exact ha
theorem charsL_ok {l cs : List Nat} (hl : ByteL l) (h : charsS (bytesL l) 0 [] = .ok cs) : AllRight cs ∧ cs.flatMap putN = l := by
 refine ⟨chars_right _ 0 [] cs rfl (fun c hc => by cases hc) h, ?_⟩
 have := chars_put _ 0 [] cs rfl (Nat.zero_le _) h
 rw [this, bytesN_bytesL hl]; rfl
theorem byteL_putN {cs : List Nat} (h : AllRight cs) : ByteL (cs.flatMap putN) := fun x hx => by
 obtain ⟨c, hc, hxc⟩ := List.mem_flatMap.1 hx
 exact putN_lt (right_lt (h c hc)) x hxc
theorem charsL_puts {cs : List Nat} (h : AllRight cs) : charsS (bytesL (cs.flatMap putN)) 0 [] = .ok cs := by
 have hb := byteL_putN h
 have := charsS_puts (Q := bytesL (cs.flatMap putN)) cs 0 [] h (fun m x hx => ?_) (by rw [bytesL_size]; omega)
 · simpa using this
 · obtain ⟨hm, rfl⟩ := List.getElem?_eq_some_iff.1 hx
   rw [Nat.zero_add, bytesL_at hm hb]
theorem putN_small {c : Nat} (h : c < 128) : putN c = [c] := by unfold putN; rw [if_pos h]
theorem putN_wide {c : Nat} (h : ¬ c < 128) : ∀ x ∈ putN c, 128 ≤ x := by
 intro x hx
 unfold putN at hx
 rw [if_neg h] at hx
 split at hx
 · simp at hx; omega
 · split at hx
   · simp at hx; omega
   · simp at hx; omega
theorem right_small {c : Nat} (h : c < 128) : rightN (c : Int) = true := (right_iff _).2 ⟨by omega, by omega, by omega⟩
theorem flat_small : ∀ {l : List Nat}, (∀ x ∈ l, x < 128) → l.flatMap putN = l
 | [], _ => rfl
 | c :: l, h => by
   rw [List.flatMap_cons, putN_small (h c (by simp)), flat_small (fun x hx => h x (by simp [hx]))]; rfl
theorem charsL_small {l : List Nat} (h : ∀ x ∈ l, x < 128) : charsS (bytesL l) 0 [] = .ok l := by
 have := charsL_puts (cs := l) (fun c hc => right_small (h c hc))
 rwa [flat_small h] at this
def lowN (c : Nat) : Nat := if 65 ≤ c ∧ c ≤ 90 then c + 32 else c
theorem lowN_lt {c : Nat} : lowN c < 128 ↔ c < 128 := by unfold lowN; split <;> omega
theorem lowN_wide {c : Nat} (h : 128 ≤ c) : lowN c = c := by unfold lowN; rw [if_neg (by omega)]
theorem lowN_lt256 {c : Nat} (h : c < 256) : lowN c < 256 := by unfold lowN; split <;> omega
theorem byteL_low {l : List Nat} (h : ByteL l) : ByteL (l.map lowN) := fun x hx => by
 obtain ⟨y, hy, rfl⟩ := List.mem_map.1 hx
 exact lowN_lt256 (h y hy)
theorem putN_low (c : Nat) : putN (lowN c) = (putN c).map lowN := by
 by_cases h : c < 128
 · rw [putN_small h, putN_small (lowN_lt.2 h)]; rfl
 · rw [lowN_wide (by omega)]
   exact ((List.map_congr_left (fun x hx => lowN_wide (putN_wide h x hx))).trans (List.map_id _)).symm
theorem flat_low : ∀ l : List Nat, (l.map lowN).flatMap putN = (l.flatMap putN).map lowN
 | [] => rfl
 | c :: l => by rw [List.map_cons, List.flatMap_cons, List.flatMap_cons, List.map_append, putN_low, flat_low l]
theorem right_low {c : Nat} (h : rightN (c : Int) = true) : rightN (lowN c : Int) = true := by
 by_cases hc : c < 128
 · exact right_small (lowN_lt.2 hc)
 · rw [lowN_wide (by omega)]; exact h
theorem charsL_low {l cs : List Nat} (hl : ByteL l) (h : charsS (bytesL l) 0 [] = .ok cs) : charsS (bytesL (l.map lowN)) 0 [] = .ok (cs.map lowN) := by
 obtain ⟨h1, h2⟩ := charsL_ok hl h
 rw [← h2, ← flat_low]
 exact charsL_puts (fun c hc => by
  obtain ⟨y, hy, rfl⟩ := List.mem_map.1 hc
  exact right_low (h1 y hy))
def splitN (m : Nat) : List Nat → List (List Nat)
 | [] => [[]]
 | c :: l => if c = m then [] :: splitN m l else match splitN m l with
   | h :: t => (c :: h) :: t
   | [] => [[c]]
theorem splitN_none {m : Nat} : ∀ {l : List Nat}, (∀ c ∈ l, c ≠ m) → splitN m l = [l]
 | [], _ => rfl
 | c :: l, h => by
   rw [splitN, if_neg (h c (by simp)), splitN_none (fun d hd => h d (by simp [hd]))]
theorem splitN_hit {m : Nat} : ∀ {a l : List Nat}, (∀ c ∈ a, c ≠ m) → splitN m (a ++ m :: l) = a :: splitN m l
 | [], l, _ => by simp [splitN]
 | c :: a, l, h => by
   rw [List.cons_append, splitN, if_neg (h c (by simp)), splitN_hit (fun d hd => h d (by simp [hd]))]
theorem splitN_ne (m : Nat) : ∀ l : List Nat, splitN m l ≠ []
 | [] => by simp [splitN]
 | c :: l => by
   rw [splitN]
   split
   · simp
   · split <;> simp
theorem splitN_free (m : Nat) : ∀ l : List Nat, ∀ p ∈ splitN m l, ∀ c ∈ p, c ≠ m ∧ c ∈ l
 | [], p, hp, c, hc => by simp [splitN] at hp; subst hp; simp at hc
 | a :: l, p, hp, c, hc => by
   have ih := splitN_free m l
   rw [splitN] at hp
   split at hp
   · rcases List.mem_cons.1 hp with rfl | hp
     · simp at hc
     · have := ih p hp c hc
       exact ⟨this.1, List.mem_cons_of_mem _ this.2⟩
   · rename_i hne
     split at hp
     · rename_i h t he
       rw [he] at ih
       rcases List.mem_cons.1 hp with rfl | hp
       · rcases List.mem_cons.1 hc with rfl | hc
         · exact ⟨hne, by simp⟩
         · have := ih h (by simp) c hc
           exact ⟨this.1, List.mem_cons_of_mem _ this.2⟩
       · have := ih p (by simp [hp]) c hc
         exact ⟨this.1, List.mem_cons_of_mem _ this.2⟩
     · rename_i he
       exact absurd he (splitN_ne m l)
def joinN (m : Nat) : List (List Nat) → List Nat
 | [] => []
 | [p] => p
 | p :: q :: l => p ++ m :: joinN m (q :: l)
theorem joinN_split (m : Nat) : ∀ l : List Nat, joinN m (splitN m l) = l
 | [] => rfl
 | c :: l => by
   have ih := joinN_split m l
   have hne := splitN_ne m l
   rw [splitN]
   split
   · rename_i he
     cases hs : splitN m l with
     | nil => exact absurd hs hne
     | cons h t => rw [joinN, ← hs, ih, he]; rfl
   · cases hs : splitN m l with
     | nil => exact absurd hs hne
     | cons h t =>
       rw [hs] at ih
       cases t with
       | nil => rw [joinN] at ih ⊢; rw [ih]
       | cons q t => rw [joinN] at ih ⊢; rw [List.cons_append, ih]
theorem splitN_join (m : Nat) : ∀ {ps : List (List Nat)}, ps ≠ [] → (∀ p ∈ ps, ∀ c ∈ p, c ≠ m) → splitN m (joinN m ps) = ps
 | [], h, _ => absurd rfl h
 | [p], _, h => by rw [joinN, splitN_none (h p (by simp))]
 | p :: q :: l, _, h => by
   rw [joinN, splitN_hit (h p (by simp)), splitN_join m (by simp) (fun x hx => h x (List.mem_cons_of_mem _ hx))]
theorem joinN_mem {m : Nat} : ∀ {ps : List (List Nat)} {x : Nat}, x ∈ joinN m ps → x = m ∨ ∃ p ∈ ps, x ∈ p
 | [], x, h => by simp [joinN] at h
 | [p], x, h => .inr ⟨p, by simp, h⟩
 | p :: q :: l, x, h => by
   rw [joinN] at h
   rcases List.mem_append.1 h with h | h
   · exact .inr ⟨p, by simp, h⟩
   · rcases List.mem_cons.1 h with h | h
     · exact .inl h
     · rcases joinN_mem h with h | ⟨r, hr, hx⟩
       · exact .inl h
       · exact .inr ⟨r, by simp [List.mem_cons.1 hr], hx⟩
def fldF (m most : Nat) : List Nat → Nat → List Nat → List (List Nat) → Sc (List (List Nat))
 | [], _, cur, acc => .ok (acc ++ [cur])
 | c :: l, i, cur, acc => if c = m then (if most ≤ acc.length + 1 then .no 15 i else fldF m most l (i + 1) [] (acc ++ [cur])) else fldF m most l (i + 1) (cur ++ [c]) acc
def fieldsL (m most : Nat) (l : List Nat) : Sc (List (List Nat)) := fldF m most l 0 [] []
theorem fldF_ok (m most : Nat) : ∀ (l : List Nat) (i : Nat) (cur : List Nat) (acc : List (List Nat)), (∀ c ∈ cur, c ≠ m) → fldF m most l i cur acc = (if acc.length + (splitN m (cur ++ l)).length ≤ max most 1 then .ok (acc ++ splitN m (cur ++ l)) else fldF m most l i cur acc) ∧
    ((∃ r, fldF m most l i cur acc = .ok r) → acc.length < max most 1 → fldF m most l i cur acc = .ok (acc ++ splitN m (cur ++ l)) ∧ (acc ++ splitN m (cur ++ l)).length ≤ max most 1)
 | [], i, cur, acc, hc => by
   rw [List.append_nil, splitN_none hc, fldF]
   refine ⟨by split <;> rfl, fun _ h => ⟨rfl, by simp; omega⟩⟩
 | c :: l, i, cur, acc, hc => by
   rw [fldF]
   by_cases h : c = m
   · subst h
     rw [if_pos rfl, splitN_hit hc]
     by_cases hm : most ≤ acc.length + 1
     · rw [if_pos hm]
       refine ⟨?_, fun ⟨r, hr⟩ => by cases hr⟩
       have hne := splitN_ne c l
       have : 0 < (splitN c l).length := List.length_pos_iff.2 hne
       rw [if_neg]
       rw [List.length_cons]
       omega
     · rw [if_neg hm]
       obtain ⟨i1, i2⟩ := fldF_ok c most l (i + 1) [] (acc ++ [cur]) (by simp)
       rw [List.nil_append] at i1 i2
       rw [List.length_append, List.length_singleton] at i1 i2
       rw [List.length_cons]
       constructor
       · by_cases hle : acc.length + ((splitN c l).length + 1) ≤ max most 1
         · rw [if_pos hle]
           rw [if_pos (by omega)] at i1
           rw [i1]; simp
         · rw [if_neg hle]
       · intro hr hlt
         obtain ⟨q1, q2⟩ := i2 hr (by omega)
         rw [q1]
         refine ⟨by simp, ?_⟩
         simpa using q2
   · rw [if_neg h]
     obtain ⟨i1, i2⟩ := fldF_ok m most l (i + 1) (cur ++ [c]) acc (fun x hx => by
      rcases List.mem_append.1 hx with hx | hx
      · exact hc x hx
      · rw [List.mem_singleton.1 hx]; exact h)
     rw [List.append_assoc, List.singleton_append] at i1 i2
     exact ⟨i1, i2⟩
theorem fields_ok {m most : Nat} {l : List Nat} (h1 : 1 ≤ most) (h : (splitN m l).length ≤ most) : fieldsL m most l = .ok (splitN m l) := by
 have := (fldF_ok m most l 0 [] [] (by simp)).1
 rw [List.nil_append, if_pos (by simp; omega)] at this
 exact this
theorem fields_is {m most : Nat} {l : List Nat} {ps : List (List Nat)} (h1 : 1 ≤ most) (h : fieldsL m most l = .ok ps) : ps = splitN m l ∧ ps.length ≤ most := by
 have := (fldF_ok m most l 0 [] [] (by simp)).2 ⟨ps, h⟩ (by simp; omega)
 rw [List.nil_append] at this
 have e := Sc.ok.inj (h.symm.trans this.1)
 rw [List.nil_append] at e
 refine ⟨e, ?_⟩
 have := this.2
 rw [List.nil_append, ← e] at this
 omega
end
section
open Go.RowKit
def lcN (c : Nat) : Bool := decide (97 ≤ c ∧ c ≤ 122 ∨ 48 ≤ c ∧ c ≤ 57 ∨ c = 45)
def charN (c : Nat) : Bool := decide (c ≤ 262143 ∧ (223 ≤ c ∧ c ≤ 246 ∨ 248 ≤ c ∧ c ≤ 8191 ∨ 11264 ≤ c ∧ c ≤ 12287 ∨ 12293 ≤ c ∧ c ≤ 55295 ∨ 63744 ≤ c ∧ c ≤ 64975 ∨ 65008 ≤ c ∧ c ≤ 65023 ∨ 65536 ≤ c ∧ c % 65536 < 65534))
def okN (c : Nat) : Bool := lcN c || charN c
theorem small_lt {c : Nat} (h : lcN c = true) : c < 123 := by unfold lcN at h; simp at h; omega
theorem small_ne {c : Nat} (h : lcN c = true) : c ≠ 46 ∧ c ≠ 37 ∧ c ≠ 91 ∧ c ≠ 58 ∧ c ≠ 93 ∧ c ≠ 42 := by unfold lcN at h; simp at h; omega
theorem small_low {c : Nat} (h : lcN c = true) : lowN c = c := by unfold lcN at h; unfold lowN; simp at h; rw [if_neg (by omega)]
theorem char_ge {c : Nat} (h : charN c = true) : 223 ≤ c ∧ c ≤ 262143 := by unfold charN at h; simp at h; omega
theorem ok_le {c : Nat} (h : okN c = true) : c ≤ 262143 := by
 unfold okN at h
 rcases Bool.or_eq_true_iff.1 h with h | h
 · have := small_lt h; omega
 · exact (char_ge h).2
theorem ok_right {c : Nat} (h : okN c = true) : rightN (c : Int) = true := by
 rw [right_iff]
 unfold okN at h
 rcases Bool.or_eq_true_iff.1 h with h | h
 · have := small_lt h; omega
 · unfold charN at h; simp at h; omega
theorem ok_small {c : Nat} (h : okN c = true) (hc : c < 128) : lcN c = true := by
 unfold okN at h
 rcases Bool.or_eq_true_iff.1 h with h | h
 · exact h
 · have := char_ge h; omega
theorem dig_small {x : Nat} (h : DigB x) : lcN x = true := by unfold DigB at h; unfold lcN; simp; omega
def lastN (l : List Nat) : Nat := l.getLast?.getD 0
def marksN (l : List Nat) : Bool := decide (l ≠ [] ∧ l[0]?.getD 0 ≠ 45 ∧ lastN l ≠ 45 ∧ (l.length < 4 ∨ l[2]?.getD 0 ≠ 45 ∨ l[3]?.getD 0 ≠ 45))
def xnL : List Nat := [120, 110, 45, 45]
def decOk (body cs : List Nat) : Bool := (cs.all okN && cs.any fun c => decide (128 ≤ c)) && (decide (encL cs = body) && marksN cs)
def decodeN (b : List Nat) : Option (List Nat) := if b.take 4 = xnL then match pdecS (bytesL (b.drop 4)) with
    | .ok cs => if decOk (b.drop 4) cs = true then some cs else none
    | .no _ _ => none
 else none
def codedN (b : List Nat) : Bool := decide (4 ≤ b.length ∧ b[2]?.getD 0 = 45 ∧ b[3]?.getD 0 = 45)
def notSmall (b : List Nat) (i : Nat) : Bool := !(lcN (b[i]?.getD 0))
def endsOk (b : List Nat) : Bool := decide (b[0]?.getD 0 ≠ 45) && decide (lastN b ≠ 45)
def rightL (b : List Nat) : Nat × Nat := if b = [] then (10, 0) else if 63 < b.length then (14, 63) else match (List.range b.length).find? (notSmall b) with
    | some i => (11, i)
    | none => if (endsOk b && (!(codedN b) || (decodeN b).isSome)) = true then (0, 0) else (24, 0)
def badC (l : List Nat) (i : Nat) : Bool := !(okN (l[i]?.getD 0))
def placeC (l : List Nat) (i : Nat) : Nat := ((l.take i).flatMap putN).length
def asciiW (l : List Nat) : Sc (List Nat) := match (List.range l.length).find? (badC l) with
 | some i => .no 11 (placeC l i)
 | none => if marksN l = false then .no 24 0 else if 256 < l.length ∨ 59 < (encL l).length then .no 14 63 else .ok (xnL ++ encL l)
def asciiL (b : List Nat) : Sc (List Nat) := match charsS (bytesL b) 0 [] with
 | .no k p => .no k p
 | .ok cs => if (cs.all fun c => decide (c < 128)) = true then (match rightL (b.map lowN) with
     | (0, _) => .ok (b.map lowN)
     | (k + 1, p) => .no (k + 1) p)
   else asciiW (cs.map lowN)
theorem find_none {p : Nat → Bool} {n : Nat} (h : (List.range n).find? p = none) : ∀ i, i < n → p i = false := fun i hi => by
 rw [List.find?_range_eq_none] at h
 have := h i hi
 simpa using this
theorem find_no {p : Nat → Bool} {n : Nat} (h : ∀ i, i < n → p i = false) : (List.range n).find? p = none := by
 rw [List.find?_range_eq_none]
 intro i hi
 simp [h i hi]
theorem rightL_zero {t : List Nat} {p : Nat} (h : rightL t = (0, p)) : t ≠ [] ∧ t.length ≤ 63 ∧ (∀ c ∈ t, lcN c = true) ∧ endsOk t = true ∧ (codedN t = true → (decodeN t).isSome = true) ∧ p = 0 := by
 unfold rightL at h
 split at h
 · simp at h
 · rename_i h0
   split at h
   · simp at h
   · rename_i h1
     split at h
     · simp at h
     · rename_i h2
       split at h
       · rename_i h3
         rw [Bool.and_eq_true, Bool.or_eq_true] at h3
         refine ⟨h0, by omega, fun c hc => ?_, h3.1, fun hc => ?_, by simpa using h.symm⟩
         · obtain ⟨i, hi, rfl⟩ := List.mem_iff_getElem.1 hc
           have := find_none h2 i hi
           unfold notSmall at this
           rw [List.getElem?_eq_getElem hi] at this
           simpa using this
         · rcases h3.2 with h | h
           · rw [hc] at h; simp at h
           · exact h
       · simp at h
theorem rightL_of {t : List Nat} (h0 : t ≠ []) (h1 : t.length ≤ 63) (h2 : ∀ c ∈ t, lcN c = true) (h3 : endsOk t = true) (h4 : codedN t = true → (decodeN t).isSome = true) : rightL t = (0, 0) := by
 unfold rightL
 rw [if_neg h0, if_neg (by omega), find_no (fun i hi => by
  unfold notSmall
  rw [List.getElem?_eq_getElem hi]
  simp [h2 _ (List.getElem_mem hi)])]
 simp only
 rw [if_pos]
 rw [Bool.and_eq_true, Bool.or_eq_true]
 refine ⟨h3, ?_⟩
 by_cases hc : codedN t = true
 · exact .inr (h4 hc)
 · exact .inl (by simpa using hc)
theorem ascii_right {t : List Nat} (h : rightL t = (0, 0)) : asciiL t = .ok t := by
 obtain ⟨h0, h1, h2, h3, h4, _⟩ := rightL_zero h
 have hs : ∀ x ∈ t, x < 128 := fun x hx => by have := small_lt (h2 x hx); omega
 have hl : t.map lowN = t := (List.map_congr_left (fun x hx => small_low (h2 x hx))).trans (List.map_id _)
 unfold asciiL
 rw [charsL_small hs]
 simp only
 rw [if_pos (List.all_eq_true.2 (fun x hx => dcT (hs x hx))), hl, h]
theorem xn_at (b : List Nat) : (xnL ++ b).take 4 = xnL ∧ (xnL ++ b).drop 4 = b := ⟨List.take_left (l₁ := xnL), List.drop_left (l₁ := xnL)⟩
theorem last_append {a b : List Nat} (h : b ≠ []) : lastN (a ++ b) = lastN b := by
 unfold lastN
 rw [List.getLast?_append, List.getLast?_eq_some_getLast h]; rfl
theorem last_mem {l : List Nat} (h : l ≠ []) : lastN l ∈ l := by
 unfold lastN
 rw [List.getLast?_eq_some_getLast h]
 exact List.getLast_mem h
theorem wide_enc {l : List Nat} (h : ¬ (l.all fun c => decide (c < 128)) = true) : ∃ X, encL l = basicL l ++ dashL (basicL l) ++ X ∧ (∀ x ∈ X, DigB x) ∧ X ≠ [] := by
 obtain ⟨X, h1, h2, h3⟩ := encL_form l
 refine ⟨X, h1, h2, fun he => h ?_⟩
 exact List.all_eq_true.2 (fun x hx => dcT (h3 he x hx))
theorem asciiW_ok {l t : List Nat} (h : asciiW l = .ok t) : (∀ c ∈ l, okN c = true) ∧ marksN l = true ∧ l.length ≤ 256 ∧ (encL l).length ≤ 59 ∧ t = xnL ++ encL l := by
 unfold asciiW at h
 split at h
 · cases h
 · rename_i h1
   split at h
   · cases h
   · rename_i h2
     split at h
     · cases h
     · rename_i h3
       refine ⟨fun c hc => ?_, by simpa using h2, by omega, by omega, (Sc.ok.inj h).symm⟩
       obtain ⟨i, hi, rfl⟩ := List.mem_iff_getElem.1 hc
       have := find_none h1 i hi
       unfold badC at this
       rw [List.getElem?_eq_getElem hi] at this
       simpa using this
theorem encIn_len (basic m : Nat) : ∀ (cs : List Nat) (s : ESt), (encIn basic m cs s).h - s.h + s.out.length ≤ (encIn basic m cs s).out.length ∧ s.h ≤ (encIn basic m cs s).h
 | [], s => ⟨by show s.h - s.h + _ ≤ _; rw [Nat.sub_self, Nat.zero_add]; exact Nat.le_refl _, Nat.le_refl _⟩
 | c :: cs, s => by
   obtain ⟨i1, i2⟩ := encIn_len basic m cs (encStep basic m s c)
   have e : encIn basic m (c :: cs) s = encIn basic m cs (encStep basic m s c) := rfl
   rw [e]
   have : (encStep basic m s c).h - s.h + s.out.length ≤ (encStep basic m s c).out.length ∧ s.h ≤ (encStep basic m s c).h := by
    unfold encStep
    split
    · exact ⟨by show s.h - s.h + _ ≤ _; rw [Nat.sub_self, Nat.zero_add]; exact Nat.le_refl _, Nat.le_refl _⟩
    · split
      · have := pnumL_pos s.delta s.bias 36
        refine ⟨?_, Nat.le_succ _⟩
        show s.h + 1 - s.h + _ ≤ (s.out ++ _).length
        rw [List.length_append]; omega
      · exact ⟨by rw [Nat.sub_self, Nat.zero_add]; exact Nat.le_refl _, Nat.le_refl _⟩
   omega
theorem encIn_h (basic m : Nat) : ∀ (cs : List Nat) (s : ESt), (encIn basic m cs s).h = s.h + (cs.filter fun c => decide (c = m)).length
 | [], s => rfl
 | c :: cs, s => by
   have e : encIn basic m (c :: cs) s = encIn basic m cs (encStep basic m s c) := rfl
   rw [e, encIn_h basic m cs, List.filter_cons]
   unfold encStep
   by_cases h1 : c < m
   · rw [if_pos h1, if_neg (by simp; omega)]
   · by_cases h2 : c = m
     · rw [if_neg h1, if_pos h2, if_pos (by simpa using h2)]
       show s.h + 1 + _ = _
       rw [List.length_cons]; omega
     · rw [if_neg h1, if_neg h2, if_neg (by simpa using h2)]
theorem filter_lt_succ {cs : List Nat} {n m : Nat} (h : nextN cs n = some m) : (cs.filter fun c => decide (c < n)).length + (cs.filter fun c => decide (c = m)).length = (cs.filter fun c => decide (c < m + 1)).length := by
 obtain ⟨h1, h2, h3⟩ := nextN_some h
 clear h h1
 induction cs with
 | nil => rfl
 | cons c cs ih =>
   have ih := ih (fun x hx => h3 x (by simp [hx]))
   have hc := h3 c (by simp)
   rw [List.filter_cons, List.filter_cons, List.filter_cons]
   by_cases k1 : c < n
   · rw [if_pos (by simpa using k1), if_neg (by simp; omega), if_pos (by simp; omega), List.length_cons, List.length_cons]; omega
   · by_cases k2 : c = m
     · rw [if_neg (by simpa using k1), if_pos (by simpa using k2), if_pos (by simp; omega), List.length_cons, List.length_cons]; omega
     · rw [if_neg (by simpa using k1), if_neg (by simpa using k2), if_neg (by simp; omega)]; exact ih
theorem encG_len (basic : Nat) (cs : List Nat) : ∀ (k n : Nat) (s : ESt), above cs n ≤ k → s.h = (cs.filter fun c => decide (c < n)).length → cs.length - s.h + s.out.length ≤ (encG basic cs n s).out.length := by
 intro k
 induction k with
 | zero =>
   intro n s h hs
   cases hn : nextN cs n with
   | some m => have := above_less hn; omega
   | none =>
     rw [encG_none hn]
     have : (cs.filter fun c => decide (c < n)) = cs := List.filter_eq_self.2 (fun c hc => by simpa using nextN_none hn c hc)
     rw [hs, this]; omega
 | succ k ih =>
   intro n s h hs
   cases hn : nextN cs n with
   | none =>
     rw [encG_none hn]
     have : (cs.filter fun c => decide (c < n)) = cs := List.filter_eq_self.2 (fun c hc => by simpa using nextN_none hn c hc)
     rw [hs, this]; omega
   | some m =>
     have hab := above_less hn
     rw [encG_some hn]
     have h1 := encIn_len basic m cs (addD s ((m - n) * (s.h + 1)))
     have h2 := encIn_h basic m cs (addD s ((m - n) * (s.h + 1)))
     have h3 := filter_lt_succ hn
     have h4 := ih (m + 1) (addD (encIn basic m cs (addD s ((m - n) * (s.h + 1)))) 1) (by omega) (by
      show (encIn basic m cs (addD s ((m - n) * (s.h + 1)))).h = _
      rw [h2]
      show s.h + _ = _
      rw [hs, h3])
     have e1 : (addD s ((m - n) * (s.h + 1))).h = s.h := rfl
     have e2 : (addD s ((m - n) * (s.h + 1))).out = s.out := rfl
     have e3 : (addD (encIn basic m cs (addD s ((m - n) * (s.h + 1)))) 1).h = (encIn basic m cs (addD s ((m - n) * (s.h + 1)))).h := rfl
     have e4 : (addD (encIn basic m cs (addD s ((m - n) * (s.h + 1)))) 1).out = (encIn basic m cs (addD s ((m - n) * (s.h + 1)))).out := rfl
     rw [e1, e2] at h1
     rw [e3, e4] at h4
     omega
theorem encL_len (cs : List Nat) : cs.length ≤ (encL cs).length := by
 have := encG_len (basicL cs).length cs (above cs 128) 128 ⟨0, 72, (basicL cs).length, basicL cs ++ dashL (basicL cs)⟩ (Nat.le_refl _) rfl
 have hb : (basicL cs).length ≤ cs.length := List.length_filter_le _ _
 show _ ≤ (encG (basicL cs).length cs 128 ⟨0, 72, (basicL cs).length, basicL cs ++ dashL (basicL cs)⟩).out.length
 have e : (⟨0, 72, (basicL cs).length, basicL cs ++ dashL (basicL cs)⟩ : ESt).h = (basicL cs).length := rfl
 have e2 : (⟨0, 72, (basicL cs).length, basicL cs ++ dashL (basicL cs)⟩ : ESt).out.length = (basicL cs).length + (dashL (basicL cs)).length := by
  show (basicL cs ++ dashL (basicL cs)).length = _
  rw [List.length_append]
 rw [e, e2] at this
 omega
theorem not_all {l : List Nat} (h : ¬ (l.all fun c => decide (c < 128)) = true) : (l.any fun c => decide (128 ≤ c)) = true := by
 refine Decidable.byContradiction (fun hn => h (List.all_eq_true.2 (fun c hc => dcT ?_)))
 rw [Bool.not_eq_true, List.any_eq_false] at hn
 have := hn c hc
 simpa using this
theorem coded_right {l : List Nat} (hw : ¬ (l.all fun c => decide (c < 128)) = true) (h1 : ∀ c ∈ l, okN c = true) (h2 : marksN l = true) (h4 : (encL l).length ≤ 59) : decodeN (xnL ++ encL l) = some l ∧ rightL (xnL ++ encL l) = (0, 0) := by
 have hlen := encL_len l
 obtain ⟨X, e1, e2, e3⟩ := wide_enc hw
 have hd : decodeN (xnL ++ encL l) = some l := by
  unfold decodeN
  rw [(xn_at _).1, (xn_at _).2, if_pos rfl, dec_enc (fun c hc => ok_right (h1 c hc)) (fun c hc => ok_le (h1 c hc)) (by omega) (by omega)]
  simp only
  rw [if_pos]
  unfold decOk
  rw [List.all_eq_true.2 h1, not_all hw, h2, dcT rfl]; rfl
 refine ⟨hd, rightL_of (by simp [xnL]) (by simp [xnL]; omega) (fun c hc => ?_) ?_ (fun _ => by rw [hd]; rfl)⟩
 · rcases List.mem_append.1 hc with hc | hc
   · unfold xnL at hc
     simp at hc
     rcases hc with rfl | rfl | rfl <;> decide
   · rw [e1] at hc
     rcases List.mem_append.1 hc with hc | hc
     · rcases List.mem_append.1 hc with hc | hc
       · obtain ⟨q1, q2⟩ := List.mem_filter.1 hc
         exact ok_small (h1 c q1) (by simpa using q2)
       · unfold dashL at hc
         split at hc
         · rw [List.mem_singleton.1 hc]; decide
         · simp at hc
     · exact dig_small (e2 c hc)
 · have hl : lastN (xnL ++ encL l) ∈ X := by
     rw [e1, ← List.append_assoc, last_append e3]
     exact last_mem e3
   have := e2 _ hl
   unfold DigB at this
   unfold endsOk
   rw [Bool.and_eq_true]
   exact ⟨by simp [xnL], dcT (by omega)⟩
theorem ascii_ok {b t : List Nat} (h : asciiL b = .ok t) : rightL t = (0, 0) := by
 unfold asciiL at h
 split at h
 · cases h
 · rename_i cs hcs
   split at h
   · rename_i hall
     split at h
     · rename_i p hr
       have := Sc.ok.inj h
       rw [← this]
       have h6 := (rightL_zero hr).2.2.2.2.2
       rw [hr, h6]
     · cases h
   · rename_i hw
     obtain ⟨q1, q2, q3, q4, rfl⟩ := asciiW_ok h
     have hw2 : ¬ ((cs.map lowN).all fun c => decide (c < 128)) = true := fun ha => hw (List.all_eq_true.2 (fun c hc => by
      have := List.all_eq_true.1 ha (lowN c) (List.mem_map_of_mem hc)
      rw [decide_eq_true_eq, lowN_lt] at this
      exact dcT this))
     exact (coded_right hw2 q1 q2 q4).2
end
section
open Go.RowKit
def trimL (b : List Nat) : List Nat := if 1 < b.length ∧ lastN b = 46 then b.take (b.length - 1) else b
def namesF : List (List Nat) → Nat → List (List Nat) → Sc (List (List Nat))
 | [], _, acc => .ok acc
 | p :: ps, at_, acc => match asciiL p with
   | .no k q => .no k ((at_ : Int) + q)
   | .ok t => namesF ps (at_ + p.length + 1) (acc ++ [t])
def nameJ (r : Sc (List (List Nat))) : Sc (List Nat) := match r with
 | .no k q => .no k q
 | .ok ts => if 253 < (joinN 46 ts).length then .no 14 253 else .ok (joinN 46 ts)
def nameL (b : List Nat) : Sc (List Nat) := if trimL b = [] then .no 10 0 else match fieldsL 46 127 (trimL b) with
 | .no k q => .no k q
 | .ok ps => nameJ (namesF ps 0 [])
theorem ascii_nil : asciiL [] = .no 10 0 := by
 unfold asciiL
 rw [charsL_small (l := []) (fun x hx => by cases hx)]
 rfl
theorem namesF_of : ∀ (ps ts : List (List Nat)) (at_ : Nat) (acc : List (List Nat)), ps.length = ts.length → (∀ (i : Nat) p t, ps[i]? = some p → ts[i]? = some t → asciiL p = .ok t) → namesF ps at_ acc = .ok (acc ++ ts)
 | [], [], at_, acc, _, _ => by rw [namesF, List.append_nil]
 | [], t :: ts, at_, acc, h, _ => by simp at h
 | p :: ps, [], at_, acc, h, _ => by simp at h
 | p :: ps, t :: ts, at_, acc, h, hp => by
   rw [namesF, hp 0 p t rfl rfl]
   simp only
   rw [namesF_of ps ts _ _ (by simpa using h) (fun i q u hq hu => hp (i + 1) q u (by simpa using hq) (by simpa using hu))]
   simp
theorem namesF_is : ∀ (ps : List (List Nat)) (at_ : Nat) (acc ts : List (List Nat)), namesF ps at_ acc = .ok ts → ∃ us, ts = acc ++ us ∧ us.length = ps.length ∧ (∀ (i : Nat) p t, ps[i]? = some p → us[i]? = some t → asciiL p = .ok t) ∧ ∀ t ∈ us, rightL t = (0, 0)
 | [], at_, acc, ts, h => ⟨[], by rw [namesF] at h; rw [← Sc.ok.inj h, List.append_nil], rfl, fun i p t h => by simp at h, fun t h => by simp at h⟩
 | p :: ps, at_, acc, ts, h => by
   rw [namesF] at h
   split at h
   · cases h
   · rename_i t ht
     obtain ⟨us, h1, h2, h3, h4⟩ := namesF_is ps _ _ ts h
     refine ⟨t :: us, by rw [h1]; simp, by simp [h2], fun i q u hq hu => ?_, fun u hu => ?_⟩
     · cases i with
       | zero => simp at hq hu; subst hq; subst hu; exact ht
       | succ i => exact h3 i q u (by simpa using hq) (by simpa using hu)
     · rcases List.mem_cons.1 hu with rfl | hu
       · exact ascii_ok ht
       · exact h4 u hu
structure NameOk (n : List Nat) (ts : List (List Nat)) : Prop where
 ne : ts ≠ []
 len : ts.length ≤ 127
 right : ∀ t ∈ ts, rightL t = (0, 0)
 eq : n = joinN 46 ts
 size : n.length ≤ 253
theorem name_ok {b n : List Nat} (h : nameL b = .ok n) : ∃ ts, NameOk n ts := by
 unfold nameL at h
 split at h
 · cases h
 · split at h
   · cases h
   · rename_i ps hps
     obtain ⟨e, hl⟩ := fields_is (by omega) hps
     have hne := splitN_ne 46 (trimL b)
     rw [← e] at hne
     unfold nameJ at h
     split at h
     · cases h
     · rename_i ts hts
       split at h
       · cases h
       · obtain ⟨us, h1, h2, h3, h4⟩ := namesF_is _ _ _ _ hts
         rw [List.nil_append] at h1
         subst h1
         refine ⟨ts, ?_, by omega, h4, (Sc.ok.inj h).symm, by rw [← Sc.ok.inj h]; omega⟩
         intro e
         rw [e] at h2
         exact hne (List.eq_nil_of_length_eq_zero h2.symm)
theorem splitN_snoc (m : Nat) : ∀ l : List Nat, splitN m (l ++ [m]) = splitN m l ++ [[]]
 | [] => by simp [splitN]
 | c :: l => by
   have ih := splitN_snoc m l
   rw [List.cons_append, splitN, splitN, ih]
   by_cases h : c = m
   · rw [if_pos h, if_pos h]; rfl
   · rw [if_neg h, if_neg h]
     cases hs : splitN m l with
     | nil => exact absurd hs (splitN_ne m l)
     | cons a t => rfl
structure Parts (b : List Nat) (ts : List (List Nat)) : Prop where
 len : (splitN 46 b).length = ts.length
 each : ∀ (i : Nat) p t, (splitN 46 b)[i]? = some p → ts[i]? = some t → asciiL p = .ok t
theorem Parts.trim {b : List Nat} {ts : List (List Nat)} (h : Parts b ts) : b ≠ [] ∧ lastN b ≠ 46 := by
 have hbad : ¬ (∃ i : Nat, (splitN 46 b)[i]? = some []) := fun ⟨i, hi⟩ => by
  have hl := (List.getElem?_eq_some_iff.1 hi).1
  obtain ⟨t, ht⟩ := get_ex ts i (by rw [← h.len]; exact hl)
  have := h.each i _ t hi ht
  rw [ascii_nil] at this
  cases this
 constructor
 · intro e
   subst e
   exact hbad ⟨0, rfl⟩
 · intro e
   by_cases hb : b = []
   · subst hb; exact hbad ⟨0, rfl⟩
   · have hc : b = b.dropLast ++ [46] := by
       have := List.dropLast_concat_getLast hb
       unfold lastN at e
       rw [List.getLast?_eq_some_getLast hb] at e
       simp only [Option.getD_some] at e
       rw [e] at this
       exact this.symm
     rw [hc, splitN_snoc] at hbad
     exact hbad ⟨(splitN 46 b.dropLast).length, by simp⟩
theorem trim_not {b : List Nat} (h : lastN b ≠ 46) : trimL b = b := by
 unfold trimL
 rw [if_neg (fun e => h e.2)]
theorem trim_dot {b : List Nat} (h : b ≠ []) : trimL (b ++ [46]) = b := by
 unfold trimL
 have hl : 0 < b.length := List.length_pos_iff.2 h
 rw [if_pos ⟨by simp; omega, by rw [last_append (by simp)]; rfl⟩]
 simp
theorem name_of {b : List Nat} {ts : List (List Nat)} (h : Parts b ts) (hl : ts.length ≤ 127) (hz : (joinN 46 ts).length ≤ 253) : nameL b = .ok (joinN 46 ts) ∧ nameL (b ++ [46]) = .ok (joinN 46 ts) := by
 obtain ⟨h0, h1⟩ := h.trim
 have key : ∀ c, trimL c = b → nameL c = .ok (joinN 46 ts) := fun c hc => by
  unfold nameL
  rw [hc, if_neg h0, fields_ok (by omega) (by rw [h.len]; exact hl)]
  simp only
  rw [namesF_of _ ts 0 [] h.len h.each]
  unfold nameJ
  simp only [List.nil_append]
  rw [if_neg (by omega)]
 exact ⟨key b (trim_not h1), key _ (trim_dot h0)⟩
section
variable {n : List Nat} {ts : List (List Nat)}
theorem right_free {t : List Nat} (h : rightL t = (0, 0)) : ∀ c ∈ t, c ≠ 46 := fun c hc => (small_ne ((rightL_zero h).2.2.1 c hc)).1
theorem NameOk.split (h : NameOk n ts) : splitN 46 n = ts := by
 rw [h.eq]
 exact splitN_join 46 h.ne (fun p hp => right_free (h.right p hp))
theorem NameOk.parts (h : NameOk n ts) : Parts n ts := by
 refine ⟨by rw [h.split], fun i p t hp ht => ?_⟩
 rw [h.split, ht] at hp
 obtain rfl := Option.some.inj hp
 exact ascii_right (h.right _ (List.mem_of_getElem? ht))
theorem NameOk.again (h : NameOk n ts) : nameL n = .ok n ∧ nameL (n ++ [46]) = .ok n := by
 have := name_of h.parts h.len (by rw [← h.eq]; exact h.size)
 rw [← h.eq] at this
 exact this
theorem NameOk.small (h : NameOk n ts) : ∀ c ∈ n, lcN c = true ∨ c = 46 := fun c hc => by
 rw [h.eq] at hc
 rcases joinN_mem hc with h1 | ⟨p, hp, h1⟩
 · exact .inr h1
 · exact .inl ((rightL_zero (h.right p hp)).2.2.1 c h1)
theorem NameOk.pos (h : NameOk n ts) : n ≠ [] := h.parts.trim.1
end
end
section
open Go.RowKit
theorem putAt_mem {l : List Nat} {p n x : Nat} (h : x ∈ putAt l p n) : x ∈ l ∨ x = n := by
 unfold putAt at h
 rcases List.mem_append.1 h with h | h
 · exact .inl (List.mem_of_mem_take h)
 · rcases List.mem_cons.1 h with h | h
   · exact .inr h
   · exact .inl (List.mem_of_mem_drop h)
theorem putAt_size (l : List Nat) (p n : Nat) : (putAt l p n).length = l.length + 1 := by
 unfold putAt
 simp only [List.length_append, List.length_take, List.length_cons, List.length_drop]
 omega
theorem decF_ok (s : ByteArray) : ∀ (f : Nat) (d : DSt) (r : List Nat), (∀ c ∈ d.out, c ≤ 1114111) → d.out.length ≤ 256 → decF s f d = .ok r → (∀ c ∈ r, c ≤ 1114111) ∧ r.length ≤ 256
 | 0, d, r, h1, h2, h => by rw [decF] at h; rw [← Sc.ok.inj h]; exact ⟨h1, h2⟩
 | f + 1, d, r, h1, h2, h => by
   rw [decF] at h
   split at h
   · rw [← Sc.ok.inj h]; exact ⟨h1, h2⟩
   · split at h
     · cases h
     · split at h
       · cases h
       · rename_i hr
         split at h
         · cases h
         · rename_i hl
           have hr := (right_iff _).1 (by rw [Bool.not_eq_false] at hr; exact hr)
           refine decF_ok s f _ r (fun c hc => ?_) ?_ h
           · rcases putAt_mem hc with hc | hc
             · exact h1 c hc
             · omega
           · show (putAt _ _ _).length ≤ 256
             rw [putAt_size]; omega
theorem pdecS_ok {s : ByteArray} {r : List Nat} (h : pdecS s = .ok r) : (∀ c ∈ r, c ≤ 1114111) ∧ r.length ≤ 256 := by
 unfold pdecS at h
 split at h
 · cases h
 · split at h
   · cases h
   · split at h
     · cases h
     · rename_i hl
       refine decF_ok s _ _ r (fun c hc => ?_) ?_ h
       · obtain ⟨i, _, rfl⟩ := List.mem_map.1 hc
         have := byteAt_lt s i; omega
       · show ((List.range _).map _).length ≤ 256
         rw [List.length_map, List.length_range]; omega
theorem xn_pre (s : ByteArray) : Go.Lib.hasPrefix s.data.toList [120, 110, 45, 45] = decide ((bytesN s).take 4 = xnL) := by
 unfold Go.Lib.hasPrefix bytesN xnL
 rw [Bool.eq_iff_iff, decide_eq_true_eq, List.isPrefixOf_iff_prefix, List.prefix_iff_eq_take]
 show [120, 110, 45, 45] = s.data.toList.take 4 ↔ _
 rw [← List.map_take]
 constructor
 · intro h; rw [← h]; rfl
 · intro h
   have hm : (s.data.toList.take 4).map (·.toNat) = ([120, 110, 45, 45] : List UInt8).map (·.toNat) := h
   exact ((List.map_inj_right (fun a b e => UInt8.toNat_inj.1 e)).1 hm).symm
theorem xn_trim (s : ByteArray) (h : (bytesN s).take 4 = xnL) : (⟨(Go.Lib.trimPrefix s.data.toList [120, 110, 45, 45]).toArray⟩ : ByteArray) = bytesL ((bytesN s).drop 4) := by
 unfold Go.Lib.trimPrefix
 rw [xn_pre, dcT h, if_pos rfl]
 apply toList_inj
 unfold bytesL bytesN
 have e : (UInt8.ofNat ∘ fun x : UInt8 => x.toNat) = id := by funext x; simp
 rw [ByteArray.toList_eq, ByteArray.toList_eq, ← List.map_drop]
 simp [e]
theorem xn_keep (s : ByteArray) (h : ¬ (bytesN s).take 4 = xnL) : (⟨(Go.Lib.trimPrefix s.data.toList [120, 110, 45, 45]).toArray⟩ : ByteArray) = s := by
 unfold Go.Lib.trimPrefix
 rw [xn_pre, dcF h]
 rfl
end
section
open Go.RowKit
theorem encIn_next (basic m : Nat) (cs : List Nat) (s : ESt) (j c : Nat) (h : cs[j]? = some c) : encIn basic m (cs.take (j + 1)) s = encStep basic m (encIn basic m (cs.take j) s) c := by
 unfold encIn
 rw [List.take_add_one, h, List.foldl_append]; rfl
theorem encIn_delta (basic m : Nat) : ∀ (l : List Nat) (s : ESt), (encIn basic m l s).delta ≤ s.delta + l.length
 | [], s => Nat.le_refl _
 | c :: l, s => by
   have ih := encIn_delta basic m l (encStep basic m s c)
   have : (encStep basic m s c).delta ≤ s.delta + 1 := by
    unfold encStep
    split
    · exact Nat.le_refl _
    · split
      · exact Nat.zero_le _
      · omega
   show (encIn basic m l (encStep basic m s c)).delta ≤ _
   rw [List.length_cons]; omega
theorem encIn_bias (basic m : Nat) : ∀ (l : List Nat) (s : ESt) (K : Nat), s.bias ≤ 2 * K + 36 → s.delta + l.length ≤ K → (encIn basic m l s).bias ≤ 2 * K + 36
 | [], s, K, h, _ => h
 | c :: l, s, K, h, hk => by
   rw [List.length_cons] at hk
   show (encIn basic m l (encStep basic m s c)).bias ≤ _
   refine encIn_bias basic m l (encStep basic m s c) K ?_ ?_
   · unfold encStep
     split
     · exact h
     · split
       · have := adaptN_le s.delta (s.h + 1) (decide (s.h = basic))
         show adaptN _ _ _ ≤ _
         omega
       · exact h
   · unfold encStep
     split
     · show s.delta + 1 + _ ≤ _; omega
     · split
       · show 0 + _ ≤ _; omega
       · omega
theorem encIn_out (basic m : Nat) : ∀ (l : List Nat) (s : ESt), s.delta + l.length < 1000000000 → (encIn basic m l s).out.length + 10 * s.h ≤ s.out.length + 10 * (encIn basic m l s).h
 | [], s, _ => Nat.le_refl _
 | c :: l, s, hk => by
   rw [List.length_cons] at hk
   show (encIn basic m l (encStep basic m s c)).out.length + _ ≤ _ + 10 * (encIn basic m l (encStep basic m s c)).h
   have ih := encIn_out basic m l (encStep basic m s c) (by
    unfold encStep
    split
    · show s.delta + 1 + _ < _; omega
    · split
      · show 0 + _ < _; omega
      · omega)
   have : (encStep basic m s c).out.length + 10 * s.h ≤ s.out.length + 10 * (encStep basic m s c).h := by
    unfold encStep
    split
    · exact Nat.le_refl _
    · split
      · have := pnumL_len 9 s.delta s.bias 36 (by omega)
        show (s.out ++ _).length + _ ≤ _ + 10 * (s.h + 1)
        rw [List.length_append]; omega
      · exact Nat.le_refl _
   omega
theorem encIn_hle (basic m n : Nat) (cs : List Nat) (s : ESt) (j : Nat) (hn : nextN cs n = some m) (hs : s.h = (cs.filter fun c => decide (c < n)).length) : (encIn basic m (cs.take j) s).h ≤ cs.length := by
 have h1 := encIn_h basic m (cs.take j) s
 have h2 := filter_lt_succ hn
 have h3 : ((cs.take j).filter fun c => decide (c = m)).length ≤ (cs.filter fun c => decide (c = m)).length := by
  have : (cs.filter fun c => decide (c = m)) = ((cs.take j).filter fun c => decide (c = m)) ++ ((cs.drop j).filter fun c => decide (c = m)) := by
   rw [← List.filter_append, List.take_append_drop]
  rw [this, List.length_append]; omega
 have h4 : (cs.filter fun c => decide (c < m + 1)).length ≤ cs.length := List.length_filter_le _ _
 omega
theorem encIn_hge (basic m : Nat) (l : List Nat) (s : ESt) : s.h ≤ (encIn basic m l s).h := (encIn_len basic m l s).2
end
section
open Go.RowKit
theorem putN_le (c : Nat) : (putN c).length ≤ 4 := by unfold putN; split <;> (try split) <;> (try split) <;> simp
theorem placeC_zero (l : List Nat) : placeC l 0 = 0 := by unfold placeC; simp
theorem placeC_succ {l : List Nat} {j x : Nat} (h : l[j]? = some x) : placeC l (j + 1) = placeC l j + (putN x).length := by
 unfold placeC; rw [List.take_add_one, h]; simp
theorem flat_le : ∀ l : List Nat, l.length ≤ (l.flatMap putN).length ∧ (l.flatMap putN).length ≤ 4 * l.length
 | [] => by simp
 | c :: l => by
   have h1 := putN_le c; have h2 := putN_pos c; have h3 := flat_le l
   rw [List.flatMap_cons, List.length_append, List.length_cons]; omega
theorem placeC_le (l : List Nat) (j : Nat) : placeC l j ≤ 4 * l.length := by
 unfold placeC
 have h := (flat_le (l.take j)).2
 have h2 : (l.take j).length ≤ l.length := by rw [List.length_take]; omega
 omega
theorem chars_len {s : ByteArray} {cs : List Nat} (h : charsS s 0 [] = .ok cs) : cs.length ≤ s.size := by
 have h' : charsS (bytesL (bytesN s)) 0 [] = .ok cs := by rw [bytesL_bytesN]; exact h
 have h2 := (charsL_ok (bytesN_lt s) h').2
 have h3 := (flat_le cs).1
 rw [h2, bytesN_len] at h3
 exact h3
theorem charsF_place (B : ByteArray) : ∀ f i acc k p, charsF B f i acc = .no k p → 0 ≤ p ∧ p ≤ B.size
 | 0, i, acc, k, p, h => by
   rw [charsF] at h
   split at h
   · cases h; omega
   · cases h
 | f + 1, i, acc, k, p, h => by
   rw [charsF] at h
   split at h
   · split at h
     · cases h; omega
     · exact charsF_place B f _ _ _ _ h
   · cases h
theorem rightL_place {t : List Nat} {k p : Nat} (h : rightL t = (k, p)) : p ≤ t.length + 63 := by
 unfold rightL at h
 split at h
 · cases h; omega
 · split at h
   · cases h; omega
   · split at h
     · rename_i i hi
       have := List.mem_of_find?_eq_some hi
       rw [List.mem_range] at this
       cases h; omega
     · split at h <;> (cases h; omega)
theorem ascii_place {b : List Nat} {k : Nat} {q : Int} (h : asciiL b = .no k q) : 0 ≤ q ∧ q ≤ 4 * b.length + 63 := by
 unfold asciiL at h
 have hz := bytesL_size b
 split at h
 · rename_i k' p' hc
   have := charsF_place _ _ _ _ _ _ hc
   rw [hz] at this
   cases h; omega
 · rename_i cs hc
   have hl := chars_len hc
   rw [hz] at hl
   split at h
   · split at h
     · cases h
     · rename_i p hr
       have := rightL_place hr
       rw [List.length_map] at this
       cases h; omega
   · unfold asciiW at h
     split at h
     · rename_i i hi
       have := placeC_le (cs.map lowN) i
       rw [List.length_map] at this
       cases h; omega
     · split at h
       · cases h; omega
       · split at h
         · cases h; omega
         · cases h
theorem trimL_len (b : List Nat) : (trimL b).length ≤ b.length := by
 unfold trimL; split
 · rw [List.length_take]; omega
 · exact Nat.le_refl _
theorem trimL_byte {b : List Nat} (h : ByteL b) : ByteL (trimL b) := by
 unfold trimL; split
 · exact h.take _
 · exact h
theorem joinN_flat (m : Nat) : ∀ (ps : List (List Nat)) (p : List Nat), joinN m (p :: ps) = p ++ ps.flatMap (fun q => m :: q)
 | [], p => by simp [joinN]
 | q :: ps, p => by rw [joinN, joinN_flat m ps q]; simp
theorem mem_flat_len (m : Nat) : ∀ (ps : List (List Nat)) (p : List Nat), p ∈ ps → p.length + 1 ≤ (ps.flatMap fun q => m :: q).length
 | [], p, h => by cases h
 | a :: t, p, h => by
   rw [List.flatMap_cons, List.length_append, List.length_cons]
   rcases List.mem_cons.1 h with rfl | h
   · omega
   · have := mem_flat_len m t p h; omega
theorem mem_join_len {m : Nat} {ps : List (List Nat)} {p : List Nat} (h : p ∈ ps) : p.length ≤ (joinN m ps).length := by
 cases ps with
 | nil => cases h
 | cons q ps =>
   rw [joinN_flat, List.length_append]
   rcases List.mem_cons.1 h with rfl | h
   · omega
   · have := mem_flat_len m ps p h; omega
theorem join_small (m n : Nat) : ∀ {ps : List (List Nat)}, (∀ p ∈ ps, p.length ≤ n) → (joinN m ps).length ≤ (n + 1) * ps.length
 | [], _ => by simp [joinN]
 | q :: ps, h => by
   have hq := h q (by simp)
   have key : ∀ l : List (List Nat), (∀ p ∈ l, p.length ≤ n) → (l.flatMap fun q => m :: q).length ≤ (n + 1) * l.length := by
    intro l
    induction l with
    | nil => intro _; simp
    | cons a t ih =>
      intro h
      have h1 := h a (by simp)
      have h2 := ih (fun p hp => h p (by simp [hp]))
      rw [List.flatMap_cons, List.length_append, List.length_cons, List.length_cons, Nat.mul_add]
      omega
   have := key ps (fun p hp => h p (by simp [hp]))
   rw [joinN_flat, List.length_append, List.length_cons, Nat.mul_add]
   omega
theorem field_len {m most : Nat} {l : List Nat} {ps : List (List Nat)} (h1 : 1 ≤ most) (h : fieldsL m most l = .ok ps) : ps.length ≤ most ∧ 0 < ps.length ∧ ∀ p ∈ ps, p.length ≤ l.length ∧ ∀ c ∈ p, c ∈ l := by
 obtain ⟨rfl, hl⟩ := fields_is h1 h
 refine ⟨hl, List.length_pos_iff.2 (splitN_ne m l), fun p hp => ⟨?_, fun c hc => (splitN_free m l p hp c hc).2⟩⟩
 have := mem_join_len (m := m) hp
 rw [joinN_split] at this
 exact this
end
section
open Go.RowKit
theorem encG_out (basic : Nat) (cs : List Nat) (hl : cs.length ≤ 256) (hm : ∀ c ∈ cs, c ≤ 1114111) : ∀ (k n : Nat) (s : ESt), above cs n ≤ k → s.h = (cs.filter fun c => decide (c < n)).length → s.delta ≤ 600 * n → (encG basic cs n s).out.length + 10 * s.h ≤ s.out.length + 10 * cs.length := by
 have hfl : ∀ n : Nat, (cs.filter fun c => decide (c < n)).length ≤ cs.length := fun n => List.length_filter_le _ _
 intro k
 induction k with
 | zero =>
   intro n s h hs hd
   cases hn : nextN cs n with
   | some m => have := above_less hn; omega
   | none => rw [encG_none hn]; have := hfl n; omega
 | succ k ih =>
   intro n s h hs hd
   cases hn : nextN cs n with
   | none => rw [encG_none hn]; have := hfl n; omega
   | some m =>
     have hab := above_less hn
     obtain ⟨hmc, hnm, _⟩ := nextN_some hn
     have hm1 := hm m hmc
     have hh := hfl n
     rw [encG_some hn]
     have hp : (m - n) * (s.h + 1) ≤ (m - n) * 257 := Nat.mul_le_mul_left _ (by omega)
     have e0 : (addD s ((m - n) * (s.h + 1))).delta = s.delta + (m - n) * (s.h + 1) := rfl
     have e1 : (addD s ((m - n) * (s.h + 1))).h = s.h := rfl
     have e2 : (addD s ((m - n) * (s.h + 1))).out = s.out := rfl
     obtain ⟨s1, hs1⟩ : ∃ x, addD s ((m - n) * (s.h + 1)) = x := ⟨_, rfl⟩
     rw [hs1] at e0 e1 e2
     rw [hs1]
     have h1 := encIn_out basic m cs s1 (by omega)
     have h2 := encIn_h basic m cs s1
     have h3 := filter_lt_succ hn
     have h5 := encIn_delta basic m cs s1
     have h4 := ih (m + 1) (addD (encIn basic m cs s1) 1) (by omega) (by
      show (encIn basic m cs s1).h = _
      rw [h2, e1, hs, h3]) (by
      show (encIn basic m cs s1).delta + 1 ≤ _
      omega)
     have e3 : (addD (encIn basic m cs s1) 1).h = (encIn basic m cs s1).h := rfl
     have e4 : (addD (encIn basic m cs s1) 1).out = (encIn basic m cs s1).out := rfl
     rw [e3, e4] at h4
     rw [e1, e2] at h1
     omega
theorem encL_max {cs : List Nat} (hl : cs.length ≤ 256) (hr : AllRight cs) : (encL cs).length ≤ 4000 := by
 have hb : (basicL cs).length ≤ cs.length := List.length_filter_le _ _
 have := encG_out (basicL cs).length cs hl (fun c hc => by have := (right_iff _).1 (hr c hc); omega) (above cs 128) 128 ⟨0, 72, (basicL cs).length, basicL cs ++ dashL (basicL cs)⟩ (Nat.le_refl _) rfl (Nat.zero_le _)
 have e : (⟨0, 72, (basicL cs).length, basicL cs ++ dashL (basicL cs)⟩ : ESt).h = (basicL cs).length := rfl
 have hd : (dashL (basicL cs)).length ≤ 1 := by unfold dashL; split <;> simp
 have e2 : (⟨0, 72, (basicL cs).length, basicL cs ++ dashL (basicL cs)⟩ : ESt).out.length = (basicL cs).length + (dashL (basicL cs)).length := by
  show (basicL cs ++ dashL (basicL cs)).length = _
  rw [List.length_append]
 rw [e, e2] at this
 unfold encL
 omega
end
end Go.Proofs.YtbeodjipdpcaiaaGreatDoor
