/- Pun0, Pun1, Pun2 in one text (a claim holds at most 60 files). -/
import Derived.Test.YtbeodjipdpcaiaaGreatDoorYFold0sf
namespace Go.Proofs.YtbeodjipdpcaiaaGreatDoor
section
open Go.RowKit
def thrN (k bias : Nat) : Nat := min (max (k - bias) 1) 26
theorem thrN_ge (k bias : Nat) : 1 ≤ thrN k bias := by unfold thrN; omega
theorem thrN_le (k bias : Nat) : thrN k bias ≤ 26 := by unfold thrN; omega
def adF : Nat → Nat → Nat → Nat
 | 0, d, k => k + 36 * d / (d + 38)
 | f + 1, d, k => if 455 < d then adF f (d / 35) (k + 36) else k + 36 * d / (d + 38)
theorem adF_stop {f d k : Nat} (h : ¬ 455 < d) : adF f d k = k + 36 * d / (d + 38) := by
 cases f with
 | zero => rfl
 | succ f => rw [adF, if_neg h]
theorem adF_fuel : ∀ (f g d k : Nat), d ≤ f → d ≤ g → adF f d k = adF g d k
 | 0, g, d, k, h1, h2 => by rw [adF_stop (by omega), adF_stop (by omega)]
 | f + 1, 0, d, k, h1, h2 => by rw [adF_stop (by omega), adF_stop (by omega)]
 | f + 1, g + 1, d, k, h1, h2 => by
   rw [adF, adF]
   split
   · exact adF_fuel f g _ _ (by omega) (by omega)
   · rfl
def adL (d k : Nat) : Nat := adF d d k
theorem adL_go {d k : Nat} (h : 455 < d) : adL d k = adL (d / 35) (k + 36) := by
 unfold adL
 cases d with
 | zero => omega
 | succ f =>
   rw [adF, if_pos h]
   exact adF_fuel _ _ _ _ (by omega) (Nat.le_refl _)
theorem adL_stop {d k : Nat} (h : ¬ 455 < d) : adL d k = k + 36 * d / (d + 38) := adF_stop h
theorem adF_le : ∀ (f d k : Nat), adF f d k ≤ k + d + 36
 | 0, d, k => by
   rw [adF]
   have : 36 * d / (d + 38) ≤ 36 := Nat.div_le_of_le_mul (by rw [Nat.mul_comm]; exact Nat.mul_le_mul_right _ (by omega))
   omega
 | f + 1, d, k => by
   rw [adF]
   split
   · have := adF_le f (d / 35) (k + 36)
     omega
   · have : 36 * d / (d + 38) ≤ 36 := Nat.div_le_of_le_mul (by rw [Nat.mul_comm]; exact Nat.mul_le_mul_right _ (by omega))
     omega
def adD (delta count : Nat) (first : Bool) : Nat := (if first then delta / 700 else delta / 2) + (if first then delta / 700 else delta / 2) / count
def adaptN (delta count : Nat) (first : Bool) : Nat := adL (adD delta count first) 0
theorem adD_le (delta count : Nat) (first : Bool) : adD delta count first ≤ 2 * delta := by
 unfold adD
 have h : (if first then delta / 700 else delta / 2) ≤ delta := by split <;> omega
 have := Nat.div_le_self (if first then delta / 700 else delta / 2) count
 omega
theorem adaptN_le (delta count : Nat) (first : Bool) : adaptN delta count first ≤ 2 * delta + 36 := by
 have h1 := adF_le (adD delta count first) (adD delta count first) 0
 have h2 := adD_le delta count first
 unfold adaptN adL
 omega
def digN (n : Nat) : Nat := if n < 26 then 97 + n else 22 + n
def numF : Nat → Nat → Nat → Nat → List Nat
 | 0, n, _, _ => [digN n]
 | f + 1, n, b, k => if n < thrN k b then [digN n] else digN (thrN k b + (n - thrN k b) % (36 - thrN k b)) :: numF f ((n - thrN k b) / (36 - thrN k b)) b (k + 36)
def pnumL (n b k : Nat) : List Nat := numF n n b k
theorem numF_stop {f n b k : Nat} (h : n < thrN k b) : numF f n b k = [digN n] := by
 cases f with
 | zero => rfl
 | succ f => rw [numF, if_pos h]
theorem num_less {n b k : Nat} (h : ¬ n < thrN k b) : (n - thrN k b) / (36 - thrN k b) < n := by
 have h1 := thrN_ge k b
 have h2 := thrN_le k b
 have := Nat.div_le_self (n - thrN k b) (36 - thrN k b)
 omega
theorem numF_fuel : ∀ (f g n b k : Nat), n ≤ f → n ≤ g → numF f n b k = numF g n b k
 | 0, g, n, b, k, h1, h2 => by
   have := thrN_ge k b
   rw [numF_stop (by omega), numF_stop (by omega)]
 | f + 1, 0, n, b, k, h1, h2 => by
   have := thrN_ge k b
   rw [numF_stop (by omega), numF_stop (by omega)]
 | f + 1, g + 1, n, b, k, h1, h2 => by
   rw [numF, numF]
   split
   · rfl
   · rename_i h
     have := num_less h
     rw [numF_fuel f g _ _ _ (by omega) (by omega)]
theorem pnumL_go {n b k : Nat} (h : ¬ n < thrN k b) : pnumL n b k = digN (thrN k b + (n - thrN k b) % (36 - thrN k b)) :: pnumL ((n - thrN k b) / (36 - thrN k b)) b (k + 36) := by
 have h0 := thrN_ge k b
 unfold pnumL
 cases n with
 | zero => omega
 | succ f =>
   rw [numF, if_neg h]
   have := num_less h
   rw [numF_fuel f _ _ _ _ (by omega) (Nat.le_refl _)]
theorem pnumL_stop {n b k : Nat} (h : n < thrN k b) : pnumL n b k = [digN n] := numF_stop h
def DigB (x : Nat) : Prop := 97 ≤ x ∧ x ≤ 122 ∨ 48 ≤ x ∧ x ≤ 57
theorem digN_digB {n : Nat} (h : n < 36) : DigB (digN n) := by
 unfold DigB digN
 split <;> omega
theorem thr_digit {n k b : Nat} : thrN k b + (n - thrN k b) % (36 - thrN k b) < 36 := by
 have h1 := thrN_ge k b
 have h2 := thrN_le k b
 have := Nat.mod_lt (n - thrN k b) (show 0 < 36 - thrN k b by omega)
 omega
theorem pnumL_dig : ∀ (n b k : Nat), ∀ x ∈ pnumL n b k, DigB x := by
 intro n
 induction n using Nat.strongRecOn with
 | ind n ih =>
   intro b k x hx
   by_cases h : n < thrN k b
   · rw [pnumL_stop h] at hx
     simp at hx
     subst hx
     have := thrN_le k b
     exact digN_digB (by omega)
   · rw [pnumL_go h] at hx
     rcases List.mem_cons.1 hx with rfl | hx
     · exact digN_digB thr_digit
     · exact ih _ (num_less h) _ _ x hx
theorem pnumL_pos (n b k : Nat) : 0 < (pnumL n b k).length := by
 by_cases h : n < thrN k b
 · rw [pnumL_stop h]; exact Nat.one_pos
 · rw [pnumL_go h]; exact Nat.succ_pos _
theorem num_tenth {n b k : Nat} : (n - thrN k b) / (36 - thrN k b) ≤ n / 10 := by
 have h2 := thrN_le k b
 exact Nat.le_trans (Nat.div_le_div_left (show 10 ≤ 36 - thrN k b by omega) (by omega)) (Nat.div_le_div_right (by omega))
theorem pnumL_len : ∀ (m n b k : Nat), n < 10 ^ m → (pnumL n b k).length ≤ m + 1
 | 0, n, b, k, h => by
   have := thrN_ge k b
   rw [pnumL_stop (by omega)]; exact Nat.le_refl _
 | m + 1, n, b, k, h => by
   by_cases h1 : n < thrN k b
   · rw [pnumL_stop h1]; simp
   · rw [pnumL_go h1, List.length_cons]
     have h2 := num_tenth (n := n) (b := b) (k := k)
     have h3 : n / 10 < 10 ^ m := by rw [Nat.div_lt_iff_lt_mul (by decide), ← Nat.pow_succ]; exact h
     have := pnumL_len m ((n - thrN k b) / (36 - thrN k b)) b (k + 36) (by omega)
     omega
def valN (c : Nat) : Nat := if 65 ≤ c ∧ c ≤ 90 then c - 65 else if 97 ≤ c ∧ c ≤ 122 then c - 97 else if 48 ≤ c ∧ c ≤ 57 then c - 22 else 99
theorem valN_digN {n : Nat} (h : n < 36) : valN (digN n) = n := by
 unfold valN digN
 split
 · rw [if_neg (by omega), if_pos (by omega)]; omega
 · rw [if_neg (by omega), if_neg (by omega), if_pos (by omega)]; omega
def rnumF (s : ByteArray) (b : Nat) : Nat → Nat → Nat → Nat → Nat → Sc (Nat × Nat)
 | 0, at_, _, _, _ => .no 10 at_
 | f + 1, at_, n, w, k =>
   if at_ = s.size then .no 10 at_
   else if 36 ≤ valN (byteAt s at_) then .no 11 at_
   else if 2147483647 < n + valN (byteAt s at_) * w then .no 16 at_
   else if valN (byteAt s at_) < thrN k b then .ok (n + valN (byteAt s at_) * w, at_ + 1)
   else if 2147483647 < w * (36 - thrN k b) then .no 16 at_
   else rnumF s b f (at_ + 1) (n + valN (byteAt s at_) * w) (w * (36 - thrN k b)) (k + 36)
def rnumS (s : ByteArray) (b at_ : Nat) : Sc (Nat × Nat) := rnumF s b (s.size - at_ + 1) at_ 0 1 36
theorem rnum_read (s : ByteArray) (b : Nat) : ∀ (n f at_ acc w k : Nat), at_ + (pnumL n b k).length ≤ s.size → s.size - at_ < f → (∀ j (h : j < (pnumL n b k).length), byteAt s (at_ + j) = (pnumL n b k)[j]) → 1 ≤ w → 35 * (acc + n * w) ≤ 2147483647 →
    rnumF s b f at_ acc w k = .ok (acc + n * w, at_ + (pnumL n b k).length) := by
 intro n
 induction n using Nat.strongRecOn with
 | ind n ih =>
   intro f at_ acc w k hl hf hb hw hm
   have hp := pnumL_pos n b k
   obtain ⟨g, rfl⟩ : ∃ g, f = g + 1 := ⟨f - 1, by omega⟩
   have hb0 := hb 0 hp
   rw [rnumF, if_neg (by omega)]
   rw [Nat.add_zero] at hb0
   have h1 := thrN_ge k b
   have h2 := thrN_le k b
   by_cases h : n < thrN k b
   · have e := pnumL_stop h
     have hb1 : byteAt s at_ = digN n := by rw [hb0]; simp [e]
     rw [hb1, valN_digN (by omega), if_neg (by omega), if_neg (by omega), if_pos h, e]
     rfl
   · have e := pnumL_go h
     have hlt := num_less h
     have hd := thr_digit (n := n) (k := k) (b := b)
     have hdm := Nat.div_add_mod (n - thrN k b) (36 - thrN k b)
     generalize hq : (n - thrN k b) / (36 - thrN k b) = q at *
     generalize hr : (n - thrN k b) % (36 - thrN k b) = r at *
     have hb1 : byteAt s at_ = digN (thrN k b + r) := by rw [hb0]; simp [e]
     have hlen : (pnumL n b k).length = (pnumL q b (k + 36)).length + 1 := by rw [e]; rfl
     have hn : acc + n * w = acc + (thrN k b + r) * w + q * (w * (36 - thrN k b)) := by
      have : n = thrN k b + r + (36 - thrN k b) * q := by omega
      rw [this, Nat.add_mul, Nat.add_assoc]
      congr 1
      rw [Nat.mul_comm (36 - thrN k b) q, Nat.mul_assoc, Nat.mul_comm w]
     have hnw : w ≤ n * w := Nat.le_mul_of_pos_left _ (by omega)
     have hw2 : w * (36 - thrN k b) ≤ w * 35 := Nat.mul_le_mul_left _ (by omega)
     have hw3 : 1 ≤ w * (36 - thrN k b) := Nat.mul_pos hw (by omega)
     have hqm := Nat.zero_le (q * (w * (36 - thrN k b)))
     rw [hb1, valN_digN hd, if_neg (by omega), if_neg (by omega), if_neg (by omega), if_neg (by omega)]
     rw [ih q hlt g (at_ + 1) (acc + (thrN k b + r) * w) (w * (36 - thrN k b)) (k + 36) (by omega) (by omega) (fun j hj => ?_) hw3 (by omega), hn, hlen]
     · congr 2; omega
     · have := hb (j + 1) (by omega)
       rw [show at_ + 1 + j = at_ + (j + 1) by omega, this]
       simp [e]
end
section
open Go.RowKit
def nextN (cs : List Nat) (n : Nat) : Option Nat := (cs.filter fun c => decide (n ≤ c)).min?
theorem nextN_none {cs : List Nat} {n : Nat} (h : nextN cs n = none) : ∀ c ∈ cs, c < n := fun c hc => by
 unfold nextN at h
 rw [List.min?_eq_none_iff] at h
 have := List.filter_eq_nil_iff.1 h c hc
 simp at this
 exact this
theorem nextN_some {cs : List Nat} {n m : Nat} (h : nextN cs n = some m) : m ∈ cs ∧ n ≤ m ∧ ∀ c ∈ cs, n ≤ c → m ≤ c := by
 unfold nextN at h
 rw [List.min?_eq_some_iff] at h
 obtain ⟨h1, h2⟩ := h
 rw [List.mem_filter] at h1
 refine ⟨h1.1, by simpa using h1.2, fun c hc hn => h2 c ?_⟩
 rw [List.mem_filter]
 exact ⟨hc, by simpa using hn⟩
theorem nextN_of {cs : List Nat} {n m : Nat} (h1 : m ∈ cs) (h2 : n ≤ m) (h3 : ∀ c ∈ cs, n ≤ c → m ≤ c) : nextN cs n = some m := by
 unfold nextN
 rw [List.min?_eq_some_iff]
 refine ⟨by rw [List.mem_filter]; exact ⟨h1, by simpa using h2⟩, fun c hc => ?_⟩
 rw [List.mem_filter] at hc
 exact h3 c hc.1 (by simpa using hc.2)
theorem nextN_no {cs : List Nat} {n : Nat} (h : ∀ c ∈ cs, c < n) : nextN cs n = none := by
 cases hn : nextN cs n with
 | none => rfl
 | some m =>
   have h1 := (nextN_some hn).1
   have h2 := (nextN_some hn).2.1
   have := h m h1
   omega
structure ESt where
 delta : Nat
 bias : Nat
 h : Nat
 out : List Nat
def encStep (basic m : Nat) (s : ESt) (c : Nat) : ESt := if c < m then ⟨s.delta + 1, s.bias, s.h, s.out⟩ else if c = m then ⟨0, adaptN s.delta (s.h + 1) (decide (s.h = basic)), s.h + 1, s.out ++ pnumL s.delta s.bias 36⟩ else s
def encIn (basic m : Nat) (cs : List Nat) (s : ESt) : ESt := cs.foldl (encStep basic m) s
def addD (s : ESt) (k : Nat) : ESt := ⟨s.delta + k, s.bias, s.h, s.out⟩
def encF (basic : Nat) (cs : List Nat) : Nat → Nat → ESt → ESt
 | 0, _, s => s
 | f + 1, n, s => match nextN cs n with
   | none => s
   | some m => encF basic cs f (m + 1) (addD (encIn basic m cs (addD s ((m - n) * (s.h + 1)))) 1)
def above (cs : List Nat) (n : Nat) : Nat := (cs.filter fun c => decide (n ≤ c)).length
theorem above_less {cs : List Nat} {n m : Nat} (h : nextN cs n = some m) : above cs (m + 1) < above cs n := by
 obtain ⟨h1, h2, h3⟩ := nextN_some h
 unfold above
 have e : (cs.filter fun c => decide (m + 1 ≤ c)) = (cs.filter fun c => decide (n ≤ c)).filter fun c => decide (m + 1 ≤ c) := by
  rw [List.filter_filter]
  refine List.filter_congr (fun c _ => ?_)
  by_cases hc : m + 1 ≤ c
  · simp [hc]; omega
  · simp [hc]
 rw [e]
 refine List.length_filter_lt_length_iff_exists.2 ⟨m, ?_, by simp⟩
 rw [List.mem_filter]
 exact ⟨h1, by simpa using h2⟩
theorem encF_fuel (basic : Nat) (cs : List Nat) : ∀ (f g n : Nat) (s : ESt), above cs n ≤ f → above cs n ≤ g → encF basic cs f n s = encF basic cs g n s
 | 0, 0, n, s, h1, h2 => rfl
 | 0, g + 1, n, s, h1, h2 => by
   rw [encF, encF]
   cases h : nextN cs n with
   | none => rfl
   | some m => have := above_less h; omega
 | f + 1, 0, n, s, h1, h2 => by
   rw [encF, encF]
   cases h : nextN cs n with
   | none => rfl
   | some m => have := above_less h; omega
 | f + 1, g + 1, n, s, h1, h2 => by
   rw [encF, encF]
   cases h : nextN cs n with
   | none => rfl
   | some m =>
     have := above_less h
     exact encF_fuel basic cs f g (m + 1) _ (by omega) (by omega)
def encG (basic : Nat) (cs : List Nat) (n : Nat) (s : ESt) : ESt := encF basic cs (above cs n) n s
theorem encG_none {basic : Nat} {cs : List Nat} {n : Nat} {s : ESt} (h : nextN cs n = none) : encG basic cs n s = s := by
 unfold encG
 cases above cs n with
 | zero => rfl
 | succ f => rw [encF, h]
theorem encG_some {basic : Nat} {cs : List Nat} {n m : Nat} {s : ESt} (h : nextN cs n = some m) : encG basic cs n s = encG basic cs (m + 1) (addD (encIn basic m cs (addD s ((m - n) * (s.h + 1)))) 1) := by
 have hl := above_less h
 unfold encG
 cases hf : above cs n with
 | zero => omega
 | succ f =>
   rw [encF, h]
   exact encF_fuel basic cs f _ (m + 1) _ (by omega) (Nat.le_refl _)
def basicL (cs : List Nat) : List Nat := cs.filter fun c => decide (c < 128)
def dashL (l : List Nat) : List Nat := if 0 < l.length then [45] else []
def encL (cs : List Nat) : List Nat := (encG (basicL cs).length cs 128 ⟨0, 72, (basicL cs).length, basicL cs ++ dashL (basicL cs)⟩).out
def bytesL (l : List Nat) : ByteArray := ⟨(l.map UInt8.ofNat).toArray⟩
theorem bytesL_size (l : List Nat) : (bytesL l).size = l.length := by
 show ((l.map UInt8.ofNat).toArray).size = _
 simp
theorem bytesL_at {l : List Nat} {i : Nat} (h : i < l.length) (hb : ∀ x ∈ l, x < 256) : byteAt (bytesL l) i = l[i] := by
 unfold byteAt bytesL
 have := hb l[i] (List.getElem_mem h)
 simp [h]
 omega
def lastDash (s : ByteArray) : Nat := (List.range s.size).foldl (fun l i => if byteAt s i = 45 then i else l) 0
structure DSt where
 at_ : Nat
 n : Nat
 place : Nat
 bias : Nat
 first : Bool
 out : List Nat
def putAt (l : List Nat) (p n : Nat) : List Nat := l.take p ++ n :: l.drop p
def decF (s : ByteArray) : Nat → DSt → Sc (List Nat)
 | 0, d => .ok d.out
 | f + 1, d => if s.size ≤ d.at_ then .ok d.out else match rnumS s d.bias d.at_ with
   | .no k p => .no k p
   | .ok (i, tq) =>
     if rightN ((d.n + (d.place + i) / (d.out.length + 1) : Nat) : Int) = false then .no 16 ((tq : Int) - 1)
     else if 256 < d.out.length + 1 then .no 15 ((tq : Int) - 1)
     else decF s f ⟨tq, d.n + (d.place + i) / (d.out.length + 1), (d.place + i) % (d.out.length + 1) + 1, adaptN i (d.out.length + 1) d.first, false, putAt d.out ((d.place + i) % (d.out.length + 1)) (d.n + (d.place + i) / (d.out.length + 1))⟩
theorem rnumF_to (s : ByteArray) (b : Nat) : ∀ (f at_ n w k : Nat) (x : Nat × Nat), rnumF s b f at_ n w k = .ok x → at_ < x.2 ∧ (at_ ≤ s.size → x.2 ≤ s.size)
 | 0, at_, n, w, k, x, h => by cases h
 | f + 1, at_, n, w, k, x, h => by
   rw [rnumF] at h
   split at h
   · cases h
   · split at h
     · cases h
     · split at h
       · cases h
       · split at h
         · have := Sc.ok.inj h
           subst this
           exact ⟨Nat.lt_succ_self _, fun _ => by show at_ + 1 ≤ _; omega⟩
         · split at h
           · cases h
           · have := rnumF_to s b f _ _ _ _ x h
             exact ⟨by omega, fun _ => this.2 (by omega)⟩
theorem decF_fuel (s : ByteArray) : ∀ (f g : Nat) (d : DSt), s.size - d.at_ ≤ f → s.size - d.at_ ≤ g → decF s f d = decF s g d
 | 0, 0, d, h1, h2 => rfl
 | 0, g + 1, d, h1, h2 => by rw [decF, decF, if_pos (by omega)]
 | f + 1, 0, d, h1, h2 => by rw [decF, decF, if_pos (by omega)]
 | f + 1, g + 1, d, h1, h2 => by
   rw [decF, decF]
   split
   · rfl
   · cases hr : rnumS s d.bias d.at_ with
     | no k p => rfl
     | ok x =>
       obtain ⟨i, tq⟩ := x
       have hto := (rnumF_to s _ _ _ _ _ _ _ hr).1
       simp only at hto
       simp only
       split
       · rfl
       · split
         · rfl
         · exact decF_fuel s f g _ (by show s.size - tq ≤ f; omega) (by show s.size - tq ≤ g; omega)
def decG (s : ByteArray) (d : DSt) : Sc (List Nat) := decF s (s.size - d.at_) d
theorem decG_end {s : ByteArray} {d : DSt} (h : s.size ≤ d.at_) : decG s d = .ok d.out := by
 unfold decG
 rw [Nat.sub_eq_zero_of_le h]; rfl
theorem decG_go {s : ByteArray} {d : DSt} (h : d.at_ < s.size) : decG s d = match rnumS s d.bias d.at_ with
    | .no k p => .no k p
    | .ok (i, tq) =>
      if rightN ((d.n + (d.place + i) / (d.out.length + 1) : Nat) : Int) = false then .no 16 ((tq : Int) - 1)
      else if 256 < d.out.length + 1 then .no 15 ((tq : Int) - 1)
      else decG s ⟨tq, d.n + (d.place + i) / (d.out.length + 1), (d.place + i) % (d.out.length + 1) + 1, adaptN i (d.out.length + 1) d.first, false, putAt d.out ((d.place + i) % (d.out.length + 1)) (d.n + (d.place + i) / (d.out.length + 1))⟩ := by
 unfold decG
 obtain ⟨f, hf⟩ : ∃ f, s.size - d.at_ = f + 1 := ⟨s.size - d.at_ - 1, by omega⟩
 rw [hf, decF, if_neg (by omega)]
 cases hr : rnumS s d.bias d.at_ with
 | no k p => rfl
 | ok x =>
   obtain ⟨i, tq⟩ := x
   have hto := (rnumF_to s _ _ _ _ _ _ _ hr).1
   simp only at hto
   simp only
   rw [decF_fuel s f (s.size - tq) _ (by show s.size - tq ≤ f; omega) (Nat.le_refl _)]
def pdecS (s : ByteArray) : Sc (List Nat) :=
 if 1024 < s.size then .no 14 1024
 else match (List.range (lastDash s)).find? fun i => decide (128 ≤ byteAt s i) with
  | some i => .no 11 i
  | none => if 256 < lastDash s then .no 15 (lastDash s + 1 : Nat)
    else decG s ⟨if 0 < lastDash s then lastDash s + 1 else 0, 128, 0, 72, true, (List.range (lastDash s)).map (byteAt s)⟩
end
section
open Go.RowKit
theorem encStep_pre (basic m : Nat) (s : ESt) (c : Nat) : s.out <+: (encStep basic m s c).out := by
 unfold encStep
 split
 · exact List.prefix_refl _
 · split
   · exact List.prefix_append _ _
   · exact List.prefix_refl _
theorem encIn_pre (basic m : Nat) : ∀ (cs : List Nat) (s : ESt), s.out <+: (encIn basic m cs s).out
 | [], _s => List.prefix_refl _
 | c :: cs, s => (encStep_pre basic m s c).trans (encIn_pre basic m cs (encStep basic m s c))
theorem encG_pre (basic : Nat) (cs : List Nat) : ∀ (k n : Nat) (s : ESt), above cs n ≤ k → s.out <+: (encG basic cs n s).out := by
 intro k
 induction k with
 | zero =>
   intro n s h
   cases hn : nextN cs n with
   | none => rw [encG_none hn]; exact List.prefix_refl _
   | some m => have := above_less hn; omega
 | succ k ih =>
   intro n s h
   cases hn : nextN cs n with
   | none => rw [encG_none hn]; exact List.prefix_refl _
   | some m =>
     have := above_less hn
     rw [encG_some hn]
     exact (encIn_pre basic m cs (addD s ((m - n) * (s.h + 1)))).trans (ih (m + 1) (addD (encIn basic m cs (addD s ((m - n) * (s.h + 1)))) 1) (by omega))
def PTail (s t : ESt) : Prop := ∃ X, t.out = s.out ++ X ∧ (∀ x ∈ X, DigB x) ∧ (X = [] → t.h = s.h)
theorem PTail.refl (s : ESt) : PTail s s := ⟨[], (List.append_nil _).symm, fun x h => by simp at h, fun _ => rfl⟩
theorem PTail.trans {a b c : ESt} (h : PTail a b) (k : PTail b c) : PTail a c := by
 obtain ⟨X, h1, h2, h3⟩ := h
 obtain ⟨Y, k1, k2, k3⟩ := k
 refine ⟨X ++ Y, by rw [k1, h1, List.append_assoc], fun x hx => ?_, fun he => ?_⟩
 · rcases List.mem_append.1 hx with h | h
   · exact h2 x h
   · exact k2 x h
 · rw [List.append_eq_nil_iff] at he
   rw [k3 he.2, h3 he.1]
theorem encStep_tail (basic m : Nat) (s : ESt) (c : Nat) : PTail s (encStep basic m s c) := by
 unfold encStep
 split
 · exact ⟨[], (List.append_nil _).symm, fun x h => by simp at h, fun _ => rfl⟩
 · split
   · exact ⟨_, rfl, pnumL_dig _ _ _, fun h => by have := pnumL_pos s.delta s.bias 36; rw [h] at this; simp at this⟩
   · exact PTail.refl s
theorem encIn_tail (basic m : Nat) : ∀ (cs : List Nat) (s : ESt), PTail s (encIn basic m cs s)
 | [], s => PTail.refl s
 | c :: cs, s => (encStep_tail basic m s c).trans (encIn_tail basic m cs (encStep basic m s c))
theorem encG_tail (basic : Nat) (cs : List Nat) : ∀ (k n : Nat) (s : ESt), above cs n ≤ k → PTail s (encG basic cs n s) := by
 intro k
 induction k with
 | zero =>
   intro n s h
   cases hn : nextN cs n with
   | none => rw [encG_none hn]; exact PTail.refl s
   | some m => have := above_less hn; omega
 | succ k ih =>
   intro n s h
   cases hn : nextN cs n with
   | none => rw [encG_none hn]; exact PTail.refl s
   | some m =>
     have := above_less hn
     rw [encG_some hn]
     have h1 : PTail s (addD s ((m - n) * (s.h + 1))) := ⟨[], (List.append_nil _).symm, fun x h => by simp at h, fun _ => rfl⟩
     have h2 := encIn_tail basic m cs (addD s ((m - n) * (s.h + 1)))
     have h3 : PTail (encIn basic m cs (addD s ((m - n) * (s.h + 1)))) (addD (encIn basic m cs (addD s ((m - n) * (s.h + 1)))) 1) := ⟨[], (List.append_nil _).symm, fun x h => by simp at h, fun _ => rfl⟩
     exact ((h1.trans h2).trans h3).trans (ih (m + 1) _ (by omega))
structure Sim (basic m : Nat) (pre post : List Nat) (s : ESt) (d : DSt) : Prop where
 at_ : d.at_ = s.out.length
 bias : d.bias = s.bias
 first : d.first = decide (s.h = basic)
 out : d.out = (pre.filter fun c => decide (c ≤ m)) ++ post.filter fun c => decide (c < m)
 h : s.h = d.out.length
 eq : d.n * (s.h + 1) + d.place + s.delta = m * (s.h + 1) + (pre.filter fun c => decide (c ≤ m)).length
 pl : d.place ≤ s.h
 hb : basic ≤ s.h
structure Str (S : ByteArray) (F : List Nat) : Prop where
 sz : S.size = F.length
 at_ : ∀ j (h : j < F.length), byteAt S j = F[j]
theorem sim_step {S : ByteArray} {F : List Nat} {basic m c : Nat} {pre post : List Nat} {s : ESt} {d : DSt} (hs : Sim basic m pre (c :: post) s d) (hF : Str S F) (hp : (encStep basic m s c).out <+: F) (hr : rightN m = true) (hm : m ≤ 262143) (hl : pre.length + post.length + 1 ≤ 200) :
    ∃ d', Sim basic m (pre ++ [c]) post (encStep basic m s c) d' ∧ decG S d = decG S d' := by
 obtain ⟨e1, e2, e3, e4, e5, e6, e7, e8⟩ := hs
 unfold encStep at hp ⊢
 rcases Nat.lt_trichotomy c m with hc | hc | hc
 · rw [if_pos hc] at hp ⊢
   have f1 : (pre ++ [c]).filter (fun c => decide (c ≤ m)) = pre.filter (fun c => decide (c ≤ m)) ++ [c] := by
    rw [List.filter_append]; simp; omega
   refine ⟨d, ⟨e1, e2, e3, ?_, e5, ?_, e7, e8⟩, rfl⟩
   · rw [f1, e4, List.filter_cons, if_pos (by simpa using hc)]; simp
   · rw [f1, List.length_append]
     show d.n * (s.h + 1) + d.place + (s.delta + 1) = _
     simp only [List.length_cons, List.length_nil]
     omega
 · subst hc
   rw [if_neg (Nat.lt_irrefl _), if_pos rfl] at hp ⊢
   have f1 : (pre ++ [c]).filter (fun x => decide (x ≤ c)) = pre.filter (fun x => decide (x ≤ c)) ++ [c] := by
    rw [List.filter_append]; simp
   have f2 : (c :: post).filter (fun x => decide (x < c)) = post.filter (fun x => decide (x < c)) := by
    rw [List.filter_cons, if_neg (by simp)]
   rw [f2] at e4
   have la : (pre.filter fun x => decide (x ≤ c)).length ≤ pre.length := List.length_filter_le _ _
   have lb : (post.filter fun x => decide (x < c)).length ≤ post.length := List.length_filter_le _ _
   generalize hA : pre.filter (fun x => decide (x ≤ c)) = A at *
   generalize hB : post.filter (fun x => decide (x < c)) = Bq at *
   have hlen : s.h = A.length + Bq.length := by rw [e5, e4, List.length_append]
   obtain ⟨t, ht⟩ := hp
   have hnp := pnumL_pos s.delta s.bias 36
   have hFl : F.length = s.out.length + (pnumL s.delta s.bias 36).length + t.length := by rw [← ht]; simp [Nat.add_assoc]
   have hmh : c * (s.h + 1) ≤ 262143 * 200 := Nat.mul_le_mul hm (by omega)
   have hread := rnum_read S d.bias s.delta (S.size - d.at_ + 1) d.at_ 0 1 36 (by rw [e2, hF.sz, hFl, e1]; omega) (by omega) (fun j hj => by
    rw [e2] at hj
    rw [hF.at_ (d.at_ + j) (by rw [hFl, e1]; omega)]
    have : F[d.at_ + j]'(by rw [hFl, e1]; omega) = (s.out ++ pnumL s.delta s.bias 36 ++ t)[d.at_ + j]'(by rw [ht, hFl, e1]; omega) := by simp only [ht]
    rw [this, List.getElem_append_left (by rw [List.length_append, e1]; omega), List.getElem_append_right (by rw [e1]; omega)]
    simp [e1, e2]) (Nat.le_refl _) (by omega)
   rw [Nat.zero_add, Nat.mul_one, e2] at hread
   have hread' : rnumS S d.bias d.at_ = .ok (s.delta, d.at_ + (pnumL s.delta s.bias 36).length) := by unfold rnumS; rw [e2]; exact hread
   have hdn : d.n ≤ c := by
    by_cases h : d.n ≤ c
    · exact h
    · have h' : c + 1 ≤ d.n := by omega
      have := Nat.mul_le_mul_right (s.h + 1) h'
      rw [Nat.add_mul] at this
      omega
   have hsum : d.place + s.delta = A.length + (c - d.n) * (s.h + 1) := by
    rw [Nat.sub_mul]
    have := Nat.mul_le_mul_right (s.h + 1) hdn
    omega
   have hAh : A.length < s.h + 1 := by omega
   have hdiv : (d.place + s.delta) / (d.out.length + 1) = c - d.n := by
    rw [← e5, hsum, Nat.add_mul_div_right _ _ (by omega), Nat.div_eq_of_lt hAh, Nat.zero_add]
   have hmod : (d.place + s.delta) % (d.out.length + 1) = A.length := by
    rw [← e5, hsum, Nat.add_mul_mod_self_right, Nat.mod_eq_of_lt hAh]
   have hput : putAt d.out A.length c = A ++ c :: Bq := by
    unfold putAt
    rw [e4, List.take_left, List.drop_left]
   refine ⟨⟨d.at_ + (pnumL s.delta s.bias 36).length, c, A.length + 1, adaptN s.delta (s.h + 1) (decide (s.h = basic)), false, A ++ c :: Bq⟩, ⟨?_, rfl, ?_, ?_, ?_, ?_, ?_, ?_⟩, ?_⟩
   · show d.at_ + _ = (s.out ++ pnumL s.delta s.bias 36).length
     rw [List.length_append, e1]
   · show false = decide (s.h + 1 = basic)
     exact (dcF (by omega)).symm
   · show A ++ c :: Bq = _
     rw [f1, hB]; simp
   · show s.h + 1 = (A ++ c :: Bq).length
     rw [List.length_append, List.length_cons]; omega
   · show c * (s.h + 1 + 1) + (A.length + 1) + 0 = c * (s.h + 1 + 1) + _
     rw [f1]; simp
   · show A.length + 1 ≤ s.h + 1
     omega
   · show basic ≤ s.h + 1
     omega
   · rw [decG_go (by rw [hF.sz, hFl, e1]; omega), hread']
     simp only [hdiv, hmod]
     rw [show d.n + (c - d.n) = c by omega, if_neg (by rw [hr]; decide), if_neg (by rw [← e5]; omega), ← e5, e3, hput]
 · rw [if_neg (by omega), if_neg (by omega)] at hp ⊢
   have f1 : (pre ++ [c]).filter (fun c => decide (c ≤ m)) = pre.filter (fun c => decide (c ≤ m)) := by
    rw [List.filter_append]; simp; omega
   refine ⟨d, ⟨e1, e2, e3, ?_, e5, ?_, e7, e8⟩, rfl⟩
   · rw [f1, e4, List.filter_cons, if_neg (by simp; omega)]
   · rw [f1]; exact e6
theorem sim_in {S : ByteArray} {F : List Nat} {basic m : Nat} (hF : Str S F) (hr : rightN m = true) (hm : m ≤ 262143) : ∀ (post pre : List Nat) (s : ESt) (d : DSt), Sim basic m pre post s d → (encIn basic m post s).out <+: F → pre.length + post.length ≤ 200 →
    ∃ d', Sim basic m (pre ++ post) [] (encIn basic m post s) d' ∧ decG S d = decG S d'
 | [], pre, s, d, hs, _, _ => ⟨d, by rw [List.append_nil]; exact hs, rfl⟩
 | c :: post, pre, s, d, hs, hp, hl => by
   rw [List.length_cons] at hl
   obtain ⟨d1, h1, e1⟩ := sim_step hs hF ((encIn_pre basic m post (encStep basic m s c)).trans hp) hr hm (by omega)
   obtain ⟨d2, h2, e2⟩ := sim_in hF hr hm post (pre ++ [c]) (encStep basic m s c) d1 h1 hp (by simp; omega)
   refine ⟨d2, ?_, e1.trans e2⟩
   have : pre ++ c :: post = pre ++ [c] ++ post := by simp
   rw [this]
   exact h2
structure SimO (basic : Nat) (cs : List Nat) (n : Nat) (s : ESt) (d : DSt) : Prop where
 at_ : d.at_ = s.out.length
 bias : d.bias = s.bias
 first : d.first = decide (s.h = basic)
 out : d.out = cs.filter fun c => decide (c < n)
 h : s.h = d.out.length
 eq : d.n * (s.h + 1) + d.place + s.delta = n * (s.h + 1)
 pl : d.place ≤ s.h
 hb : basic ≤ s.h
theorem sim_out {S : ByteArray} {F cs : List Nat} {basic : Nat} (hF : Str S F) (hr : ∀ c ∈ cs, rightN c = true) (hm : ∀ c ∈ cs, c ≤ 262143) (hl : cs.length ≤ 200) : ∀ (k n : Nat) (s : ESt) (d : DSt), above cs n ≤ k → SimO basic cs n s d → (encG basic cs n s).out <+: F →
    ∃ d', d'.out = cs ∧ d'.at_ = (encG basic cs n s).out.length ∧ decG S d = decG S d' := by
 intro k
 induction k with
 | zero =>
   intro n s d hk hs hp
   cases hn : nextN cs n with
   | some m => have := above_less hn; omega
   | none =>
     rw [encG_none hn]
     refine ⟨d, ?_, hs.at_, rfl⟩
     rw [hs.out, List.filter_eq_self]
     intro c hc
     simpa using nextN_none hn c hc
 | succ k ih =>
   intro n s d hk hs hp
   cases hn : nextN cs n with
   | none =>
     rw [encG_none hn]
     refine ⟨d, ?_, hs.at_, rfl⟩
     rw [hs.out, List.filter_eq_self]
     intro c hc
     simpa using nextN_none hn c hc
   | some m =>
     have hab := above_less hn
     obtain ⟨g1, g2, g3⟩ := nextN_some hn
     rw [encG_some hn] at hp ⊢
     have h0 : Sim basic m [] cs (addD s ((m - n) * (s.h + 1))) d := by
      refine ⟨hs.at_, hs.bias, hs.first, ?_, hs.h, ?_, hs.pl, hs.hb⟩
      · rw [hs.out]
        simp only [List.filter_nil, List.nil_append]
        refine List.filter_congr (fun c hc => ?_)
        by_cases h : n ≤ c
        · have := g3 c hc h
          rw [dcF (by omega), dcF (by omega)]
        · rw [dcT (by omega), dcT (by omega)]
      · show d.n * (s.h + 1) + d.place + (s.delta + (m - n) * (s.h + 1)) = m * (s.h + 1) + 0
        have := hs.eq
        rw [Nat.sub_mul]
        have := Nat.mul_le_mul_right (s.h + 1) g2
        omega
     have hp1 : (encIn basic m cs (addD s ((m - n) * (s.h + 1)))).out <+: F := (encG_pre basic cs _ (m + 1) (addD (encIn basic m cs (addD s ((m - n) * (s.h + 1)))) 1) (Nat.le_refl _)).trans hp
     obtain ⟨d1, h1, e1⟩ := sim_in hF (hr m g1) (hm m g1) cs [] _ d h0 hp1 (by simpa using hl)
     rw [List.nil_append] at h1
     generalize encIn basic m cs (addD s ((m - n) * (s.h + 1))) = s1 at *
     have h2 : SimO basic cs (m + 1) (addD s1 1) d1 := by
      have ho : d1.out = cs.filter fun c => decide (c ≤ m) := by rw [h1.out]; simp
      refine ⟨h1.at_, h1.bias, h1.first, ?_, h1.h, ?_, h1.pl, h1.hb⟩
      · rw [ho]
        refine List.filter_congr (fun c hc => ?_)
        by_cases h : c ≤ m
        · rw [dcT h, dcT (by omega)]
        · rw [dcF h, dcF (by omega)]
      · show d1.n * (s1.h + 1) + d1.place + (s1.delta + 1) = (m + 1) * (s1.h + 1)
        have h3 := h1.eq
        have h4 := h1.h
        rw [ho] at h4
        rw [Nat.add_mul]
        omega
     obtain ⟨d2, q1, q2, q3⟩ := ih (m + 1) (addD s1 1) d1 (by omega) h2 hp
     exact ⟨d2, q1, q2, e1.trans q3⟩
theorem foldl_last {p : Nat → Bool} : ∀ (n i : Nat), (∀ j, j < n → p j = true → j ≤ i) → (i < n ∧ p i = true ∨ i = 0) → (List.range n).foldl (fun l j => if p j = true then j else l) 0 = i
 | 0, i, h1, h2 => by
   rcases h2 with h | h
   · omega
   · rw [h]; rfl
 | n + 1, i, h1, h2 => by
   rw [List.range_succ, List.foldl_append]
   simp only [List.foldl_cons, List.foldl_nil]
   by_cases hp : p n = true
   · rw [if_pos hp]
     have := h1 n (by omega) hp
     rcases h2 with h | h <;> omega
   · rw [if_neg hp]
     refine foldl_last n i (fun j hj => h1 j (by omega)) ?_
     rcases h2 with ⟨h, h'⟩ | h
     · by_cases e : i = n
       · subst e; exact absurd h' hp
       · exact .inl ⟨by omega, h'⟩
     · exact .inr h
theorem lastDash_is {s : ByteArray} {i : Nat} (h1 : ∀ j, j < s.size → byteAt s j = 45 → j ≤ i) (h2 : i < s.size ∧ byteAt s i = 45 ∨ i = 0) : lastDash s = i := by
 have := foldl_last (p := fun j => decide (byteAt s j = 45)) s.size i (fun j hj hp => h1 j hj (by simpa using hp)) (by
  rcases h2 with ⟨h, h'⟩ | h
  · exact .inl ⟨h, by simpa using h'⟩
  · exact .inr h)
 unfold lastDash
 rw [← this]
 simp only [decide_eq_true_eq]
theorem encL_form (cs : List Nat) : ∃ X, encL cs = basicL cs ++ dashL (basicL cs) ++ X ∧ (∀ x ∈ X, DigB x) ∧ (X = [] → ∀ c ∈ cs, c < 128) := by
 have := encG_tail (basicL cs).length cs (above cs 128) 128 ⟨0, 72, (basicL cs).length, basicL cs ++ dashL (basicL cs)⟩ (Nat.le_refl _)
 obtain ⟨X, h1, h2, h3⟩ := this
 refine ⟨X, h1, h2, fun he c hc => ?_⟩
 have hh := h3 he
 by_cases hc2 : c < 128
 · exact hc2
 · exfalso
   cases hn : nextN cs 128 with
   | none => have := nextN_none hn c hc; omega
   | some m =>
     -- a character above 127 is written
     have hx := encG_some (basic := (basicL cs).length) (s := ⟨0, 72, (basicL cs).length, basicL cs ++ dashL (basicL cs)⟩) hn
     have hout : (encIn (basicL cs).length m cs (addD ⟨0, 72, (basicL cs).length, basicL cs ++ dashL (basicL cs)⟩ ((m - 128) * ((basicL cs).length + 1)))).out = basicL cs ++ dashL (basicL cs) := by
      have p1 := encIn_pre (basicL cs).length m cs (addD ⟨0, 72, (basicL cs).length, basicL cs ++ dashL (basicL cs)⟩ ((m - 128) * ((basicL cs).length + 1)))
      have p2 := encG_pre (basicL cs).length cs _ (m + 1) (addD (encIn (basicL cs).length m cs (addD ⟨0, 72, (basicL cs).length, basicL cs ++ dashL (basicL cs)⟩ ((m - 128) * ((basicL cs).length + 1)))) 1) (Nat.le_refl _)
      rw [← hx, h1, he, List.append_nil] at p2
      exact (p2.eq_of_length_le p1.length_le)
     obtain ⟨g1, _, _⟩ := nextN_some hn
     have key : ∀ (l : List Nat) (s : ESt), m ∈ l → s.out.length < (encIn (basicL cs).length m l s).out.length := by
      intro l
      induction l with
      | nil => intro s h; simp at h
      | cons a l ih =>
        intro s h
        have hpre := (encIn_pre (basicL cs).length m l (encStep (basicL cs).length m s a)).length_le
        by_cases ha : a = m
        · have : (encStep (basicL cs).length m s a).out.length = s.out.length + (pnumL s.delta s.bias 36).length := by
            unfold encStep
            rw [if_neg (by omega), if_pos ha, List.length_append]
          have := pnumL_pos s.delta s.bias 36
          show _ < (encIn (basicL cs).length m l (encStep (basicL cs).length m s a)).out.length
          omega
        · have hm : m ∈ l := by
            rcases List.mem_cons.1 h with h | h
            · exact absurd h.symm ha
            · exact h
          have h4 := ih (encStep (basicL cs).length m s a) hm
          have h5 := (encStep_pre (basicL cs).length m s a).length_le
          show _ < (encIn (basicL cs).length m l (encStep (basicL cs).length m s a)).out.length
          omega
     have := key cs (addD ⟨0, 72, (basicL cs).length, basicL cs ++ dashL (basicL cs)⟩ ((m - 128) * ((basicL cs).length + 1))) g1
     rw [hout] at this
     exact absurd this (Nat.lt_irrefl _)
theorem encL_lt (cs : List Nat) : ∀ x ∈ encL cs, x < 128 := by
 obtain ⟨X, h1, h2, _⟩ := encL_form cs
 intro x hx
 rw [h1, List.mem_append, List.mem_append] at hx
 rcases hx with (hx | hx) | hx
 · have := (List.mem_filter.1 hx).2
   simpa using this
 · unfold dashL at hx
   split at hx
   · simp at hx; omega
   · simp at hx
 · have := h2 x hx
   unfold DigB at this
   omega
theorem str_bytesL {l : List Nat} (h : ∀ x ∈ l, x < 256) : Str (bytesL l) l := ⟨bytesL_size l, fun _j hj => bytesL_at hj h⟩
theorem dec_enc {cs : List Nat} (hr : ∀ c ∈ cs, rightN c = true) (hm : ∀ c ∈ cs, c ≤ 262143) (hl : cs.length ≤ 200) (hz : (encL cs).length ≤ 1024) : pdecS (bytesL (encL cs)) = .ok cs := by
 have hF : Str (bytesL (encL cs)) (encL cs) := str_bytesL (fun x hx => by have := encL_lt cs x hx; omega)
 obtain ⟨X, h1, h2, _⟩ := encL_form cs
 have hbl : (basicL cs).length ≤ cs.length := List.length_filter_le _ _
 have hlast : lastDash (bytesL (encL cs)) = (basicL cs).length := by
  refine lastDash_is (fun j hj hb => ?_) ?_
  · rw [hF.sz] at hj
    rw [hF.at_ j hj] at hb
    by_cases hjb : j ≤ (basicL cs).length
    · exact hjb
    · exfalso
      have hdl : (dashL (basicL cs)).length ≤ 1 := by unfold dashL; split <;> simp
      have hx : (encL cs)[j] ∈ X := by
       have : (encL cs)[j] = (basicL cs ++ dashL (basicL cs) ++ X)[j]'(by rw [← h1]; exact hj) := by simp only [h1]
       rw [this, List.getElem_append_right (by rw [List.length_append]; omega)]
       exact List.getElem_mem _
      have := h2 _ hx
      rw [hb] at this
      unfold DigB at this
      omega
  · by_cases h0 : (basicL cs).length = 0
    · exact .inr h0
    · have hdl : dashL (basicL cs) = [45] := by unfold dashL; rw [if_pos (by omega)]
      have hj : (basicL cs).length < (encL cs).length := by rw [h1, hdl]; simp
      refine .inl ⟨by rw [hF.sz]; exact hj, ?_⟩
      rw [hF.at_ _ hj]
      have : (encL cs)[(basicL cs).length] = (basicL cs ++ [45] ++ X)[(basicL cs).length]'(by simp) := by simp only [h1, hdl]
      rw [this, List.getElem_append_left (by simp), List.getElem_append_right (Nat.le_refl _)]
      simp
 have hbt : ∀ i, i < (basicL cs).length → byteAt (bytesL (encL cs)) i = (basicL cs)[i]! := by
  intro i hi
  have hj : i < (encL cs).length := by rw [h1, List.length_append, List.length_append]; omega
  rw [hF.at_ i hj]
  have : (encL cs)[i] = (basicL cs ++ dashL (basicL cs) ++ X)[i]'(by rw [← h1]; exact hj) := by simp only [h1]
  rw [this, List.getElem_append_left (by rw [List.length_append]; omega), List.getElem_append_left hi, getElem!_pos (basicL cs) i hi]
 unfold pdecS
 rw [if_neg (by rw [hF.sz]; omega), hlast]
 have hfind : ((List.range (basicL cs).length).find? fun i => decide (128 ≤ byteAt (bytesL (encL cs)) i)) = none := by
  rw [List.find?_range_eq_none]
  intro i hi
  have hlt : (basicL cs)[i]! < 128 := by
   rw [getElem!_pos (basicL cs) i hi]
   have := (List.mem_filter.1 (List.getElem_mem hi)).2
   simpa using this
  rw [hbt i hi]
  simpa using hlt
 rw [hfind]
 simp only
 rw [if_neg (by omega)]
 have hmap : (List.range (basicL cs).length).map (byteAt (bytesL (encL cs))) = basicL cs := by
  refine List.ext_getElem (by simp) (fun i h1 h2 => ?_)
  rw [List.getElem_map, List.getElem_range, hbt i h2, getElem!_pos (basicL cs) i h2]
 rw [hmap]
 have hpre : (encG (basicL cs).length cs 128 ⟨0, 72, (basicL cs).length, basicL cs ++ dashL (basicL cs)⟩).out <+: encL cs := List.prefix_refl _
 obtain ⟨d', q1, q2, q3⟩ := sim_out hF hr hm hl (above cs 128) 128 ⟨0, 72, (basicL cs).length, basicL cs ++ dashL (basicL cs)⟩ ⟨if 0 < (basicL cs).length then (basicL cs).length + 1 else 0, 128, 0, 72, true, basicL cs⟩ (Nat.le_refl _) ⟨by
     show (if 0 < (basicL cs).length then (basicL cs).length + 1 else 0) = (basicL cs ++ dashL (basicL cs)).length
     unfold dashL
     split
     · simp
     · simp; omega, rfl, (dcT rfl).symm, rfl, rfl, by simp, Nat.zero_le _, Nat.le_refl _⟩ hpre
 rw [q3, decG_end (by rw [q2, hF.sz]; exact Nat.le_refl _), q1]
end
end Go.Proofs.YtbeodjipdpcaiaaGreatDoor
