/- Dec0, Quad0, Hexd0, Host0, Hxd0, Hexd1 in one text (a claim holds at most 60 files). -/
import Derived.Test.YtbeodjipdpcaiaaGreatDoorYFold0sf
import Derived.Test.YtbeodjipdpcaiaaGreatDoorYLab0s
namespace Go.Proofs.YtbeodjipdpcaiaaGreatDoor
section
open Go.RowKit
def decL (r n : Nat) : List UInt8 := (List.range r).map fun j => UInt8.ofNat (48 + n / 10 ^ (r - 1 - j) % 10)
def decS (r n : Nat) : ByteArray := ⟨(decL r n).toArray⟩
def lenF : Nat → Nat → Nat
 | 0, _ => 1
 | f + 1, n => if n < 10 then 1 else lenF f (n / 10) + 1
def lenD (n : Nat) : Nat := lenF n n
def decB (n : Nat) : ByteArray := decS (lenD n) n
theorem decS_size (r n : Nat) : (decS r n).size = r := by
 show (decL r n).toArray.size = r
 simp [decL]
theorem lenF_iff : ∀ (f n r : Nat), n ≤ f → 1 ≤ r → (lenF f n ≤ r ↔ n / 10 ^ r = 0)
 | 0, n, r, h, h1 => by
   obtain rfl : n = 0 := by omega
   simp [lenF]; exact h1
 | f + 1, n, r, h, h1 => by
   rw [lenF]
   obtain ⟨q, rfl⟩ : ∃ q, r = q + 1 := ⟨r - 1, by omega⟩
   have hp : 0 < 10 ^ (q + 1) := Nat.pow_pos (by decide)
   split
   · rename_i h10
     refine ⟨fun _ => Nat.div_eq_of_lt ?_, fun _ => h1⟩
     have : 10 ^ 1 ≤ 10 ^ (q + 1) := Nat.pow_le_pow_right (by decide) (by omega)
     omega
   · rename_i h10
     have e : n / 10 ^ (q + 1) = n / 10 / 10 ^ q := by rw [Nat.pow_succ, Nat.mul_comm, Nat.div_div_eq_div_mul]
     by_cases hq : 1 ≤ q
     · rw [e, ← lenF_iff f (n / 10) q (by omega) hq]; omega
     · obtain rfl : q = 0 := by omega
       rw [e, Nat.pow_zero, Nat.div_one]
       refine ⟨fun h => ?_, fun h => by omega⟩
       have : 1 ≤ lenF f (n / 10) := by cases f with
        | zero => exact Nat.le_refl _
        | succ f => rw [lenF]; split <;> omega
       omega
theorem lenD_iff (n r : Nat) (h : 1 ≤ r) : lenD n ≤ r ↔ n / 10 ^ r = 0 := lenF_iff n n r (Nat.le_refl _) h
theorem lenD_pos (n : Nat) : 1 ≤ lenD n := by
 unfold lenD
 cases n with
 | zero => exact Nat.le_refl _
 | succ f => rw [lenF]; split <;> omega
theorem lenD_le {n : Nat} (h : n < 18446744073709551616) : lenD n ≤ 20 := by
 rw [lenD_iff n 20 (by decide)]
 refine Nat.div_eq_of_lt ?_
 have : (10 : Nat) ^ 20 = 100000000000000000000 := rfl
 omega
theorem decS_at {r n j : Nat} (h : j < r) : byteAt (decS r n) j = 48 + n / 10 ^ (r - 1 - j) % 10 := by
 unfold byteAt decS decL
 simp [h]
 omega
end
section
open Go.RowKit
def hexD (c : Nat) : Bool := decide (48 ≤ c ∧ c ≤ 57 ∨ 97 ≤ c ∧ c ≤ 102 ∨ 65 ≤ c ∧ c ≤ 70)
def decD (c : Nat) : Bool := decide (48 ≤ c ∧ c ≤ 57)
def octD (c : Nat) : Bool := decide (48 ≤ c ∧ c ≤ 55)
def hexedL (p : List Nat) : Bool := decide (1 < p.length ∧ p[0]?.getD 0 = 48 ∧ (p[1]?.getD 0 = 120 ∨ p[1]?.getD 0 = 88))
def lastP (b : List Nat) : List Nat := ((splitN 46 b).getLast?).getD []
def numericP (p : List Nat) : Bool := if hexedL p = true then (p.drop 2).all hexD else decide (p ≠ []) && p.all decD
def numericL (b : List Nat) : Bool := numericP (lastP (trimL b))
def baseL (p : List Nat) : Nat × Nat := if hexedL p = true then (16, 2) else if 1 < p.length ∧ p[0]?.getD 0 = 48 then (8, 1) else (10, 0)
def amongD (base : Nat) (c : Nat) : Bool := if base = 16 then hexD c else if base = 8 then octD c else decD c
def valD (base : Nat) (l : List Nat) : Nat := l.foldl (fun n c => n * base + digV c) 0
def valQ (p : List Nat) : Nat := valD (baseL p).1 (p.drop (baseL p).2)
def notD (p : List Nat) (i : Nat) : Bool := decide ((baseL p).2 ≤ i) && !(amongD (baseL p).1 (p[i]?.getD 0))
def chkF : List (List Nat) → Nat → Option (Nat × Nat)
 | [], _ => none
 | p :: ps, at_ => if p = [] then some (10, at_) else match (List.range p.length).find? (notD p) with
   | some i => some (11, at_ + i)
   | none => chkF ps (at_ + p.length + 1)
def limitQ (N i : Nat) : Nat := if i + 1 = N then 256 ^ (5 - N) - 1 else 255
def weightQ (N i : Nat) : Nat := if i + 1 = N then 1 else 256 ^ (3 - i)
def rngF (N : Nat) : List (List Nat) → Nat → Nat → Nat → Sc Nat
 | [], _, _, total => .ok total
 | p :: ps, i, at_, total => if limitQ N i < valQ p then .no 16 at_ else rngF N ps (i + 1) (at_ + p.length + 1) (total + valQ p * weightQ N i)
def parseQ (b : List Nat) : Sc Nat := match fieldsL 46 4 (trimL b) with
 | .no _ p => .no 15 p
 | .ok ps => match chkF ps 0 with
   | some (k, p) => .no k p
   | none => rngF ps.length ps 0 0 0
def decN (n : Nat) : List Nat := bytesN (decB n)
def octQ (n i : Nat) : Nat := n / 256 ^ (3 - i) % 256
def quadP (n : Nat) : List (List Nat) := [decN (octQ n 0), decN (octQ n 1), decN (octQ n 2), decN (octQ n 3)]
def quadL (n : Nat) : List Nat := joinN 46 (quadP n)
theorem dec_byte : ∀ c : Fin 256, decN c.val ≠ [] ∧ (decN c.val).length ≤ 3 ∧ (decN c.val).all decD = true ∧ baseL (decN c.val) = (10, 0) ∧ valQ (decN c.val) = c.val ∧ hexedL (decN c.val) = false := by decide +kernel
theorem octQ_lt (n i : Nat) : octQ n i < 256 := Nat.mod_lt _ (by decide)
theorem dec_oct (n i : Nat) : decN (octQ n i) ≠ [] ∧ (decN (octQ n i)).length ≤ 3 ∧ (decN (octQ n i)).all decD = true ∧ baseL (decN (octQ n i)) = (10, 0) ∧ valQ (decN (octQ n i)) = octQ n i ∧ hexedL (decN (octQ n i)) = false := dec_byte ⟨octQ n i, octQ_lt n i⟩
theorem decD_small {c : Nat} (h : decD c = true) : lcN c = true ∧ c ≠ 46 ∧ c ≠ 45 := by
 unfold decD at h; unfold lcN; simp at h ⊢; omega
theorem oct_free (n i : Nat) : ∀ c ∈ decN (octQ n i), lcN c = true ∧ c ≠ 46 ∧ c ≠ 45 := fun c hc => decD_small (List.all_eq_true.1 (dec_oct n i).2.2.1 c hc)
theorem quadP_mem {n : Nat} {p : List Nat} (h : p ∈ quadP n) : ∃ i, p = decN (octQ n i) := by
 unfold quadP at h
 simp at h
 rcases h with rfl | rfl | rfl | rfl <;> exact ⟨_, rfl⟩
theorem quad_split (n : Nat) : splitN 46 (quadL n) = quadP n := by
 refine splitN_join 46 (by simp [quadP]) (fun p hp c hc => ?_)
 obtain ⟨i, rfl⟩ := quadP_mem hp
 exact (oct_free n i c hc).2.1
theorem oct_right (n i : Nat) : rightL (decN (octQ n i)) = (0, 0) := by
 obtain ⟨h1, h2, h3, _⟩ := dec_oct n i
 refine rightL_of h1 (by omega) (fun c hc => (oct_free n i c hc).1) ?_ (fun h => ?_)
 · unfold endsOk
   rw [Bool.and_eq_true]
   have hl := oct_free n i _ (last_mem h1)
   have h0 : (decN (octQ n i))[0]?.getD 0 ∈ decN (octQ n i) := by
    have hp := List.length_pos_iff.2 h1
    rw [List.getElem?_eq_getElem hp]
    exact List.getElem_mem hp
   exact ⟨dcT (oct_free n i _ h0).2.2, dcT hl.2.2⟩
 · unfold codedN at h
   have := (of_decide_eq_true h).1
   omega
theorem joinN_len (m : Nat) : ∀ (ps : List (List Nat)), ps ≠ [] → (joinN m ps).length + 1 = (ps.map fun p => p.length + 1).sum
 | [], h => absurd rfl h
 | [p], _ => by simp [joinN]
 | p :: q :: l, _ => by
   have := joinN_len m (q :: l) (by simp)
   rw [joinN, List.map_cons, List.sum_cons, List.length_append, List.length_cons]
   omega
theorem quad_len (n : Nat) : (quadL n).length ≤ 15 := by
 have := joinN_len 46 (quadP n) (by simp [quadP])
 have h0 := (dec_oct n 0).2.1; have h1 := (dec_oct n 1).2.1; have h2 := (dec_oct n 2).2.1; have h3 := (dec_oct n 3).2.1
 unfold quadL
 simp only [quadP, List.map_cons, List.map_nil, List.sum_cons, List.sum_nil] at this ⊢
 omega
theorem quad_name (n : Nat) : NameOk (quadL n) (quadP n) := by
 refine ⟨by simp [quadP], by simp [quadP], fun t ht => ?_, rfl, by have := quad_len n; omega⟩
 obtain ⟨i, rfl⟩ := quadP_mem ht
 exact oct_right n i
theorem quad_trim (n : Nat) : trimL (quadL n) = quadL n := trim_not (quad_name n).parts.trim.2
theorem quad_numeric (n : Nat) : numericL (quadL n) = true := by
 unfold numericL
 rw [quad_trim]
 unfold lastP
 rw [quad_split]
 obtain ⟨h1, _, h3, _, _, h6⟩ := dec_oct n 3
 show numericP (decN (octQ n 3)) = true
 unfold numericP
 rw [h6, h3, dcT h1]; rfl
theorem oct_sum {n : Nat} (h : n < 4294967296) : octQ n 0 * 16777216 + octQ n 1 * 65536 + octQ n 2 * 256 + octQ n 3 = n := by
 unfold octQ
 have e3 : (256 : Nat) ^ (3 - 0) = 16777216 := rfl
 have e2 : (256 : Nat) ^ (3 - 1) = 65536 := rfl
 have e1 : (256 : Nat) ^ (3 - 2) = 256 := rfl
 have e0 : (256 : Nat) ^ (3 - 3) = 1 := rfl
 rw [e0, e1, e2, e3]
 omega
theorem oct_chk (n i : Nat) (ps : List (List Nat)) (at_ : Nat) : chkF (decN (octQ n i) :: ps) at_ = chkF ps (at_ + (decN (octQ n i)).length + 1) := by
 obtain ⟨h1, _, h3, h4, _⟩ := dec_oct n i
 rw [chkF, if_neg h1, find_no (fun j hj => by
  unfold notD
  rw [h4]
  have := List.all_eq_true.1 h3 _ (List.getElem_mem hj)
  rw [List.getElem?_eq_getElem hj]
  simp [amongD, this])]
theorem quad_parse {n : Nat} (h : n < 4294967296) : parseQ (quadL n) = .ok n := by
 unfold parseQ
 rw [quad_trim, fields_ok (by omega) (by rw [quad_split]; simp [quadP]), quad_split]
 simp only
 unfold quadP
 rw [oct_chk, oct_chk, oct_chk, oct_chk, chkF]
 simp only
 have h0 := (dec_oct n 0).2.2.2.2.1; have h1 := (dec_oct n 1).2.2.2.2.1; have h2 := (dec_oct n 2).2.2.2.2.1; have h3 := (dec_oct n 3).2.2.2.2.1
 have l0 := octQ_lt n 0; have l1 := octQ_lt n 1; have l2 := octQ_lt n 2; have l3 := octQ_lt n 3
 have q : ∀ i, limitQ 4 i = 255 := fun i => by unfold limitQ; split <;> rfl
 simp only [List.length_cons, List.length_nil]
 rw [rngF, h0, q, if_neg (by omega), rngF, h1, q, if_neg (by omega), rngF, h2, q, if_neg (by omega), rngF, h3, q, if_neg (by omega), rngF]
 congr 1
 have := oct_sum h
 show 0 + octQ n 0 * 16777216 + octQ n 1 * 65536 + octQ n 2 * 256 + octQ n 3 * 1 = n
 omega
theorem rng_inv {N : Nat} {p : List Nat} {ps : List (List Nat)} {i at_ t n : Nat} (h : rngF N (p :: ps) i at_ t = .ok n) : valQ p ≤ limitQ N i ∧ rngF N ps (i + 1) (at_ + p.length + 1) (t + valQ p * weightQ N i) = .ok n := by
 rw [rngF] at h
 split at h
 · cases h
 · exact ⟨by omega, h⟩
theorem parseQ_lt {b : List Nat} {n : Nat} (h : parseQ b = .ok n) : n < 4294967296 := by
 unfold parseQ at h
 split at h
 · cases h
 · rename_i ps hps
   obtain ⟨e, hl⟩ := fields_is (by omega) hps
   have hne := splitN_ne 46 (trimL b)
   rw [← e] at hne
   split at h
   · cases h
   · match ps, hne, hl, h with
     | [], hne, _, _ => exact absurd rfl hne
     | [a], _, _, h =>
       obtain ⟨h1, h⟩ := rng_inv h
       have h1 : valQ a ≤ 4294967295 := h1
       have h : 0 + valQ a * 1 = n := Sc.ok.inj h
       omega
     | [a, b], _, _, h =>
       obtain ⟨h1, h⟩ := rng_inv h
       obtain ⟨h2, h⟩ := rng_inv h
       have h1 : valQ a ≤ 255 := h1
       have h2 : valQ b ≤ 16777215 := h2
       have h : 0 + valQ a * 16777216 + valQ b * 1 = n := Sc.ok.inj h
       omega
     | [a, b, c], _, _, h =>
       obtain ⟨h1, h⟩ := rng_inv h
       obtain ⟨h2, h⟩ := rng_inv h
       obtain ⟨h3, h⟩ := rng_inv h
       have h1 : valQ a ≤ 255 := h1
       have h2 : valQ b ≤ 255 := h2
       have h3 : valQ c ≤ 65535 := h3
       have h : 0 + valQ a * 16777216 + valQ b * 65536 + valQ c * 1 = n := Sc.ok.inj h
       omega
     | [a, b, c, d], _, _, h =>
       obtain ⟨h1, h⟩ := rng_inv h
       obtain ⟨h2, h⟩ := rng_inv h
       obtain ⟨h3, h⟩ := rng_inv h
       obtain ⟨h4, h⟩ := rng_inv h
       have h1 : valQ a ≤ 255 := h1
       have h2 : valQ b ≤ 255 := h2
       have h3 : valQ c ≤ 255 := h3
       have h4 : valQ d ≤ 255 := h4
       have h : 0 + valQ a * 16777216 + valQ b * 65536 + valQ c * 256 + valQ d * 1 = n := Sc.ok.inj h
       omega
     | a :: b :: c :: d :: e :: l, _, hl, _ => exact absurd hl (by simp)
end
section
open Go.RowKit
def hxN (d : Nat) : Nat := if d < 10 then 48 + d else 87 + d
def hexN (n : Nat) : List Nat := if n < 16 then [hxN n] else if n < 256 then [hxN (n / 16), hxN (n % 16)] else if n < 4096 then [hxN (n / 256), hxN (n / 16 % 16), hxN (n % 16)] else [hxN (n / 4096), hxN (n / 256 % 16), hxN (n / 16 % 16), hxN (n % 16)]
theorem hx_facts : ∀ d : Fin 16, digV (hxN d.val) = d.val ∧ hexD (hxN d.val) = true ∧ hxN d.val ≠ 58 ∧ hxN d.val < 256 := by decide
theorem hxl_dig {d : Nat} (h : d < 16) : digV (hxN d) = d := (hx_facts ⟨d, h⟩).1
theorem hxl_hex {d : Nat} (h : d < 16) : hexD (hxN d) = true := (hx_facts ⟨d, h⟩).2.1
theorem hexD_ne {c : Nat} (h : hexD c = true) : c ≠ 58 ∧ c < 128 ∧ c ≠ 93 := by unfold hexD at h; simp at h; omega
def grpL (p : List Nat) : Option Nat := if 1 ≤ p.length ∧ p.length ≤ 4 ∧ p.all hexD = true then some (valD 16 p) else none
theorem hexN_all {n : Nat} (h : n < 65536) : 1 ≤ (hexN n).length ∧ (hexN n).length ≤ 4 ∧ (hexN n).all hexD = true ∧ valD 16 (hexN n) = n := by
 unfold hexN
 split
 · simp [valD, hxl_dig (show n < 16 by omega), hxl_hex (show n < 16 by omega)]
 · split
   · simp [valD, hxl_dig (show n / 16 < 16 by omega), hxl_dig (show n % 16 < 16 by omega), hxl_hex (show n / 16 < 16 by omega), hxl_hex (show n % 16 < 16 by omega)]
     omega
   · split
     · simp [valD, hxl_dig (show n / 256 < 16 by omega), hxl_dig (show n / 16 % 16 < 16 by omega), hxl_dig (show n % 16 < 16 by omega), hxl_hex (show n / 256 < 16 by omega), hxl_hex (show n / 16 % 16 < 16 by omega), hxl_hex (show n % 16 < 16 by omega)]
       omega
     · simp [valD, hxl_dig (show n / 4096 < 16 by omega), hxl_dig (show n / 256 % 16 < 16 by omega), hxl_dig (show n / 16 % 16 < 16 by omega), hxl_dig (show n % 16 < 16 by omega), hxl_hex (show n / 4096 < 16 by omega), hxl_hex (show n / 256 % 16 < 16 by omega), hxl_hex (show n / 16 % 16 < 16 by omega), hxl_hex (show n % 16 < 16 by omega)]
       omega
theorem grp_hexN {n : Nat} (h : n < 65536) : grpL (hexN n) = some n := by
 obtain ⟨h1, h2, h3, h4⟩ := hexN_all h
 unfold grpL
 rw [if_pos ⟨h1, h2, h3⟩, h4]
theorem digV_hex {c : Nat} (h : hexD c = true) : digV c < 16 := by
 unfold hexD at h; unfold digV; simp at h
 split
 · omega
 · split
   · omega
   · split <;> omega
theorem grp_lt {p : List Nat} {n : Nat} (h : grpL p = some n) : n < 65536 := by
 unfold grpL at h
 split at h
 · rename_i hc
   obtain ⟨h1, h2, h3⟩ := hc
   have h3 := List.all_eq_true.1 h3
   have h := Option.some.inj h
   match p, h1, h2, h3, h with
   | [], h1, _, _, _ => simp at h1
   | [a], _, _, h3, h =>
     have a1 := digV_hex (h3 a (by simp))
     simp [valD] at h; omega
   | [a, b], _, _, h3, h =>
     have a1 := digV_hex (h3 a (by simp)); have b1 := digV_hex (h3 b (by simp))
     simp [valD] at h; omega
   | [a, b, c], _, _, h3, h =>
     have a1 := digV_hex (h3 a (by simp)); have b1 := digV_hex (h3 b (by simp)); have c1 := digV_hex (h3 c (by simp))
     simp [valD] at h; omega
   | [a, b, c, d], _, _, h3, h =>
     have a1 := digV_hex (h3 a (by simp)); have b1 := digV_hex (h3 b (by simp)); have c1 := digV_hex (h3 c (by simp)); have d1 := digV_hex (h3 d (by simp))
     simp [valD] at h; omega
   | a :: b :: c :: d :: e :: l, _, h2, _, _ => simp at h2
 · cases h
def strictQ (p : List Nat) : Option Nat := match parseQ p with
 | .ok a => if quadL a = p then some a else none
 | .no _ _ => none
def rowF (last : Bool) : List (List Nat) → List Nat → Option (List Nat)
 | [], acc => some acc
 | p :: ps, acc => match grpL p with
   | some n => rowF last ps (acc ++ [n])
   | none => match strictQ p with
     | some a => if last = true ∧ ps = [] then some (acc ++ [a / 65536, a % 65536]) else none
     | none => none
def rowL (last : Bool) (b : List Nat) : Option (List Nat) := if b = [] then some [] else rowF last (splitN 58 b) []
def gapF : List Nat → Nat → Option Nat
 | [], _ => none
 | a :: l, i => if a = 58 ∧ l.head? = some 58 then some i else gapF l (i + 1)
def six (x y : List Nat) : Option (List Nat) := if x.length + y.length ≤ 7 then some (x ++ List.replicate (8 - x.length - y.length) 0 ++ y) else none
def parse6 (b : List Nat) : Option (List Nat) := match gapF b 0 with
 | none => match rowL true b with
   | some l => if l.length = 8 then some l else none
   | none => none
 | some i => match rowL false (b.take i), rowL true (b.drop (i + 2)) with
   | some x, some y => six x y
   | _, _ => none
def zrunP : List Bool → Nat
 | true :: l => zrunP l + 1
 | _ => 0
def longStep (p : List Bool) (x : Nat × Nat) (i : Nat) : Nat × Nat := if x.2 < zrunP (p.drop i) then (i, zrunP (p.drop i)) else x
def longP (p : List Bool) : Nat × Nat := (List.range 8).foldl (longStep p) (0, 0)
def zeroP (g : List Nat) : List Bool := g.map fun n => decide (n = 0)
def longG (g : List Nat) : Nat × Nat := longP (zeroP g)
def text6 (g : List Nat) : List Nat := if (longG g).2 < 2 then joinN 58 (g.map hexN) else joinN 58 ((g.take (longG g).1).map hexN) ++ 58 :: 58 :: joinN 58 ((g.drop ((longG g).1 + (longG g).2)).map hexN)
def six8 (a b c d e f g h : Bool) : Bool := decide ((longP [a, b, c, d, e, f, g, h]).1 + (longP [a, b, c, d, e, f, g, h]).2 ≤ 8) && (((([a, b, c, d, e, f, g, h].drop (longP [a, b, c, d, e, f, g, h]).1).take (longP [a, b, c, d, e, f, g, h]).2).all id) && true)
theorem long_facts : ∀ a b c d e f g h : Bool, six8 a b c d e f g h = true := by decide +kernel
theorem eight {α : Type} {g : List α} (h : g.length = 8) : ∃ a b c d e f x y, g = [a, b, c, d, e, f, x, y] := by
 match g, h with
 | [a, b, c, d, e, f, x, y], _ => exact ⟨a, b, c, d, e, f, x, y, rfl⟩
theorem long_zero {g : List Nat} (h : g.length = 8) : (longG g).1 + (longG g).2 ≤ 8 ∧ (g.drop (longG g).1).take (longG g).2 = List.replicate (longG g).2 0 := by
 have hz : (zeroP g).length = 8 := by unfold zeroP; rw [List.length_map, h]
 obtain ⟨a, b, c, d, e, f, x, y, hp⟩ := eight hz
 have := long_facts a b c d e f x y
 unfold six8 at this
 rw [← hp] at this
 rw [Bool.and_eq_true, Bool.and_eq_true] at this
 have h1 := of_decide_eq_true this.1
 have h2 := List.all_eq_true.1 this.2.1
 refine ⟨h1, ?_⟩
 refine List.eq_replicate_iff.2 ⟨?_, fun n hn => ?_⟩
 · rw [List.length_take, List.length_drop, h]
   show min (longP (zeroP g)).2 (8 - (longP (zeroP g)).1) = (longP (zeroP g)).2
   omega
 · have : decide (n = 0) ∈ ((zeroP g).drop (longP (zeroP g)).1).take (longP (zeroP g)).2 := by
     unfold zeroP
     rw [← List.map_drop, ← List.map_take]
     exact List.mem_map_of_mem hn
   have := h2 _ this
   simpa using this
def noG : List Nat → Bool
 | [] => true
 | a :: l => !(decide (a = 58) && decide (l.head? = some 58)) && noG l
theorem gap_none : ∀ (l : List Nat) (i : Nat), noG l = true → gapF l i = none
 | [], i, _ => rfl
 | a :: l, i, h => by
   rw [noG, Bool.and_eq_true] at h
   rw [gapF, if_neg (fun hc => by
    have := h.1
    rw [hc.1, hc.2] at this
    simp at this), gap_none l _ h.2]
theorem gap_at : ∀ (l r : List Nat) (i : Nat), noG l = true → lastN l ≠ 58 → gapF (l ++ 58 :: 58 :: r) i = some (i + l.length)
 | [], r, i, _, _ => by rw [List.nil_append, gapF, if_pos ⟨rfl, rfl⟩]; rfl
 | a :: l, r, i, h, hl => by
   rw [noG, Bool.and_eq_true] at h
   rw [List.cons_append, gapF]
   cases l with
   | nil =>
     rw [if_neg (fun hc => hl (by unfold lastN; simp; exact hc.1))]
     have := gap_at [] r (i + 1) rfl (by decide)
     rw [List.nil_append] at this ⊢
     rw [this]
     simp
   | cons b l =>
     rw [if_neg (fun hc => by
      have h1 := h.1
      rw [hc.1] at h1
      have h2 : (b :: l).head? = some 58 := hc.2
      rw [h2] at h1
      simp at h1), gap_at (b :: l) r (i + 1) h.2 (fun e => hl (by
      unfold lastN at e ⊢
      rw [List.getLast?_cons_cons]; exact e))]
     simp only [List.length_cons, Option.some.injEq]
     omega
theorem noG_free : ∀ {l : List Nat}, (∀ c ∈ l, c ≠ 58) → noG l = true
 | [], _ => rfl
 | a :: l, h => by
   rw [noG, noG_free (fun c hc => h c (by simp [hc])), dcF (h a (by simp))]; rfl
theorem noG_append : ∀ {l r : List Nat}, noG l = true → noG r = true → (lastN l ≠ 58 ∨ r.head? ≠ some 58) → noG (l ++ r) = true
 | [], r, _, h, _ => h
 | [a], r, _, h, hc => by
   rw [List.singleton_append, noG, h]
   rcases hc with hc | hc
   · rw [dcF (show ¬ a = 58 from fun e => hc e)]; rfl
   · rw [dcF hc]; simp
 | a :: b :: l, r, h1, h2, hc => by
   rw [noG, Bool.and_eq_true] at h1
   rw [List.cons_append, noG, Bool.and_eq_true]
   exact ⟨h1.1, noG_append h1.2 h2 (hc.imp (fun e he => e (by unfold lastN at he ⊢; rw [List.getLast?_cons_cons]; exact he)) id)⟩
def colons (l : List Nat) : List Nat := joinN 58 (l.map hexN)
def Small6 (l : List Nat) : Prop := ∀ n ∈ l, n < 65536
theorem hexN_free {n : Nat} (h : n < 65536) : ∀ c ∈ hexN n, c ≠ 58 := fun c hc => (hexD_ne (List.all_eq_true.1 (hexN_all h).2.2.1 c hc)).1
theorem hexN_ne {n : Nat} (h : n < 65536) : hexN n ≠ [] := fun e => by have := (hexN_all h).1; rw [e] at this; simp at this
theorem colons_facts : ∀ {l : List Nat}, Small6 l → noG (colons l) = true ∧ lastN (colons l) ≠ 58 ∧ (colons l).head? ≠ some 58
 | [], _ => ⟨rfl, by decide, by decide⟩
 | [n], h => by
   have hn := h n (by simp)
   have hf := hexN_free hn
   have hne := hexN_ne hn
   refine ⟨noG_free hf, hf _ (last_mem hne), fun e => ?_⟩
   exact hf 58 (List.mem_of_mem_head? (by rw [show (colons [n]) = hexN n from rfl] at e; exact e)) rfl
 | n :: m :: l, h => by
   have hn := h n (by simp)
   have hf := hexN_free hn
   have hne := hexN_ne hn
   obtain ⟨i1, i2, i3⟩ := colons_facts (l := m :: l) (fun x hx => h x (by simp [List.mem_cons.1 hx]))
   have e : colons (n :: m :: l) = hexN n ++ 58 :: colons (m :: l) := rfl
   rw [e]
   have hcne : colons (m :: l) ≠ [] := fun hc => by
    have hm := hexN_ne (h m (by simp))
    have := congrArg List.length hc
    cases l with
    | nil => exact hm hc
    | cons x l =>
      have : colons (m :: x :: l) = hexN m ++ 58 :: colons (x :: l) := rfl
      rw [this] at hc
      simp at hc
   refine ⟨noG_append (noG_free hf) ?_ (.inl (hf _ (last_mem hne))), ?_, ?_⟩
   · rw [noG, i1, dcF i3]; simp
   · rw [last_append (by simp)]
     have : (58 :: colons (m :: l)) = [58] ++ colons (m :: l) := rfl
     rw [this, last_append hcne]
     exact i2
   · intro hh
     rw [List.head?_append] at hh
     cases hx : hexN n with
     | nil => exact hne hx
     | cons a t =>
       rw [hx] at hh
       simp at hh
       exact hf 58 (by rw [hx, ← hh]; simp) rfl
theorem rowF_hex (last : Bool) : ∀ (l acc : List Nat), Small6 l → rowF last (l.map hexN) acc = some (acc ++ l)
 | [], acc, _ => by rw [List.map_nil, rowF, List.append_nil]
 | n :: l, acc, h => by
   rw [List.map_cons, rowF, grp_hexN (h n (by simp))]
   simp only
   rw [rowF_hex last l _ (fun x hx => h x (by simp [hx]))]
   simp
theorem row_colons (last : Bool) {l : List Nat} (h : Small6 l) : rowL last (colons l) = some l := by
 unfold rowL
 cases l with
 | nil => rfl
 | cons n l =>
   have hs : splitN 58 (colons (n :: l)) = (n :: l).map hexN := splitN_join 58 (by simp) (fun p hp c hc => by
    obtain ⟨m, hm, rfl⟩ := List.mem_map.1 hp
    exact hexN_free (h m hm) c hc)
   rw [if_neg (fun e => by
    have := congrArg (splitN 58) e
    rw [hs] at this
    have h1 := congrArg List.head? this
    simp [splitN] at h1
    exact hexN_ne (h n (by simp)) h1), hs, rowF_hex last _ _ h, List.nil_append]
theorem six_parse {g : List Nat} (hl : g.length = 8) (h : Small6 g) : parse6 (text6 g) = some g := by
 obtain ⟨h1, h2⟩ := long_zero hl
 unfold text6
 by_cases hs : (longG g).2 < 2
 · rw [if_pos hs]
   show parse6 (colons g) = _
   unfold parse6
   rw [gap_none _ _ (colons_facts h).1, row_colons true h]
   simp only
   rw [if_pos hl]
 · rw [if_neg hs]
   show parse6 (colons (g.take (longG g).1) ++ 58 :: 58 :: colons (g.drop ((longG g).1 + (longG g).2))) = _
   generalize longG g = x at *
   obtain ⟨at_, sz⟩ := x
   simp only at *
   have hA : Small6 (g.take at_) := fun n hn => h n (List.mem_of_mem_take hn)
   have hB : Small6 (g.drop (at_ + sz)) := fun n hn => h n (List.mem_of_mem_drop hn)
   obtain ⟨a1, a2, _⟩ := colons_facts hA
   unfold parse6
   rw [gap_at _ _ _ a1 a2, Nat.zero_add]
   simp only
   have ht : (colons (g.take at_) ++ 58 :: 58 :: colons (g.drop (at_ + sz))).take (colons (g.take at_)).length = colons (g.take at_) := List.take_left
   have hd : (colons (g.take at_) ++ 58 :: 58 :: colons (g.drop (at_ + sz))).drop ((colons (g.take at_)).length + 2) = colons (g.drop (at_ + sz)) := by
    rw [← List.drop_drop, List.drop_left]; rfl
   rw [ht, hd, row_colons false hA, row_colons true hB]
   simp only
   unfold six
   rw [List.length_take, List.length_drop, hl, if_pos (by omega)]
   have e : 8 - min at_ 8 - (8 - (at_ + sz)) = sz := by omega
   rw [e, ← h2, ← List.drop_drop, List.append_assoc, List.take_append_drop, List.take_append_drop]
theorem rowF_small (last : Bool) : ∀ (ps : List (List Nat)) (acc l : List Nat), Small6 acc → rowF last ps acc = some l → Small6 l
 | [], acc, l, ha, h => by rw [rowF] at h; rw [← Option.some.inj h]; exact ha
 | p :: ps, acc, l, ha, h => by
   rw [rowF] at h
   split at h
   · rename_i n hn
     refine rowF_small last ps _ l (fun x hx => ?_) h
     rcases List.mem_append.1 hx with hx | hx
     · exact ha x hx
     · rw [List.mem_singleton.1 hx]; exact grp_lt hn
   · split at h
     · rename_i a hq
       split at h
       · have hlt : a < 4294967296 := by
           unfold strictQ at hq
           split at hq
           · rename_i b hb
             split at hq
             · rw [← Option.some.inj hq]; exact parseQ_lt hb
             · cases hq
           · cases hq
         rw [← Option.some.inj h]
         intro x hx
         rcases List.mem_append.1 hx with hx | hx
         · exact ha x hx
         · simp at hx; omega
       · cases h
     · cases h
theorem rowL_small {last : Bool} {b l : List Nat} (h : rowL last b = some l) : Small6 l := by
 unfold rowL at h
 split at h
 · rw [← Option.some.inj h]; intro x hx; cases hx
 · exact rowF_small _ _ _ _ (fun x hx => by cases hx) h
theorem parse6_ok {b g : List Nat} (h : parse6 b = some g) : g.length = 8 ∧ Small6 g := by
 unfold parse6 at h
 split at h
 · split at h
   · rename_i l hl
     split at h
     · rename_i h8
       rw [← Option.some.inj h]
       exact ⟨h8, rowL_small hl⟩
     · cases h
   · cases h
 · split at h
   · rename_i x y hx hy
     unfold six at h
     split at h
     · rw [← Option.some.inj h]
       refine ⟨by simp; omega, fun n hn => ?_⟩
       rcases List.mem_append.1 hn with hn | hn
       · rcases List.mem_append.1 hn with hn | hn
         · exact rowL_small hx n hn
         · rw [(List.mem_replicate.1 hn).2]; omega
       · exact rowL_small hy n hn
     · cases h
   · cases h
theorem text6_bytes {g : List Nat} (h : Small6 g) : ∀ c ∈ text6 g, c < 128 ∧ c ≠ 93 := by
 have key : ∀ {l : List Nat}, Small6 l → ∀ c ∈ colons l, c < 128 ∧ c ≠ 93 := fun hl c hc => by
  rcases joinN_mem hc with rfl | ⟨p, hp, hc⟩
  · decide
  · obtain ⟨n, hn, rfl⟩ := List.mem_map.1 hp
    exact (hexD_ne (List.all_eq_true.1 (hexN_all (hl n hn)).2.2.1 c hc)).2
 intro c hc
 unfold text6 at hc
 split at hc
 · exact key h c hc
 · rcases List.mem_append.1 hc with hc | hc
   · exact key (fun n hn => h n (List.mem_of_mem_take hn)) c hc
   · rcases List.mem_cons.1 hc with rfl | hc
     · decide
     · rcases List.mem_cons.1 hc with rfl | hc
       · decide
       · exact key (fun n hn => h n (List.mem_of_mem_drop hn)) c hc
end
section
open Go.RowKit
def escV : List Nat → Option Nat
 | a :: b :: _ => if hexD a = true ∧ hexD b = true then some (digV a * 16 + digV b) else none
 | _ => none
def pctF : Nat → List Nat → Nat → List (Nat × Bool) → Sc (List (Nat × Bool))
 | 0, _, _, acc => .ok acc
 | _ + 1, [], _, acc => .ok acc
 | f + 1, c :: l, i, acc => if c = 37 then (match escV l with
     | none => .no 11 i
     | some v => pctF f (l.drop 2) (i + 3) (acc ++ [(v, true)]))
   else pctF f l (i + 1) (acc ++ [(c, false)])
def pctG (l : List Nat) (i : Nat) (acc : List (Nat × Bool)) : Sc (List (Nat × Bool)) := pctF l.length l i acc
def pctL (b : List Nat) : Sc (List (Nat × Bool)) := pctG b 0 []
theorem pctF_fuel : ∀ (f g : Nat) (l : List Nat) (i : Nat) (acc : List (Nat × Bool)), l.length ≤ f → l.length ≤ g → pctF f l i acc = pctF g l i acc
 | 0, 0, l, i, acc, _, _ => rfl
 | 0, g + 1, l, i, acc, h1, _ => by
   obtain rfl := List.eq_nil_of_length_eq_zero (show l.length = 0 by omega)
   rfl
 | f + 1, 0, l, i, acc, _, h2 => by
   obtain rfl := List.eq_nil_of_length_eq_zero (show l.length = 0 by omega)
   rfl
 | f + 1, g + 1, [], i, acc, _, _ => rfl
 | f + 1, g + 1, c :: l, i, acc, h1, h2 => by
   simp only [List.length_cons] at h1 h2
   rw [pctF, pctF]
   split
   · cases escV l with
     | none => rfl
     | some v => exact pctF_fuel f g _ _ _ (by rw [List.length_drop]; omega) (by rw [List.length_drop]; omega)
   · exact pctF_fuel f g _ _ _ (by omega) (by omega)
theorem pctG_nil (i : Nat) (acc : List (Nat × Bool)) : pctG [] i acc = .ok acc := rfl
theorem pctG_plain {c : Nat} {l : List Nat} {i : Nat} {acc : List (Nat × Bool)} (h : c ≠ 37) : pctG (c :: l) i acc = pctG l (i + 1) (acc ++ [(c, false)]) := by
 show pctF (l.length + 1) (c :: l) i acc = _
 rw [pctF, if_neg h]; rfl
theorem pctG_bad {l : List Nat} {i : Nat} {acc : List (Nat × Bool)} (h : escV l = none) : pctG (37 :: l) i acc = .no 11 i := by
 show pctF (l.length + 1) (37 :: l) i acc = _
 rw [pctF, if_pos rfl, h]
theorem pctG_esc {l : List Nat} {i v : Nat} {acc : List (Nat × Bool)} (h : escV l = some v) : pctG (37 :: l) i acc = pctG (l.drop 2) (i + 3) (acc ++ [(v, true)]) := by
 show pctF (l.length + 1) (37 :: l) i acc = _
 rw [pctF, if_pos rfl, h]
 exact pctF_fuel _ _ _ _ _ (by rw [List.length_drop]; omega) (Nat.le_refl _)
theorem pctG_free : ∀ (l : List Nat) (i : Nat) (acc : List (Nat × Bool)), (∀ c ∈ l, c ≠ 37) → pctG l i acc = .ok (acc ++ l.map fun c => (c, false))
 | [], i, acc, _ => by rw [pctG_nil]; simp
 | c :: l, i, acc, h => by
   rw [pctG_plain (h c (by simp)), pctG_free l _ _ (fun x hx => h x (by simp [hx]))]; simp
theorem escV_lt {l : List Nat} {v : Nat} (h : escV l = some v) : v < 256 := by
 match l, h with
 | a :: b :: t, h =>
   rw [escV] at h
   split at h
   · rename_i hc
     have h1 := digV_hex hc.1; have h2 := digV_hex hc.2
     rw [← Option.some.inj h]; omega
   · cases h
theorem pctF_byte : ∀ (f : Nat) (l : List Nat) (i : Nat) (acc r : List (Nat × Bool)), ByteL l → (∀ x ∈ acc, x.1 < 256) → pctF f l i acc = .ok r → ∀ x ∈ r, x.1 < 256
 | 0, l, i, acc, r, _, ha, h => by rw [pctF] at h; rw [← Sc.ok.inj h]; exact ha
 | f + 1, [], i, acc, r, _, ha, h => by rw [pctF] at h; rw [← Sc.ok.inj h]; exact ha
 | f + 1, c :: l, i, acc, r, hl, ha, h => by
   rw [pctF] at h
   split at h
   · split at h
     · cases h
     · rename_i v hv
       refine pctF_byte f _ _ _ r (fun x hx => hl x (List.mem_cons_of_mem _ (List.mem_of_mem_drop hx))) (fun x hx => ?_) h
       rcases List.mem_append.1 hx with hx | hx
       · exact ha x hx
       · rw [List.mem_singleton.1 hx]; exact escV_lt hv
   · refine pctF_byte f _ _ _ r (fun x hx => hl x (List.mem_cons_of_mem _ hx)) (fun x hx => ?_) h
     rcases List.mem_append.1 hx with hx | hx
     · exact ha x hx
     · rw [List.mem_singleton.1 hx]; exact hl c (by simp)
inductive HR where
 | ok (k : Nat) (t : List Nat)
 | er (l : List (Int × Int))
def plainL (ev : List (Nat × Bool)) : List Nat := ev.map Prod.fst
def nameH (r : Sc (List Nat)) : HR := match r with
 | .no k p => .er [(22, 0), (k, p)]
 | .ok n => if numericL n = true then (match parseQ n with
     | .no k p => .er [(22, 0), (k, p)]
     | .ok a => .ok 2 (quadL a))
   else .ok 1 n
def literalL (r : List Nat) : HR := if lastN r = 93 then (match parse6 (r.take (r.length - 1)) with
    | none => .er [(22, 0), (11, 0)]
    | some g => .ok 3 (text6 g))
 else .er [(22, 0)]
def canonL (b : List Nat) : HR := if b = [] then .er [(10, 0)] else if b[0]?.getD 0 = 91 then literalL (b.drop 1) else match pctL b with
 | .no k p => .er [(22, p), (k, p)]
 | .ok ev => nameH (nameL (plainL ev))
def textH (k : Nat) (t : List Nat) : List Nat := if k = 3 then 91 :: t ++ [93] else t
inductive HostOk : Nat → List Nat → Prop where
 | name (n : List Nat) (ts : List (List Nat)) (h : NameOk n ts) (hn : numericL n = false) : HostOk 1 n
 | four (a : Nat) (h : a < 4294967296) : HostOk 2 (quadL a)
 | six (g : List Nat) (h8 : g.length = 8) (h : Small6 g) : HostOk 3 (text6 g)
theorem canon_ok {b : List Nat} {k : Nat} {t : List Nat} (h : canonL b = .ok k t) : HostOk k t := by
 unfold canonL at h
 split at h
 · cases h
 · split at h
   · unfold literalL at h
     split at h
     · split at h
       · cases h
       · rename_i g hg
         injection h with h1 h2
         subst h1; subst h2
         obtain ⟨q1, q2⟩ := parse6_ok hg
         exact .six g q1 q2
     · cases h
   · split at h
     · cases h
     · rename_i ev _
       unfold nameH at h
       split at h
       · cases h
       · rename_i n hn
         obtain ⟨ts, hts⟩ := name_ok hn
         split at h
         · split at h
           · cases h
           · rename_i a ha
             injection h with h1 h2
             subst h1; subst h2
             exact .four a (parseQ_lt ha)
         · rename_i hnum
           injection h with h1 h2
           subst h1; subst h2
           exact .name n ts hts (by simpa using hnum)
theorem canon_plain {b : List Nat} (h0 : b ≠ []) (h1 : b[0]?.getD 0 ≠ 91) (h2 : ∀ c ∈ b, c ≠ 37) : canonL b = nameH (nameL b) := by
 unfold canonL pctL
 rw [if_neg h0, if_neg h1, pctG_free _ _ _ h2]
 simp only [List.nil_append]
 unfold plainL
 rw [List.map_map]
 congr 2
 exact List.map_id _
theorem name_bytes {n : List Nat} {ts : List (List Nat)} (h : NameOk n ts) : ∀ c ∈ n, c ≠ 37 ∧ c ≠ 91 ∧ c ≠ 93 ∧ c ≠ 42 ∧ c < 128 := fun c hc => by
 rcases h.small c hc with h | rfl
 · have := small_ne h; have := small_lt h; omega
 · decide
theorem first_mem {l : List Nat} (h : l ≠ []) : l[0]?.getD 0 ∈ l := by
 rw [List.getElem?_eq_getElem (List.length_pos_iff.2 h)]
 exact List.getElem_mem _
theorem canon_name {n : List Nat} {ts : List (List Nat)} (h : NameOk n ts) : canonL n = nameH (.ok n) := by
 rw [canon_plain h.pos (name_bytes h _ (first_mem h.pos)).2.1 (fun c hc => (name_bytes h c hc).1), h.again.1]
theorem canon_back {k : Nat} {t : List Nat} (h : HostOk k t) : canonL (textH k t) = .ok k t := by
 cases h with
 | name n ts h hn =>
   show canonL t = _
   rw [canon_name h]
   unfold nameH
   simp only
   rw [if_neg (by rw [hn]; decide)]
 | four a h =>
   show canonL (quadL a) = _
   rw [canon_name (quad_name a)]
   unfold nameH
   simp only
   rw [if_pos (quad_numeric a), quad_parse h]
 | six g h8 h =>
   show canonL (91 :: text6 g ++ [93]) = _
   unfold canonL
   rw [if_neg (by simp), if_pos (by simp)]
   show literalL (text6 g ++ [93]) = _
   unfold literalL
   rw [if_pos (by rw [last_append (by simp)]; rfl), List.length_append, List.length_singleton, Nat.add_sub_cancel, List.take_left, six_parse h8 h]
inductive PR where
 | ok (wild : Bool) (name : List Nat)
 | er (l : List (Int × Int))
def patH (wild : Bool) (r : HR) : PR := match r with
 | .er l => .er ((22, 0) :: l)
 | .ok k t => if wild = true ∧ k ≠ 1 then .er [(22, 0)] else .ok wild (textH k t)
def starD (b : List Nat) : Bool := decide (b.take 2 = [42, 46])
def patL (b : List Nat) : PR := if b = [42] then .ok true [] else if starD b = true then patH true (canonL (b.drop 2)) else patH false (canonL b)
inductive PatOk : Bool → List Nat → Prop where
 | star : PatOk true []
 | wild (n : List Nat) (h : HostOk 1 n) : PatOk true n
 | one (k : Nat) (t : List Nat) (h : HostOk k t) : PatOk false (textH k t)
theorem pat_ok {b : List Nat} {w : Bool} {n : List Nat} (h : patL b = .ok w n) : PatOk w n := by
 have key : ∀ (w' : Bool) (c : List Nat), patH w' (canonL c) = .ok w n → PatOk w n := fun w' c hc => by
  unfold patH at hc
  split at hc
  · cases hc
  · rename_i k t ht
    split at hc
    · cases hc
    · rename_i hk
      injection hc with h1 h2
      subst h1; subst h2
      cases w' with
      | false => exact .one k t (canon_ok ht)
      | true =>
        have : k = 1 := Decidable.not_not.1 (fun e => hk ⟨rfl, e⟩)
        subst this
        exact .wild _ (canon_ok ht)
 unfold patL at h
 split at h
 · injection h with h1 h2
   subst h1; subst h2
   exact .star
 · split at h
   · exact key _ _ h
   · exact key _ _ h
theorem host_name_bytes {n : List Nat} (h : HostOk 1 n) : n ≠ [] ∧ ∀ c ∈ n, c ≠ 37 ∧ c ≠ 91 ∧ c ≠ 93 ∧ c ≠ 42 ∧ c < 128 := by
 cases h with
 | name n ts h hn => exact ⟨h.pos, name_bytes h⟩
def beneathL (n a : List Nat) : Bool := decide (a.length + 1 < n.length ∧ n.drop (n.length - (a.length + 1)) = 46 :: a)
def matchL (w : Bool) (p : List Nat) (k : Nat) (t : List Nat) : Bool := if w = true then decide (k = 1) && (decide (p = []) || beneathL t p) else decide (p = textH k t)
theorem splitN_append (m : Nat) : ∀ (x r : List Nat), splitN m (x ++ m :: r) = splitN m x ++ splitN m r
 | [], r => by simp [splitN]
 | c :: x, r => by
   have ih := splitN_append m x r
   rw [List.cons_append, splitN, splitN, ih]
   by_cases h : c = m
   · rw [if_pos h, if_pos h]; rfl
   · rw [if_neg h, if_neg h]
     cases hs : splitN m x with
     | nil => exact absurd hs (splitN_ne m x)
     | cons a t => rfl
end
section
open Go.RowKit
def hexL6 (r n : Nat) : List UInt8 := (List.range r).map fun j => UInt8.ofNat (hexU (n / 16 ^ (r - 1 - j) % 16))
def hexS6 (r n : Nat) : ByteArray := ⟨(hexL6 r n).toArray⟩
def lenF6 : Nat → Nat → Nat
 | 0, _ => 1
 | f + 1, n => if n < 16 then 1 else lenF6 f (n / 16) + 1
def lenH (n : Nat) : Nat := lenF6 n n
def hexB6 (n : Nat) : ByteArray := hexS6 (lenH n) n
theorem hexS6_size (r n : Nat) : (hexS6 r n).size = r := by
 show (hexL6 r n).toArray.size = r
 simp [hexL6]
theorem lenF6_iff : ∀ (f n r : Nat), n ≤ f → 1 ≤ r → (lenF6 f n ≤ r ↔ n / 16 ^ r = 0)
 | 0, n, r, h, h1 => by
   obtain rfl : n = 0 := by omega
   simp [lenF6]; exact h1
 | f + 1, n, r, h, h1 => by
   rw [lenF6]
   obtain ⟨q, rfl⟩ : ∃ q, r = q + 1 := ⟨r - 1, by omega⟩
   have hp : 0 < 16 ^ (q + 1) := Nat.pow_pos (by decide)
   split
   · rename_i h10
     refine ⟨fun _ => Nat.div_eq_of_lt ?_, fun _ => h1⟩
     have : 16 ^ 1 ≤ 16 ^ (q + 1) := Nat.pow_le_pow_right (by decide) (by omega)
     omega
   · rename_i h10
     have e : n / 16 ^ (q + 1) = n / 16 / 16 ^ q := by rw [Nat.pow_succ, Nat.mul_comm, Nat.div_div_eq_div_mul]
     by_cases hq : 1 ≤ q
     · rw [e, ← lenF6_iff f (n / 16) q (by omega) hq]; omega
     · obtain rfl : q = 0 := by omega
       rw [e, Nat.pow_zero, Nat.div_one]
       refine ⟨fun h => ?_, fun h => by omega⟩
       have : 1 ≤ lenF6 f (n / 16) := by cases f with
        | zero => exact Nat.le_refl _
        | succ f => rw [lenF6]; split <;> omega
       omega
theorem lenH_iff (n r : Nat) (h : 1 ≤ r) : lenH n ≤ r ↔ n / 16 ^ r = 0 := lenF6_iff n n r (Nat.le_refl _) h
theorem lenH_pos (n : Nat) : 1 ≤ lenH n := by
 unfold lenH
 cases n with
 | zero => exact Nat.le_refl _
 | succ f => rw [lenF6]; split <;> omega
theorem lenH_le {n : Nat} (h : n < 65536) : lenH n ≤ 4 := by
 rw [lenH_iff n 4 (by decide)]
 exact Nat.div_eq_of_lt h
theorem hexU_lt {d : Nat} (h : d < 16) : hexU d < 256 := by unfold hexU; split <;> omega
theorem hexS6_at {r n j : Nat} (h : j < r) : byteAt (hexS6 r n) j = hexU (n / 16 ^ (r - 1 - j) % 16) := by
 have := hexU_lt (Nat.mod_lt (n / 16 ^ (r - 1 - j)) (show 0 < 16 by decide))
 unfold byteAt hexS6 hexL6
 simp [h]
 omega
theorem low_hexU : ∀ d : Fin 16, lowN (hexU d.val) = hxN d.val := by decide
theorem hexS6_bytes (r n : Nat) : bytesN (hexS6 r n) = (List.range r).map fun j => hexU (n / 16 ^ (r - 1 - j) % 16) := by
 unfold bytesN hexS6 hexL6
 simp only [List.map_map]
 refine List.map_congr_left (fun j _ => ?_)
 have := hexU_lt (Nat.mod_lt (n / 16 ^ (r - 1 - j)) (show 0 < 16 by decide))
 simp
 omega
theorem hexB_low {n : Nat} (h : n < 65536) : (bytesN (hexB6 n)).map lowN = hexN n := by
 have h4 := lenH_le h
 have h1 := lenH_pos n
 have l1 := lenH_iff n 1 (by decide)
 have l2 := lenH_iff n 2 (by decide)
 have l3 := lenH_iff n 3 (by decide)
 have e1 : (16 : Nat) ^ 1 = 16 := rfl
 have e2 : (16 : Nat) ^ 2 = 256 := rfl
 have e3 : (16 : Nat) ^ 3 = 4096 := rfl
 have e0 : (16 : Nat) ^ 0 = 1 := rfl
 rw [e1] at l1; rw [e2] at l2; rw [e3] at l3
 have lo : ∀ d, lowN (hexU (d % 16)) = hxN (d % 16) := fun d => low_hexU ⟨d % 16, Nat.mod_lt _ (by decide)⟩
 have lo2 : ∀ d, d < 16 → lowN (hexU d) = hxN d := fun d h => low_hexU ⟨d, h⟩
 unfold hexB6
 rw [hexS6_bytes, List.map_map]
 have hc : lenH n = 1 ∨ lenH n = 2 ∨ lenH n = 3 ∨ lenH n = 4 := by omega
 unfold hexN
 rcases hc with hc | hc | hc | hc
 · rw [hc, if_pos (by omega)]
   simp [List.range_succ, Nat.mod_eq_of_lt (show n < 16 by omega), lo2 _ (show n < 16 by omega)]
 · rw [hc, if_neg (by omega), if_pos (by omega)]
   simp [List.range_succ, lo, Nat.mod_eq_of_lt (show n / 16 < 16 by omega), lo2 _ (show n / 16 < 16 by omega)]
 · rw [hc, if_neg (by omega), if_neg (by omega), if_pos (by omega)]
   simp [List.range_succ, lo, Nat.mod_eq_of_lt (show n / 256 < 16 by omega), lo2 _ (show n / 256 < 16 by omega)]
 · rw [hc, if_neg (by omega), if_neg (by omega), if_neg (by omega)]
   simp [List.range_succ, lo, Nat.mod_eq_of_lt (show n / 4096 < 16 by omega), lo2 _ (show n / 4096 < 16 by omega)]
end
section
open Go.RowKit
def lgS (p : List Bool) (x : Nat × Nat × Nat) (i : Nat) : Nat × Nat × Nat :=
 if x.2.2 < (if p[i]?.getD false = true then x.1 + 1 else 0) then ((if p[i]?.getD false = true then x.1 + 1 else 0), i + 1 - (if p[i]?.getD false = true then x.1 + 1 else 0), (if p[i]?.getD false = true then x.1 + 1 else 0)) else ((if p[i]?.getD false = true then x.1 + 1 else 0), x.2.1, x.2.2)
def lgP (p : List Bool) : Nat × Nat := ((List.range 8).foldl (lgS p) (0, 0, 0)).2
theorem lg_eq : ∀ a b c d e f g h : Bool, lgP [a, b, c, d, e, f, g, h] = longP [a, b, c, d, e, f, g, h] := by decide +kernel
end
end Go.Proofs.YtbeodjipdpcaiaaGreatDoor
