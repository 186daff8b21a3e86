/- Texts as tokens: the plain functions and laws of quoting. Nothing of the program. -/
import Derived.Test.YtcaiibkgajhohaaGreatDoorYUtf0s
import Derived.Test.YtcaiibkgajhohaaGreatDoorYScan0s
import Derived.Test.YtcaiibkgajhohaaGreatDoorYIdent1f
namespace Go.Proofs.YtcaiibkgajhohaaGreatDoor
open Go.RowKit
/-- The characters from a place on, or the place at which none stands. -/
def charsF (B : ByteArray) : Nat → Nat → List Nat → Sc (List Nat)
 | 0, i, acc => if i < B.size then .no 12 i else .ok acc
 | f + 1, i, acc => if i < B.size then (if decU B i = (65533, 1) then .no 12 i else charsF B f (i + (decU B i).2) (acc ++ [(decU B i).1])) else .ok acc
def charsS (B : ByteArray) (i : Nat) (acc : List Nat) : Sc (List Nat) := charsF B (B.size - i) i acc
theorem decU_size {B : ByteArray} {i : Nat} (hi : i < B.size) : 0 < (decU B i).2 ∧ i + (decU B i).2 ≤ B.size := by
 have := decodeN_size (B.size - i) (byteAt B i) (byteAt B (i + 1)) (byteAt B (i + 2)) (byteAt B (i + 3)) (by omega)
 unfold decU; omega
theorem charsF_fuel (B : ByteArray) : ∀ n f g i acc, B.size - i = n → n ≤ f → n ≤ g → charsF B f i acc = charsF B g i acc := by
 intro n
 induction n using Nat.strongRecOn with
 | ind n ih =>
   intro f g i acc hn hf hg
   by_cases hi : i < B.size
   · cases f with
     | zero => omega
     | succ f =>
       cases g with
       | zero => omega
       | succ g =>
         have hd := decU_size hi
         rw [charsF, charsF, if_pos hi, if_pos hi]
         split
         · rfl
         · exact ih (B.size - (i + (decU B i).2)) (by omega) f g _ _ rfl (by omega) (by omega)
   · cases f <;> cases g <;> simp only [charsF, if_neg hi]
theorem charsS_step {B : ByteArray} {i : Nat} {acc : List Nat} (hi : i < B.size) : charsS B i acc = if decU B i = (65533, 1) then .no 12 i else charsS B (i + (decU B i).2) (acc ++ [(decU B i).1]) := by
 have hd := decU_size hi
 unfold charsS
 cases hf : B.size - i with
 | zero => omega
 | succ f =>
   rw [charsF, if_pos hi]
   split
   · rfl
   · exact charsF_fuel B _ _ _ _ _ rfl (by omega) (by omega)
theorem charsS_end {B : ByteArray} {i : Nat} {acc : List Nat} (hi : ¬ i < B.size) : charsS B i acc = .ok acc := by
 unfold charsS
 cases B.size - i <;> simp only [charsF, if_neg hi]
theorem dec_hit {B : ByteArray} {i k : Nat} (h1 : 1 ≤ k) (h4 : k ≤ 4) (hk : i + k ≤ B.size) (hh : hitN (byteAt B i) (byteAt B (i + 1)) (byteAt B (i + 2)) (byteAt B (i + 3)) k = true) :
    decU B i = ((guessN (byteAt B i) (byteAt B (i + 1)) (byteAt B (i + 2)) (byteAt B (i + 3)) k).toNat, k) ∧ decU B i ≠ (65533, 1) ∧ putN (decU B i).1 = [byteAt B i, byteAt B (i + 1), byteAt B (i + 2), byteAt B (i + 3)].take k := by
 obtain ⟨e1, e2⟩ := decode_hit (byteAt_lt B i) (byteAt_lt B (i + 1)) (byteAt_lt B (i + 2)) (B.size - i) (by omega) k h1 h4 (by omega) hh
 have e : decU B i = ((guessN (byteAt B i) (byteAt B (i + 1)) (byteAt B (i + 2)) (byteAt B (i + 3)) k).toNat, k) := e1
 refine ⟨e, by rw [e]; exact e2, ?_⟩
 rw [e]
 unfold hitN at hh
 simp only [Bool.and_eq_true, beq_iff_eq] at hh
 exact hh.2
/-! ### A byte in a token -/
end Go.Proofs.YtcaiibkgajhohaaGreatDoor
namespace Go.Proofs.YtcaiibkgajhohaaGreatDoor
open Go.RowKit
/-- The bytes of characters. -/
def strOf (acc : List Nat) : ByteArray := ⟨((acc.flatMap putN).map UInt8.ofNat).toArray⟩
def AllRight (acc : List Nat) : Prop := ∀ c ∈ acc, rightN (c : Int) = true
theorem AllRight.snoc {acc : List Nat} {c : Nat} (h : AllRight acc) (hc : rightN (c : Int) = true) : AllRight (acc ++ [c]) := by
 intro x hx
 rw [List.mem_append] at hx
 rcases hx with hx | hx
 · exact h x hx
 · rw [List.mem_singleton.1 hx]; exact hc
theorem right_lt {c : Nat} (h : rightN (c : Int) = true) : c < 1114112 := by
 have := (right_iff _).1 h; omega
theorem putN_len (n : Nat) : (putN n).length ≤ 4 := by
 unfold putN; split
 · simp
 · split
   · simp
   · split <;> simp
theorem strOf_size (acc : List Nat) : (strOf acc).size = (acc.flatMap putN).length := by
 show ((acc.flatMap putN).map UInt8.ofNat).toArray.size = _
 simp
theorem AllRight.take {acc : List Nat} (h : AllRight acc) (j : Nat) : AllRight (acc.take j) := fun c hc => h c (List.mem_of_mem_take hc)
theorem AllRight.get {acc : List Nat} (h : AllRight acc) {j : Nat} (hj : j < acc.length) : rightN (acc[j] : Int) = true := h _ (List.getElem_mem hj)
theorem put_dec {Q : ByteArray} {p c : Nat} (hc : rightN (c : Int) = true) (hp : ∀ m x, (putN c)[m]? = some x → byteAt Q (p + m) = x) (hz : p + (putN c).length ≤ Q.size) : decU Q p = (c, (putN c).length) ∧ decU Q p ≠ (65533, 1) := by
 have hr := (right_iff _).1 hc
 have key : ∀ k, (putN c).length = k → 1 ≤ k → k ≤ 4 → guessN (byteAt Q p) (byteAt Q (p + 1)) (byteAt Q (p + 2)) (byteAt Q (p + 3)) k = (c : Int) → putN c = [byteAt Q p, byteAt Q (p + 1), byteAt Q (p + 2), byteAt Q (p + 3)].take k → decU Q p = (c, k) ∧ decU Q p ≠ (65533, 1) := by
  intro k hk h1 h4 hg hl
  have hh : hitN (byteAt Q p) (byteAt Q (p + 1)) (byteAt Q (p + 2)) (byteAt Q (p + 3)) k = true := by
   unfold hitN
   rw [hg, hc, Int.toNat_natCast, hl]
   simp
  obtain ⟨e1, e2, _⟩ := dec_hit h1 h4 (by omega) hh
  rw [hg, Int.toNat_natCast] at e1
  exact ⟨e1, e2⟩
 by_cases h1 : c < 128
 · have e : putN c = [c] := by unfold putN; rw [if_pos h1]
   have b0 := hp 0 c (by rw [e]; rfl)
   rw [Nat.add_zero] at b0
   rw [e]
   exact key 1 (by rw [e]; rfl) (by omega) (by omega) (by rw [guess1]; omega) (by rw [e]; simp; omega)
 · by_cases h2 : c < 2048
   · have e : putN c = [192 + c / 64, 128 + c % 64] := by unfold putN; rw [if_neg h1, if_pos h2]
     have b0 := hp 0 _ (by rw [e]; rfl)
     have b1 := hp 1 _ (by rw [e]; rfl)
     rw [Nat.add_zero] at b0
     rw [e]
     exact key 2 (by rw [e]; rfl) (by omega) (by omega) (by rw [guess2]; omega) (by rw [e, b0, b1]; simp)
   · by_cases h3 : c < 65536
     · have e : putN c = [224 + c / 4096, 128 + c / 64 % 64, 128 + c % 64] := by unfold putN; rw [if_neg h1, if_neg h2, if_pos h3]
       have b0 := hp 0 _ (by rw [e]; rfl)
       have b1 := hp 1 _ (by rw [e]; rfl)
       have b2 := hp 2 _ (by rw [e]; rfl)
       rw [Nat.add_zero] at b0
       rw [e]
       exact key 3 (by rw [e]; rfl) (by omega) (by omega) (by rw [guess3]; omega) (by rw [e, b0, b1, b2]; simp)
     · have e : putN c = [240 + c / 262144, 128 + c / 4096 % 64, 128 + c / 64 % 64, 128 + c % 64] := by unfold putN; rw [if_neg h1, if_neg h2, if_neg h3]
       have b0 := hp 0 _ (by rw [e]; rfl)
       have b1 := hp 1 _ (by rw [e]; rfl)
       have b2 := hp 2 _ (by rw [e]; rfl)
       have b3 := hp 3 _ (by rw [e]; rfl)
       rw [Nat.add_zero] at b0
       rw [e]
       exact key 4 (by rw [e]; rfl) (by omega) (by omega) (by rw [guess4]; omega) (by rw [e, b0, b1, b2, b3]; simp)
theorem putN_pos (c : Nat) : 0 < (putN c).length := by
 unfold putN; split
 · simp
 · split
   · simp
   · split <;> simp
theorem charsS_puts {Q : ByteArray} : ∀ (cs : List Nat) (p : Nat) (acc : List Nat), AllRight cs → (∀ m x, (cs.flatMap putN)[m]? = some x → byteAt Q (p + m) = x) → Q.size = p + (cs.flatMap putN).length → charsS Q p acc = .ok (acc ++ cs)
 | [], p, acc, _, _, hz => by rw [charsS_end (by simp at hz; omega), List.append_nil]
 | c :: cs, p, acc, ha, hp, hz => by
   rw [List.flatMap_cons, List.length_append] at hz
   have hpos := putN_pos c
   obtain ⟨e1, e2⟩ := put_dec (Q := Q) (p := p) (c := c) (ha c (by simp)) (fun m x hx => hp m x (by
    rw [List.flatMap_cons, List.getElem?_append_left (List.getElem?_eq_some_iff.1 hx).1]; exact hx)) (by omega)
   rw [charsS_step (by omega), if_neg e2, e1]
   have := charsS_puts cs (p + (putN c).length) (acc ++ [c]) (fun x hx => ha x (by simp [hx])) (fun m x hx => by
    have := hp ((putN c).length + m) x (by rw [List.flatMap_cons, List.getElem?_append_right (by omega), Nat.add_sub_cancel_left]; exact hx)
    rw [Nat.add_assoc]; exact this) (by omega)
   rw [this]; simp
end Go.Proofs.YtcaiibkgajhohaaGreatDoor
namespace Go.Proofs.YtcaiibkgajhohaaGreatDoor
open Go.RowKit
def appTeam (s : ByteArray) : ByteArray := if appR s = [] then s.extract 0 10 else ⟨#[]⟩
def appBundle (s : ByteArray) : ByteArray := if appR s = [] then s.extract 11 s.size else ⟨#[]⟩
theorem appR_size {s : ByteArray} (h : appR s = []) : 11 < s.size := by
 unfold appR readR at h
 split at h
 · simp at h
 · split at h
   · rename_i hw; simpa using hw
   · simp at h
theorem appR_cons {s : ByteArray} (h : appR s ≠ []) : ∃ x, appR s = [x] := by
 unfold appR readR at h ⊢
 split
 · exact ⟨_, rfl⟩
 · rename_i hx
   rw [hx] at h
   by_cases hw : 11 < s.size
   · simp [hw] at h
   · exact ⟨_, by rw [decide_eq_false hw]; rfl⟩
set_option maxRecDepth 100000 in
set_option maxHeartbeats 8000000 in
theorem app_any (s : ByteArray) (w : World) (hs : s.size ≤ 1100000) :
    Calls Tryz.prog 160 #[.string s] w fun e w' => ∃ v, e = .returned (.tuple #[.agg #[.string (appTeam s), .string (appBundle s)], v]) ∧ Rd (Fresh w w') w' v (errD 85 (appR s)) ∧ Below w.heap.size w w' := by
 have hb0 := ext_alloc (Below.refl w.heap.size w) (.cells #[.string ⟨#[]⟩, .string ⟨#[]⟩] 37)
 have rd0 := read_any 178 appB appFits s 166 (decide (11 < s.size)) (w.alloc (.cells #[.string ⟨#[]⟩, .string ⟨#[]⟩] 37)) hs (by decide)
 rw [show readR s 166 appB (decide (11 < s.size)) = appR s from rfl] at rd0
 obtain ⟨t, ht⟩ : ∃ t, decide (11 < s.size) = t := ⟨_, rfl⟩
 rw [ht] at rd0
 have t1 : decide ((11 : Int) < (s.size : Int)) = t := by rw [← ht]; congr 1; simp; omega
 have RD := Lib.hid rd0
 have HB0 := Lib.hid hb0
 clear hb0 rd0 ht
 go_enter Tryz.func160, Tryz.ntmps160
 go_wp2_with fail
 refine RD.out.mono ?_
 rintro e w1 ⟨v, rfl, hr, hb1⟩
 have q1 := bcell1 hb1 (b := w.heap.size) (by simp)
 have q2 := bfrozen1 hb1 (b := w.heap.size) (by simp)
 have hz := hb1.size
 simp at hz
 have HB1 := Lib.hid (ext_trans HB0.out hb1)
 clear hb1
 by_cases hR : appR s = []
 · have h11 := appR_size hR
   have e1 : appTeam s = s.extract 0 10 := if_pos hR
   have e2 : appBundle s = s.extract 11 s.size := if_pos hR
   have i1 : (10 : Int) ≤ (s.size : Int) := by omega
   have i2 : (11 : Int) ≤ (s.size : Int) := by omega
   have hr' := hr
   rw [hR] at hr'
   simp only [errD] at hr'
   have ev := hr'.nilI_inv
   subst ev
   have E := Lib.hid (And.intro e1 (And.intro e2 hR))
   clear hr hr' e1 e2 hR t1
   go_wp2_with fail
   go_region
   go_wp2
   refine bodyPost_ret (v := .tuple #[.agg #[.string (s.extract 0 10), .string (s.extract 11 s.size)], .nilIface]) (by simp [results, Tryz.results160, go_sem, q1]) rfl ⟨_, by rw [E.out.1, E.out.2.1], ?_, ?_⟩
   · rw [E.out.2.2]; simp only [errD]; exact .nilI
   · exact ⟨(HB1.out).os, HB1.out.tape, HB1.out.output, by have := HB1.out.size; simpa using this, fun k hk => ((Below.heap_setCell _ _ _ _ (show k ≠ w.heap.size by omega)).trans (Below.heap_setCell _ _ _ _ (show k ≠ w.heap.size by omega))).trans (HB1.out.block k hk)⟩
 · obtain ⟨x, hx⟩ := appR_cons hR
   have e1 : appTeam s = ⟨#[]⟩ := if_neg hR
   have e2 : appBundle s = ⟨#[]⟩ := if_neg hR
   have HR := Lib.hid hr
   rw [hx] at hr
   obtain ⟨k, a⟩ := x
   obtain ⟨b, off, u, rfl, _⟩ := fault_inv hr
   have E := Lib.hid (And.intro e1 e2)
   clear hr e1 e2 hR hx t1
   go_wp2
   refine bodyPost_ret (v := .tuple #[.agg #[.string ⟨#[]⟩, .string ⟨#[]⟩], .iface 85 (.pointer (some ⟨b, off, none⟩))]) (by simp [results, Tryz.results160, go_sem, q1]) rfl ⟨_, by rw [E.out.1, E.out.2], ?_, ?_⟩
   · have hS : ∀ b', Fresh (w.alloc (.cells #[.string ⟨#[]⟩, .string ⟨#[]⟩] 37)) w1 b' → b' ≠ w.heap.size := fun b' hb' e => by have := hb'.1; simp at this; omega
     refine ((HR.out.set (p := ⟨w.heap.size, 0, none⟩) hS _).set (p := ⟨w.heap.size, 1, none⟩) hS _).wide (fun b' hb' => ⟨by have := hb'.1; simp at this; omega, by have := hb'.2; simpa using this⟩)
   · exact ((HB1.out.setCell (Nat.le_refl _) _).setCell (Nat.le_refl _) _)
end Go.Proofs.YtcaiibkgajhohaaGreatDoor
