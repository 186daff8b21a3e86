/- Eye6, EyeP, Eye7 in one text (a claim holds at most 60 files). -/
import Derived.Test.YtheoaijheijojaaGreatDoorZEye1s
import Derived.Test.YtheoaijheijojaaGreatDoorZDig1s
import Derived.Test.YtheoaijheijojaaGreatDoorZScan4s
import Derived.Test.YtheoaijheijojaaGreatDoorZChr1s
import Derived.Deep.RegionHeld3
namespace Go.Proofs.YtheoaijheijojaaGreatDoor
section
open Go.RowKit
def hxL : List Nat := [48, 49, 50, 51, 52, 53, 54, 55, 56, 57, 97, 98, 99, 100, 101, 102, 65, 66, 67, 68, 69, 70]
theorem hx_dig {c : Nat} (h : hxL.contains c = true) : digV c < 16 := by
  simp only [hxL, List.contains_eq_mem, decide_eq_true_eq, List.mem_cons, List.not_mem_nil, or_false] at h
  unfold digV
  split
  · omega
  · split
    · omega
    · split <;> omega
def mustsE (l : List Nat) (B : ByteArray) : Nat → St → St
  | 0, s => s
  | n + 1, s => mustE l B (mustsE l B n s)
theorem mustsE_le {l : List Nat} {B : ByteArray} {s : St} (h : s.i ≤ B.size) : ∀ n, (mustsE l B n s).i ≤ B.size
  | 0 => h
  | n + 1 => mustE_le (mustsE_le h n)
def unitE (B : ByteArray) (s : St) : St := mustsE hxL B 4 (mustE [117] B (mustE [92] B s))
def unitV (B : ByteArray) (s : St) : Nat := if (unitE B s).k = 0 then numVal 16 (subB B (s.i + 2) 4) 4 else 0
theorem must_ok {l : List Nat} {B : ByteArray} {s : St} (h : (mustE l B s).k = 0) (hs : s.i ≤ B.size) : s.k = 0 ∧ s.i < B.size ∧ l.contains (byteAt B s.i) = true ∧ mustE l B s = stepE s := by
  unfold mustE at h ⊢
  split at h
  · rename_i h0; exact absurd h h0
  · rename_i h0
    split at h
    · simp at h
    · rename_i h1
      split at h
      · rename_i h2
        rw [if_neg h0, if_neg h1, if_pos h2]
        exact ⟨by simpa using h0, by omega, h2, rfl⟩
      · simp at h
theorem musts_ok {l : List Nat} {B : ByteArray} {s : St} (hs : s.i ≤ B.size) : ∀ n, (mustsE l B n s).k = 0 → s.k = 0 ∧ s.i + n ≤ B.size ∧ (∀ j, j < n → l.contains (byteAt B (s.i + j)) = true) ∧ mustsE l B n s = ⟨s.i + n, s.k, s.a⟩
  | 0, h => ⟨h, hs, fun j h => by omega, rfl⟩
  | n + 1, h => by
    obtain ⟨h1, h2, h3, h4⟩ := must_ok (s := mustsE l B n s) h (mustsE_le hs n)
    obtain ⟨g1, g2, g3, g4⟩ := musts_ok hs n h1
    rw [g4] at h2 h3
    refine ⟨g1, h2, fun j hj => ?_, ?_⟩
    · by_cases e : j = n
      · subst e; exact h3
      · exact g3 j (by omega)
    · show mustE l B (mustsE l B n s) = _
      rw [h4, g4]; rfl
theorem unit_fit {B : ByteArray} {s : St} (hs : s.i ≤ B.size) (h : (unitE B s).k = 0) : s.i + 6 ≤ B.size ∧ ∀ j, j < 4 → hxL.contains (byteAt B (s.i + 2 + j)) = true := by
  obtain ⟨h1, h2, h3, _⟩ := musts_ok (mustE_le (mustE_le hs)) 4 h
  obtain ⟨g1, g2, _, g4⟩ := must_ok h1 (mustE_le hs)
  obtain ⟨_, f2, _, f4⟩ := must_ok g1 hs
  rw [g4, f4] at h2 h3
  have e : (stepE (stepE s)).i = s.i + 2 := rfl
  rw [e] at h2 h3
  exact ⟨by omega, h3⟩
theorem unit_dig (B : ByteArray) (p : Nat) (h : ∀ j, j < 4 → hxL.contains (byteAt B (p + j)) = true) (i : Nat) (hi : i < 4) : digV (byteAt (subB B p 4) i) < 16 := by
  rw [subB_at B p 4 i hi]; exact hx_dig (h i hi)
theorem unitV_pos {B : ByteArray} {i sk : Nat} {sa : Int} (h : (unitE B ⟨i, sk, sa⟩).k = 0) : ∃ N, numVal 16 (subB B (i + 2) 4) 4 = N ∧ unitV B ⟨i, sk, sa⟩ = N := ⟨_, rfl, by unfold unitV; rw [if_pos h]⟩
def UeRel (E : Nat) (v : Value) (B : ByteArray) (w : World) (t : St) (i : Value) (wr : World) : Prop := ∃ j : Nat, i = .int .i64 j ∧ j ≤ 4 ∧ Now E v B w (mustsE hxL B j t) wr
def UePost (E : Nat) (v : Value) (w : World) (s' : St) (n : Nat) (e : Ending) (w' : World) : Prop := e = .returned (.int .i64 n) ∧ EyeS w' E v s' ∧ OnlyE E w w'
set_option maxRecDepth 100000 in
set_option maxHeartbeats 8000000 in
theorem eunit_any (E : Nat) (v : Value) (B : ByteArray) (s : St) (w : World) (hz : B.size ≤ 1000000) (hs : s.i ≤ B.size) (h : EyeS w E v s) (hB : EyeB w E v B) :
    Calls Tryz.prog 172 #[.pointer (some ⟨E, 0, none⟩)] w (UePost E v w (unitE B s) (unitV B s)) := by
  have HM := Lib.hid (fun (S : ByteArray) (l : List Nat) (hl : S.data.toList.map (·.toNat) = l) (hS : S.size ≤ 1000000) (t : St) (W : World) (hN : Now E v B w t W) => emust_any S l hl hS E v B t W hz hN.le hN.at_ (hB.only hN.only))
  have HN := Lib.hid (Now.mk h (Only.refl (fun k => k = E) w) hs)
  have HB := Lib.hid (fun W (hO : OnlyE E w W) => hB.only hO)
  have HS := Lib.hid hs
  have hc := h.cell; have hf := h.frozen
  obtain ⟨i, sk, sa⟩ := s
  clear h hB hs
  go_enter Tryz.func172, Tryz.ntmps172
  go_wp2_with fail
  refine (HM.out ⟨#[92]⟩ [92] (by rfl) (by decide) _ _ HN.out).mono ?_
  rintro e w1 hp
  have HN1 := Lib.hid (HN.out.post hp (mustE_le HN.out.le))
  obtain ⟨rfl, _, _⟩ := hp
  clear hc hf
  go_wp2_with fail
  refine (HM.out ⟨#[117]⟩ [117] (by rfl) (by decide) _ _ HN1.out).mono ?_
  rintro e w2 hp
  have HN2 := Lib.hid (HN1.out.post hp (mustE_le HN1.out.le))
  obtain ⟨rfl, _, _⟩ := hp
  go_wp2_with fail
  go_loopw [4] (UeRel E v B w (mustE [117] B (mustE [92] B ⟨i, sk, sa⟩))) (fun k _ => 4 - (intOf k).toNat)
  case atStart => exact ⟨0, rfl, by decide, HN2.out⟩
  case round =>
    obtain ⟨j, rfl, hj, hN⟩ := hrel
    have HW := Lib.hid hN
    clear hN
    by_cases hlt : j < 4
    · go_wp2_with fail
      refine (HM.out ⟨#[48, 49, 50, 51, 52, 53, 54, 55, 56, 57, 97, 98, 99, 100, 101, 102, 65, 66, 67, 68, 69, 70]⟩ hxL (by rfl) (by decide) _ _ HW.out).mono ?_
      rintro e w3 hp
      have R : UeRel E v B w (mustE [117] B (mustE [92] B ⟨i, sk, sa⟩)) (.int .i64 (j + 1)) w3 := ⟨j + 1, by go_num, hlt, HW.out.post hp (mustE_le HW.out.le)⟩
      obtain ⟨rfl, _, _⟩ := hp
      have HR := Lib.hid R
      clear R
      go_wp2
      refine ⟨?_, by simp [intOf] <;> omega⟩
      have R := HR.out
      first | exact R | ((repeat apply Exists.intro); exact ⟨R, rfl⟩)
    · obtain rfl : j = 4 := by omega
      have HU : Hid (Now E v B w (unitE B ⟨i, sk, sa⟩) wr) := Lib.hid HW.out
      have hcc := HU.out.at_.cell; have hff := HU.out.at_.frozen
      by_cases h0 : (unitE B ⟨i, sk, sa⟩).k = 0
      · obtain ⟨hsz, hx⟩ := unit_fit HS.out h0
        obtain ⟨N, hV1, hV⟩ := unitV_pos h0
        have hdig := unit_dig B (i + 2) hx
        have hlt4 := numVal_lt hdig 4 (by decide)
        have hN1 := rnumber_any (subB B (i + 2) 4) (subB_size B (i + 2) 4 hsz) hdig wr
        rw [hV1] at hlt4 hN1
        have HV := Lib.hid hV
        clear hV1 hdig
        have HX1 := Lib.hid hN1
        obtain ⟨a, c, rfl, _, hac, hc⟩ := (HB.out wr HU.out.only).by_inv
        have hsz' : i + 6 ≤ B.size := hsz
        obtain ⟨b, off, rfl, _, x0⟩ := hc (by omega)
        have cv := bytes_back wr b (off + (i + 2)) 4 (c - (i + 2)) (subB B (i + 2) 4) (subB_size B (i + 2) 4 (by omega)) (fun k hk => by
          rw [subB_at B (i + 2) 4 k hk, Nat.add_assoc]; exact x0 (i + 2 + k) (by omega))
        have q0 : i + 6 ≤ c := by omega
        have q1 : (i : Int) + 2 ≤ (c : Int) := by omega
        have q2 : (i : Int) + 6 ≤ (c : Int) := by omega
        have q3 : (N : Int) < 65536 := by have : (16 : Nat) ^ 4 = 65536 := rfl; omega
        rw [h0] at hcc
        have HF : Hid (∀ m, UePost E (.slice (some ⟨b, off, none⟩) B.size c) w (unitE B ⟨i, sk, sa⟩) (unitV B ⟨i, sk, sa⟩) (.returned (.int .i64 N)) (wr.drewN m)) := Lib.hid (fun m => ⟨by rw [HV.out], (HU.out.drewN m).at_, (HU.out.drewN m).only⟩)
        clear hV hlt4 hN1 hx x0 hc hsz h0
        go_wp2_with fail
        refine HX1.out.mono ?_
        rintro e w4 ⟨rfl, m, rfl⟩
        go_wp2
        go_ret
        exact HF.out m
      · have t1 : (((unitE B ⟨i, sk, sa⟩).k : Int) != 0) = true := bne_iff_ne.2 (by omega)
        have HF : Hid (UePost E v w (unitE B ⟨i, sk, sa⟩) (unitV B ⟨i, sk, sa⟩) (.returned (.int .i64 0)) wr) := Lib.hid ⟨by unfold unitV; rw [if_neg h0]; rfl, HU.out.at_, HU.out.only⟩
        generalize unitE B ⟨i, sk, sa⟩ = t at *
        clear h0
        go_wp2
        go_ret
        exact HF.out
end
section
open Go.RowKit
def escNames : List Nat := [34, 92, 47, 98, 102, 110, 114, 116]
def escVals : List Nat := [34, 92, 47, 8, 12, 10, 13, 9]
def lowE (B : ByteArray) (u : St) : St := unitE B ⟨u.i, 0, 0⟩
def lowV (B : ByteArray) (u : St) : Nat := unitV B ⟨u.i, 0, 0⟩
def pairE (B : ByteArray) (s : St) : St × Nat :=
  let u := unitE B s
  let n := unitV B s
  if u.k ≠ 0 ∨ halfN n = 0 then (u, n)
  else if halfN n = 1 then
    if (lowE B u).k = 0 ∧ halfN (lowV B u) = 2 then (⟨(lowE B u).i, u.k, u.a⟩, (rwholeN n (lowV B u)).toNat)
    else if (lowE B u).k = 10 then (failE u 10 (lowE B u).a, 0) else (failE u 11 s.i, 0)
  else (failE u 11 s.i, 0)
def escE (B : ByteArray) (s : St) : St × Nat :=
  if s.i + 1 = B.size then (failE (stepE s) 10 ((s.i + 1 : Nat) : Int), 0)
  else if escNames.contains (byteAt B (s.i + 1)) then (stepE (stepE s), escVals[escNames.idxOf (byteAt B (s.i + 1))]?.getD 0)
  else if byteAt B (s.i + 1) ≠ 117 then (failE (stepE s) 11 ((s.i + 1 : Nat) : Int), 0)
  else pairE B s
/-- What a reader without an error has read from a place on. -/
def Tells (a : Int) (s : St) : Sc Nat → Prop
  | .ok e => s = ⟨e, 0, a⟩
  | .no k p => s.k = k ∧ s.a = p ∧ k ≠ 0
theorem must_kept {l : List Nat} {B : ByteArray} {s : St} (h : s.k ≠ 0) : mustE l B s = s := by unfold mustE; rw [if_pos h]
theorem has_kept {l : List Nat} {B : ByteArray} {s : St} (h : s.k ≠ 0) : hasE l B s = false := by simp [hasE, h]
theorem run_kept {p : Nat → Bool} {B : ByteArray} {s : St} (h : s.k ≠ 0) : runE p B s = s := by unfold runE; rw [if_pos h]
theorem has_on (l : List Nat) (B : ByteArray) (i : Nat) (a : Int) : hasE l B ⟨i, 0, a⟩ = onAt l B i := by simp [hasE, onAt]
theorem must_at (l : List Nat) (B : ByteArray) (i : Nat) (a : Int) : mustE l B ⟨i, 0, a⟩ = if i = B.size then ⟨i, 10, i⟩ else if l.contains (byteAt B i) then ⟨i + 1, 0, a⟩ else ⟨i, 11, i⟩ := by
  unfold mustE; rw [if_neg (by simp)]; rfl
theorem fig_fun : figL.contains = isDig := funext fig_dig
theorem some_tells {B : ByteArray} {i : Nat} (a : Int) (hi : i ≤ B.size) : Tells a (someE B ⟨i, 0, a⟩) (digitsS B i) := by
  unfold someE digitsS
  rw [must_at]
  by_cases h1 : i = B.size
  · have hs : skip isDig B i = i := skip_stop (fun h => by omega)
    rw [if_pos h1, run_kept (by simp), hs, if_neg (by omega), if_pos h1]
    exact ⟨rfl, by simp [h1], by decide⟩
  · rw [if_neg h1]
    cases h2 : figL.contains (byteAt B i) with
    | true =>
      have h3 : isDig (byteAt B i) = true := by rw [← fig_dig]; exact h2
      have hs := skip_go (p := isDig) (by omega : i < B.size) h3
      have := skip_ge isDig B (i + 1)
      rw [if_pos rfl, hs, if_pos (by omega), fig_fun]
      unfold runE
      rw [if_neg (by simp)]
      rfl
    | false =>
      have h3 : isDig (byteAt B i) = false := by rw [← fig_dig]; exact h2
      have hs : skip isDig B i = i := skip_stop (fun _ => h3)
      rw [if_neg (by simp), run_kept (by simp), hs, if_neg (by omega), if_neg h1]
      exact ⟨rfl, rfl, by decide⟩
theorem num3_kept {B : ByteArray} {s : St} (h : s.k ≠ 0) : num3E B s = s := by unfold num3E; rw [has_kept h]; rfl
theorem num4_kept {B : ByteArray} {s : St} (h : s.k ≠ 0) : num4E B s = s := by unfold num4E; rw [has_kept h]; rfl
theorem Tells.bind {a : Int} {s : St} {r : Sc Nat} {f : St → St} {g : Nat → Sc Nat} (h : Tells a s r) (hf : ∀ t : St, t.k ≠ 0 → f t = t) (hg : ∀ e, r = .ok e → Tells a (f ⟨e, 0, a⟩) (g e)) : Tells a (f s) (r.bind g) := by
  cases r with
  | ok e => have e1 : s = ⟨e, 0, a⟩ := h; rw [e1]; exact hg e rfl
  | no k p =>
    obtain ⟨h1, h2, h3⟩ := h
    rw [hf s (by rw [h1]; exact h3)]
    exact ⟨h1, h2, h3⟩
theorem opt_at (l : List Nat) (B : ByteArray) (i : Nat) (a : Int) : optE l B ⟨i, 0, a⟩ = ⟨if onAt l B i then i + 1 else i, 0, a⟩ := by
  unfold optE stepE; rw [has_on]; split <;> rfl
theorem num_tells {B : ByteArray} {i : Nat} (a : Int) (hi : i < B.size) : Tells a (numE B ⟨i, 0, a⟩) (numberS B i) := by
  unfold numE numberS
  rw [opt_at]
  have h1 : (if onAt [45] B i then i + 1 else i) ≤ B.size := by split <;> omega
  generalize (if onAt [45] B i then i + 1 else i) = j at *
  have hA : Tells a (num2E B ⟨j, 0, a⟩) (if onAt [48] B j then .ok (j + 1) else digitsS B j) := by
    unfold num2E; rw [has_on]
    split
    · rfl
    · exact some_tells a h1
  have hA2 : ∀ e, (if onAt [48] B j then .ok (j + 1) else digitsS B j) = Sc.ok e → e ≤ B.size := by
    intro e he
    split at he
    · rename_i ho; have := onAt_lt ho; cases he; omega
    · exact (digitsS_ok h1 he).2
  refine Tells.bind (f := fun t => num4E B (num3E B t)) hA (fun t ht => by show num4E B (num3E B t) = t; rw [num3_kept ht, num4_kept ht]) (fun e he => ?_)
  have he' := hA2 e he
  have hC : Tells a (num3E B ⟨e, 0, a⟩) (if onAt [46] B e then digitsS B (e + 1) else .ok e) := by
    unfold num3E; rw [has_on]
    split
    · rename_i ho; have := onAt_lt ho; show Tells a (someE B ⟨e + 1, 0, a⟩) _; exact some_tells a this
    · rfl
  refine Tells.bind (f := num4E B) hC (fun t ht => num4_kept ht) (fun e2 _ => ?_)
  unfold num4E
  rw [has_on]
  split
  · rename_i ho
    have := onAt_lt ho
    show Tells a (someE B (optE [43, 45] B ⟨e2 + 1, 0, a⟩)) _
    rw [opt_at]
    split
    · rename_i ho2; have := onAt_lt ho2; exact some_tells a (by omega)
    · exact some_tells a (by omega)
  · rfl
/-! ### Rows of bytes that must stand -/
def mustsL (B : ByteArray) (ls : List (List Nat)) (s : St) : St := ls.foldl (fun t l => mustE l B t) s
def fitL (B : ByteArray) (i : Nat) (ls : List (List Nat)) (k : Nat) : Bool := decide (i + k < B.size) && (ls[k]?.getD []).contains (byteAt B (i + k))
theorem firstBad_more {B : ByteArray} {i n k : Nat} {p : Int} {fit : Nat → Bool} (h : firstBad B i n fit = .no k p) : firstBad B i (n + 1) fit = .no k p := by
  unfold firstBad at h ⊢
  rw [List.range_succ, List.find?_append]
  split at h
  · rename_i x hx
    rw [hx, Option.some_or]
    exact h
  · cases h
theorem musts_tells {B : ByteArray} {i : Nat} (a : Int) (hi : i ≤ B.size) (ls : List (List Nat)) : ∀ n, n ≤ ls.length → Tells a (mustsL B (ls.take n) ⟨i, 0, a⟩) ((firstBad B i n (fitL B i ls)).bind fun _ => .ok (i + n))
  | 0, _ => by rw [firstBad_ok (fun m h => by omega)]; rfl
  | n + 1, hn => by
    have ih := musts_tells a hi ls n (by omega)
    have hlt : n < ls.length := hn
    have he : mustsL B (ls.take (n + 1)) ⟨i, 0, a⟩ = mustE ls[n] B (mustsL B (ls.take n) ⟨i, 0, a⟩) := by
      unfold mustsL; rw [List.take_succ_eq_append_getElem hlt, List.foldl_append]; rfl
    rw [he]
    cases hb : firstBad B i n (fitL B i ls) with
    | no k p =>
      rw [hb] at ih
      obtain ⟨h1, h2, h3⟩ := ih
      rw [firstBad_more hb, must_kept (by rw [h1]; exact h3)]
      exact ⟨h1, h2, h3⟩
    | ok u =>
      rw [hb] at ih
      have e1 : mustsL B (ls.take n) ⟨i, 0, a⟩ = ⟨i + n, 0, a⟩ := ih
      have hf := firstBad_unit hb
      have hin : i + n ≤ B.size := by
        by_cases h0 : n = 0
        · omega
        · have := hf (n - 1) (by omega)
          simp only [fitL, Bool.and_eq_true, decide_eq_true_eq] at this
          omega
      have hg : ls[n]?.getD [] = ls[n] := by rw [List.getElem?_eq_getElem hlt]; rfl
      rw [e1, must_at]
      by_cases hend : i + n = B.size
      · rw [if_pos hend, firstBad_no (Nat.lt_succ_self n) (by simp [fitL]; omega) (fun m hm => hf m hm), if_pos hend]
        exact ⟨rfl, by simp [hend], by decide⟩
      · rw [if_neg hend]
        cases hc : ls[n].contains (byteAt B (i + n)) with
        | true =>
          rw [if_pos rfl, firstBad_ok (fun m hm => by
            by_cases e : m = n
            · subst e; unfold fitL; rw [hg, hc]; simp; omega
            · exact hf m (by omega))]
          rfl
        | false =>
          rw [if_neg (by simp), firstBad_no (Nat.lt_succ_self n) (by unfold fitL; rw [hg, hc]; simp) (fun m hm => hf m hm), if_neg hend]
          exact ⟨rfl, rfl, by decide⟩
theorem firstBad_congr {B : ByteArray} {i n : Nat} {f g : Nat → Bool} (h : ∀ m, m < n → f m = g m) : firstBad B i n f = firstBad B i n g := by
  unfold firstBad
  have : (List.range n).find? (fun k => !f k) = (List.range n).find? (fun k => !g k) := by
    induction n with
    | zero => rfl
    | succ n ih =>
      rw [List.range_succ, List.find?_append, List.find?_append, ih (fun m hm => h m (by omega)), List.find?_cons, List.find?_cons, h n (by omega)]
      simp only [List.find?_nil]
  rw [this]
theorem word_tells {B : ByteArray} {i : Nat} (a : Int) (hi : i ≤ B.size) (w : List Nat) : Tells a (wordE B w ⟨i, 0, a⟩) (wordS B i w) := by
  have h := musts_tells a hi (w.map fun c => [c]) w.length (by simp)
  rw [List.take_of_length_le (by simp)] at h
  have e1 : mustsL B (w.map fun c => [c]) ⟨i, 0, a⟩ = wordE B w ⟨i, 0, a⟩ := by unfold mustsL wordE; rw [List.foldl_map]
  rw [e1] at h
  unfold wordS
  rw [firstBad_congr (g := fitL B i (w.map fun c => [c])) (fun m hm => by
    unfold fitL
    rw [List.getElem?_map, List.getElem?_eq_getElem hm]
    rw [Bool.eq_iff_iff]; simp)]
  exact h
/-! ### Units, pairs, escapes -/
def unitL : List (List Nat) := [[92], [117], hxL, hxL, hxL, hxL]
theorem hx_hex (c : Nat) : hxL.contains c = isHex c := by
  rw [Bool.eq_iff_iff]
  simp only [hxL, isHex, isDig, List.contains_eq_mem, decide_eq_true_eq, Bool.or_eq_true, Bool.and_eq_true, List.mem_cons, List.not_mem_nil, or_false]
  omega
theorem fit_unit (B : ByteArray) (i m : Nat) (hm : m < 6) : unitFit B i m = fitL B i unitL m := by
  have h : m = 0 ∨ m = 1 ∨ m = 2 ∨ m = 3 ∨ m = 4 ∨ m = 5 := by omega
  rcases h with rfl | rfl | rfl | rfl | rfl | rfl
  · rw [Bool.eq_iff_iff]; simp [unitFit, fitL, unitL]
  · rw [Bool.eq_iff_iff]; simp [unitFit, fitL, unitL]
  all_goals
    unfold unitFit fitL unitL
    rw [if_neg (by decide), if_neg (by decide), ← hx_hex]
    rfl
theorem num4_hex (B : ByteArray) (p : Nat) (_h : p + 4 ≤ B.size) (hx : ∀ k, k < 4 → isHex (byteAt B (p + k)) = true) : numVal 16 (subB B p 4) 4 = hex4 B p := by
  have e0 := hexV_digV (hx 0 (by omega)); have e1 := hexV_digV (hx 1 (by omega)); have e2 := hexV_digV (hx 2 (by omega)); have e3 := hexV_digV (hx 3 (by omega))
  have s0 := subB_at B p 4 0 (by omega); have s1 := subB_at B p 4 1 (by omega); have s2 := subB_at B p 4 2 (by omega); have s3 := subB_at B p 4 3 (by omega)
  rw [Nat.add_zero] at e0 s0
  simp only [numVal, s0, s1, s2, s3, hex4, e0, e1, e2, e3]
  omega
theorem unit_tells {B : ByteArray} {i : Nat} (a : Int) (hi : i ≤ B.size) : Tells a (unitE B ⟨i, 0, a⟩) ((unitS B i).bind fun _ => .ok (i + 6)) ∧ ∀ n, unitS B i = .ok n → unitV B ⟨i, 0, a⟩ = n := by
  have h := musts_tells a hi unitL 6 (by decide)
  have e1 : mustsL B (unitL.take 6) ⟨i, 0, a⟩ = unitE B ⟨i, 0, a⟩ := rfl
  rw [e1, firstBad_congr (g := unitFit B i) (fun m hm => (fit_unit B i m hm).symm)] at h
  have h' : Tells a (unitE B ⟨i, 0, a⟩) ((unitS B i).bind fun _ => .ok (i + 6)) := by
    unfold unitS
    cases hb : firstBad B i 6 (unitFit B i) with
    | ok u => rw [hb] at h; exact h
    | no k p => rw [hb] at h; exact h
  refine ⟨h', fun n hn => ?_⟩
  rw [hn] at h'
  have e2 : unitE B ⟨i, 0, a⟩ = ⟨i + 6, 0, a⟩ := h'
  obtain ⟨hf, e3, hsz⟩ := unitS_ok hn
  unfold unitV
  rw [e2, if_pos rfl, e3]
  refine num4_hex B (i + 2) (by omega) (fun k hk => ?_)
  have := hf (k + 2) (by omega)
  simp only [unitFit, Bool.and_eq_true] at this
  rw [if_neg (by omega), if_neg (by omega)] at this
  rw [Nat.add_assoc, Nat.add_comm 2 k]; exact this.2
/-- What a reader has read with a value. -/
def Tells2 (i : Nat) (a : Int) (x : St × Nat) : Sc (Nat × Nat) → Prop
  | .ok y => x.1 = ⟨i + y.2, 0, a⟩ ∧ x.2 = y.1
  | .no k p => x.1.k = k ∧ x.1.a = p ∧ k ≠ 0
theorem fail_at (i : Nat) (a : Int) (k : Nat) (p : Int) : failE ⟨i, 0, a⟩ k p = ⟨i, k, p⟩ := by unfold failE; rw [if_pos rfl]
theorem half_one {n : Nat} : halfN (n : Int) = 1 ↔ 55296 ≤ n ∧ n < 56320 := by unfold halfN; split <;> (try split) <;> omega
theorem half_two {n : Nat} : halfN (n : Int) = 2 ↔ 56320 ≤ n ∧ n < 57344 := by unfold halfN; split <;> (try split) <;> omega
theorem half_zero {n : Nat} : halfN (n : Int) = 0 ↔ n < 55296 ∨ 57343 < n := by unfold halfN; split <;> (try split) <;> omega
theorem pair_tells {B : ByteArray} {i : Nat} (a : Int) (hi : i ≤ B.size) : Tells2 i a (pairE B ⟨i, 0, a⟩) (pairS B i) := by
  obtain ⟨h1, h2⟩ := unit_tells a hi
  unfold pairE pairS
  cases hu : unitS B i with
  | no k p =>
    rw [hu] at h1
    obtain ⟨g1, g2, g3⟩ := h1
    simp only
    rw [if_pos (Or.inl (by rw [g1]; exact g3))]
    exact ⟨g1, g2, g3⟩
  | ok n =>
    rw [hu] at h1
    have e1 : unitE B ⟨i, 0, a⟩ = ⟨i + 6, 0, a⟩ := h1
    have hsz := (unitS_ok hu).2.2
    simp only [Sc.bind_ok]
    rw [h2 n hu, e1]
    by_cases c0 : n < 55296 ∨ 57343 < n
    · rw [if_pos (Or.inr (half_zero.2 c0)), if_pos c0]
      exact ⟨rfl, rfl⟩
    · rw [if_neg c0, if_neg (by simp [half_zero]; omega)]
      by_cases c1 : n < 56320
      · rw [if_pos c1, if_pos (half_one.2 (by omega))]
        obtain ⟨l1, l2⟩ := unit_tells (B := B) (i := i + 6) 0 hsz
        have el : lowE B ⟨i + 6, 0, a⟩ = unitE B ⟨i + 6, 0, 0⟩ := rfl
        have ev : lowV B ⟨i + 6, 0, a⟩ = unitV B ⟨i + 6, 0, 0⟩ := rfl
        cases hl : unitS B (i + 6) with
        | no k j =>
          rw [hl] at l1
          obtain ⟨g1, g2, g3⟩ := l1
          rw [el, g1, if_neg (by omega)]
          unfold pairLow
          simp only
          by_cases hk : k = 10
          · rw [if_pos hk, if_pos hk, g2, fail_at]
            exact ⟨rfl, rfl, by decide⟩
          · rw [if_neg hk, if_neg hk, fail_at]
            exact ⟨rfl, rfl, by decide⟩
        | ok m =>
          rw [hl] at l1
          have e2 : unitE B ⟨i + 6, 0, 0⟩ = ⟨i + 6 + 6, 0, 0⟩ := l1
          rw [el, e2, ev, l2 m hl]
          unfold pairLow
          simp only
          by_cases hm : 56320 ≤ m ∧ m ≤ 57343
          · rw [if_pos hm, if_pos ⟨trivial, half_two.2 (by omega)⟩]
            refine ⟨rfl, ?_⟩
            have q1 : (halfN (n : Int) == 1) = true := beq_iff_eq.2 (half_one.2 (by omega))
            have q2 : (halfN (m : Int) == 2) = true := beq_iff_eq.2 (half_two.2 (by omega))
            show (rwholeN n m).toNat = _
            unfold rwholeN
            rw [q1, q2, if_pos (by rfl)]
            simp only
            omega
          · rw [if_neg hm, if_neg (by simp [half_two]; omega), if_neg (by decide), fail_at]
            exact ⟨rfl, rfl, by decide⟩
      · rw [if_neg c1, if_neg (by simp [half_one]; omega), fail_at]
        exact ⟨rfl, rfl, by decide⟩
theorem esc_simple : ∀ c : Fin 256, simpleS c.val = if escNames.contains c.val then some (escVals[escNames.idxOf c.val]?.getD 0) else none := by decide +kernel
theorem esc_tells {B : ByteArray} {i : Nat} (a : Int) (hi : i < B.size) : Tells2 i a (escE B ⟨i, 0, a⟩) (escapeS B i) := by
  unfold escE escapeS
  have hc := byteAt_lt B (i + 1)
  by_cases h1 : i + 1 = B.size
  · rw [if_pos h1, if_pos h1]
    have : stepE ⟨i, 0, a⟩ = ⟨i + 1, 0, a⟩ := rfl
    rw [this, fail_at]
    exact ⟨rfl, by simp; omega, by decide⟩
  · rw [if_neg h1, if_neg h1]
    simp only
    have hs := esc_simple ⟨byteAt B (i + 1), hc⟩
    simp only at hs
    by_cases h2 : byteAt B (i + 1) = 117
    · rw [if_pos h2, if_neg (by rw [h2]; decide), if_neg (by rw [h2]; decide)]
      exact pair_tells a (by omega)
    · rw [if_neg h2, hs]
      cases h3 : escNames.contains (byteAt B (i + 1)) with
      | true =>
        rw [if_pos (show true = true from rfl), if_pos (show true = true from rfl)]
        exact ⟨rfl, rfl⟩
      | false =>
        rw [if_neg (show ¬ (false = true) by decide), if_neg (show ¬ (false = true) by decide), if_pos h2]
        have : stepE ⟨i, 0, a⟩ = ⟨i + 1, 0, a⟩ := rfl
        rw [this, fail_at]
        exact ⟨rfl, rfl, by decide⟩
theorem nx_char {B : ByteArray} {i : Nat} (hi : i < B.size) : (charS B i = .no 12 i ∧ (nxN B i).2 = 0) ∨ (charS B i = .ok (nxN B i) ∧ 0 < (nxN B i).2 ∧ i + (nxN B i).2 ≤ B.size) := by
  have h := decodeN_size (B.size - i) (byteAt B i) (byteAt B (i + 1)) (byteAt B (i + 2)) (byteAt B (i + 3)) (by omega)
  unfold charS nxN
  rw [if_neg (by omega)]
  by_cases hd : decU B i = (65533, 1)
  · rw [if_pos hd, if_pos hd]; exact Or.inl ⟨rfl, rfl⟩
  · rw [if_neg hd, if_neg hd]
    refine Or.inr ⟨rfl, ?_⟩
    unfold decU; omega
theorem fail_i (s : St) (k : Nat) (p : Int) : (failE s k p).i = s.i := by unfold failE; split <;> rfl
theorem unit_le {B : ByteArray} {s : St} (h : s.i ≤ B.size) : (unitE B s).i ≤ B.size := by unfold unitE; exact mustsE_le (mustE_le (mustE_le h)) 4
theorem pair_le {B : ByteArray} {s : St} (h : s.i ≤ B.size) : (pairE B s).1.i ≤ B.size := by
  have hu := unit_le h
  have hl : (lowE B (unitE B s)).i ≤ B.size := by unfold lowE; exact unit_le hu
  unfold pairE
  generalize unitE B s = u at *
  generalize unitV B s = n at *
  simp only
  split
  · exact hu
  · split
    · split
      · exact hl
      · split <;> (rw [fail_i]; exact hu)
    · rw [fail_i]; exact hu
theorem esc_le {B : ByteArray} {i : Nat} {a : Int} (hi : i < B.size) : (escE B ⟨i, 0, a⟩).1.i ≤ B.size := by
  have hp := pair_le (B := B) (s := ⟨i, 0, a⟩) (Nat.le_of_lt hi)
  unfold escE
  generalize pairE B ⟨i, 0, a⟩ = x at *
  by_cases h1 : i + 1 = B.size
  · rw [if_pos h1]; simp only; rw [fail_i]; exact hi
  · rw [if_neg h1]
    by_cases h2 : escNames.contains (byteAt B ((⟨i, 0, a⟩ : St).i + 1)) = true
    · rw [if_pos h2]; show i + 1 + 1 ≤ B.size; omega
    · rw [if_neg h2]
      by_cases h3 : byteAt B ((⟨i, 0, a⟩ : St).i + 1) ≠ 117
      · rw [if_pos h3]; simp only; rw [fail_i]; exact hi
      · rw [if_neg h3]; exact hp
end
section
open Go.RowKit
def EsRel (c : Nat) (W : World) (i : Value) (wr : World) : Prop := ∃ j n : Nat, i = .int .i64 j ∧ j ≤ 8 ∧ (∀ m, m < j → escNames[m]? ≠ some c) ∧ wr = W.drewN n
theorem esc_hit : ∀ j : Fin 8, ∀ c : Fin 256, escNames[j.val]? = some c.val → escNames.contains c.val = true ∧ escVals[escNames.idxOf c.val]?.getD 0 = escVals[j.val]?.getD 0 := by decide +kernel
theorem esc_none : ∀ c : Fin 256, (∀ j : Fin 8, escNames[j.val]? ≠ some c.val) → escNames.contains c.val = false := by decide +kernel
set_option maxRecDepth 100000 in
set_option maxHeartbeats 8000000 in
theorem eescaped_any (E : Nat) (v : Value) (B : ByteArray) (i : Nat) (sa : Int) (w : World) (hz : B.size ≤ 1000000) (hs : i < B.size) (h : EyeS w E v ⟨i, 0, sa⟩) (hB : EyeB w E v B) :
    Calls Tryz.prog 142 #[.pointer (some ⟨E, 0, none⟩)] w (UePost E v w (escE B ⟨i, 0, sa⟩).1 (escE B ⟨i, 0, sa⟩).2) := by
  have hst := EyeAt.stepped h
  have hc0 := h.cell; have hf0 := h.frozen
  obtain ⟨W, hW⟩ : ∃ W, w.setCell ⟨E, 1, none⟩ (.int .i64 ((i : Int) + 1)) = W := ⟨_, rfl⟩
  rw [hW] at hst
  have hE1 : EyeS W E v ⟨i + 1, 0, sa⟩ := hst.2.1
  have hO1 : OnlyE E w W := hst.2.2
  have hB1 : EyeB W E v B := hB.only hO1
  have HF := Lib.hid (fun n (k : Nat) (p : Int) => (efail_any E v ⟨i + 1, 0, sa⟩ k p (W.drewN n) hE1).mono fun e w' hp => hp.after (hO1.trans (only_drewN E W n)))
  have HB1 := Lib.hid hB1; have HE1 := Lib.hid hE1; have HO1 := Lib.hid hO1; have HB := Lib.hid hB; have H0 := Lib.hid h
  have hc := hE1.cell; have hf := hE1.frozen
  have q1 : IntKind.i64.wrap ((i : Int) + 1) = (i : Int) + 1 := IntWalk.i64_in _ (by omega)
  obtain ⟨a, c, rfl, _, hac, hx⟩ := hB1.by_inv
  obtain ⟨b, off, rfl, hne, hx⟩ := hx (by omega)
  have HX := Lib.hid hx
  clear hst h hB hE1 hO1 hB1 hx
  by_cases hend : i + 1 = B.size
  · have t1 : ((i : Int) + 1 == (B.size : Int)) = true := beq_iff_eq.2 (by omega)
    have HE : Hid (escE B ⟨i, 0, sa⟩ = (failE ⟨i + 1, 0, sa⟩ 10 ((i + 1 : Nat) : Int), 0)) := Lib.hid (by unfold escE; rw [if_pos hend]; rfl)
    clear hend
    go_enter Tryz.func142, Tryz.ntmps142
    go_wp2
    go_quiet (fail)
    go_wp2_with fail
    rw [show (i : Int) + 1 = ((i + 1 : Nat) : Int) by omega]
    refine (HF.out _ 10 _).mono ?_
    rintro e w1 ⟨rfl, h1, h2⟩
    have H1 := Lib.hid h1; have H2 := Lib.hid h2
    clear h1 h2
    go_wp2
    go_ret
    rw [HE.out]
    exact ⟨rfl, H1.out, H2.out⟩
  · have hlt : i + 1 < B.size := by omega
    have t1 : ((i : Int) + 1 == (B.size : Int)) = false := beq_eq_false_iff_ne.2 (by omega)
    have x1 := HX.out (i + 1) hlt
    have q4 : (i : Int) + 1 < (B.size : Int) := by omega
    have q6 : (0 : Int) ≤ (i : Int) + 1 := by omega
    have q7 : ((i : Int) + 1).toNat = i + 1 := by omega
    have q8 : i + 1 < B.size := hlt
    have hcb : byteAt B (i + 1) < 256 := byteAt_lt B _
    have HE : Hid (escE B ⟨i, 0, sa⟩ = if escNames.contains (byteAt B (i + 1)) then (stepE (stepE ⟨i, 0, sa⟩), escVals[escNames.idxOf (byteAt B (i + 1))]?.getD 0) else if byteAt B (i + 1) ≠ 117 then (failE (stepE ⟨i, 0, sa⟩) 11 ((i + 1 : Nat) : Int), 0) else pairE B ⟨i, 0, sa⟩) := Lib.hid (by unfold escE; rw [if_neg hend])
    obtain ⟨ch, hch⟩ : ∃ ch, byteAt B (i + 1) = ch := ⟨_, rfl⟩
    rw [hch] at x1 HE hcb
    have HCB := Lib.hid hcb
    have q5 : IntKind.i64.wrap ((i : Int) + 1 + 1) = (i : Int) + 1 + 1 := IntWalk.i64_in _ (by omega)
    have HSTP : Hid (∀ n, UePost E (.slice (some ⟨b, off, none⟩) B.size c) w (stepE (stepE ⟨i, 0, sa⟩)) 0 (.returned (.int .i64 0)) ((W.drewN n).setCell ⟨E, 1, none⟩ (.int .i64 ((i : Int) + 1 + 1)))) := Lib.hid (fun n => by
      have := EyeAt.stepped (HE1.out.drewN n)
      have e : ((i + 1 : Nat) : Int) + 1 = (i : Int) + 1 + 1 := by omega
      rw [e] at this
      exact ⟨rfl, this.2.1, (HO1.out.trans (only_drewN E W n)).trans this.2.2⟩)
    obtain ⟨S1, hS1⟩ : ∃ S : ByteArray, (⟨#[34, 92, 47, 98, 102, 110, 114, 116]⟩ : ByteArray) = S := ⟨_, rfl⟩
    obtain ⟨S2, hS2⟩ : ∃ S : ByteArray, (⟨#[34, 92, 47, 8, 12, 10, 13, 9]⟩ : ByteArray) = S := ⟨_, rfl⟩
    have hz1 : S1.size = 8 := by rw [← hS1]; rfl
    have hz2 : S2.size = 8 := by rw [← hS2]; rfl
    have HN1 : Hid (∀ j (h : j < S1.size), escNames[j]? = some (S1[j]'h).toNat) := Lib.hid (by
      subst hS1
      intro j h
      have h' : j < 8 := h
      revert h
      have hj : j = 0 ∨ j = 1 ∨ j = 2 ∨ j = 3 ∨ j = 4 ∨ j = 5 ∨ j = 6 ∨ j = 7 := by omega
      rcases hj with rfl | rfl | rfl | rfl | rfl | rfl | rfl | rfl <;> exact fun _ => rfl)
    have HN2 : Hid (∀ j (h : j < S2.size), escVals[j]?.getD 0 = (S2[j]'h).toNat) := Lib.hid (by
      subst hS2
      intro j h
      have h' : j < 8 := h
      revert h
      have hj : j = 0 ∨ j = 1 ∨ j = 2 ∨ j = 3 ∨ j = 4 ∨ j = 5 ∨ j = 6 ∨ j = 7 := by omega
      rcases hj with rfl | rfl | rfl | rfl | rfl | rfl | rfl | rfl <;> exact fun _ => rfl)
    have HZ1 := Lib.hid hz1; have HZ2 := Lib.hid hz2
    clear hend hlt hch hcb hz1 hz2
    go_enter Tryz.func142, Tryz.ntmps142
    rw [hS1, hS2]
    clear hS1 hS2
    go_wp2
    go_quiet (fail)
    go_wp2_with fail
    go_loopw [6] (EsRel ch W) (fun k _ => 8 - (intOf k).toNat)
    case atStart => exact ⟨0, _, rfl, by decide, fun m h => by omega, rfl⟩
    case round =>
      obtain ⟨j, nq, rfl, hj, hn, rfl⟩ := hrel
      have HNN := Lib.hid hn
      clear hn
      by_cases hlt : j < 8
      · have t2 : decide ((j : Int) < 8) = true := decide_eq_true (by omega)
        have t2' : decide (j < 8) = true := decide_eq_true hlt
        have hj1 : j < S1.size := by rw [HZ1.out]; exact hlt
        have hj2 : j < S2.size := by rw [HZ2.out]; exact hlt
        have hb := HN1.out j hj1
        by_cases he : ch = (S1[j]'hj1).toNat
        · have t3 : ((ch : Int) == ((S1[j]'hj1).toNat : Int)) = true := beq_iff_eq.2 (by omega)
          have t3' : (ch == (S1[j]'hj1).toNat) = true := beq_iff_eq.2 he
          have HEH : Hid (escE B ⟨i, 0, sa⟩ = (stepE (stepE ⟨i, 0, sa⟩), (S2[j]'hj2).toNat)) := Lib.hid (by
            have := esc_hit ⟨j, hlt⟩ ⟨ch, HCB.out⟩ (by show escNames[j]? = some ch; rw [hb, he])
            rw [HE.out, if_pos this.1, this.2]
            show _ = _
            rw [← HN2.out j hj2])
          have hbd : (S2[j]'hj2).toNat < 256 := UInt8.toNat_lt _
          clear hb he
          go_wp2
          go_quiet (fail)
          go_wp2
          go_ret
          rw [HEH.out]
          exact ⟨rfl, (HSTP.out _).2.1, (HSTP.out _).2.2⟩
        · have t3 : ((ch : Int) == ((S1[j]'hj1).toNat : Int)) = false := beq_eq_false_iff_ne.2 (by omega)
          have t3' : (ch == (S1[j]'hj1).toNat) = false := beq_eq_false_iff_ne.2 he
          have R : ∀ n, EsRel ch W (.int .i64 (j + 1)) (W.drewN n) := fun n => ⟨j + 1, n, by go_num, by omega, fun m hm => by
            by_cases e : m = j
            · subst e; rw [hb]; intro h; exact he (Option.some.inj h).symm
            · exact HNN.out m (by omega), rfl⟩
          have HR := Lib.hid R
          clear hb he R
          go_wp2
          go_quiet (fail)
          go_wp2
          refine ⟨?_, by simp [intOf] <;> omega⟩
          have R := HR.out
          first | exact R _ | ((repeat apply Exists.intro); exact ⟨R _, rfl⟩)
      · have hcn : escNames.contains ch = false := esc_none ⟨ch, HCB.out⟩ (fun m => HNN.out m.val (by omega))
        have t2 : decide ((j : Int) < 8) = false := decide_eq_false (by omega)
        have t2' : decide (j < 8) = false := decide_eq_false hlt
        by_cases hu : ch = 117
        · have t4 : ((ch : Int) != 117) = false := by rw [hu]; rfl
          have t4' : (ch != 117) = false := by rw [hu]; rfl
          have HEH : Hid (escE B ⟨i, 0, sa⟩ = pairE B ⟨i, 0, sa⟩) := Lib.hid (by rw [HE.out, hcn, if_neg (by decide), if_neg (by rw [hu]; decide)])
          have HMV := Lib.hid (fun n => (HE1.out.drewN n).move i)
          have HOV : Hid (∀ n, OnlyE E w ((W.drewN n).setCell ⟨E, 1, none⟩ (.int .i64 i))) := Lib.hid (fun n => (HO1.out.trans (only_drewN E W n)).set (p := ⟨E, 1, none⟩) (fun _ => rfl) _)
          have HUN := Lib.hid (fun n => eunit_any E (.slice (some ⟨b, off, none⟩) B.size c) B ⟨i, 0, sa⟩ ((W.drewN n).setCell ⟨E, 1, none⟩ (.int .i64 i)) hz (by show i ≤ B.size; omega) (HMV.out n) (HB.out.only (HOV.out n)))
          clear hcn hu hlt
          go_wp2
          go_quiet (fail)
          go_wp2_with fail
          refine (HUN.out _).mono ?_
          rintro e w1 ⟨rfl, h1, h2⟩
          have HOU := Lib.hid ((HOV.out _).trans h2); have H1 := Lib.hid h1
          have hcu := h1.cell; have hfu := h1.frozen
          clear h1 h2 hc hf hc0 hf0 x1
          have HP1 : Hid ((unitE B ⟨i, 0, sa⟩).k ≠ 0 ∨ halfN (unitV B ⟨i, 0, sa⟩) = 0 → pairE B ⟨i, 0, sa⟩ = (unitE B ⟨i, 0, sa⟩, unitV B ⟨i, 0, sa⟩)) := Lib.hid (fun h => by unfold pairE; rw [if_pos h])
          have HP2 : Hid ((unitE B ⟨i, 0, sa⟩).k = 0 → halfN (unitV B ⟨i, 0, sa⟩) ≠ 0 → halfN (unitV B ⟨i, 0, sa⟩) ≠ 1 → pairE B ⟨i, 0, sa⟩ = (failE (unitE B ⟨i, 0, sa⟩) 11 (i : Int), 0)) := Lib.hid (fun h1 h2 h3 => by unfold pairE; rw [if_neg (by simp [h1, h2]), if_neg h3])
          have HP3 : Hid ((unitE B ⟨i, 0, sa⟩).k = 0 → halfN (unitV B ⟨i, 0, sa⟩) = 1 → pairE B ⟨i, 0, sa⟩ = if (lowE B (unitE B ⟨i, 0, sa⟩)).k = 0 ∧ halfN (lowV B (unitE B ⟨i, 0, sa⟩)) = 2 then (⟨(lowE B (unitE B ⟨i, 0, sa⟩)).i, (unitE B ⟨i, 0, sa⟩).k, (unitE B ⟨i, 0, sa⟩).a⟩, (rwholeN (unitV B ⟨i, 0, sa⟩) (lowV B (unitE B ⟨i, 0, sa⟩))).toNat) else if (lowE B (unitE B ⟨i, 0, sa⟩)).k = 10 then (failE (unitE B ⟨i, 0, sa⟩) 10 (lowE B (unitE B ⟨i, 0, sa⟩)).a, 0) else (failE (unitE B ⟨i, 0, sa⟩) 11 (i : Int), 0)) := Lib.hid (fun h1 h2 => by unfold pairE; rw [if_neg (by rw [h1, h2]; decide), if_pos h2])
          have HUI : Hid ((unitE B ⟨i, 0, sa⟩).i ≤ B.size) := Lib.hid (unit_le (by show i ≤ B.size; omega))
          generalize unitE B ⟨i, 0, sa⟩ = u at *
          generalize unitV B ⟨i, 0, sa⟩ = n at *
          have HHF := Lib.hid (fun W => rhalf_any (n : Int) W)
          by_cases hk : u.k = 0
          · cases hh : (halfN (n : Int) == 0) with
            | true =>
              have HP := Lib.hid (HP1.out (.inr (beq_iff_eq.1 hh)))
              rw [hk] at hcu
              clear hk
              go_wp2_with fail
              refine (HHF.out _).mono ?_
              rintro e w2 ⟨rfl, rfl⟩
              go_wp2
              go_ret
              rw [HEH.out, HP.out]
              exact ⟨rfl, H1.out, HOU.out⟩
            | false =>
              have h0' : halfN (n : Int) ≠ 0 := by simpa using hh
              have HFU := Lib.hid (efail_any E (.slice (some ⟨b, off, none⟩) B.size c) u 11 (i : Int) w1 H1.out)
              rw [hk] at hcu
              cases hq : (halfN (n : Int) == 1) with
              | true =>
                have HP := Lib.hid (HP3.out hk (by simpa using hq))
                have HLS : Hid (EyeS (w1.alloc (.cells #[.slice (some ⟨b, off, none⟩) B.size c, .int .i64 u.i, .int .i64 0, .int .i64 0] 189)).drew w1.heap.size (.slice (some ⟨b, off, none⟩) B.size c) ⟨u.i, 0, 0⟩) := Lib.hid (by show (w1.heap.push _)[w1.heap.size]? = _; simp)
                have HLB : Hid (EyeB (w1.alloc (.cells #[.slice (some ⟨b, off, none⟩) B.size c, .int .i64 u.i, .int .i64 0, .int .i64 0] 189)).drew w1.heap.size (.slice (some ⟨b, off, none⟩) B.size c) B) := Lib.hid (by
                  have hzz := HOU.out.size
                  refine Rd.mono HB.out (fun k hk => ?_) (fun k hk => ⟨by have := hk.2; omega, by have := hk.2; simp; omega⟩)
                  have h1 : (w1.alloc (.cells #[.slice (some ⟨b, off, none⟩) B.size c, .int .i64 u.i, .int .i64 0, .int .i64 0] 189)).drew.heap[k]? = w1.heap[k]? := Below.heap_alloc w1 _ k (by have := hk.2; omega)
                  rw [h1]; exact HOU.out.block k hk.2 hk.1)
                have HLC : Hid (Calls Tryz.prog 172 #[.pointer (some ⟨w1.heap.size, 0, none⟩)] (w1.alloc (.cells #[.slice (some ⟨b, off, none⟩) B.size c, .int .i64 u.i, .int .i64 0, .int .i64 0] 189)).drew (UePost w1.heap.size (.slice (some ⟨b, off, none⟩) B.size c) (w1.alloc (.cells #[.slice (some ⟨b, off, none⟩) B.size c, .int .i64 u.i, .int .i64 0, .int .i64 0] 189)).drew (lowE B u) (lowV B u))) := Lib.hid (eunit_any w1.heap.size (.slice (some ⟨b, off, none⟩) B.size c) B ⟨u.i, 0, 0⟩ _ hz HUI.out HLS.out HLB.out)
                generalize lowE B u = l at *
                generalize lowV B u = m at *
                have HWC := Lib.hid (fun W => rwhole_any (n : Int) (m : Int) W)
                rw [hq] at HWC
                have HWP : Hid (halfN (m : Int) = 2 → ∃ x : Nat, rwholeN (n : Int) (m : Int) = (x : Int) ∧ (rwholeN (n : Int) (m : Int)).toNat = x) := Lib.hid (fun hm => by
                  have h1 := half_one.1 (by simpa using hq)
                  have h2 := half_two.1 hm
                  unfold rwholeN
                  split
                  · exact ⟨65536 + 1024 * (n - 55296) + (m - 56320), by omega, by omega⟩
                  · exact ⟨0, rfl, rfl⟩)
                have HKE : Hid (∀ w3, OnlyE w1.heap.size (w1.alloc (.cells #[.slice (some ⟨b, off, none⟩) B.size c, .int .i64 u.i, .int .i64 0, .int .i64 0] 189)).drew w3 → EyeS w3 E (.slice (some ⟨b, off, none⟩) B.size c) u ∧ OnlyE E w w3) := Lib.hid (fun w3 h3 => by
                  have hzz := HOU.out.size
                  have hlt := H1.out.lt
                  have hk3 : ∀ k, k < w1.heap.size → w3.heap[k]? = w1.heap[k]? := fun k hk => (h3.block k (by simp; omega) (by omega)).trans (Below.heap_alloc w1 _ k hk)
                  refine ⟨EyeAt.ext H1.out (hk3 E hlt), HOU.out.trans (Only.of ⟨h3.os, h3.tape, h3.output, ?_, hk3⟩)⟩
                  have := h3.size; simp at this; omega)
                clear h0'
                go_wp2_with fail
                refine (HHF.out _).mono ?_
                rintro e w2 ⟨rfl, rfl⟩
                go_wp2_with fail
                refine (HHF.out _).mono ?_
                rintro e w2 ⟨rfl, rfl⟩
                go_wp2_with fail
                go_region_held3 (fun W' => (∀ o, W'.cell? ⟨E, o, none⟩ = w1.cell? ⟨E, o, none⟩)) (first | assumption | exact fun o => (bcell1 (ext_alloc (Below.refl _ w1) (.cells #[.slice (some ⟨b, off, none⟩) B.size c, .int .i64 u.i, .int .i64 0, .int .i64 0] 189)) H1.out.lt o) | (intro o; rfl)) (fail)
                rename_i hHeld
                clear hHeld
                go_wp2_with fail
                refine HLC.out.mono ?_
                rintro e w3 ⟨rfl, g1, g2⟩
                have HLE : Hid (EyeS w3 w1.heap.size (.slice (some ⟨b, off, none⟩) B.size c) l) := Lib.hid g1
                have hk3 := HKE.out w3 g2
                have HE3 := Lib.hid hk3.1; have HO3 := Lib.hid hk3.2
                have hcl := HLE.out.cell; have hfl := HLE.out.frozen
                have hcE := HE3.out.cell; have hfE := HE3.out.frozen
                clear g1 g2 hk3 HLC HLS HLB HKE hcu hfu
                have HFL : Hid (∀ (s : St) (k : Nat) (p : Int) W, EyeS W E (.slice (some ⟨b, off, none⟩) B.size c) s → OnlyE E w W → Calls Tryz.prog 112 #[.pointer (some ⟨E, 0, none⟩), .int .i64 k, .int .i64 p] W (EyPost E (.slice (some ⟨b, off, none⟩) B.size c) w (failE s k p))) := Lib.hid (fun s k p W hS hO => (efail_any E _ s k p W hS).mono fun e w' hp => hp.after hO)
                by_cases hlk : l.k = 0
                · have t8 : ((l.k : Int) == 0) = true := beq_iff_eq.2 (by omega)
                  have t8' : ((l.k : Int) == 10) = false := beq_eq_false_iff_ne.2 (by omega)
                  cases hm : (halfN (m : Int) == 2) with
                  | true =>
                    have hm' : halfN (m : Int) = 2 := by simpa using hm
                    rw [hm] at HWC
                    obtain ⟨x, hx1, hx2⟩ := HWP.out hm'
                    rw [hx1] at HWC
                    have HPA : Hid (pairE B ⟨i, 0, sa⟩ = (⟨l.i, u.k, u.a⟩, x)) := Lib.hid (by rw [HP.out, if_pos ⟨hlk, hm'⟩, hx2])
                    have HMV3 := Lib.hid (HE3.out.move l.i)
                    have HOV3 : Hid (OnlyE E w (w3.setCell ⟨E, 1, none⟩ (.int .i64 l.i))) := Lib.hid (HO3.out.set (p := ⟨E, 1, none⟩) (fun _ => rfl) _)
                    clear hlk hx1 hx2 hm' hm hk
                    go_wp2_with fail
                    refine (HWC.out _).mono ?_
                    rintro e w4 ⟨rfl, rfl⟩
                    go_wp2_with fail
                    go_ret
                    rw [HEH.out, HPA.out]
                    exact ⟨rfl, HMV3.out, HOV3.out⟩
                  | false =>
                    have hm' : ¬ halfN (m : Int) = 2 := by simpa using hm
                    rw [hm] at HWC
                    have HPA : Hid (pairE B ⟨i, 0, sa⟩ = (failE u 11 (i : Int), 0)) := Lib.hid (by rw [HP.out, if_neg (by simp [hm']), if_neg (by omega)])
                    clear hlk hm' hm hk
                    go_wp2_with fail
                    refine (HWC.out _).mono ?_
                    rintro e w4 ⟨rfl, rfl⟩
                    go_wp2_with fail
                    refine (HFL.out _ 11 _ _ HE3.out HO3.out).mono ?_
                    rintro e w5 ⟨rfl, k1, k2⟩
                    have K1 := Lib.hid k1; have K2 := Lib.hid k2
                    clear k1 k2
                    go_wp2
                    go_ret
                    rw [HEH.out, HPA.out]
                    exact ⟨rfl, K1.out, K2.out⟩
                · have t8 : ((l.k : Int) == 0) = false := beq_eq_false_iff_ne.2 (by omega)
                  by_cases hl10 : l.k = 10
                  · have t9 : ((l.k : Int) == 10) = true := beq_iff_eq.2 (by omega)
                    have HPA : Hid (pairE B ⟨i, 0, sa⟩ = (failE u 10 l.a, 0)) := Lib.hid (by rw [HP.out, if_neg (by simp [hlk]), if_pos hl10])
                    clear hlk hl10 
                    go_wp2_with fail
                    refine (HWC.out _).mono ?_
                    rintro e w4 ⟨rfl, rfl⟩
                    go_wp2_with fail
                    have HF2 : Hid (failE (failE u 10 l.a) 11 (i : Int) = failE u 10 l.a) := Lib.hid (by unfold failE; rw [hk, if_pos rfl, if_neg (by simp)])
                    clear hk
                    refine (HFL.out _ 10 _ _ HE3.out HO3.out).mono ?_
                    rintro e w5 ⟨rfl, k1, k2⟩
                    have K1 := Lib.hid k1; have K2 := Lib.hid k2
                    clear k1 k2
                    go_wp2_with fail
                    refine (HFL.out _ 11 _ _ K1.out K2.out).mono ?_
                    rintro e w6 ⟨rfl, k1, k2⟩
                    have J1 := Lib.hid k1; have J2 := Lib.hid k2
                    clear k1 k2
                    go_wp2
                    go_ret
                    rw [HF2.out] at J1
                    rw [HEH.out, HPA.out]
                    exact ⟨rfl, J1.out, J2.out⟩
                  · have t9 : ((l.k : Int) == 10) = false := beq_eq_false_iff_ne.2 (by omega)
                    have HPA : Hid (pairE B ⟨i, 0, sa⟩ = (failE u 11 (i : Int), 0)) := Lib.hid (by rw [HP.out, if_neg (by simp [hlk]), if_neg hl10])
                    clear hlk hl10 hk
                    go_wp2_with fail
                    refine (HWC.out _).mono ?_
                    rintro e w4 ⟨rfl, rfl⟩
                    go_wp2_with fail
                    refine (HFL.out _ 11 _ _ HE3.out HO3.out).mono ?_
                    rintro e w5 ⟨rfl, k1, k2⟩
                    have K1 := Lib.hid k1; have K2 := Lib.hid k2
                    clear k1 k2
                    go_wp2
                    go_ret
                    rw [HEH.out, HPA.out]
                    exact ⟨rfl, K1.out, K2.out⟩
              | false =>
                have HP := Lib.hid (HP2.out hk h0' (by simpa using hq))
                clear hk h0'
                go_wp2_with fail
                refine (HHF.out _).mono ?_
                rintro e w2 ⟨rfl, rfl⟩
                go_wp2_with fail
                refine (HHF.out _).mono ?_
                rintro e w2 ⟨rfl, rfl⟩
                go_wp2_with fail
                refine HFU.out.mono ?_
                rintro e w3 ⟨rfl, g1, g2⟩
                have G1 := Lib.hid g1; have G2 := Lib.hid (HOU.out.trans g2)
                clear g1 g2
                go_wp2
                go_ret
                rw [HEH.out, HP.out]
                exact ⟨rfl, G1.out, G2.out⟩
          · have t5 : ((u.k : Int) != 0) = true := bne_iff_ne.2 (by omega)
            have HP := Lib.hid (HP1.out (.inl hk))
            clear hk
            go_wp2
            go_ret
            rw [HEH.out, HP.out]
            exact ⟨rfl, H1.out, HOU.out⟩
        · have t4 : ((ch : Int) != 117) = true := bne_iff_ne.2 (by omega)
          have t4' : (ch != 117) = true := bne_iff_ne.2 hu
          have HEH : Hid (escE B ⟨i, 0, sa⟩ = (failE ⟨i + 1, 0, sa⟩ 11 ((i + 1 : Nat) : Int), 0)) := Lib.hid (by rw [HE.out, hcn, if_neg (by decide), if_pos hu]; rfl)
          clear hcn hu hlt
          go_wp2
          go_quiet (fail)
          go_wp2_with fail
          rw [show (i : Int) + 1 = ((i + 1 : Nat) : Int) by omega]
          refine (HF.out _ 11 _).mono ?_
          rintro e w1 ⟨rfl, h1, h2⟩
          have H1 := Lib.hid h1; have H2 := Lib.hid h2
          clear h1 h2
          go_wp2
          go_ret
          rw [HEH.out]
          exact ⟨rfl, H1.out, H2.out⟩
end
end Go.Proofs.YtheoaijheijojaaGreatDoor
