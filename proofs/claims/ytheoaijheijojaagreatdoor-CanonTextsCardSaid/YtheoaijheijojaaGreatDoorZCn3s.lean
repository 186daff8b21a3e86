/- Cn3, Cn4, Cn5, Cn6, Cn7 in one text (a claim holds at most 60 files). -/
import Derived.Test.YtheoaijheijojaaGreatDoorZCn0s
import Derived.Test.YtheoaijheijojaaGreatDoorZFold0s
import Derived.Lib.SplitLaws
import Derived.Lib.CountLaws
import Derived.Lib.IndexLaws
import Derived.Lib.IndexBytes
import Derived.Test.YtheoaijheijojaaGreatDoorZQuo0s
import Derived.Test.YtheoaijheijojaaGreatDoorZScan0s
import Derived.Test.YtheoaijheijojaaGreatDoorZJrP0s
namespace Go.Proofs.YtheoaijheijojaaGreatDoor
section
open Go.RowKit
theorem ext_list (s : ByteArray) (i j : Nat) : (s.extract i j).data.toList = (s.data.toList.drop i).take (j - i) := by
  rw [ByteArray.data_extract, Array.toList_extract]
theorem ext_tail (s : ByteArray) (i : Nat) : (s.extract i s.size).data.toList = s.data.toList.drop i := by
  rw [ext_list]
  refine List.take_of_length_le ?_
  rw [List.length_drop, Array.length_toList]
  exact Nat.le_refl _
/-- The parts between slashes. -/
def segL : List UInt8 → List (List UInt8)
  | [] => [[]]
  | c :: l => if c = 47 then [] :: segL l else match segL l with
    | h :: t => (c :: h) :: t
    | [] => [[c]]
theorem segL_none : ∀ {l : List UInt8}, (∀ c ∈ l, c ≠ 47) → segL l = [l]
  | [], _ => rfl
  | c :: l, h => by
    rw [segL, if_neg (h c (by simp)), segL_none (fun d hd => h d (by simp [hd]))]
theorem segL_hit : ∀ {a l : List UInt8}, (∀ c ∈ a, c ≠ 47) → segL (a ++ 47 :: l) = a :: segL l
  | [], l, _ => by simp [segL]
  | c :: a, l, h => by
    rw [List.cons_append, segL, if_neg (h c (by simp)), segL_hit (fun d hd => h d (by simp [hd]))]
def segsB (s : ByteArray) : List ByteArray := (segL s.data.toList).map fun l => ⟨l.toArray⟩
theorem indexByte_miss : ∀ {l : List UInt8} {c : UInt8}, Lib.indexByte l c = -1 → ∀ x ∈ l, x ≠ c := by
  intro l c h x hx e
  subst e
  obtain ⟨k, hk, he⟩ := List.mem_iff_getElem.1 hx
  exact Lib.indexByte_none h k (by rw [List.getElem?_eq_getElem hk, he])
theorem indexByte_first : ∀ {l : List UInt8} {c : UInt8} {i : Nat}, Lib.indexByte l c = i → (∀ x ∈ l.take i, x ≠ c) ∧ l[i]? = some c
  | [], c, i, h => by simp [Lib.indexByte] at h
  | x :: l, c, i, h => by
    rw [Lib.indexByte] at h
    by_cases hx : x = c
    · have : i = 0 := by simp [hx] at h; omega
      subst this
      exact ⟨by simp, by simp [hx]⟩
    · have hx2 : (x == c) = false := by simpa using hx
      simp only [hx2, Bool.false_eq_true, if_false] at h
      split at h
      · omega
      · obtain ⟨j, rfl⟩ : ∃ j, i = j + 1 := by
          refine ⟨i - 1, ?_⟩
          have : i ≠ 0 := fun e => by
            subst e
            have hn : Lib.indexByte l c = -1 := by omega
            rename_i hne
            exact hne (by simp [hn])
          omega
        obtain ⟨h1, h2⟩ := indexByte_first (l := l) (c := c) (i := j) (by omega)
        refine ⟨fun y hy => ?_, by simpa using h2⟩
        rw [List.take_succ_cons] at hy
        rcases List.mem_cons.1 hy with rfl | hy
        · exact hx
        · exact h1 y hy
theorem segs_eq : ∀ (n : Nat) (s : ByteArray), s.size = n → Lib.splitB ⟨#[47]⟩ 0 (Lib.countB s ⟨#[47]⟩) s = segsB s := by
  intro n
  induction n using Nat.strongRecOn with
  | ind n ih =>
    intro s hn
    have hidx : Lib.indexB s ⟨#[47]⟩ = Lib.indexByte s.data.toList 47 := Lib.index_one _ _
    rcases Lib.indexB_cases s ⟨#[47]⟩ with h | ⟨i, h, hi⟩
    · rw [Lib.splitB_miss _ _ _ _ h]
      rw [hidx] at h
      unfold segsB
      rw [segL_none (indexByte_miss h)]
      cases s; rfl
    · have hi : i + 1 ≤ s.size := hi
      rw [Lib.countB_hit s ⟨#[47]⟩ i (by decide) h, Nat.add_comm, Lib.splitB_hit _ _ _ _ i h]
      have hrec := ih (s.extract (i + 1) s.size).size (by rw [ByteArray.size_extract]; omega) _ rfl
      show s.extract 0 i :: Lib.splitB ⟨#[47]⟩ 0 (Lib.countB (s.extract (i + 1) s.size) ⟨#[47]⟩) (s.extract (i + 1) s.size) = _
      rw [hrec]
      rw [hidx] at h
      obtain ⟨h1, h2⟩ := indexByte_first h
      obtain ⟨hl, he⟩ := List.getElem?_eq_some_iff.1 h2
      have e0 : s.data.toList = s.data.toList.take i ++ 47 :: s.data.toList.drop (i + 1) := by
        rw [← he, ← List.drop_eq_getElem_cons hl, List.take_append_drop]
      unfold segsB
      have e5 : s.extract 0 i = ⟨(s.data.toList.take i).toArray⟩ := by
        apply bytes_ext
        rw [Lib.extract_from_zero]
      rw [e5]
      rw [show segL s.data.toList = s.data.toList.take i :: segL (s.data.toList.drop (i + 1)) from by
        conv => lhs; rw [e0]
        rw [segL_hit h1]]
      rw [List.map_cons]
      congr 1
      · rw [ext_tail]
/-- One step. -/
def stepS (js : List JN) (ups : List Nat) (id : Int) (s : ByteArray) : Int × Int :=
  if 0 ≤ id ∧ id < js.length then
    (if (textA js id.toNat).kind = 6 then (if anyK js (kids ups id.toNat) s = true then (lastK js (kids ups id.toNat) s, 0) else (0, 30))
    else if (textA js id.toNat).kind = 5 then (match numberF 10 1000000 s with
      | .ok n => if h : n < (kids ups id.toNat).length then (((kids ups id.toNat)[n] : Nat), 0) else (0, 30)
      | .no _ _ => (0, 11)) else (0, 32))
  else (0, 30)
def pathL (js : List JN) (ups : List Nat) : List ByteArray → Int → Int → Int × Int × Int
  | [], _, id => (id, 0, 0)
  | s :: r, at_, id => if (stepS js ups id s).2 = 0 then pathL js ups r (at_ + s.size + 1) (stepS js ups id s).1 else (0, (stepS js ups id s).2, at_)
def pathS (js : List JN) (ups : List Nat) (id : Int) (P : ByteArray) : Int × Int × Int :=
  if P.size = 0 then (if 0 ≤ id ∧ id < js.length then (id, 0, 0) else (0, 30, 0))
  else if byteAt P 0 = 47 then pathL js ups (segsB (P.extract 1 P.size)) 0 id else (0, 11, 0)
end
section
open Go.RowKit
theorem kvLe_iff (a b : KV) : kvLe a b = true ↔ keyLt b.1 a.1 = false := by unfold kvLe; simp
theorem kv_sorted (l : List KV) : (l.mergeSort kvLe).Pairwise fun a b => kvLe a b = true :=
  List.pairwise_mergeSort (fun a b c h1 h2 => by rw [kvLe_iff] at *; exact keyLt_ntrans h2 h1) (fun a b => by
    cases h1 : kvLe a b with
    | true => rfl
    | false =>
      have : keyLt b.1 a.1 = true := by unfold kvLe at h1; simpa using h1
      have h2 := keyLt_asymm this
      simp [kvLe, h2]) l
/-- Rows of members of distinct keys have one order. -/
theorem kv_unique {l s : List KV} (hp : s.Perm l) (hs : s.Pairwise fun a b => kvLe a b = true) (hi : ∀ a ∈ l, ∀ b ∈ l, a.1 = b.1 → a = b) : s = l.mergeSort kvLe :=
  List.Perm.eq_of_pairwise (le := fun a b => kvLe a b = true) (fun a b ha hb h1 h2 => by
    rw [kvLe_iff] at h1 h2
    exact hi a (hp.mem_iff.1 ha) b (List.mem_mergeSort.1 hb) (keyLt_total h2 h1)) hs (kv_sorted l) (hp.trans (List.mergeSort_perm l kvLe).symm)
theorem objB_of {l s : List KV} (hp : s.Perm l) (hs : s.Pairwise fun a b => kvLe a b = true) (hi : ∀ a ∈ l, ∀ b ∈ l, a.1 = b.1 → a = b) : objB l = ⟨#[123]⟩ ++ J (s.map partB) ++ ⟨#[125]⟩ := by
  rw [kv_unique hp hs hi]; rfl
def s8B : ByteArray := ⟨#[123, 34, 98, 34, 58, 91, 49, 44, 32, 50, 93, 44, 34, 97, 34, 58, 34, 120, 34, 125]⟩
def s8S : PS := ⟨[⟨6, ⟨#[]⟩, ⟨#[]⟩, 0⟩, ⟨5, ⟨#[98]⟩, ⟨#[]⟩, 5⟩, ⟨3, ⟨#[]⟩, ⟨#[49]⟩, 6⟩, ⟨3, ⟨#[]⟩, ⟨#[50]⟩, 9⟩, ⟨4, ⟨#[97]⟩, ⟨#[120]⟩, 16⟩], [0, 0, 1, 1, 0], [⟨-1, false, 5, ⟨#[]⟩⟩]⟩
def s8F : ByteArray := ⟨#[123, 34, 97, 34, 58, 34, 120, 34, 44, 34, 98, 34, 58, 91, 49, 44, 50, 93, 125]⟩
def s8P : ByteArray := ⟨#[47, 98, 47, 49]⟩
theorem s8_parse : parseS s8B ⟨1048576, 64, 5000⟩ = .ok s8S := by kernel_rfl
theorem s8_kids : kids s8S.ups 0 = [1, 4] := by decide
theorem s8_kids1 : kids s8S.ups 1 = [2, 3] := by decide
theorem s8_members : membersS s8S.js [1, 4] = [1, 4] := by decide
theorem s8_in : formF s8S.js s8S.ups 4 1 = ⟨#[91, 49, 44, 50, 93]⟩ := by
  rw [formF, s8_kids1]
  kernel_rfl
theorem s8_form : formF s8S.js s8S.ups 5 0 = s8F := by
  rw [formF, s8_kids, s8_members]
  rw [if_neg (by decide), if_neg (by decide), if_neg (by decide), if_neg (by decide), if_neg (by decide), if_pos (by decide)]
  rw [List.map_cons, List.map_cons, List.map_nil, s8_in]
  rw [objB_of (s := [(keyA s8S.js 4, formF s8S.js s8S.ups 4 4), (keyA s8S.js 1, ⟨#[91, 49, 44, 50, 93]⟩)]) (List.Perm.swap _ _ _) ?_ ?_]
  · kernel_rfl
  · rw [List.pairwise_cons]
    refine ⟨fun b hb => ?_, List.pairwise_singleton _ _⟩
    rw [List.mem_singleton.1 hb]; kernel_rfl
  · intro a ha b hb h
    have hne : keyA s8S.js 1 ≠ keyA s8S.js 4 := by decide
    simp only [List.mem_cons, List.not_mem_nil, or_false] at ha hb
    rcases ha with rfl | rfl <;> rcases hb with rfl | rfl
    · rfl
    · exact absurd h hne
    · exact absurd h.symm hne
    · rfl
theorem s8_path : pathS s8S.js s8S.ups 0 s8P = (3, 0, 0) := by kernel_rfl
end
section
open Go.RowKit
/-- The bytes of B from i to e stand in Q, from p + i on. -/
def At (B Q : ByteArray) (p i e : Nat) : Prop := p + e ≤ Q.size ∧ ∀ m, i ≤ m → m < e → byteAt Q (p + m) = byteAt B m
theorem At.sub {B Q : ByteArray} {p i e i2 e2 : Nat} (h : At B Q p i e) (h1 : i ≤ i2) (h2 : e2 ≤ e) : At B Q p i2 e2 := ⟨by have := h.1; omega, fun m a b => h.2 m (by omega) (by omega)⟩
theorem fit_loc {B Q : ByteArray} {p i k : Nat} (hk : k < 6) (h : At B Q p i (i + 6)) (hz : i + 6 ≤ B.size) : unitFit Q (p + i) k = unitFit B i k := by
  have hq := h.1
  unfold unitFit
  rw [decide_eq_true (by omega : p + i + k < Q.size), decide_eq_true (by omega : i + k < B.size), Bool.true_and, Bool.true_and]
  by_cases k0 : k = 0
  · subst k0; rw [if_pos rfl, if_pos rfl, h.2 i (by omega) (by omega)]
  · rw [if_neg k0, if_neg k0]
    by_cases k1 : k = 1
    · subst k1; rw [if_pos rfl, if_pos rfl, Nat.add_assoc, h.2 (i + 1) (by omega) (by omega)]
    · rw [if_neg k1, if_neg k1, Nat.add_assoc, h.2 (i + k) (by omega) (by omega)]
theorem unit_loc {B Q : ByteArray} {p i n : Nat} (h : At B Q p i (i + 6)) (hu : unitS B i = .ok n) : unitS Q (p + i) = .ok n := by
  obtain ⟨hf, rfl, hs⟩ := unitS_ok hu
  have hf' : ∀ m, m < 6 → unitFit Q (p + i) m = true := fun m hm => by rw [fit_loc hm h hs]; exact hf m hm
  unfold unitS
  rw [firstBad_ok hf', Sc.bind_ok]
  unfold hex4
  rw [show p + i + 2 = p + (i + 2) by omega, show p + (i + 2) + 1 = p + (i + 2 + 1) by omega, show p + (i + 2) + 2 = p + (i + 2 + 2) by omega, show p + (i + 2) + 3 = p + (i + 2 + 3) by omega]
  rw [h.2 (i + 2) (by omega) (by omega), h.2 (i + 2 + 1) (by omega) (by omega), h.2 (i + 2 + 2) (by omega) (by omega), h.2 (i + 2 + 3) (by omega) (by omega)]
theorem pair_loc {B Q : ByteArray} {p i : Nat} {y : Nat × Nat} (hy : pairS B i = .ok y) (h : At B Q p i (i + y.2)) : pairS Q (p + i) = .ok y := by
  unfold pairS at hy ⊢
  obtain ⟨n, h1, h2⟩ := Sc.bind_eq_ok hy
  by_cases c1 : n < 55296 ∨ 57343 < n
  · rw [if_pos c1] at h2
    cases h2
    rw [unit_loc h h1, Sc.bind_ok, if_pos c1]
  · rw [if_neg c1] at h2
    by_cases c2 : n < 56320
    · rw [if_pos c2] at h2
      cases hm : unitS B (i + 6) with
      | no k j => rw [hm, pairLow] at h2; split at h2 <;> cases h2
      | ok m =>
        rw [hm] at h2
        have hy2 : y.2 = 12 := by
          rw [pairLow] at h2
          split at h2
          · rw [← Sc.ok.inj h2]
          · cases h2
        rw [hy2] at h
        rw [unit_loc (h.sub (Nat.le_refl _) (by omega)) h1, Sc.bind_ok, if_neg c1, if_pos c2, Nat.add_assoc, unit_loc (i := i + 6) (h.sub (by omega) (by omega)) hm]
        rw [pairLow] at h2 ⊢
        split at h2
        · rename_i c3; rw [if_pos c3]; exact h2
        · cases h2
    · rw [if_neg c2] at h2; cases h2
theorem step_loc {B Q : ByteArray} {p i : Nat} {y : Nat × Nat} (hi : i < B.size) (hy : textStep B i = .ok y) (h : At B Q p i (i + y.2)) : textStep Q (p + i) = .ok y := by
  have h0 := textStep_ok hi hy
  have e0 := h.2 i (Nat.le_refl _) (by omega)
  unfold textStep at hy ⊢
  rw [e0]
  by_cases c : byteAt B i = 92
  · rw [if_pos c] at hy ⊢
    unfold escapeS at hy ⊢
    by_cases c1 : i + 1 = B.size
    · rw [if_pos c1] at hy; cases hy
    · rw [if_neg c1] at hy
      have hq := h.1
      by_cases c2 : byteAt B (i + 1) = 117
      · rw [if_pos c2] at hy
        have hp := pairS_ok hy
        have : 2 ≤ y.2 := by
          unfold pairS at hy
          obtain ⟨n, h1, h2⟩ := Sc.bind_eq_ok hy
          split at h2
          · cases h2; show 2 ≤ 6; decide
          · split at h2
            · cases hm : unitS B (i + 6) with
              | ok m =>
                rw [hm, pairLow] at h2
                split at h2
                · rw [← Sc.ok.inj h2]; show 2 ≤ 12; decide
                · cases h2
              | no k j => rw [hm, pairLow] at h2; split at h2 <;> cases h2
            · cases h2
        rw [if_neg (by omega), show p + i + 1 = p + (i + 1) by omega, h.2 (i + 1) (by omega) (by omega), if_pos c2]
        exact pair_loc hy h
      · rw [if_neg c2] at hy
        have hy2 : y.2 = 2 := by
          split at hy
          · cases hy; rfl
          · cases hy
        rw [if_neg (by omega), show p + i + 1 = p + (i + 1) by omega, h.2 (i + 1) (by omega) (by omega), if_neg c2]
        split at hy
        · exact hy
        · cases hy
  · rw [if_neg c] at hy ⊢
    unfold charS at hy ⊢
    rw [if_neg (by omega)] at hy
    have hq := h.1
    rw [if_neg (by omega)]
    by_cases c1 : decU B i = (65533, 1)
    · rw [if_pos c1] at hy; cases hy
    · rw [if_neg c1] at hy
      cases hy
      have e := dec_local (B := B) (Q := Q) (i := i) (p := p + i) hi c1 (by omega) (fun m hm => by rw [Nat.add_assoc]; exact h.2 (i + m) (by omega) (by omega))
      rw [e, if_neg c1]
theorem text_loc {B Q : ByteArray} {p : Nat} : ∀ n i acc x, B.size - i = n → i ≤ B.size → textS B i acc = .ok x → At B Q p i x.2 → textS Q (p + i) acc = .ok (x.1, p + x.2) := by
  intro n
  induction n using Nat.strongRecOn with
  | ind n ih =>
    intro i acc x hn hi h hA
    have hx := textS_ok _ i acc x rfl hi h
    have hq := hA.1
    have e0 := hA.2 i (Nat.le_refl _) (by omega)
    rw [textS_step hi] at h
    rw [textS_step (by omega), if_neg (by omega), e0]
    by_cases c0 : i = B.size
    · rw [if_pos c0] at h; cases h
    · rw [if_neg c0] at h
      by_cases c1 : byteAt B i = 34
      · rw [if_pos c1] at h ⊢; cases h; rfl
      · rw [if_neg c1] at h ⊢
        by_cases c2 : byteAt B i < 32
        · rw [if_pos c2] at h; cases h
        · rw [if_neg c2] at h ⊢
          obtain ⟨y, hy, h⟩ := Sc.bind_eq_ok h
          have hs := textStep_ok (by omega) hy
          have h3 := textS_ok _ (i + y.2) _ x rfl hs.2 h
          rw [step_loc (by omega) hy (hA.sub (Nat.le_refl _) (by omega)), Sc.bind_ok, Nat.add_assoc]
          exact ih (B.size - (i + y.2)) (by omega) (i + y.2) _ x rfl hs.2 h (hA.sub (by omega) (Nat.le_refl _))
/-- Behind a number: nothing that would belong to it. -/
def numL : List Nat := [48, 49, 50, 51, 52, 53, 54, 55, 56, 57, 46, 101, 69]
def Stops (Q : ByteArray) (e : Nat) : Prop := e < Q.size → numL.contains (byteAt Q e) = false
end
section
open Go.RowKit
theorem at_app {A B Q : ByteArray} {p : Nat} (h : At (A ++ B) Q p 0 (A ++ B).size) : At A Q p 0 A.size ∧ At B Q (p + A.size) 0 B.size := by
  have hz : (A ++ B).size = A.size + B.size := ByteArray.size_append
  rw [hz] at h
  refine ⟨⟨by have := h.1; omega, fun m _ hm => ?_⟩, ⟨by have := h.1; omega, fun m _ hm => ?_⟩⟩
  · rw [h.2 m (Nat.zero_le _) (by omega), byteAt_pre A B m hm]
  · rw [Nat.add_assoc, h.2 (A.size + m) (Nat.zero_le _) (by omega), byteAt_app]
theorem at_self (T : ByteArray) : At T T 0 0 T.size := ⟨by omega, fun m _ _ => by rw [Nat.zero_add]⟩
theorem at_one {c : UInt8} {Q : ByteArray} {p : Nat} (h : At ⟨#[c]⟩ Q p 0 (⟨#[c]⟩ : ByteArray).size) : p < Q.size ∧ byteAt Q p = c.toNat := by
  have h1 := h.1
  have h2 := h.2 0 (Nat.le_refl _) (by show 0 < 1; decide)
  have : (⟨#[c]⟩ : ByteArray).size = 1 := rfl
  exact ⟨by omega, h2⟩
theorem tok_mark {Q : ByteArray} {p c : Nat} (hp : p < Q.size) (hc : byteAt Q p = c) (hb : isBlank c = false) (hm : marksL.contains c = true) : nextI Q p = .ok ⟨((1 + marksL.idxOf c : Nat) : Int), p, ((p + 1 : Nat) : Int)⟩ := by
  rw [nextI_at (by omega) (fun _ => by rw [hc]; exact hb)]
  unfold tokenS
  rw [if_neg (by omega), hc, if_pos hm]; rfl
theorem strOf_chars {x : ByteArray} {cs : List Nat} (h : charsS x 0 [] = .ok cs) : strOf cs = x := by
  have := chars_put _ 0 [] cs rfl (Nat.zero_le _) h
  simp only [List.flatMap_nil, List.nil_append, List.drop_zero] at this
  unfold strOf
  rw [this]
  apply bytes_ext
  show (List.toArray _).toList = _
  rw [List.toList_toArray]
  unfold bytesN
  rw [List.map_map]
  have e : UInt8.ofNat ∘ (fun x : UInt8 => x.toNat) = id := by funext x; simp
  rw [e, List.map_id]
theorem tok_quote {Q x : ByteArray} {p : Nat} (hr : RightB x) (hA : At (quoteB x) Q p 0 (quoteB x).size) : nextI Q p = .ok ⟨7, p, ((p + (quoteB x).size : Nat) : Int)⟩ ∧ textTok Q ⟨7, p, ((p + (quoteB x).size : Nat) : Int)⟩ = some x := by
  obtain ⟨cs, hcs⟩ := hr
  have ht := (all_quote hcs).1
  have hz := offQ_end x
  have h0 : byteAt (quoteB x) 0 = 34 := quoteB_at (by unfold quoteL; rfl)
  have hq := hA.1
  have hq0 : byteAt Q p = 34 := by rw [← h0]; exact hA.2 0 (Nat.le_refl _) (by omega)
  have hmo := offQ_mono (B := x) (i := 0) (Nat.zero_le _)
  rw [offQ_zero] at hmo
  have hl := text_loc (B := quoteB x) (Q := Q) (p := p) _ 1 [] _ rfl (by omega) ht (hA.sub (Nat.zero_le _) (Nat.le_refl _))
  have hn : nextI Q p = .ok ⟨7, p, ((p + (quoteB x).size : Nat) : Int)⟩ := by
    rw [nextI_at (by omega) (fun _ => by rw [hq0]; decide)]
    unfold tokenS
    rw [if_neg (by omega), hq0, if_neg (by decide), if_pos rfl, hl]; rfl
  refine ⟨hn, ?_⟩
  unfold textTok
  simp only
  rw [hn]
  simp only [and_self, if_true]
  rw [Int.toNat_natCast, hl]
  simp only
  rw [strOf_chars hcs]
/-- What lies at some numbers; nothing else lies beneath these. -/
def Agree (js2 : List JN) (ups2 : List Nat) (b : Nat) (nj : List JN) (nu : List Nat) : Prop := (∀ k, k < nj.length → js2[b + k]? = nj[k]?) ∧ (∀ k, k < nu.length → ups2[b + k]? = nu[k]?)
def OutR (ups2 : List Nat) (b e : Nat) : Prop := ∀ k u, 0 < k → ups2[k]? = some u → (k < b ∨ e ≤ k) → u < b ∨ e ≤ u
theorem Agree.left {js2 : List JN} {ups2 : List Nat} {b : Nat} {nj nj' : List JN} {nu nu' : List Nat} (h : Agree js2 ups2 b (nj ++ nj') (nu ++ nu')) : Agree js2 ups2 b nj nu :=
  ⟨fun k hk => by rw [h.1 k (by rw [List.length_append]; omega), List.getElem?_append_left hk], fun k hk => by rw [h.2 k (by rw [List.length_append]; omega), List.getElem?_append_left hk]⟩
theorem Agree.right {js2 : List JN} {ups2 : List Nat} {b : Nat} {nj nj' : List JN} {nu nu' : List Nat} (hl : nj.length = nu.length) (h : Agree js2 ups2 b (nj ++ nj') (nu ++ nu')) : Agree js2 ups2 (b + nj.length) nj' nu' :=
  ⟨fun k hk => by rw [Nat.add_assoc, h.1 (nj.length + k) (by rw [List.length_append]; omega), List.getElem?_append_right (by omega), Nat.add_sub_cancel_left], fun k hk => by
    rw [Nat.add_assoc, h.2 (nj.length + k) (by rw [List.length_append]; omega), List.getElem?_append_right (by omega), hl, Nat.add_sub_cancel_left]⟩
/-- The text T is read as a value that has the law φ, of c numbers at most, d lists and objects in one another. -/
def RV (φ : List JN → List Nat → Nat → Prop) (T : ByteArray) (c d : Nat) : Prop := ∀ (Q : ByteArray) (m : Bd) (p : Nat) (js : List JN) (ups : List Nat) (o : Op) (r : List Op),
  At T Q p 0 T.size → Stops Q (p + T.size) → (o.st = 1 ∨ o.st = 0 ∧ o.obj = false) → ups.length = js.length → (js.length = 0 ∨ o.id.toNat < js.length) → ((js.length + c : Nat) : Int) ≤ m.nodes → ((r.length + d : Nat) : Int) ≤ m.deep →
  ∃ nj nu, nj.length = nu.length ∧ 0 < nj.length ∧ nj.length ≤ c ∧ runS Q m p ⟨js, ups, o :: r⟩ = runS Q m ((p + T.size : Nat) : Int) ⟨js ++ nj, ups ++ nu, aftO o :: r⟩ ∧ nu[0]? = some o.id.toNat ∧
    (∃ x, nj[0]? = some x ∧ x.key = if o.obj then o.key else ⟨#[]⟩) ∧ (∀ k u, 0 < k → nu[k]? = some u → js.length ≤ u ∧ u < js.length + k) ∧
    ∀ js2 ups2, ups2.length = js2.length → Agree js2 ups2 js.length nj nu → OutR ups2 js.length (js.length + nj.length) → φ js2 ups2 js.length
theorem RV.mono {φ ψ : List JN → List Nat → Nat → Prop} {T : ByteArray} {c d c' d' : Nat} (h : RV φ T c d) (hφ : ∀ js ups b, ups.length = js.length → φ js ups b → ψ js ups b) (hc : c ≤ c') (hd : d ≤ d') : RV ψ T c' d' := by
  intro Q m p js ups o r h1 h2 h3 h4 h5 h6 h7
  obtain ⟨nj, nu, g1, g2, g3, g4, g5, g6, g7, g8⟩ := h Q m p js ups o r h1 h2 h3 h4 h5 (by omega) (by omega)
  exact ⟨nj, nu, g1, g2, by omega, g4, g5, g6, g7, fun js2 ups2 a b c => hφ _ _ _ a (g8 js2 ups2 a b c)⟩
theorem want_of {Q : ByteArray} {m : Bd} {p : Nat} {js : List JN} {ups : List Nat} {o : Op} {r : List Op} {t : Tok} (hst : o.st = 1 ∨ o.st = 0 ∧ o.obj = false) (hn : nextI Q p = .ok t) (h4 : t.kind ≠ 4) : WantV Q m p js ups o r := by
  rcases hst with h | ⟨h, ho⟩
  · exact wantV_1 h
  · exact wantV_0 h ho hn (by unfold endsS; rw [ho]; simp [h4])
/-- A leaf. -/
theorem rv_leaf {T : ByteArray} {x : ByteArray} {tk c : Int} (hc : c < 5) (htk : kindS tk = some c) (h4 : tk ≠ 4)
    (ht : ∀ (Q : ByteArray) (p : Nat), At T Q p 0 T.size → Stops Q (p + T.size) → nextI Q p = .ok ⟨tk, p, ((p + T.size : Nat) : Int)⟩ ∧ textN Q c ⟨tk, p, ((p + T.size : Nat) : Int)⟩ = x) : RV (fun js _ b => (textA js b).kind = c ∧ (textA js b).text = x) T 1 0 := by
  intro Q m p js ups o r hA hs hst hl ho hn hd
  obtain ⟨h1, h2⟩ := ht Q p hA hs
  refine ⟨[nodeS Q o c ⟨tk, p, ((p + T.size : Nat) : Int)⟩], [o.id.toNat], rfl, Nat.zero_lt_one, Nat.le_refl _, ?_, rfl, ⟨_, rfl, rfl⟩, fun k u h0 hk => ?_, fun js2 ups2 _ hag _ => ?_⟩
  · exact v_leaf (want_of hst h1 h4) h1 htk (by show ¬ m.nodes ≤ (js.length : Int); omega) hc
  · rw [List.getElem?_eq_none (by rw [List.length_singleton]; omega)] at hk; cases hk
  · have := hag.1 0 Nat.zero_lt_one
    rw [Nat.add_zero] at this
    show (textA js2 js.length).kind = c ∧ (textA js2 js.length).text = x
    unfold textA
    rw [this]
    exact ⟨rfl, h2⟩
theorem rv_text {x : ByteArray} (hr : RightB x) : RV (fun js _ b => (textA js b).kind = 4 ∧ (textA js b).text = x) (quoteB x) 1 0 :=
  rv_leaf (tk := 7) (by decide) rfl (by decide) (fun Q p hA _ => by
    obtain ⟨h1, h2⟩ := tok_quote hr hA
    exact ⟨h1, by unfold textN; rw [if_pos rfl, h2]; rfl⟩)
end
section
open Go.RowKit
/-- Texts, one behind the other, and what closes them. -/
def tlB (c : UInt8) : Bool → List ByteArray → ByteArray
  | _, [] => ⟨#[c]⟩
  | true, x :: l => x ++ tlB c false l
  | false, x :: l => ⟨#[44]⟩ ++ (x ++ tlB c false l)
theorem tl_data (c : UInt8) : ∀ l : List ByteArray, (tlB c false l).data.toList = Lib.joinTail [44] (l.map (·.data.toList)) ++ [c]
  | [] => rfl
  | x :: l => by
    have ih := tl_data c l
    rw [tlB, ByteArray.data_append, ByteArray.data_append, Array.toList_append, Array.toList_append, ih]
    simp [Lib.joinTail]
theorem J_tl (c : UInt8) (l : List ByteArray) : J l ++ ⟨#[c]⟩ = tlB c true l := by
  apply bytes_ext
  rw [ByteArray.data_append, Array.toList_append]
  unfold J
  cases l with
  | nil => simp [Lib.join_nil, tlB]
  | cons x l =>
    rw [tlB, ByteArray.data_append, Array.toList_append, tl_data, List.map_cons, Lib.join_cons]
    simp
structure It where
  key : ByteArray
  T : ByteArray
  φ : List JN → List Nat → Nat → Prop
  c : Nat
def It.text (ob : Bool) (x : It) : ByteArray := if ob then partB (x.key, x.T) else x.T
def closeC (ob : Bool) : UInt8 := if ob then 125 else 93
def sumC (l : List It) : Nat := (l.map (·.c)).sum
theorem stops_mark {Q : ByteArray} {p c : Nat} (hc : byteAt Q p = c) (h : numL.contains c = false) : Stops Q p := fun _ => by rw [hc]; exact h
theorem tl_head (ob : Bool) (l : List ByteArray) {Q : ByteArray} {p : Nat} (hA : At (tlB (closeC ob) false l) Q p 0 (tlB (closeC ob) false l).size) : Stops Q p ∧ p < Q.size := by
  have key : ∃ (c : UInt8) (R : ByteArray), tlB (closeC ob) false l = ⟨#[c]⟩ ++ R ∧ numL.contains c.toNat = false := by
    cases l with
    | nil => exact ⟨closeC ob, ByteArray.empty, by rw [tlB, ByteArray.append_empty], by cases ob <;> decide⟩
    | cons x l => exact ⟨44, _, rfl, by decide⟩
  obtain ⟨c, R, h, hc⟩ := key
  rw [h] at hA
  obtain ⟨h1, h2⟩ := at_one (at_app hA).1
  exact ⟨stops_mark h2 hc, h1⟩
def SeqPost (l : List It) (ob : Bool) (b : Nat) (js : List JN) (nj : List JN) (nu : List Nat) (bs : List Nat) : Prop :=
  nj.length = nu.length ∧ nj.length ≤ sumC l ∧ bs.length = l.length ∧ bs.Pairwise (· < ·) ∧ (∀ k ∈ bs, js.length ≤ k ∧ k < js.length + nj.length) ∧
  (∀ k u, nu[k]? = some u → (u = b ↔ js.length + k ∈ bs) ∧ (u = b ∨ js.length ≤ u) ∧ u < js.length + k) ∧
  ∀ js2 ups2, ups2.length = js2.length → Agree js2 ups2 js.length nj nu → OutR ups2 js.length (js.length + nj.length) → ∀ (j : Nat) (x : It) (k : Nat), l[j]? = some x → bs[j]? = some k → x.φ js2 ups2 k ∧ keyA js2 k = if ob then x.key else ⟨#[]⟩
theorem aft_pos {b : Nat} {ob : Bool} {st : Int} {key : ByteArray} : aftO ⟨(b : Int), ob, st, key⟩ = ⟨(b : Int), ob, 4, key⟩ := by
  unfold aftO
  rw [if_neg (by simp only; omega)]
/-- One value, and the row behind it. -/
theorem seq_cons {x : It} {l : List It} {ob : Bool} {d b : Nat} {Q : ByteArray} {m : Bd} {p : Nat} {js : List JN} {ups : List Nat} {o : Op} {r : List Op} {st : Int} {key : ByteArray} {e : Int}
    (hv : RV x.φ x.T x.c d) (hA : At x.T Q p 0 x.T.size) (hs : Stops Q (p + x.T.size)) (hst : st = 1 ∨ st = 0 ∧ ob = false) (hl : ups.length = js.length) (hb : b < js.length) (hn : ((js.length + sumC (x :: l) : Nat) : Int) ≤ m.nodes) (hd : ((r.length + 1 + d : Nat) : Int) ≤ m.deep)
    (hkey : (if ob then key else ⟨#[]⟩) = if ob then x.key else ⟨#[]⟩)
    (ih : ∀ (js' : List JN) (ups' : List Nat), ups'.length = js'.length → b < js'.length → ((js'.length + sumC l : Nat) : Int) ≤ m.nodes → ∃ nj nu bs, runS Q m ((p + x.T.size : Nat) : Int) ⟨js', ups', ⟨(b : Int), ob, 4, key⟩ :: o :: r⟩ = runS Q m e ⟨js' ++ nj, ups' ++ nu, aftO o :: r⟩ ∧ SeqPost l ob b js' nj nu bs) :
    ∃ nj nu bs, runS Q m (p : Int) ⟨js, ups, ⟨(b : Int), ob, st, key⟩ :: o :: r⟩ = runS Q m e ⟨js ++ nj, ups ++ nu, aftO o :: r⟩ ∧ SeqPost (x :: l) ob b js nj nu bs := by
  have hc : sumC (x :: l) = x.c + sumC l := by simp [sumC]
  rw [hc] at hn
  obtain ⟨nj, nu, g1, g2, g3, g4, g5, ⟨y, g6, g6'⟩, g7, g8⟩ := hv Q m p js ups ⟨(b : Int), ob, st, key⟩ (o :: r) hA hs hst hl (.inr (by simpa using hb)) (by omega) (by simp only [List.length_cons]; exact hd)
  rw [aft_pos] at g4
  obtain ⟨nj', nu', bs, i1, i2, i3, i4, i5, i6, i7, i8⟩ := ih (js ++ nj) (ups ++ nu) (by simp [hl, g1]) (by rw [List.length_append]; omega) (by rw [List.length_append]; omega)
  rw [List.length_append] at i6 i7 i8
  simp only [Int.toNat_natCast] at g5
  refine ⟨nj ++ nj', nu ++ nu', js.length :: bs, by rw [g4, i1, List.append_assoc, List.append_assoc], by simp [g1, i2], by rw [List.length_append, hc]; omega, by simp [i4], ?_, ?_, ?_, ?_⟩
  · rw [List.pairwise_cons]
    exact ⟨fun k hk => by have := (i6 k hk).1; omega, i5⟩
  · intro k hk
    rw [List.length_append]
    rcases List.mem_cons.1 hk with rfl | hk
    · omega
    · have := i6 k hk; omega
  · intro k u hk
    by_cases hlt : k < nu.length
    · rw [List.getElem?_append_left hlt] at hk
      have hnb : js.length + k ∉ bs := fun h => by have := (i6 _ h).1; omega
      by_cases h0 : k = 0
      · subst h0
        rw [g5] at hk
        cases hk
        exact ⟨⟨fun _ => by simp, fun _ => rfl⟩, .inl rfl, by omega⟩
      · have := g7 k u (by omega) hk
        refine ⟨⟨fun h => by omega, fun h => ?_⟩, .inr this.1, this.2⟩
        rcases List.mem_cons.1 h with h | h
        · omega
        · exact absurd h hnb
    · rw [List.getElem?_append_right (by omega)] at hk
      obtain ⟨j1, j2, j3⟩ := i7 _ u hk
      rw [← g1] at j1 j3
      have hke : js.length + nj.length + (k - nj.length) = js.length + k := by omega
      rw [hke] at j1 j3
      refine ⟨?_, by omega, j3⟩
      rw [j1]
      constructor
      · intro h; exact List.mem_cons_of_mem _ h
      · intro h
        rcases List.mem_cons.1 h with h | h
        · omega
        · exact h
  · intro js2 ups2 hl2 hag hout
    rw [List.length_append] at hout
    have hag1 := hag.left
    have hag2 := hag.right g1
    have o1 : OutR ups2 js.length (js.length + nj.length) := by
      intro k u h0 hk hor
      by_cases hin : js.length + nj.length ≤ k ∧ k < js.length + (nj.length + nj'.length)
      · have hk2 := hag2.2 (k - (js.length + nj.length)) (by omega)
        rw [show js.length + nj.length + (k - (js.length + nj.length)) = k by omega, hk] at hk2
        obtain ⟨j1, j2, j3⟩ := i7 _ u hk2.symm
        omega
      · have := hout k u h0 hk (by omega)
        omega
    have o2 : OutR ups2 (js.length + nj.length) (js.length + nj.length + nj'.length) := by
      intro k u h0 hk hor
      by_cases hin : js.length ≤ k ∧ k < js.length + nj.length
      · have hk2 := hag1.2 (k - js.length) (by omega)
        rw [show js.length + (k - js.length) = k by omega, hk] at hk2
        by_cases hz : k - js.length = 0
        · rw [hz, g5] at hk2
          cases hk2
          omega
        · have := g7 _ u (by omega) hk2.symm
          omega
      · have := hout k u h0 hk (by omega)
        omega
    have hφ := g8 js2 ups2 hl2 hag1 o1
    have hrest := i8 js2 ups2 hl2 hag2 o2
    intro j z k hj hk
    cases j with
    | zero =>
      simp only [List.getElem?_cons_zero, Option.some.injEq] at hj hk
      subst hj; subst hk
      refine ⟨hφ, ?_⟩
      have h0 := hag1.1 0 g2
      rw [Nat.add_zero, g6] at h0
      unfold keyA
      rw [h0]
      simp only
      rw [g6']
      exact hkey
    | succ j =>
      rw [List.getElem?_cons_succ] at hj hk
      exact hrest j z k hj hk
theorem rv_seq (ob : Bool) (d b : Nat) (Q : ByteArray) (m : Bd) (o : Op) (r : List Op) (hd : ((r.length + 1 + d : Nat) : Int) ≤ m.deep) : ∀ (l : List It) (first : Bool) (p : Nat) (js : List JN) (ups : List Nat) (key : ByteArray), (∀ x ∈ l, RV x.φ x.T x.c d ∧ (ob = true → RightB x.key)) →
    At (tlB (closeC ob) first (l.map (It.text ob))) Q p 0 (tlB (closeC ob) first (l.map (It.text ob))).size → ups.length = js.length → b < js.length → ((js.length + sumC l : Nat) : Int) ≤ m.nodes →
    ∃ nj nu bs, runS Q m (p : Int) ⟨js, ups, ⟨(b : Int), ob, if first then 0 else 4, key⟩ :: o :: r⟩ = runS Q m ((p + (tlB (closeC ob) first (l.map (It.text ob))).size : Nat) : Int) ⟨js ++ nj, ups ++ nu, aftO o :: r⟩ ∧ SeqPost l ob b js nj nu bs
  | [], first, p, js, ups, key, _, hA, hl, hb, hn => by
    have e : tlB (closeC ob) first (([] : List It).map (It.text ob)) = ⟨#[closeC ob]⟩ := by cases first <;> rfl
    rw [e] at hA ⊢
    obtain ⟨h1, h2⟩ := at_one hA
    have ht : nextI Q p = .ok ⟨(if ob then 2 else 4 : Int), p, ((p + 1 : Nat) : Int)⟩ := by
      cases ob with
      | true => exact tok_mark h1 h2 (by decide) (by decide)
      | false => exact tok_mark h1 h2 (by decide) (by decide)
    refine ⟨[], [], [], ?_, rfl, Nat.zero_le _, rfl, List.Pairwise.nil, by simp, by simp, fun _ _ _ _ _ j x k hj => by simp at hj⟩
    rw [List.append_nil, List.append_nil]
    have he : ∀ st : Int, endsS ⟨(b : Int), ob, st, key⟩ ⟨(if ob then 2 else 4 : Int), p, ((p + 1 : Nat) : Int)⟩ = true := fun st => by unfold endsS; cases ob <;> rfl
    cases first with
    | true => exact f_ends rfl ht (he _)
    | false => exact b_ends rfl ht (he _)
  | x :: l, first, p, js, ups, key, hx, hA, hl, hb, hn => by
    have hx0 := hx x (by simp)
    -- behind the comma
    have main : ∀ (p : Nat) (st : Int), At (It.text ob x ++ tlB (closeC ob) false (l.map (It.text ob))) Q p 0 (It.text ob x ++ tlB (closeC ob) false (l.map (It.text ob))).size → (st = 0 ∨ st = if ob then 2 else 1) →
        ∃ nj nu bs, runS Q m (p : Int) ⟨js, ups, ⟨(b : Int), ob, st, key⟩ :: o :: r⟩ = runS Q m ((p + (It.text ob x ++ tlB (closeC ob) false (l.map (It.text ob))).size : Nat) : Int) ⟨js ++ nj, ups ++ nu, aftO o :: r⟩ ∧ SeqPost (x :: l) ob b js nj nu bs := by
      intro p st hA hst
      obtain ⟨hA1, hA2⟩ := at_app hA
      have hz : (It.text ob x ++ tlB (closeC ob) false (l.map (It.text ob))).size = (It.text ob x).size + (tlB (closeC ob) false (l.map (It.text ob))).size := ByteArray.size_append
      rw [hz]
      cases ob with
      | false =>
        have e : It.text false x = x.T := rfl
        rw [e] at hA1 hA2 ⊢
        have hstop := (tl_head false _ hA2).1
        refine seq_cons hx0.1 hA1 hstop (by rcases hst with h | h; exact .inr ⟨h, rfl⟩; exact .inl h) hl hb hn hd rfl (fun js' ups' h1 h2 h3 => ?_)
        have := rv_seq false d b Q m o r hd l false (p + x.T.size) js' ups' key (fun y hy => hx y (by simp [hy])) hA2 h1 h2 h3
        rw [← Nat.add_assoc]
        exact this
      | true =>
        have e : It.text true x = quoteB x.key ++ ⟨#[58]⟩ ++ x.T := rfl
        have ez : (It.text true x).size = (quoteB x.key).size + 1 + x.T.size := by rw [e, ByteArray.size_append, ByteArray.size_append]; rfl
        rw [e] at hA1
        obtain ⟨hB1, hB2⟩ := at_app hA1
        obtain ⟨hC1, hC2⟩ := at_app hB1
        have ez1 : (quoteB x.key ++ ⟨#[58]⟩).size = (quoteB x.key).size + 1 := by rw [ByteArray.size_append]; rfl
        rw [ez1] at hB2
        obtain ⟨t1, t2⟩ := tok_quote (hx0.2 rfl) hC1
        obtain ⟨q1, q2⟩ := at_one hC2
        have t3 := tok_mark q1 q2 (by decide) (by decide)
        have w1 : WantK Q m (p : Int) js ups ⟨(b : Int), true, st, key⟩ (o :: r) := by
          rcases hst with rfl | h
          · exact wantK_0 rfl rfl t1 (by unfold endsS; rfl)
          · exact wantK_2 h
        rw [k_text w1 t1 rfl t2]
        rw [k_colon rfl t3 (by show (5 : Int) = 5; rfl)]
        simp only
        have hstop := (tl_head true _ hA2).1
        rw [ez] at hA2 hstop ⊢
        have hp1 : p + (quoteB x.key).size + 1 = p + ((quoteB x.key).size + 1) := by omega
        rw [hp1]
        refine seq_cons hx0.1 hB2 (by rw [show p + ((quoteB x.key).size + 1) + x.T.size = p + ((quoteB x.key).size + 1 + x.T.size) by omega]; exact hstop) (.inl rfl) hl hb hn hd rfl (fun js' ups' h1 h2 h3 => ?_)
        have := rv_seq true d b Q m o r hd l false (p + ((quoteB x.key).size + 1 + x.T.size)) js' ups' x.key (fun y hy => hx y (by simp [hy])) hA2 h1 h2 h3
        rw [show p + ((quoteB x.key).size + 1) + x.T.size = p + ((quoteB x.key).size + 1 + x.T.size) by omega, show p + ((quoteB x.key).size + 1 + x.T.size + (tlB (closeC true) false (l.map (It.text true))).size) = p + ((quoteB x.key).size + 1 + x.T.size) + (tlB (closeC true) false (l.map (It.text true))).size by omega]
        exact this
    cases first with
    | true => exact main p 0 hA (.inl rfl)
    | false =>
      have e : tlB (closeC ob) false ((x :: l).map (It.text ob)) = ⟨#[44]⟩ ++ (It.text ob x ++ tlB (closeC ob) false (l.map (It.text ob))) := rfl
      rw [e] at hA ⊢
      obtain ⟨hA1, hA2⟩ := at_app hA
      obtain ⟨q1, q2⟩ := at_one hA1
      have t1 := tok_mark q1 q2 (by decide) (by decide)
      have hs1 : (⟨#[44]⟩ : ByteArray).size = 1 := rfl
      rw [hs1] at hA2
      have hz : (⟨#[44]⟩ ++ (It.text ob x ++ tlB (closeC ob) false (l.map (It.text ob))) : ByteArray).size = 1 + (It.text ob x ++ tlB (closeC ob) false (l.map (It.text ob))).size := ByteArray.size_append
      rw [hz, ← Nat.add_assoc]
      have hc := b_comma (B := Q) (m := m) (i := (p : Int)) (js := js) (ups := ups) (o := ⟨(b : Int), ob, 4, key⟩) (r := o :: r) rfl t1 (by unfold endsS; cases ob <;> rfl) (by show (6 : Int) = 6; rfl)
      simp only [Bool.false_eq_true, if_false]
      rw [hc]
      exact main (p + 1) _ hA2 (.inr rfl)
theorem sorted_ext {l l' : List Nat} (h : l.Pairwise (· < ·)) (h' : l'.Pairwise (· < ·)) (hm : ∀ k, k ∈ l ↔ k ∈ l') : l = l' := by
  have n : ∀ {l : List Nat}, l.Pairwise (· < ·) → l.Nodup := fun h => h.imp (fun h => by omega)
  exact List.Perm.eq_of_pairwise (le := fun a b => a < b) (fun a b _ _ h1 h2 => by omega) h h' ((List.perm_ext_iff_of_nodup (n h) (n h')).2 hm)
/-- A list, or an object. -/
def InPost (ob : Bool) (l : List It) (js : List JN) (ups : List Nat) (b : Nat) : Prop :=
  (textA js b).kind = (if ob then 6 else 5) ∧ (kids ups b).length = l.length ∧ (∀ (j : Nat) (x : It) (k : Nat), l[j]? = some x → (kids ups b)[j]? = some k → x.φ js ups k ∧ keyA js k = if ob then x.key else ⟨#[]⟩)
theorem rv_in (ob : Bool) (d : Nat) (l : List It) (hx : ∀ x ∈ l, RV x.φ x.T x.c d ∧ (ob = true → RightB x.key)) : RV (InPost ob l) (⟨#[if ob then 123 else 91]⟩ ++ J (l.map (It.text ob)) ++ ⟨#[closeC ob]⟩) (1 + sumC l) (d + 1) := by
  rw [ByteArray.append_assoc, J_tl]
  intro Q m p js ups o r hA hs hst hl ho hn hd
  obtain ⟨hA1, hA2⟩ := at_app hA
  obtain ⟨q1, q2⟩ := at_one hA1
  have hs1 : (⟨#[if ob then 123 else 91]⟩ : ByteArray).size = 1 := rfl
  rw [hs1] at hA2
  have hz : (⟨#[if ob then 123 else 91]⟩ ++ tlB (closeC ob) true (l.map (It.text ob)) : ByteArray).size = 1 + (tlB (closeC ob) true (l.map (It.text ob))).size := ByteArray.size_append
  rw [hz]
  have ht : nextI Q p = .ok ⟨(if ob then 1 else 3 : Int), p, ((p + 1 : Nat) : Int)⟩ := by
    cases ob with
    | true => exact tok_mark q1 q2 (by decide) (by decide)
    | false => exact tok_mark q1 q2 (by decide) (by decide)
  have hk : kindS (if ob then 1 else 3 : Int) = some (if ob then 6 else 5) := by cases ob <;> rfl
  have h14 : (if ob then 1 else 3 : Int) ≠ 4 := by cases ob <;> decide
  have hw : WantV Q m p js ups o r := want_of hst ht h14
  have hpush := v_push (c := if ob then 6 else 5) hw ht hk (by omega) (by cases ob <;> decide) (by simp only [List.length_cons]; omega)
  have hob : ((if ob then 6 else 5 : Int) == 6) = ob := by cases ob <;> rfl
  rw [hob] at hpush
  generalize hnd : nodeS Q o (if ob then 6 else 5) ⟨(if ob then 1 else 3 : Int), p, ((p + 1 : Nat) : Int)⟩ = nd at hpush
  have hndk : nd.kind = (if ob then 6 else 5) := by rw [← hnd]; rfl
  have hndy : nd.key = if o.obj then o.key else ⟨#[]⟩ := by rw [← hnd]; rfl
  obtain ⟨nj, nu, bs, g0, g1, g2, g3, g4, g5, g6, g7⟩ := rv_seq ob d js.length Q m o r (by omega) l true (p + 1) (js ++ [nd]) (ups ++ [o.id.toNat]) ⟨#[]⟩ hx hA2 (by simp [hl]) (by simp) (by rw [List.length_append, List.length_singleton]; omega)
  rw [List.length_append, List.length_singleton] at g5 g6 g7
  simp only [if_true] at g0
  refine ⟨nd :: nj, o.id.toNat :: nu, by simp [g1], by simp, by rw [List.length_cons]; omega, ?_, rfl, ⟨nd, rfl, hndy⟩, ?_, ?_⟩
  · rw [hpush, g0, ← Nat.add_assoc, List.append_assoc, List.append_assoc]; rfl
  · intro k u h0 hk
    obtain ⟨k, rfl⟩ : ∃ k', k = k' + 1 := ⟨k - 1, by omega⟩
    rw [List.getElem?_cons_succ] at hk
    obtain ⟨_, j2, j3⟩ := g6 k u hk
    omega
  · intro js2 ups2 hl2 hag hout
    have hag1 : Agree js2 ups2 js.length [nd] [o.id.toNat] := Agree.left (nj' := nj) (nu' := nu) hag
    have hag2 : Agree js2 ups2 (js.length + 1) nj nu := Agree.right (nj := [nd]) (nu := [o.id.toNat]) rfl hag
    rw [List.length_cons] at hout
    have hup0 : ups2[js.length]? = some o.id.toNat := by have := hag1.2 0 Nat.zero_lt_one; rw [Nat.add_zero] at this; exact this
    have hj0 : js2[js.length]? = some nd := by have := hag1.1 0 Nat.zero_lt_one; rw [Nat.add_zero] at this; exact this
    have hup : ∀ k u, js.length + 1 ≤ k → k < js.length + (nj.length + 1) → ups2[k]? = some u → nu[k - (js.length + 1)]? = some u := fun k u h1 h2 h3 => by
      have := hag2.2 (k - (js.length + 1)) (by omega)
      rw [show js.length + 1 + (k - (js.length + 1)) = k by omega, h3] at this
      exact this.symm
    have o2 : OutR ups2 (js.length + 1) (js.length + 1 + nj.length) := by
      intro k u h0 hk hor
      by_cases hkb : k = js.length
      · subst hkb
        rw [hup0] at hk
        cases hk
        omega
      · have := hout k u h0 hk (by omega)
        omega
    have hkids : kids ups2 js.length = bs := by
      refine sorted_ext (kids_sorted _ _) g4 (fun k => ?_)
      rw [mem_kids]
      constructor
      · rintro ⟨h0, h1, h2⟩
        by_cases hin : js.length + 1 ≤ k ∧ k < js.length + (nj.length + 1)
        · have h3 := hup k _ hin.1 hin.2 h2
          have := ((g6 _ _ h3).1).1 rfl
          rw [show js.length + 1 + (k - (js.length + 1)) = k by omega] at this
          exact this
        · by_cases hkb : k = js.length
          · subst hkb
            rw [hup0] at h2
            have := Option.some.inj h2
            omega
          · have := hout k _ h0 h2 (by omega)
            omega
      · intro hk
        have hb := g5 k hk
        obtain ⟨u, hu⟩ := get_ex nu (k - (js.length + 1)) (by omega)
        have h3 := hag2.2 (k - (js.length + 1)) (by omega)
        rw [show js.length + 1 + (k - (js.length + 1)) = k by omega, hu] at h3
        have := ((g6 _ _ hu).1).2 (by rw [show js.length + 1 + (k - (js.length + 1)) = k by omega]; exact hk)
        subst this
        exact ⟨by omega, (List.getElem?_eq_some_iff.1 h3).1, h3⟩
    refine ⟨?_, by rw [hkids, g3], ?_⟩
    · unfold textA
      rw [hj0]
      exact hndk
    · rw [hkids]
      have := g7 js2 ups2 hl2 hag2 o2
      exact this
end
end Go.Proofs.YtheoaijheijojaaGreatDoor
