/- Cob0, Cob1 in one text (a claim holds at most 60 files). -/
import Derived.Test.YtheoaijheijojaaGreatDoorZCn8s
import Derived.Test.YtheoaijheijojaaGreatDoorZCnx0s
namespace Go.Proofs.YtheoaijheijojaaGreatDoor
section
open Go.RowKit
def okC (s : ByteArray) : Bool := match charsS s 0 [] with
  | .ok _ => true
  | .no _ _ => false
theorem charsF_no8 (B : ByteArray) : ∀ f i acc k p, charsF B f i acc = .no k p → 0 ≤ p
  | 0, i, acc, k, p, h => by
    rw [charsF] at h
    split at h
    · cases h; omega
    · cases h
  | f + 1, i, acc, k, p, h => by
    rw [charsF] at h
    split at h
    · split at h
      · cases h; omega
      · exact charsF_no8 B f _ _ _ _ h
    · cases h
theorem charsS_no8 {B : ByteArray} {k : Nat} {p : Int} (h : charsS B 0 [] = .no k p) : 0 ≤ p := charsF_no8 _ _ _ _ _ _ h
theorem okC_iff {s : ByteArray} : okC s = true ↔ RightB s := by
  unfold okC RightB
  constructor
  · intro h
    cases hc : charsS s 0 [] with
    | ok l => exact ⟨l, rfl⟩
    | no k i => rw [hc] at h; cases h
  · rintro ⟨l, h⟩
    rw [h]
def firstT (p : Nat → Bool) (n : Nat) : Option Nat := (List.range n).find? p
theorem firstT_some {p : Nat → Bool} {n j : Nat} (hj : j < n) (hp : p j = true) (h : ∀ m, m < j → p m = false) : firstT p n = some j := by
  unfold firstT
  rw [List.find?_range_eq_some]
  exact ⟨hp, List.mem_range.2 hj, fun m hm => by simp [h m hm]⟩
theorem firstT_none {p : Nat → Bool} {n : Nat} (h : ∀ m, m < n → p m = false) : firstT p n = none := by
  unfold firstT
  rw [List.find?_range_eq_none]
  exact fun m hm => by simp [h m hm]
theorem firstT_none' {p : Nat → Bool} {n : Nat} (h : firstT p n = none) : ∀ m, m < n → p m = false := by
  unfold firstT at h
  rw [List.find?_range_eq_none] at h
  exact fun m hm => by simpa using h m hm
def hasL (ks : List ByteArray) (k : ByteArray) : Bool := ks.any fun x => decide (x = k)
theorem hasL_t {ks : List ByteArray} {k : ByteArray} (h : k ∈ ks) : hasL ks k = true := List.any_eq_true.2 ⟨k, h, decide_eq_true rfl⟩
theorem hasL_f {ks : List ByteArray} {k : ByteArray} (h : k ∉ ks) : hasL ks k = false := by
  cases e : hasL ks k with
  | false => rfl
  | true =>
    obtain ⟨x, hx, he⟩ := List.any_eq_true.1 e
    exact absurd (of_decide_eq_true he ▸ hx) h
def dupP (keys : List ByteArray) (i : Nat) : Bool := hasL (keys.take i) (keyAt keys i)
def badP (keys values : List ByteArray) (i : Nat) : Bool := !(okC (keyAt keys i) && okC (keyAt values i))
def objectS (keys values : List ByteArray) : ByteArray × Int × Int :=
  if keys.length ≠ values.length then (⟨#[]⟩, 1, 0) else match firstT (dupP keys) keys.length with
    | some i => (⟨#[]⟩, 31, i)
    | none => match firstT (badP keys values) keys.length with
      | some i => (⟨#[]⟩, 12, i)
      | none => (objB (keys.zip (values.map quoteB)), 0, 0)
def listS (values : List ByteArray) : ByteArray × Int × Int := match firstT (fun i => !okC (keyAt values i)) values.length with
  | some i => (⟨#[]⟩, 12, i)
  | none => (lstB (values.map quoteB), 0, 0)
theorem dup_inj {keys : List ByteArray} (h : ∀ m, m < keys.length → dupP keys m = false) : ∀ i j, i < keys.length → j < keys.length → keyAt keys i = keyAt keys j → i = j := by
  have key : ∀ i j, i < j → j < keys.length → keyAt keys i ≠ keyAt keys j := fun i j hij hj e => by
    have := h j hj
    unfold dupP at this
    have hi : i < keys.length := by omega
    have hk : keyAt keys i = keys[i] := by unfold keyAt; rw [List.getElem?_eq_getElem hi]; rfl
    have hm : keyAt keys j ∈ keys.take j := by
      rw [← e, hk]
      exact List.mem_iff_getElem.2 ⟨i, by rw [List.length_take]; omega, by rw [List.getElem_take]⟩
    rw [hasL_t hm] at this
    cases this
  intro i j hi hj e
  rcases Nat.lt_trichotomy i j with h1 | h1 | h1
  · exact absurd e (key i j h1 hj)
  · exact h1
  · exact absurd e.symm (key j i h1 hi)
theorem zip_inj {keys forms : List ByteArray} (hl : forms.length = keys.length) (h : ∀ i j, i < keys.length → j < keys.length → keyAt keys i = keyAt keys j → i = j) : ∀ a ∈ keys.zip forms, ∀ b ∈ keys.zip forms, a.1 = b.1 → a = b := by
  intro a ha b hb e
  rw [zip_range keys forms hl.symm] at ha hb
  obtain ⟨i, hi, rfl⟩ := List.mem_map.1 ha
  obtain ⟨j, hj, rfl⟩ := List.mem_map.1 hb
  rw [h i j (List.mem_range.1 hi) (List.mem_range.1 hj) e]
theorem keyAt_mem {l : List ByteArray} {i : Nat} (h : i < l.length) : keyAt l i ∈ l := by
  have : keyAt l i = l[i] := by unfold keyAt; rw [List.getElem?_eq_getElem h]; rfl
  rw [this]; exact List.getElem_mem h
theorem keyAt_some {l : List ByteArray} {i : Nat} {x : ByteArray} (h : l[i]? = some x) : keyAt l i = x := by unfold keyAt; rw [h]; rfl
theorem obj_small {keys values : List ByteArray} (hl : keys.length ≤ 1000) (hk : ∀ x ∈ keys, x.size ≤ 1000) (hv : ∀ x ∈ values, x.size ≤ 1000) : (objB (keys.zip (values.map quoteB))).size ≤ 20000000 := by
  have h1 := objB_size (keys.zip (values.map quoteB))
  have h2 : ((keys.zip (values.map quoteB)).map fun p => 6 * p.1.size + p.2.size + 4).sum ≤ ((keys.zip (values.map quoteB)).map fun _ => 12006).sum := sum_le _ (fun p hp => by
    have h3 := hk _ (List.of_mem_zip hp).1
    obtain ⟨v, h4, h5⟩ := List.mem_map.1 (List.of_mem_zip hp).2
    have h6 := hv v h4
    have h7 := quoteB_le v
    rw [h5] at h7
    omega)
  have h3 : ((keys.zip (values.map quoteB)).map fun _ => 12006).sum = 12006 * (keys.zip (values.map quoteB)).length := by
    generalize keys.zip (values.map quoteB) = l
    induction l with
    | nil => rfl
    | cons x l ih => rw [List.map_cons, List.sum_cons, ih, List.length_cons]; omega
  have h4 : (keys.zip (values.map quoteB)).length ≤ keys.length := by rw [List.length_zip]; omega
  have h5 := Nat.mul_le_mul_left 12006 h4
  have h6 := Nat.le_trans h1 (Nat.add_le_add_right (Nat.le_trans h2 (Nat.le_trans (Nat.le_of_eq h3) h5)) 2)
  omega
theorem lst_small {values : List ByteArray} (hl : values.length ≤ 1000) (hv : ∀ x ∈ values, x.size ≤ 1000) : (lstB (values.map quoteB)).size ≤ 20000000 := by
  have h1 := lstB_size (values.map quoteB)
  rw [List.map_map] at h1
  have h2 : (values.map ((fun x : ByteArray => x.size + 1) ∘ quoteB)).sum ≤ (values.map fun _ => 6003).sum := sum_le _ (fun v hv' => by
    have h6 := hv v hv'
    have h7 := quoteB_le v
    show (quoteB v).size + 1 ≤ _
    omega)
  have h3 : (values.map fun _ => 6003).sum = 6003 * values.length := by
    clear h1 h2 hl hv
    induction values with
    | nil => rfl
    | cons x l ih => rw [List.map_cons, List.sum_cons, ih, List.length_cons]; omega
  have h5 := Nat.mul_le_mul_left 6003 hl
  have h6 := Nat.le_trans h1 (Nat.add_le_add_right (Nat.le_trans h2 (Nat.le_trans (Nat.le_of_eq h3) h5)) 2)
  omega
end
section
open Go.RowKit
def SxRel (ks : List ByteArray) (k : ByteArray) (W : World) (i : Value) (wr : World) : Prop := ∃ j : Nat, i = .int .i64 j ∧ j ≤ ks.length ∧ wr = W ∧ ∀ m y, m < j → ks[m]? = some y → y ≠ k
set_option maxRecDepth 100000 in
theorem strIdx_any (w : World) (a : Option Addr) (cap : Nat) (ks : List ByteArray) (k : ByteArray) (hr : 0 < ks.length → ∃ b off, a = some ⟨b, off, none⟩ ∧ ∀ (i : Nat) x, ks[i]? = some x → w.cell? ⟨b, off + i, none⟩ = some (.string x)) (hm : ks.length ≤ 1000000) :
    Calls Tryz.prog 83 #[.slice a ks.length cap, .string k] w fun e w' => (∃ j : Int, e = .returned (.int .i64 j) ∧ decide (j ≥ 0) = hasL ks k) ∧ w' = w := by
  have HR := Lib.hid hr
  clear hr
  go_enter Tryz.func83, Tryz.ntmps83
  go_wp2_with fail
  go_loopw [8] (SxRel ks k w) (fun i _ => ks.length - (intOf i).toNat)
  case atStart => exact ⟨0, rfl, Nat.zero_le _, rfl, fun m y h => by omega⟩
  case round =>
    obtain ⟨j, rfl, hj, rfl, hno⟩ := hrel
    have HNO := Lib.hid hno
    clear hno
    by_cases hlt : j < ks.length
    · have t1 : decide ((j : Int) < (ks.length : Int)) = true := decide_eq_true (by omega)
      have t1' : decide (j < ks.length) = true := decide_eq_true hlt
      have q1 : IntKind.i64.wrap ((j : Int) + 1) = (j : Int) + 1 := IntWalk.i64_in _ (by omega)
      obtain ⟨b, off, rfl, hc⟩ := HR.out (by omega)
      obtain ⟨x, hx⟩ := get_ex ks j hlt
      have c1 := hc j x hx
      have HX := Lib.hid hx
      clear hx hc
      by_cases hxp : k = x
      · have HM := Lib.hid (hasL_t (by rw [hxp]; exact List.mem_of_getElem? HX.out : k ∈ ks))
        have t := beqS_t hxp
        clear hxp
        go_wp2
        go_ret
        exact ⟨⟨_, rfl, by rw [HM.out]; exact decide_eq_true (by omega)⟩, rfl⟩
      · have t := beqS_f hxp
        have HXP := Lib.hid hxp
        clear hxp
        go_wp2
        refine ⟨?_, by simp [intOf]; omega⟩
        have R : SxRel ks k wr (.int .i64 ((j : Int) + 1)) wr := ⟨j + 1, by go_num, hlt, rfl, fun m y hm hy => by
          by_cases e : m = j
          · subst e; rw [HX.out] at hy; cases hy; exact fun h => HXP.out h.symm
          · exact HNO.out m y (by omega) hy⟩
        first | exact R | ((repeat apply Exists.intro); exact ⟨R, rfl⟩)
    · have t1 : decide ((j : Int) < (ks.length : Int)) = false := decide_eq_false (by omega)
      have t1' : decide (j < ks.length) = false := decide_eq_false hlt
      have HM := Lib.hid (hasL_f (fun hm : k ∈ ks => by
        obtain ⟨m, hml, he⟩ := List.mem_iff_getElem.1 hm
        exact HNO.out m k (by omega) (by rw [List.getElem?_eq_getElem hml, he]) rfl))
      go_wp2
      go_ret
      exact ⟨⟨_, rfl, by rw [HM.out]; rfl⟩, rfl⟩
set_option maxRecDepth 100000 in
theorem strHas_any (w : World) (a : Option Addr) (n cap : Nat) (ks : List ByteArray) (k : ByteArray) (hn : ks.length = n) (hr : 0 < ks.length → ∃ b off, a = some ⟨b, off, none⟩ ∧ ∀ (i : Nat) x, ks[i]? = some x → w.cell? ⟨b, off + i, none⟩ = some (.string x)) (hm : ks.length ≤ 1000000) :
    Calls Tryz.prog 51 #[.slice a n cap, .string k] w fun e w' => e = .returned (.bool (hasL ks k)) ∧ w' = w := by
  have K := strIdx_any w a cap ks k hr hm
  rw [hn] at K
  obtain ⟨t, ht⟩ : ∃ t, hasL ks k = t := ⟨_, rfl⟩
  rw [ht] at K ⊢
  have K := Lib.hid K
  clear ht hr hm hn
  go_enter Tryz.func51, Tryz.ntmps51
  go_wp2_with fail
  refine K.out.mono ?_
  rintro _ w2 ⟨⟨j, rfl, hj⟩, rfl⟩
  go_wp2
  go_ret
  exact ⟨by rw [← hj]; rfl, rfl⟩
set_option maxRecDepth 100000 in
theorem cright_any (s : ByteArray) (w : World) (he : ScEnv w) (hm : s.size ≤ 1000000) :
    Calls Tryz.prog 52 #[.string s] w fun e w' => e = .returned (.bool (okC s)) ∧ Below w.heap.size w w' := by
  obtain ⟨W0, cap, hcv, hcap, hb0, hz0, hcell⟩ := bytes_of_string s w
  have L := rd_of_cells (S := Own W0) (B := s) (b := w.heap.size) hz0 hcap hcell
  have VD := uvalid_any _ s W0 L (he.ext hb0).tabs hm
  obtain ⟨R, hR⟩ : ∃ R, charsS s 0 [] = R := ⟨_, rfl⟩
  have hok : okC s = match (motive := Sc (List Nat) → Bool) R with | .ok _ => true | .no _ _ => false := by unfold okC; rw [hR]; all_goals (cases R <;> rfl)
  rw [hR] at VD
  obtain ⟨t, ht⟩ : ∃ t, okC s = t := ⟨_, rfl⟩
  rw [ht] at hok ⊢
  have VD := Lib.hid VD; have HB0 := Lib.hid hb0; have HT := Lib.hid hok
  clear he hm L hb0 hz0 hcell hcap hR ht hok
  go_enter Tryz.func52, Tryz.ntmps52
  go_wp2_with fail
  go_at_call 84
  refine VD.out.mono ?_
  intro e w1 hp
  cases R with
  | ok l =>
    obtain ⟨rfl, hb⟩ := hp
    have HB := Lib.hid (HB0.out.trans (hb.mono HB0.out.size))
    clear hb
    go_wp2
    go_ret
    exact ⟨by rw [HT.out]; rfl, HB.out⟩
  | no k p =>
    obtain ⟨u, rfl, hf⟩ := hp
    have HB := Lib.hid (HB0.out.trans (hf.2.mono HB0.out.size))
    clear hf
    go_wp2
    go_ret
    exact ⟨by rw [HT.out]; rfl, HB.out⟩
set_option maxRecDepth 100000 in
theorem rcB (s : ByteArray) (w : World) (e : Ending) (w' : World) (h : RcPost w (charsS s 0 []) e w') : ∃ v x, e = .returned (.tuple #[v, .int .i64 x]) ∧ decide (x < 0) = okC s ∧ Below w.heap.size w w' := by
  obtain ⟨hb, h⟩ := h
  unfold okC
  cases hc : charsS s 0 [] with
  | ok l => rw [hc] at h; obtain ⟨v, rfl⟩ := h; exact ⟨v, _, rfl, by simp, hb⟩
  | no k i => rw [hc] at h; obtain ⟨v, rfl⟩ := h; exact ⟨v, _, rfl, decide_eq_false (by have := charsS_no8 hc; omega), hb⟩
set_option maxRecDepth 100000 in
theorem rright8_any (s1 s2 : ByteArray) (w : World) (hm1 : s1.size ≤ 1000000) (hm2 : s2.size ≤ 1000000) :
    Calls Tryz.prog 57 #[.string s1, .string s2] w fun e w' => e = .returned (.bool (okC s1 && okC s2)) ∧ Below w.heap.size w w' := by
  obtain ⟨W0, cap, hcv, hcap, hb0, hz0, hcell⟩ := bytes_of_string s1 w
  have L := rd_of_cells (S := Own W0) (B := s1) (b := w.heap.size) hz0 hcap hcell
  have RC := Lib.hid ((rchars_any _ s1 W0 L hm1).mono (fun e w' h => rcB s1 W0 e w' h))
  have HB0 := Lib.hid hb0; have HM2 := Lib.hid hm2
  obtain ⟨t, ht⟩ : ∃ t, (okC s1 && okC s2) = t := ⟨_, rfl⟩
  rw [ht]
  have HT := Lib.hid ht
  clear ht hm1 hm2 L hb0 hz0 hcell hcap
  go_enter Tryz.func57, Tryz.ntmps57
  go_wp2_with fail
  go_at_call 96
  refine RC.out.mono ?_
  rintro _ w1 ⟨v1, x1, rfl, hx1, hb1⟩
  have HB1 := Lib.hid (HB0.out.trans (hb1.mono HB0.out.size))
  clear hb1 RC hcv
  obtain ⟨W2, cap2, hcv, hcap, hb2, hz2, hcell⟩ := bytes_of_string s2 w1
  have L := rd_of_cells (S := Own W2) (B := s2) (b := w1.heap.size) hz2 hcap hcell
  have RC := Lib.hid ((rchars_any _ s2 W2 L HM2.out).mono (fun e w' h => rcB s2 W2 e w' h))
  have HB2 := Lib.hid (HB1.out.trans (hb2.mono HB1.out.size))
  clear L hb2 hz2 hcell hcap
  go_wp2_with fail
  go_at_call 96
  refine RC.out.mono ?_
  rintro _ w3 ⟨v3, x3, rfl, hx3, hb3⟩
  have HB3 := Lib.hid (HB2.out.trans (hb3.mono HB2.out.size))
  clear hb3 RC hcv
  cases h1 : okC s1 with
  | true =>
    rw [h1] at hx1
    cases h2 : okC s2 with
    | true =>
      rw [h2] at hx3
      go_wp2
      go_ret
      exact ⟨by rw [← HT.out, h1, h2]; rfl, HB3.out⟩
    | false =>
      rw [h2] at hx3
      go_wp2
      go_ret
      exact ⟨by rw [← HT.out, h1, h2]; rfl, HB3.out⟩
  | false =>
    rw [h1] at hx1
    go_wp2
    go_ret
    exact ⟨by rw [← HT.out, h1]; rfl, HB3.out⟩
end
end Go.Proofs.YtheoaijheijojaaGreatDoor
