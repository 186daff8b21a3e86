/- Cp0, Cpw0 in one text (a claim holds at most 60 files). -/
import Derived.Test.YtheoaijheijojaaGreatDoorZMore
import Derived.Test.YtheoaijheijojaaGreatDoorZCn8s
import Derived.Test.YtheoaijheijojaaGreatDoorZSrt0s
import Derived.Test.YtheoaijheijojaaGreatDoorZCnx0
import Derived.Test.YtheoaijheijojaaGreatDoorZJrM5
namespace Go.Proofs.YtheoaijheijojaaGreatDoor
section
open Go.RowKit
theorem strV_rds {S : Nat → Prop} {w : World} (l : List ByteArray) : Rds S w (strV l) (l.map .str) :=
  ⟨by simp [strV], fun j u d hu hd => by
    simp only [strV, List.getElem?_map] at hu hd
    cases hx : l[j]? with
    | none => rw [hx] at hu; cases hu
    | some x => rw [hx] at hu hd; cases hu; cases hd; exact .str _⟩
end
section
open Go.RowKit
/-! ### Digits are read as their number -/
theorem digV_fig {d : Nat} (h : d < 10) : digV (48 + d) = d := by
  unfold digV; rw [if_pos ⟨by omega, by omega⟩]; omega
theorem numVal_dec (n : Nat) : ∀ j, j ≤ lenD n → numVal 10 (decB n) j = n / 10 ^ (lenD n - j)
  | 0, _ => by
    show 0 = _
    exact ((lenD_iff n (lenD n) (lenD_pos n)).1 (Nat.le_refl _)).symm
  | j + 1, h => by
    rw [numVal, numVal_dec n j (by omega)]
    unfold decB
    rw [decS_at (by omega), digV_fig (Nat.mod_lt _ (by decide))]
    have e1 : lenD n - 1 - j = lenD n - (j + 1) := by omega
    have e2 : lenD n - j = (lenD n - (j + 1)) + 1 := by omega
    rw [e1, e2, Nat.pow_succ, ← Nat.div_div_eq_div_mul]
    omega
theorem number_dec {n most : Nat} (h : n ≤ most) : numberF 10 most (decB n) = .ok n := by
  have hz : (decB n).size = lenD n := decS_size _ _
  have hp := lenD_pos n
  rw [numberF_end (by omega) (fun m hm => by
    unfold notDigit
    rw [decide_eq_false_iff_not]
    rw [hz] at hm
    unfold decB
    rw [decS_at hm, digV_fig (Nat.mod_lt _ (by decide))]
    have := Nat.mod_lt (n / 10 ^ (lenD n - 1 - m)) (show 0 < 10 by decide)
    omega)]
  have := numVal_dec n (lenD n) (Nat.le_refl _)
  rw [Nat.sub_self, Nat.pow_zero, Nat.div_one] at this
  rw [hz, this, if_neg (by omega)]
/-! ### Steps and paths -/
def slB : ByteArray := ⟨#[47]⟩
def noSl (k : ByteArray) : Bool := !(k.data.toList.any fun c => c == 47)
def stepsL (js : List JN) (ups : List Nat) (i : Nat) : List (ByteArray × Nat) :=
  if (textA js i).kind = 6 then ((membersS js (kids ups i)).filter fun k => noSl (keyA js k)).map fun k => (slB ++ keyA js k, k)
  else if (textA js i).kind = 5 then (kids ups i).zipIdx.map fun x => (slB ++ decB x.2, x.1) else []
def pathsF (js : List JN) (ups : List Nat) : Nat → Nat → List ByteArray
  | 0, _ => []
  | f + 1, i => ⟨#[]⟩ :: (stepsL js ups i).flatMap fun x => (pathsF js ups f x.2).map fun p => x.1 ++ p
theorem steps_mem {js : List JN} {ups : List Nat} {i : Nat} {x : ByteArray × Nat} (h : x ∈ stepsL js ups i) : x.2 ∈ kids ups i := by
  unfold stepsL at h
  split at h
  · obtain ⟨k, hk, rfl⟩ := List.mem_map.1 h
    exact (List.mem_filter.1 (List.mem_filter.1 hk).1).1
  · split at h
    · obtain ⟨y, hy, rfl⟩ := List.mem_map.1 h
      exact List.fst_mem_of_mem_zipIdx hy
    · simp at h
def segsP (p : ByteArray) : List ByteArray := if p.size = 0 then [] else segsB (p.extract 1 p.size)
theorem ext_one8 (s q : ByteArray) : (slB ++ s ++ q).extract 1 (slB ++ s ++ q).size = s ++ q := by
  apply bytes_ext
  rw [ext_tail, ByteArray.data_append, ByteArray.data_append, ByteArray.data_append, Array.toList_append, Array.toList_append, Array.toList_append]
  rfl
theorem noSl_iff {k : ByteArray} : noSl k = true ↔ ∀ c ∈ k.data.toList, c ≠ 47 := by
  unfold noSl
  rw [Bool.not_eq_true', List.any_eq_false]
  exact ⟨fun h c hc e => h c hc (by rw [e]; rfl), fun h c hc e => h c hc (by simpa using e)⟩
theorem segsP_step {s q : ByteArray} (hs : noSl s = true) (hq : q.size = 0 ∨ byteAt q 0 = 47) : segsP (slB ++ s ++ q) = s :: segsP q := by
  have hz : (slB ++ s ++ q).size = 1 + s.size + q.size := by rw [ByteArray.size_append, ByteArray.size_append]; rfl
  unfold segsP
  rw [if_neg (by omega), ext_one8]
  rw [noSl_iff] at hs
  unfold segsB
  rw [ByteArray.data_append, Array.toList_append]
  by_cases h0 : q.size = 0
  · rw [if_pos h0]
    have e : q.data.toList = [] := by
      rw [← List.length_eq_zero_iff, Array.length_toList]; exact h0
    rw [e, List.append_nil, segL_none hs]
    cases s; rfl
  · rw [if_neg h0]
    have h47 : byteAt q 0 = 47 := by rcases hq with h | h; exact absurd h h0; exact h
    have hl : 0 < q.data.toList.length := by rw [Array.length_toList]; exact Nat.pos_of_ne_zero h0
    obtain ⟨c, l, hcl⟩ : ∃ c l, q.data.toList = c :: l := by
      cases hd : q.data.toList with
      | nil => rw [hd] at hl; simp at hl
      | cons c l => exact ⟨c, l, rfl⟩
    have hc : c = 47 := by
      unfold byteAt at h47
      rw [← Array.getElem?_toList, hcl] at h47
      apply UInt8.toNat_inj.1
      simpa using h47
    subst hc
    rw [hcl, segL_hit hs, List.map_cons]
    congr 1
    rw [ext_tail, hcl]
    rfl
theorem dec_noSl (n : Nat) : noSl (decB n) = true := by
  rw [noSl_iff]
  intro c hc e
  subst e
  unfold decB decS decL at hc
  simp only at hc
  obtain ⟨j, _, hj⟩ := List.mem_map.1 hc
  have h10 := Nat.mod_lt (n / 10 ^ (lenD n - 1 - j)) (show 0 < 10 by decide)
  have := congrArg UInt8.toNat hj
  simp at this
  omega
theorem pathsF_form {js : List JN} {ups : List Nat} : ∀ (f i : Nat) (p : ByteArray), p ∈ pathsF js ups f i → p.size = 0 ∨ byteAt p 0 = 47
  | 0, i, p, h => by simp [pathsF] at h
  | f + 1, i, p, h => by
    rw [pathsF] at h
    rcases List.mem_cons.1 h with rfl | h
    · exact .inl rfl
    · obtain ⟨x, hx, hp⟩ := List.mem_flatMap.1 h
      obtain ⟨q, hq, rfl⟩ := List.mem_map.1 hp
      right
      have hx1 : ∃ s, x.1 = slB ++ s := by
        unfold stepsL at hx
        split at hx
        · obtain ⟨k, hk, rfl⟩ := List.mem_map.1 hx
          exact ⟨_, rfl⟩
        · split at hx
          · obtain ⟨y, hy, rfl⟩ := List.mem_map.1 hx
            exact ⟨_, rfl⟩
          · simp at hx
      obtain ⟨s, hs⟩ := hx1
      rw [hs, ByteArray.append_assoc]
      have := byteAt_pre slB (s ++ q) 0 (by decide)
      rw [this]; rfl
/-- Each path leads to a value. -/
theorem path_leads {js : List JN} {ups : List Nat} (hul : ups.length = js.length) (hsz : js.length ≤ 1000000) : ∀ (f i : Nat) (p : ByteArray) (a : Int), i < js.length → p ∈ pathsF js ups f i → (pathL js ups (segsP p) a i).2.1 = 0
  | 0, i, p, a, _, h => by simp [pathsF] at h
  | f + 1, i, p, a, hi, h => by
    rw [pathsF] at h
    rcases List.mem_cons.1 h with rfl | h
    · rw [show segsP ⟨#[]⟩ = [] from rfl]; rfl
    · obtain ⟨x, hx, hp⟩ := List.mem_flatMap.1 h
      obtain ⟨q, hq, rfl⟩ := List.mem_map.1 hp
      have hxk := steps_mem hx
      have hkl := (mem_kids.1 hxk).2.1
      have hform := pathsF_form f x.2 q hq
      have ih := fun a => path_leads hul hsz f x.2 q a (by omega) hq
      have key : ∀ s, x.1 = slB ++ s → noSl s = true → stepS js ups i s = (((x.2 : Nat) : Int), (0 : Int)) → (pathL js ups (segsP (x.1 ++ q)) a i).2.1 = 0 := fun s h1 h2 h3 => by
        rw [h1, segsP_step h2 hform, pathL, h3, if_pos rfl]
        exact ih _
      have hin : (0 : Int) ≤ (i : Int) ∧ (i : Int) < js.length := by omega
      unfold stepsL at hx
      split at hx
      · rename_i h6
        obtain ⟨k, hk, rfl⟩ := List.mem_map.1 hx
        obtain ⟨hkm, hns⟩ := List.mem_filter.1 hk
        obtain ⟨hkk, hlast⟩ := List.mem_filter.1 hkm
        refine key (keyA js k) rfl hns ?_
        have ha : anyK js (kids ups i) (keyA js k) = true := List.any_eq_true.2 ⟨k, hkk, decide_eq_true rfl⟩
        unfold stepS
        rw [if_pos hin, Int.toNat_natCast, if_pos h6, if_pos ha]
        unfold isLast at hlast
        rw [beq_iff_eq.1 hlast]
      · split at hx
        · rename_i h6 h5
          obtain ⟨y, hy, rfl⟩ := List.mem_map.1 hx
          obtain ⟨k, n⟩ := y
          have hg : (kids ups i)[n]? = some k := List.mk_mem_zipIdx_iff_getElem?.1 hy
          obtain ⟨hn, hk⟩ := List.getElem?_eq_some_iff.1 hg
          have hkl2 := kids_le ups i
          refine key (decB n) rfl (dec_noSl n) ?_
          unfold stepS
          rw [if_pos hin, Int.toNat_natCast, if_neg h6, if_pos h5, number_dec (by omega)]
          simp only
          rw [dif_pos hn, hk]
        · simp at hx
theorem path_leadsS {js : List JN} {ups : List Nat} (hul : ups.length = js.length) (hsz : js.length ≤ 1000000) {f i : Nat} {p : ByteArray} (hi : i < js.length) (h : p ∈ pathsF js ups f i) : (pathS js ups i p).2.1 = 0 := by
  have hl := path_leads hul hsz f i p 0 hi h
  unfold pathS
  by_cases h0 : p.size = 0
  · rw [if_pos h0, if_pos ⟨by omega, by omega⟩]
  · rw [if_neg h0, if_pos (by rcases pathsF_form f i p h with h1 | h1; exact absurd h1 h0; exact h1)]
    unfold segsP at hl
    rw [if_neg h0] at hl
    exact hl
/-! ### Sizes -/
def gP (js : List JN) (k : Nat) : Nat := (keyA js k).size + 21
theorem step_size {js : List JN} {ups : List Nat} {i : Nat} (hl : ups.length ≤ 1000000) {x : ByteArray × Nat} (h : x ∈ stepsL js ups i) : x.1.size ≤ gP js x.2 := by
  unfold stepsL at h
  split at h
  · obtain ⟨k, hk, rfl⟩ := List.mem_map.1 h
    show (slB ++ keyA js k).size ≤ (keyA js k).size + 21
    rw [ByteArray.size_append]
    show 1 + _ ≤ _
    omega
  · split at h
    · obtain ⟨y, hy, rfl⟩ := List.mem_map.1 h
      obtain ⟨k, n⟩ := y
      have hg : (kids ups i)[n]? = some k := List.mk_mem_zipIdx_iff_getElem?.1 hy
      have hn := (List.getElem?_eq_some_iff.1 hg).1
      have hkl2 := kids_le ups i
      have := lenD_le (n := n) (by omega)
      show (slB ++ decB n).size ≤ (keyA js k).size + 21
      rw [ByteArray.size_append, show (decB n).size = lenD n from decS_size _ _]
      show 1 + _ ≤ _
      omega
    · simp at h
theorem sum_mem {α : Type} {g : α → Nat} : ∀ {l : List α} {x : α}, x ∈ l → g x ≤ (l.map g).sum
  | y :: l, x, h => by
    rw [List.map_cons, List.sum_cons]
    rcases List.mem_cons.1 h with rfl | h
    · omega
    · have := sum_mem (g := g) h; omega
theorem path_size {js : List JN} {ups : List Nat} (hw : WfUps ups) (hl : ups.length ≤ 1000000) : ∀ (f i : Nat) (p : ByteArray), ups.length - i ≤ f → i < ups.length → p ∈ pathsF js ups f i → p.size + gP js i ≤ ((pre ups f i).map (gP js)).sum
  | 0, i, p, hf, hi, h => by omega
  | f + 1, i, p, hf, hi, h => by
    rw [pathsF] at h
    rw [show pre ups (f + 1) i = i :: (kids ups i).flatMap (pre ups f) from rfl, List.map_cons, List.sum_cons]
    rcases List.mem_cons.1 h with rfl | h
    · show 0 + _ ≤ _; omega
    · obtain ⟨x, hx, hp⟩ := List.mem_flatMap.1 h
      obtain ⟨q, hq, rfl⟩ := List.mem_map.1 hp
      have hxk := steps_mem hx
      have hgt := kids_gt hw hxk
      have hlt := (mem_kids.1 hxk).2.1
      have ih := path_size hw hl f x.2 q (by omega) hlt hq
      have hst := step_size hl hx
      rw [sumW_flat, ByteArray.size_append]
      have := sum_mem (g := fun k => ((pre ups f k).map (gP js)).sum) hxk
      omega
theorem sum_gP (js : List JN) : ((List.range js.length).map (gP js)).sum ≤ wt js + 21 * js.length := by
  have e : (List.range js.length).map (gP js) = js.map fun x => x.key.size + 21 := by
    apply List.ext_getElem
    · simp
    · intro i h1 h2
      have hi : i < js.length := by simpa using h2
      simp only [List.getElem_map, List.getElem_range]
      unfold gP keyA
      rw [List.getElem?_eq_getElem hi]
  rw [e]
  unfold wt
  have key : ∀ l : List JN, (l.map fun x => x.key.size + 21).sum ≤ (l.map fun x => x.key.size + x.text.size).sum + 21 * l.length := fun l => by
    induction l with
    | nil => exact Nat.le_refl _
    | cons x l ih => simp only [List.map_cons, List.sum_cons, List.length_cons]; omega
  exact key js
theorem path_le {js : List JN} {ups : List Nat} (hw : WfUps ups) (hul : ups.length = js.length) (hl : ups.length ≤ 1000000) {f i : Nat} {p : ByteArray} (hf : ups.length - i ≤ f) (hi : i < ups.length) (h : p ∈ pathsF js ups f i) : p.size ≤ wt js + 21 * js.length := by
  have h1 := path_size hw hl f i p hf hi h
  have h2 : ((pre ups f i).map (gP js)).sum ≤ ((List.range js.length).map (gP js)).sum := sum_sub (pre_nodup hw f i hi) (fun x hx => List.mem_range.2 (by rw [← hul]; exact (pre_range hw f i x hi hx).2))
  have h3 := sum_gP js
  omega
theorem sum_filter_len {α β : Type} (p : α → Bool) (g : α → List β) : ∀ l : List α, ((l.filter p).flatMap g).length ≤ (l.flatMap g).length
  | [] => Nat.le_refl _
  | x :: l => by
    have := sum_filter_len p g l
    rw [List.filter_cons, List.flatMap_cons, List.length_append]
    split
    · rw [List.flatMap_cons, List.length_append]; omega
    · omega
theorem zip_fst (l : List Nat) : l.zipIdx.map Prod.fst = l := by
  apply List.ext_getElem?
  intro i
  rw [List.getElem?_map, List.getElem?_zipIdx]
  cases l[i]? <;> rfl
theorem paths_len {js : List JN} {ups : List Nat} (hw : WfUps ups) : ∀ (f i : Nat), (pathsF js ups f i).length ≤ (pre ups f i).length
  | 0, i => Nat.zero_le _
  | f + 1, i => by
    rw [pathsF, show pre ups (f + 1) i = i :: (kids ups i).flatMap (pre ups f) from rfl, List.length_cons, List.length_cons]
    have e : ((stepsL js ups i).flatMap fun x => (pathsF js ups f x.2).map fun p => x.1 ++ p).length = (((stepsL js ups i).map (·.2)).flatMap (pathsF js ups f)).length := by
      rw [List.flatMap_map, List.length_flatMap, List.length_flatMap]
      congr 1
      refine List.map_congr_left (fun x _ => ?_)
      rw [List.length_map]
    have hk : (((stepsL js ups i).map (·.2)).flatMap (pathsF js ups f)).length ≤ ((kids ups i).flatMap (pathsF js ups f)).length := by
      unfold stepsL
      split
      · rw [List.map_map]
        have e2 : ((fun x : ByteArray × Nat => x.2) ∘ fun k => (slB ++ keyA js k, k)) = id := rfl
        rw [e2, List.map_id]
        exact Nat.le_trans (sum_filter_len _ _ _) (sum_filter_len _ _ _)
      · split
        · rw [List.map_map]
          have e2 : ((fun x : ByteArray × Nat => x.2) ∘ fun x : Nat × Nat => (slB ++ decB x.2, x.1)) = Prod.fst := rfl
          rw [e2, zip_fst]
          exact Nat.le_refl _
        · exact Nat.zero_le _
    have h2 : ((kids ups i).flatMap (pathsF js ups f)).length ≤ ((kids ups i).flatMap (pre ups f)).length := by
      rw [List.length_flatMap, List.length_flatMap]
      exact sum_le _ (fun k _ => paths_len hw f k)
    omega
/-! ### None but lists and objects have values beneath them -/
structure LK (s : PS) : Prop where
  ups : ∀ (k u : Nat), 0 < k → s.ups[k]? = some u → ∃ x, s.js[u]? = some x ∧ 5 ≤ x.kind
  st : ∀ o ∈ s.stack, 0 ≤ o.id → ∃ x, s.js[o.id.toNat]? = some x ∧ 5 ≤ x.kind
theorem LK.top {s : PS} {o : Op} {r : List Op} (h : LK s) (hs : s.stack = o :: r) : (∀ p ∈ r, 0 ≤ p.id → ∃ x, s.js[p.id.toNat]? = some x ∧ 5 ≤ x.kind) ∧ (0 ≤ o.id → ∃ x, s.js[o.id.toNat]? = some x ∧ 5 ≤ x.kind) :=
  ⟨fun p hp => h.st p (by rw [hs]; simp [hp]), h.st o (by rw [hs]; simp)⟩
theorem take_lk {B : ByteArray} {m : Bd} {s s' : PS} {t : Tok} (hb : BI s) (hl : LK s) (h : takeS B m s t = .ok s') : LK s' := by
  unfold takeS at h
  cases hs : s.stack with
  | nil => rw [hs] at h; cases h; exact hl
  | cons o r =>
    rw [hs] at h
    simp only at h
    obtain ⟨hr, ho⟩ := hl.top hs
    have keep : ∀ st : List Op, (∀ p ∈ st, 0 ≤ p.id → ∃ x, s.js[p.id.toNat]? = some x ∧ 5 ≤ x.kind) → LK ⟨s.js, s.ups, st⟩ := fun st h => ⟨hl.ups, h⟩
    have aft : ∀ {r : List Op}, (∀ p ∈ r, 0 ≤ p.id → ∃ x, s.js[p.id.toNat]? = some x ∧ 5 ≤ x.kind) → ∀ p ∈ afterS r, 0 ≤ p.id → ∃ x, s.js[p.id.toNat]? = some x ∧ 5 ≤ x.kind := fun {r} h => by
      cases r with
      | nil => exact h
      | cons q r =>
        intro p hp
        rcases List.mem_cons.1 hp with rfl | hp
        · exact h q (by simp)
        · exact h p (by simp [hp])
    have con : ∀ {q : Op}, (0 ≤ q.id → ∃ x, s.js[q.id.toNat]? = some x ∧ 5 ≤ x.kind) → ∀ p ∈ q :: r, 0 ≤ p.id → ∃ x, s.js[p.id.toNat]? = some x ∧ 5 ≤ x.kind := fun h p hp => by
      rcases List.mem_cons.1 hp with rfl | hp
      · exact h
      · exact hr p hp
    have hwr : ∀ {b : PS}, (wrongS t : Sc PS) = .ok b → LK b := fun h => by unfold wrongS at h; split at h <;> cases h
    have up : ∀ {js : List JN} {x : JN} {i : Nat}, (∃ y, js[i]? = some y ∧ 5 ≤ y.kind) → ∃ y, (js ++ [x])[i]? = some y ∧ 5 ≤ y.kind := fun ⟨y, h1, h2⟩ => ⟨y, by
      rw [List.getElem?_append_left (List.getElem?_eq_some_iff.1 h1).1]; exact h1, h2⟩
    have hv : o.st ≠ 5 → valueS B m s o r t = .ok s' → LK s' := fun h5 h => by
      have hid := hb.pi.id hs h5
      unfold valueS at h
      split at h
      · exact hwr h
      · rename_i kk hkk
        have hups : ∀ (k u : Nat), 0 < k → (s.ups ++ [o.id.toNat])[k]? = some u → ∃ x, (s.js ++ [nodeS B o kk t])[u]? = some x ∧ 5 ≤ x.kind := fun k u h0 hk => by
          by_cases hlt : k < s.ups.length
          · rw [List.getElem?_append_left hlt] at hk
            exact up (hl.ups k u h0 hk)
          · rw [List.getElem?_append_right (by omega)] at hk
            have hk2 := (List.getElem?_eq_some_iff.1 hk).1
            rw [List.length_singleton] at hk2
            have : k - s.ups.length = 0 := by omega
            rw [this, List.getElem?_cons_zero] at hk
            have hu := Option.some.inj hk
            subst hu
            rcases hid with h1 | ⟨_, h2⟩
            · exact up (ho (by omega))
            · have hbl := hb.len
              rw [h2] at hbl
              simp at hbl
              rw [hbl] at hlt
              simp at hlt
              have : s.ups.length = 0 := by rw [hbl]; rfl
              omega
        split at h
        · cases h
        · split at h
          · cases h
            exact ⟨hups, fun p hp h0 => up (aft (con ho) p hp h0)⟩
          · rename_i h5k
            split at h
            · cases h
            · cases h
              refine ⟨hups, fun p hp h0 => ?_⟩
              rcases List.mem_cons.1 hp with rfl | hp
              · refine ⟨nodeS B o kk t, ?_, by show 5 ≤ kk; omega⟩
                show (s.js ++ [nodeS B o kk t])[((s.js.length : Int)).toNat]? = _
                rw [Int.toNat_natCast, List.getElem?_append_right (Nat.le_refl _), Nat.sub_self]; rfl
              · exact up (con ho p hp h0)
    have hy : keyS B s o r t = .ok s' → LK s' := fun h => by
      unfold keyS at h
      split at h
      · exact hwr h
      · split at h
        · cases h; exact keep _ (con (q := { o with st := 3, key := _ }) ho)
        · cases h
    have hbt : betweenS s o r t = .ok s' → LK s' := fun h => by
      unfold betweenS at h
      split at h
      · cases h; exact keep _ (aft hr)
      · split at h
        · exact hwr h
        · cases h; exact keep _ (con (q := { o with st := _ }) ho)
    split at h
    · split at h
      · cases h; exact hl
      · exact hwr h
    · rename_i n5
      split at h
      · split at h
        · cases h; exact keep _ (con (q := { o with st := 1 }) ho)
        · exact hwr h
      · split at h
        · exact hbt h
        · split at h
          · split at h
            · cases h; exact keep _ (aft hr)
            · split at h
              · exact hy h
              · exact hv n5 h
          · split at h
            · exact hy h
            · exact hv n5 h
theorem run_lk {B : ByteArray} {m : Bd} : ∀ f i s s', BI s → LK s → runF B m f i s = .ok s' → LK s'
  | 0, i, s, s', _, hl, h => by cases h; exact hl
  | f + 1, i, s, s', hb, hl, h => by
    rw [runF] at h
    obtain ⟨t, hn, h⟩ := Sc.bind_eq_ok h
    obtain ⟨s2, ht, h⟩ := Sc.bind_eq_ok h
    have h2 := take_lk hb hl ht
    split at h
    · cases h; exact h2
    · exact run_lk f _ s2 s' (step_ok hb ht).bi h2 h
theorem leaf_kids {B : ByteArray} {m : Bd} {s : PS} (h : parseS B m = .ok s) {i : Nat} (hk : (textA s.js i).kind < 5) : kids s.ups i = [] := by
  unfold parseS at h
  split at h
  · cases h
  · have L := run_lk _ _ _ _ bi0 ⟨fun k u _ h => by simp [ps0] at h, fun o ho h0 => by simp [ps0] at ho; subst ho; simp at h0⟩ h
    refine List.eq_nil_iff_forall_not_mem.2 (fun k hm => ?_)
    obtain ⟨h0, h1, h2⟩ := mem_kids.1 hm
    obtain ⟨x, hx, h5⟩ := L.ups k i h0 h2
    unfold textA at hk
    rw [hx] at hk
    have : (some x).getD jz = x := rfl
    rw [this] at hk
    omega
end
section
open Go.RowKit
theorem elInt8 : ElemTy Tryz.prog 52 3 1 8 (.int .i64 0) := ⟨Tryz.underlying52, by kernel_rfl, rfl, by decide⟩
/-- Two rows that a call owns: names and numbers. -/
def Disj (v u : Value) : Prop := ∀ g, v.ownBlock = some g → u.ownBlock ≠ some g
structure StAt (W : World) (l : List (ByteArray × Nat)) (v4 v5 : Value) (wr : World) : Prop where
  r4 : wr.ownsRow W.heap.size 9 1 v4 l.length (strV (l.map (·.1)))
  r5 : wr.ownsRow W.heap.size 3 1 v5 l.length (intsV (l.map (·.2)))
  dj : Disj v4 v5
  below : Below W.heap.size W wr
theorem StAt.nil (W : World) : StAt W [] (.slice none 0 0) (.slice none 0 0) W := ⟨World.ownsRow_nil W W.heap.size 9 1, World.ownsRow_nil W W.heap.size 3 1, (fun g h => by cases h), Below.refl _ _⟩
theorem StAt.ext {W wr w2 : World} {l : List (ByteArray × Nat)} {v4 v5 : Value} (h : StAt W l v4 v5 wr) (hb : Below wr.heap.size wr w2) : StAt W l v4 v5 w2 :=
  ⟨aown_ext h.r4 (fun q hq => hb.block q (h.r4.lt q hq).2) (Nat.le_refl _), aown_ext h.r5 (fun q hq => hb.block q (h.r5.lt q hq).2) (Nat.le_refl _), h.dj, h.below.trans (hb.mono h.below.size)⟩
theorem rd_strF {w0 w : World} {base : Nat} {v : Value} {l : List ByteArray} (hB : w0.heap.size ≤ base) (h : w.ownsRow base 9 1 v l.length (strV l)) : Rd (Fresh w0 w) w v (.list 1 (l.map .str)) := rd_owned h (strV_rds l) (fun g hg => ⟨Nat.le_trans hB (h.lt g hg).1, (h.lt g hg).2⟩)
theorem rd_intsF {w0 w : World} {base : Nat} {v : Value} {l : List Nat} (hB : w0.heap.size ≤ base) (h : w.ownsRow base 3 1 v l.length (intsV l)) : Rd (Fresh w0 w) w v (intsD l) := rd_owned h (intsV_rds l) (fun g hg => ⟨Nat.le_trans hB (h.lt g hg).1, (h.lt g hg).2⟩)
theorem kept_dj {w w' : World} {base : Nat} {e : TypeId} {sz n : Nat} {v u : Value} {xs : List Value} (h : w.ownsRow base e sz v n xs) (hg : w.grownBy w' u.ownBlock) (hd : ∀ g, v.ownBlock = some g → u.ownBlock ≠ some g) : w'.ownsRow base e sz v n xs := by
  refine World.ownsRow.kept h hg ?_
  cases hv : v.ownBlock with
  | none => exact .inl rfl
  | some g => exact .inr (fun e => hd g hv e.symm)
/-- The first row grown, then the second. -/
theorem StAt.push {W wr w1 w2 : World} {l : List (ByteArray × Nat)} {v4 v5 u4 u5 : Value} {nm : ByteArray} {k : Nat} {wa wb : World} (h : StAt W l v4 v5 wr)
    (ha : wa = wr.alloc (.cells #[.string nm] 9)) (o1 : w1.ownsRow W.heap.size 9 1 u4 (l.length + 1) (strV (l.map (·.1)) ++ [.string nm])) (g1 : wa.grownBy w1 v4.ownBlock) (at1 : u4.ownBlock = v4.ownBlock ∨ u4.ownBlock = some (wr.heap.size + 1))
    (hb : wb = w1.alloc (.cells #[.int .i64 (k : Nat)] 3)) (o2 : w2.ownsRow W.heap.size 3 1 u5 (l.length + 1) (intsV (l.map (·.2)) ++ [.int .i64 (k : Nat)])) (g2 : wb.grownBy w2 v5.ownBlock) (at2 : u5.ownBlock = v5.ownBlock ∨ u5.ownBlock = some (w1.heap.size + 1)) :
    StAt W (l ++ [(nm, k)]) u4 u5 w2 := by
  subst ha; subst hb
  have z4 : ∀ g, v4.ownBlock = some g → g < wr.heap.size := fun g hg => (h.r4.lt g hg).2
  have z5 : ∀ g, v5.ownBlock = some g → g < wr.heap.size := fun g hg => (h.r5.lt g hg).2
  have zu4 : ∀ g, u4.ownBlock = some g → g < w1.heap.size := fun g hg => (o1.lt g hg).2
  have hd1 : ∀ g, u4.ownBlock = some g → v5.ownBlock ≠ some g := fun g hg e => by
    rcases at1 with h1 | h1
    · rw [h1] at hg; exact h.dj g hg e
    · rw [h1] at hg
      have := z5 g e
      have e2 := Option.some.inj hg
      omega
  refine ⟨?_, by rw [List.length_append, List.map_append]; simpa [intsV] using o2, fun g hg e => ?_, ?_⟩
  · rw [List.length_append, List.map_append]
    have := kept_dj (o1.alloc (.cells #[.int .i64 (k : Nat)] 3)) g2 hd1
    simpa [strV] using this
  · rcases at2 with h2 | h2
    · rw [h2] at e; exact hd1 g hg e
    · rw [h2] at e
      have := zu4 g hg
      have e2 := Option.some.inj e
      omega
  · have b1 : Below W.heap.size W w1 := (ext_alloc h.below _).grown g1 (by have := h.below.size; simp; omega) (fun q hq => (h.r4.lt q hq).1)
    exact (ext_alloc b1 _).grown g2 (by have := b1.size; simp; omega) (fun q hq => (h.r5.lt q hq).1)
def SiRel (ks : List Nat) (W : World) (v4 v5 vj : Value) (wr : World) : Prop := ∃ j : Nat, vj = .int .i64 j ∧ j ≤ ks.length ∧ StAt W ((ks.take j).zipIdx.map fun x => (slB ++ decB x.2, x.1)) v4 v5 wr
def SmRel (js : List JN) (ms : List Nat) (W : World) (v4 v5 vj : Value) (wr : World) : Prop := ∃ j : Nat, vj = .int .i64 j ∧ j ≤ ms.length ∧ StAt W (((ms.take j).filter fun k => noSl (keyA js k)).map fun k => (slB ++ keyA js k, k)) v4 v5 wr
theorem zip_take {ks : List Nat} {j k : Nat} (h : ks[j]? = some k) : (ks.take (j + 1)).zipIdx.map (fun x => (slB ++ decB x.2, x.1)) = (ks.take j).zipIdx.map (fun x => (slB ++ decB x.2, x.1)) ++ [(slB ++ decB j, k)] := by
  have hj := (List.getElem?_eq_some_iff.1 h).1
  rw [List.take_add_one, h]
  simp only [Option.toList_some]
  rw [List.zipIdx_append, List.map_append, List.length_take_of_le (by omega)]
  simp
theorem fil_take {js : List JN} {ms : List Nat} {j k : Nat} (h : ms[j]? = some k) : (((ms.take (j + 1)).filter fun k => noSl (keyA js k)).map fun k => (slB ++ keyA js k, k)) = (((ms.take j).filter fun k => noSl (keyA js k)).map fun k => (slB ++ keyA js k, k)) ++ (if noSl (keyA js k) = true then [(slB ++ keyA js k, k)] else []) := by
  rw [List.take_add_one, h]
  simp only [Option.toList_some]
  rw [List.filter_append, List.map_append]
  congr 1
  rw [List.filter_cons]
  split <;> simp
theorem cont_any : ∀ l : List UInt8, (l.map (·.toNat)).contains 47 = l.any fun c => c == 47
  | [] => rfl
  | c :: l => by
    rw [List.map_cons, List.contains_cons, cont_any l, List.any_cons]
    congr 1
    rw [Bool.eq_iff_iff, beq_iff_eq, beq_iff_eq]
    exact ⟨fun h => UInt8.toNat_inj.1 h.symm, fun h => by rw [h]; rfl⟩
theorem noSl_contains (k : ByteArray) : (k.data.toList.map (·.toNat)).contains 47 = !noSl k := by
  rw [cont_any]
  unfold noSl
  rw [Bool.not_not]
theorem ib47_any (s : ByteArray) : ∃ z : Int, decide (z < 0) = noSl s ∧ ∀ W, Calls Tryz.prog 61 #[.string s, .int .u8 47] W fun e w' => e = .returned (.int .i64 z) ∧ W = w' := by
  refine ⟨ibV (s.data.toList.map (·.toNat)) 47, ?_, fun W => ib_any s _ rfl 47 (by decide) W⟩
  have h := noSl_contains s
  unfold ibV
  cases hn : noSl s with
  | true => rw [hn] at h; rw [h]; rfl
  | false =>
    rw [hn] at h
    rw [h]
    simp only [Bool.not_false, if_true]
    exact decide_eq_false (by omega)
def SpPost (w : World) (l : List (ByteArray × Nat)) (e : Ending) (w' : World) : Prop := ∃ v4 v5, e = .returned (.tuple #[v4, v5]) ∧ Rd (Fresh w w') w' v4 (.list 1 ((l.map (·.1)).map .str)) ∧ Rd (Fresh w w') w' v5 (intsD (l.map (·.2))) ∧ Below w.heap.size w w'
set_option maxRecDepth 100000 in
set_option maxHeartbeats 16000000 in
theorem csteps_any (base D T : Nat) (s : PS) (nodes : Int) (tv : Value) (ns : List ANode) (i : Nat) (w : World) (hv : PView w base D T s nodes tv ns) (hil : i < s.js.length) (hks : ∀ k, (keyA s.js k).size ≤ 1000000) :
    Calls Tryz.prog 43 #[ptrV D, .int .i64 i] w (SpPost w (stepsL s.js s.ups i)) := by
  obtain ⟨x, hx⟩ := get_ex s.js i hil
  have ht : textA s.js i = x := by unfold textA; rw [hx]; rfl
  have hL : stepsL s.js s.ups i = if x.kind = 6 then ((membersS s.js (kids s.ups i)).filter fun k => noSl (keyA s.js k)).map (fun k => (slB ++ keyA s.js k, k))
    else if x.kind = 5 then (kids s.ups i).zipIdx.map (fun x => (slB ++ decB x.2, x.1)) else [] := by unfold stepsL; rw [ht]
  have IT := items_p hv i
  have MB := fun W (hW : Below w.heap.size w W) => members_p (hv.below hW) i
  have ND := Lib.hid (fun W (hW : Below w.heap.size w W) (k : Int) => node_p (hv.below hW) k)
  have hki := kids_le s.ups i
  have hul := hv.d.len
  have hgl := hv.d.good.len
  have hjl := hv.jl
  have hkl : (kids s.ups i).length ≤ 100000 := by omega
  have hmk : (membersS s.js (kids s.ups i)).length ≤ (kids s.ups i).length := List.length_filter_le _ _
  have hmem : ∀ k ∈ kids s.ups i, k < s.js.length := fun k hk => by have := (mem_kids.1 hk).2.1; omega
  obtain ⟨L, hLL⟩ : ∃ L, stepsL s.js s.ups i = L := ⟨_, rfl⟩
  rw [hLL] at hL ⊢
  by_cases h6 : x.kind = 6
  · rw [if_pos h6] at hL
    have e5 : (checkS s.js i 5).1 ≠ 0 := by rw [checkS_in hx, if_neg (by omega)]; show (32 : Int) ≠ 0; decide
    have e6 : checkS s.js i 6 = (0, 0) := by rw [checkS_in hx, if_pos (.inl h6)]
    have HL := Lib.hid hL; have E5 := Lib.hid e5; have E6 := Lib.hid e6; have IT := Lib.hid IT; have MB := Lib.hid MB
    have hmm : ∀ k ∈ membersS s.js (kids s.ups i), k < s.js.length := fun k hk => hmem k (List.mem_filter.1 hk).1
    have HM := Lib.hid hmm; have HKS := Lib.hid hks
    have hml : (membersS s.js (kids s.ups i)).length ≤ 100000 := by omega
    obtain ⟨ms, hms⟩ : ∃ ms, membersS s.js (kids s.ups i) = ms := ⟨_, rfl⟩
    rw [hms] at HL HM hml
    have HMS := Lib.hid hms
    clear hv hx ht hL hLL e5 e6 h6 hmem hmm hki hul hgl hjl hkl hmk hms hks
    go_enter Tryz.func43, Tryz.ntmps43
    go_wp2_with fail
    refine IT.out.mono ?_
    rintro _ w2 ⟨v2, u2, rfl, hu, _, hbad, hb2⟩
    obtain rfl := hbad E5.out
    obtain ⟨q2, rfl⟩ := hu.form E5.out
    have HB2 := Lib.hid hb2
    clear hu hbad hb2
    go_wp2_with fail
    go_at_call 78
    refine (MB.out _ HB2.out).mono ?_
    rintro _ w4 ⟨v4, u4, rfl, hu, hgd, _, hb4⟩
    rw [E6.out] at hu hgd
    obtain rfl := hu.nil rfl
    have hr4 := hgd rfl
    rw [Int.toNat_natCast, HMS.out] at hr4
    obtain ⟨a4, c4, rfl, _, _, hx4⟩ := hr4.nats_inv
    have HX4 := Lib.hid hx4
    have HB4 := Lib.hid (HB2.out.trans (hb4.mono HB2.out.size))
    clear hu hgd hb4 hr4 hx4
    go_wp2_with fail
    go_loopw [4, 5, 53] (SmRel s.js ms w4) (fun _ _ j _ => ms.length - (intOf j).toNat)
    case atStart => exact ⟨0, rfl, Nat.zero_le _, StAt.nil w4⟩
    case round =>
      obtain ⟨j, rfl, hj, hA⟩ := hrel
      by_cases hlt : j < ms.length
      · obtain ⟨k, hkj⟩ := get_ex ms j hlt
        obtain ⟨b, off, rfl, hbz, hc⟩ := HX4.out (by omega)
        have c0 : wr.cell? ⟨b, off + j, none⟩ = some (.int .i64 (k : Nat)) := (bcell1 hA.below hbz _).trans (by rw [hc j hlt, (List.getElem?_eq_some_iff.1 hkj).2])
        have t1 : decide ((j : Int) < (ms.length : Int)) = true := decide_eq_true (by omega)
        have t1' : decide (j < ms.length) = true := decide_eq_true hlt
        have q1 : IntKind.i64.wrap ((j : Int) + 1) = (j : Int) + 1 := IntWalk.i64_in _ (by omega)
        have hkl := HM.out k (List.mem_of_getElem? hkj)
        obtain ⟨y, hy⟩ := get_ex s.js k hkl
        have NK := ND.out wr (HB4.out.trans (hA.below.mono HB4.out.size)) k
        rw [nodeA_in hy, decide_eq_true (by omega : 0 ≤ (k : Int) ∧ (k : Int) < s.js.length)] at NK
        have NK := Lib.hid NK
        have hft := fil_take (js := s.js) hkj
        have hky : keyA s.js k = y.key := by unfold keyA; rw [hy]
        have hkz := HKS.out k
        rw [hky] at hft hkz
        have hfl : (((ms.take j).filter fun k => noSl (keyA s.js k)).map fun k => (slB ++ keyA s.js k, k)).length ≤ j := by
          rw [List.length_map]
          refine Nat.le_trans (List.length_filter_le _ _) ?_
          rw [List.length_take]; omega
        obtain ⟨lj, hlj⟩ : ∃ lj, (((ms.take j).filter fun k => noSl (keyA s.js k)).map fun k => (slB ++ keyA s.js k, k)) = lj := ⟨_, rfl⟩
        rw [hlj] at hA hft hfl
        obtain ⟨kd1, key1, text1, at1⟩ := y
        simp only at hft hkz
        obtain ⟨ibv, hib, IB⟩ := ib47_any key1
        have IB := Lib.hid IB
        have HFT := Lib.hid hft
        have HA := Lib.hid hA
        clear hA hkj hc hy hky hft hlj hkl
        go_wp2_with fail
        go_at_call 42
        refine NK.out.mono ?_
        rintro _ w5 ⟨rfl, hb5⟩
        obtain ⟨W6, hW6⟩ : ∃ W, w5.alloc (.cells #[.int .i64 kd1, .string key1, .string text1, .int .i64 at1] 68) = W := ⟨_, rfl⟩
        have hb6 : Below wr.heap.size wr W6 := by rw [← hW6]; exact ext_alloc hb5 _
        have hn6 : W6.cell? ⟨w5.heap.size, 1, none⟩ = some (.string key1) := by rw [← hW6]; simp
        have HA6 := Lib.hid (HA.out.ext hb6)
        obtain ⟨N5, hN5⟩ : ∃ N, w5.heap.size = N := ⟨_, rfl⟩
        rw [hN5] at hn6
        have HW6 := Lib.hid hW6; have HN5 := Lib.hid hN5
        clear hb5 hW6 hb6 hN5 c0
        go_wp2_with fail
        simp only [HN5.out, HW6.out]
        clear HW6 HN5
        go_at_call 61
        refine (IB.out _).mono ?_
        rintro _ w7 ⟨rfl, hw7⟩
        obtain rfl : W6 = w7 := by first | exact hw7 | exact hw7.symm
        by_cases hns : noSl key1 = true
        · have hft := HFT.out
          rw [if_pos hns] at hft
          have tn : decide (ibv < 0) = true := hib.trans hns
          have hsz : (⟨#[47]⟩ ++ key1 : ByteArray).size ≤ 1000001 := by
            rw [ByteArray.size_append]
            have : (⟨#[47]⟩ : ByteArray).size = 1 := rfl
            omega
          have hnm : (⟨#[47]⟩ ++ key1 : ByteArray) = slB ++ key1 := rfl
          obtain ⟨nm, hnme⟩ : ∃ nm, (⟨#[47]⟩ ++ key1 : ByteArray) = nm := ⟨_, rfl⟩
          rw [← hnm, hnme] at hft
          have HFT2 := Lib.hid hft
          have hlj := hfl
          have hkz1 : 1 + key1.size ≤ 1000001 := by omega
          clear hib hft hns hnm hsz
          go_wp2_with (at_builtin; refine wpList_appAt (W6.alloc (.cells #[.string nm] 9)) rfl _ _ 39 rfl w4.heap.size elStr8 _ _ _ rfl (HA6.out.r4.alloc _) ⟨W6.heap.size, 0, none⟩ 1 1 [.string nm] rfl rfl (World.news_of_block (cs := #[.string nm]) (t := 9) (fr := (0, 0)) (heap_alloc_new W6 _)) ?c1 ?c2 ?c3 ?c4 ?_)
          case c1 => simp [Value.oneCell']
          case c2 => unfold maxLen; omega
          case c3 => omega
          case c4 => have := HA6.out.below.size; simp; omega
          intro x8 w8 ho8 hg8 hat8
          have h8 : Hid (w8.ownsRow w4.heap.size 3 1 _ _ _) := Lib.hid (kept_dj (HA6.out.r5.alloc (.cells #[.string nm] 9)) hg8 (fun g hg e => HA6.out.dj g e hg))
          have hz8 : w4.heap.size ≤ w8.heap.size := by have := hg8.size; have := HA6.out.below.size; simp at *; omega
          have HO8 := Lib.hid ho8; have HG8 := Lib.hid hg8; have HAT8 := Lib.hid hat8
          clear ho8 hg8 hat8
          go_wp2_with (at_builtin; refine wpList_appAt (w8.alloc (.cells #[.int .i64 (k : Nat)] 3)) rfl _ _ 52 rfl w4.heap.size elInt8 _ _ _ rfl (h8.out.alloc _) ⟨w8.heap.size, 0, none⟩ 1 1 [.int .i64 (k : Nat)] rfl rfl (World.news_of_block (cs := #[.int .i64 (k : Nat)]) (t := 3) (fr := (0, 0)) (heap_alloc_new w8 _)) ?d1 ?d2 ?d3 ?d4 ?_)
          case d1 => simp [Value.oneCell']
          case d2 => unfold maxLen; omega
          case d3 => omega
          case d4 => simp; omega
          intro x9 w9 ho9 hg9 hat9
          have R1 : SmRel s.js ms w4 x8 x9 (.int .i64 ((j : Int) + 1)) w9 := ⟨j + 1, by go_num, hlt, by
            rw [HFT2.out]
            exact HA6.out.push rfl HO8.out HG8.out HAT8.out rfl ho9 hg9 hat9⟩
          have HRR := Lib.hid R1
          clear R1 ho9 hg9 hat9
          go_wp2
          refine ⟨?_, by simp [intOf]; omega⟩
          have R := HRR.out
          first | exact R | ((repeat apply Exists.intro); exact ⟨R, rfl⟩)
        · have hft := HFT.out
          rw [if_neg hns, List.append_nil] at hft
          have tn : decide (ibv < 0) = false := hib.trans (by simpa using hns)
          have HFT2 := Lib.hid hft
          have R1 : SmRel s.js ms w4 _ _ (.int .i64 ((j : Int) + 1)) W6 := ⟨j + 1, by go_num, hlt, by
            rw [HFT2.out]
            exact HA6.out⟩
          have HRR := Lib.hid R1
          clear R1 hib hft hns
          go_wp2
          refine ⟨?_, by simp [intOf]; omega⟩
          have R := HRR.out
          first | exact R | ((repeat apply Exists.intro); exact ⟨R, rfl⟩)
      · have t1 : decide ((j : Int) < (ms.length : Int)) = false := decide_eq_false (by omega)
        have t1' : decide (j < ms.length) = false := decide_eq_false hlt
        have htk : ms.take j = ms := List.take_of_length_le (by omega)
        rw [htk, ← HL.out] at hA
        have h4 := hA.r4
        have h5 := hA.r5
        rw [show L.length = (L.map (·.1)).length by simp] at h4
        rw [show L.length = (L.map (·.2)).length by simp] at h5
        have D4 := Lib.hid (rd_strF (w0 := w) HB4.out.size h4)
        have D5 := Lib.hid (rd_intsF (w0 := w) HB4.out.size h5)
        have HF := Lib.hid (HB4.out.trans (hA.below.mono HB4.out.size))
        clear hA h4 h5 htk hlt
        go_wp2
        refine bodyPost_ret (v := .tuple #[_, _]) (by simp [results, Tryz.results43, go_sem]) rfl ⟨_, _, rfl, D4.out, D5.out, HF.out⟩
  · rw [if_neg h6] at hL
    have e6 : (checkS s.js i 6).1 ≠ 0 := by rw [checkS_in hx, if_neg (by omega)]; show (32 : Int) ≠ 0; decide
    have E6 := Lib.hid e6; have MB := Lib.hid MB
    by_cases h5 : x.kind = 5
    · rw [if_pos h5] at hL
      have e5 : checkS s.js i 5 = (0, 0) := by rw [checkS_in hx, if_pos (.inl h5)]
      rw [e5] at IT
      have HL := Lib.hid hL
      obtain ⟨ks, hks2⟩ : ∃ ks, kids s.ups i = ks := ⟨_, rfl⟩
      rw [hks2] at HL hkl
      rw [Int.toNat_natCast, hks2] at IT
      have IT := Lib.hid IT
      clear hv hx ht hL hLL e5 e6 h6 h5 hmem hki hul hgl hjl hmk hks hks2 ND
      go_enter Tryz.func43, Tryz.ntmps43
      go_wp2_with fail
      refine IT.out.mono ?_
      rintro _ w2 ⟨v2, u2, rfl, hu, hgd, _, hb2⟩
      obtain rfl := hu.nil rfl
      obtain ⟨a4, c4, rfl, _, _, hx4⟩ := (hgd rfl).nats_inv
      have HX4 := Lib.hid hx4
      have HB2 := Lib.hid hb2
      clear hu hgd hb2 hx4
      go_wp2_with fail
      go_loopw [4, 5, 26] (SiRel ks w2) (fun _ _ j _ => ks.length - (intOf j).toNat)
      case atStart => exact ⟨0, rfl, Nat.zero_le _, StAt.nil w2⟩
      case round =>
        obtain ⟨j, rfl, hj, hA⟩ := hrel
        by_cases hlt : j < ks.length
        · obtain ⟨k, hkj⟩ := get_ex ks j hlt
          obtain ⟨b, off, rfl, hbz, hc⟩ := HX4.out (by omega)
          have c0 : wr.cell? ⟨b, off + j, none⟩ = some (.int .i64 (k : Nat)) := (bcell1 hA.below hbz _).trans (by rw [hc j hlt, (List.getElem?_eq_some_iff.1 hkj).2])
          have t1 : decide ((j : Int) < (ks.length : Int)) = true := decide_eq_true (by omega)
          have t1' : decide (j < ks.length) = true := decide_eq_true hlt
          have q1 : IntKind.i64.wrap ((j : Int) + 1) = (j : Int) + 1 := IntWalk.i64_in _ (by omega)
          have q2 : IntKind.u64.wrap (j : Int) = (j : Int) := IntWalk.u64_in _ (by omega)
          have DG := Lib.hid (fun W => digits_dec j W (by omega))
          have hzt := zip_take hkj
          have hdz : (decB j).size ≤ 20 := by rw [show (decB j).size = lenD j from decS_size _ _]; exact lenD_le (by omega)
          have hlz : ((ks.take j).zipIdx.map fun x => (slB ++ decB x.2, x.1)).length ≤ 100000 := by simp; omega
          obtain ⟨lj, hlj⟩ : ∃ lj, ((ks.take j).zipIdx.map fun x => (slB ++ decB x.2, x.1)) = lj := ⟨_, rfl⟩
          rw [hlj] at hA hzt hlz
          have hnm : (⟨#[47]⟩ ++ decB j : ByteArray) = slB ++ decB j := rfl
          obtain ⟨nm, hnme⟩ : ∃ nm, (⟨#[47]⟩ ++ decB j : ByteArray) = nm := ⟨_, rfl⟩
          rw [← hnm, hnme] at hzt
          have HZT := Lib.hid hzt
          have HA := Lib.hid hA
          generalize decB j = dj at *
          clear hA hkj hc hzt hlj hnm
          go_wp2_with fail
          go_at_call 77
          refine (DG.out _).mono ?_
          rintro _ W6 ⟨rfl, hb6⟩
          have HA6 := Lib.hid (HA.out.ext hb6)
          clear hb6 c0
          go_wp2_with (at_builtin; refine wpList_appAt (W6.alloc (.cells #[.string nm] 9)) rfl _ _ 39 rfl w2.heap.size elStr8 _ _ _ rfl (HA6.out.r4.alloc _) ⟨W6.heap.size, 0, none⟩ 1 1 [.string nm] rfl rfl (World.news_of_block (cs := #[.string nm]) (t := 9) (fr := (0, 0)) (heap_alloc_new W6 _)) ?c1 ?c2 ?c3 ?c4 ?_)
          case c1 => simp [Value.oneCell']
          case c2 => unfold maxLen; omega
          case c3 => omega
          case c4 => have := HA6.out.below.size; simp; omega
          intro x8 w8 ho8 hg8 hat8
          have h8 : Hid (w8.ownsRow w2.heap.size 3 1 _ _ _) := Lib.hid (kept_dj (HA6.out.r5.alloc (.cells #[.string nm] 9)) hg8 (fun g hg e => HA6.out.dj g e hg))
          have hz8 : w2.heap.size ≤ w8.heap.size := by have := hg8.size; have := HA6.out.below.size; simp at *; omega
          have HO8 := Lib.hid ho8; have HG8 := Lib.hid hg8; have HAT8 := Lib.hid hat8
          clear ho8 hg8 hat8
          go_wp2_with (at_builtin; refine wpList_appAt (w8.alloc (.cells #[.int .i64 (k : Nat)] 3)) rfl _ _ 52 rfl w2.heap.size elInt8 _ _ _ rfl (h8.out.alloc _) ⟨w8.heap.size, 0, none⟩ 1 1 [.int .i64 (k : Nat)] rfl rfl (World.news_of_block (cs := #[.int .i64 (k : Nat)]) (t := 3) (fr := (0, 0)) (heap_alloc_new w8 _)) ?d1 ?d2 ?d3 ?d4 ?_)
          case d1 => simp [Value.oneCell']
          case d2 => unfold maxLen; omega
          case d3 => omega
          case d4 => simp; omega
          intro x9 w9 ho9 hg9 hat9
          have R1 : SiRel ks w2 x8 x9 (.int .i64 ((j : Int) + 1)) w9 := ⟨j + 1, by go_num, hlt, by
            rw [HZT.out]
            exact HA6.out.push rfl HO8.out HG8.out HAT8.out rfl ho9 hg9 hat9⟩
          have HRR := Lib.hid R1
          clear R1 ho9 hg9 hat9
          go_wp2
          refine ⟨?_, by simp [intOf]; omega⟩
          have R := HRR.out
          first | exact R | ((repeat apply Exists.intro); exact ⟨R, rfl⟩)
        · have t1 : decide ((j : Int) < (ks.length : Int)) = false := decide_eq_false (by omega)
          have t1' : decide (j < ks.length) = false := decide_eq_false hlt
          have htk : ks.take j = ks := List.take_of_length_le (by omega)
          rw [htk, ← HL.out] at hA
          have MB2 := Lib.hid (MB.out wr (HB2.out.trans (hA.below.mono HB2.out.size)))
          have HB3 := Lib.hid (HB2.out.trans (hA.below.mono HB2.out.size))
          have HA := Lib.hid hA
          clear hA htk hlt
          go_wp2_with fail
          go_at_call 78
          refine MB2.out.mono ?_
          rintro _ w4 ⟨v4, u4, rfl, hu, _, hbad, hb4⟩
          obtain rfl := hbad E6.out
          obtain ⟨q4, rfl⟩ := hu.form E6.out
          have hA := HA.out.ext hb4
          have h4 := hA.r4
          have h5 := hA.r5
          rw [show L.length = (L.map (·.1)).length by simp] at h4
          rw [show L.length = (L.map (·.2)).length by simp] at h5
          have D4 := Lib.hid (rd_strF (w0 := w) HB2.out.size h4)
          have D5 := Lib.hid (rd_intsF (w0 := w) HB2.out.size h5)
          have HF := Lib.hid (HB3.out.trans (hb4.mono HB3.out.size))
          clear hA h4 h5 hu hbad hb4
          go_wp2
          refine bodyPost_ret (v := .tuple #[_, _]) (by simp [results, Tryz.results43, go_sem]) rfl ⟨_, _, rfl, D4.out, D5.out, HF.out⟩
    · rw [if_neg h5] at hL
      subst hL
      have e5 : (checkS s.js i 5).1 ≠ 0 := by rw [checkS_in hx, if_neg (by omega)]; show (32 : Int) ≠ 0; decide
      have E5 := Lib.hid e5; have IT := Lib.hid IT
      clear hv hx ht hLL e5 e6 h6 h5 hmem hki hul hgl hjl hmk hks hkl ND
      go_enter Tryz.func43, Tryz.ntmps43
      go_wp2_with fail
      refine IT.out.mono ?_
      rintro _ w2 ⟨v2, u2, rfl, hu, _, hbad, hb2⟩
      obtain rfl := hbad E5.out
      obtain ⟨q2, rfl⟩ := hu.form E5.out
      have HB2 := Lib.hid hb2
      clear hu hbad hb2
      go_wp2_with fail
      go_at_call 78
      refine (MB.out _ HB2.out).mono ?_
      rintro _ w4 ⟨v4, u4, rfl, hu, _, hbad, hb4⟩
      obtain rfl := hbad E6.out
      obtain ⟨q4, rfl⟩ := hu.form E6.out
      have HB4 := Lib.hid (HB2.out.trans (hb4.mono HB2.out.size))
      clear hu hbad hb4
      go_wp2
      refine bodyPost_ret (v := .tuple #[.slice none 0 0, .slice none 0 0]) (by simp [results, Tryz.results43, go_sem]) rfl ⟨_, _, rfl, .list0 _ _ _ (fun _ => rfl), .list0 _ _ _ (fun _ => rfl), HB4.out⟩
end
end Go.Proofs.YtheoaijheijojaaGreatDoor
