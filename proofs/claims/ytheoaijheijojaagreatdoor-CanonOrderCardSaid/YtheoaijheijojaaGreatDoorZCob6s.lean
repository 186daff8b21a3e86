/- Cob6, Cob7, Cob8 in one text (a claim holds at most 60 files). -/
import Derived.Test.YtheoaijheijojaaGreatDoorZMore2
import Derived.Test.YtheoaijheijojaaGreatDoorZCob0s
import Derived.Test.YtheoaijheijojaaGreatDoorZCob2s
import Derived.Laws.Bits128
import Derived.Laws.OwnMore
namespace Go.Proofs.YtheoaijheijojaaGreatDoor
section
open Go.RowKit
theorem dup_nodup {keys : List ByteArray} : firstT (dupP keys) keys.length = none ↔ keys.Nodup := by
  constructor
  · intro h
    have hi := dup_inj (firstT_none' h)
    rw [List.nodup_iff_pairwise_ne, List.pairwise_iff_getElem]
    intro i j h1 h2 hij e
    have := hi i j h1 h2 (by unfold keyAt; rw [List.getElem?_eq_getElem h1, List.getElem?_eq_getElem h2, e])
    omega
  · intro h
    refine firstT_none (fun m hm => ?_)
    unfold dupP
    refine hasL_f (fun hx => ?_)
    obtain ⟨i, hi, he⟩ := List.mem_iff_getElem.1 hx
    rw [List.length_take] at hi
    rw [List.getElem_take] at he
    have e1 : keys[i]? = some (keyAt keys m) := by rw [List.getElem?_eq_getElem (by omega), he]
    have e2 : keys[m]? = some (keyAt keys m) := by unfold keyAt; rw [List.getElem?_eq_getElem hm]; rfl
    have := nodup_inj h e1 e2
    omega
theorem bad_all {keys values : List ByteArray} (hl : keys.length = values.length) : firstT (badP keys values) keys.length = none ↔ ∀ p ∈ keys.zip values, (okC p.1 && okC p.2) = true := by
  have key : ∀ i, badP keys values i = !(okC (keyAt keys i) && okC (keyAt values i)) := fun i => rfl
  constructor
  · intro h p hp
    rw [zip_range keys values hl] at hp
    obtain ⟨i, hi, rfl⟩ := List.mem_map.1 hp
    have := firstT_none' h i (List.mem_range.1 hi)
    rw [key] at this
    simpa using this
  · intro h
    refine firstT_none (fun m hm => ?_)
    rw [key, h (keyAt keys m, keyAt values m) (by rw [zip_range keys values hl]; exact List.mem_map.2 ⟨m, List.mem_range.2 hm, rfl⟩)]
    rfl
theorem obj_order {keys values keys' values' : List ByteArray} (h1 : keys.length = values.length) (h2 : keys'.length = values'.length) (hp : (keys.zip values).Perm (keys'.zip values')) :
    (objectS keys values).1 = (objectS keys' values').1 ∧ (objectS keys values).2.1 = (objectS keys' values').2.1 := by
  have hk : keys.Perm keys' := by
    have := hp.map Prod.fst
    rwa [List.map_fst_zip (by omega), List.map_fst_zip (by omega)] at this
  unfold objectS
  rw [if_neg (not_not_intro h1), if_neg (not_not_intro h2)]
  cases hd : firstT (dupP keys) keys.length with
  | some i =>
    cases hd' : firstT (dupP keys') keys'.length with
    | some i' => exact ⟨rfl, rfl⟩
    | none =>
      have := dup_nodup.2 (hk.nodup_iff.2 (dup_nodup.1 hd'))
      rw [hd] at this; cases this
  | none =>
    have hn := dup_nodup.1 hd
    rw [dup_nodup.2 (hk.nodup_iff.1 hn)]
    cases hb : firstT (badP keys values) keys.length with
    | some i =>
      cases hb' : firstT (badP keys' values') keys'.length with
      | some i' => exact ⟨rfl, rfl⟩
      | none =>
        have := (bad_all h1).2 (fun p hpm => (bad_all h2).1 hb' p (hp.mem_iff.1 hpm))
        rw [hb] at this; cases this
    | none =>
      rw [(bad_all h2).2 (fun p hpm => (bad_all h1).1 hb p (hp.mem_iff.2 hpm))]
      refine ⟨?_, rfl⟩
      show objB (keys.zip (values.map quoteB)) = objB (keys'.zip (values'.map quoteB))
      rw [List.zip_map_right, List.zip_map_right]
      have hi := zip_inj (forms := values'.map quoteB) (by rw [List.length_map, h2]) (dup_inj (firstT_none' (dup_nodup.2 (hk.nodup_iff.1 hn))))
      rw [List.zip_map_right] at hi
      exact objB_perm (hp.map _) hi
end
section
open Go.RowKit
theorem and_ffff (n : Int) : bits .and .i64 n 65535 = n % 65536 := by
  have h127 : (BitVec.ofInt 64 65535).toNat = 2 ^ 16 - 1 := by decide
  have key : (BitVec.ofInt 64 n &&& BitVec.ofInt 64 65535).toNat = (n % ((2 ^ 64 : Nat) : Int)).toNat % 2 ^ 16 := by
    rw [BitVec.toNat_and, BitVec.toNat_ofInt, h127, Nat.and_two_pow_sub_one_eq_mod]
  show IntKind.i64.wrap ((BitVec.ofInt 64 n &&& BitVec.ofInt 64 65535).toNat : Nat) = n % 65536
  rw [key, IntKind.wrap_i64]
  omega
theorem kind8_any (u : Value) (p : Int × Int) (w : World) (hg : Glob w) (h : ErrIs w u p) : Calls Tryz.prog 24 #[u] w fun e w' => e = .returned (.int .i64 p.1) ∧ Below w.heap.size w w' := by
  rcases h with ⟨h0, rfl⟩ | ⟨h0, h⟩
  · rw [h0]; exact kind_any .nilIface [] w hg (by simp only [errD]; exact .nilI)
  · exact kind_any u [p] w hg h
def swapK (l : List KV) (x y : Nat) : List KV := (l.set x (l[y]?.getD default)).set y (l[x]?.getD default)
theorem swapK_perm {l : List KV} {x y : Nat} (hx : x < l.length) (hy : y < l.length) : (swapK l x y).Perm l := by
  unfold swapK
  rw [List.getElem?_eq_getElem hx, List.getElem?_eq_getElem hy]
  exact List.set_set_perm hx hy
theorem swapK_fst {l : List KV} {x y : Nat} {p q : KV} (hx : l[x]? = some p) (hy : l[y]? = some q) : strV ((swapK l x y).map Prod.fst) = ((strV (l.map Prod.fst)).set x (.string q.1)).set y (.string p.1) := by
  unfold swapK strV
  rw [hx, hy]
  simp [List.map_set]
theorem swapK_snd {l : List KV} {x y : Nat} {p q : KV} (hx : l[x]? = some p) (hy : l[y]? = some q) : strV ((swapK l x y).map Prod.snd) = ((strV (l.map Prod.snd)).set x (.string q.2)).set y (.string p.2) := by
  unfold swapK strV
  rw [hx, hy]
  simp [List.map_set]
end
section
open Go.RowKit
def SzRel8 (keys values : List ByteArray) (W : World) (vj : Value) (wr : World) : Prop := ∃ j : Nat, vj = .int .i64 j ∧ j ≤ keys.length ∧ wr = W ∧ ∀ m, m < j → (keyAt keys m).size ≤ 200 ∧ (keyAt values m).size ≤ 200
def SwRel (l0 : List KV) (n mm B1 B2 : Nat) (va vb : Value) (W : World) (vj : Value) (wr : World) : Prop := ∃ (j : Nat) (l : List KV), vj = .int .i64 j ∧ j ≤ mm ∧ l.Perm l0 ∧ wr.ownsRow B1 9 1 va n (strV (l.map Prod.fst)) ∧ wr.ownsRow B2 9 1 vb n (strV (l.map Prod.snd)) ∧ Below W.heap.size W wr
def swW (W : World) (g x y : Nat) (a b : ByteArray) : World := ((W.setCell ⟨g, x, none⟩ (.string b)).setCell ⟨g, y, none⟩ (.string a)).drew
theorem swap_row {W : World} {B g n cap x y : Nat} {xs : List Value} {a b : ByteArray} (h : W.ownsRow B 9 1 (.slice (some ⟨g, 0, none⟩) n cap) n xs) : (swW W g x y a b).ownsRow B 9 1 (.slice (some ⟨g, 0, none⟩) n cap) n ((xs.set x (.string b)).set y (.string a)) :=
  ((h.stored x (.string b)).1.stored y (.string a)).1
theorem swap_keep {W : World} {B B' g n n' cap x y : Nat} {xs ys : List Value} {v : Value} {a b : ByteArray} (h : W.ownsRow B 9 1 (.slice (some ⟨g, 0, none⟩) n cap) n xs) (h2 : W.ownsRow B' 9 1 v n' ys) (ne : v.ownBlock ≠ some g) : (swW W g x y a b).ownsRow B' 9 1 v n' ys :=
  by
  have k := (h2.kept (h.stored x (.string b)).2 (.inr ne)).kept ((h.stored x (.string b)).1.stored y (.string a)).2 (.inr ne)
  exact k
theorem swap_below {w W : World} {g x y : Nat} {a b : ByteArray} (h : Below w.heap.size w W) (hg : w.heap.size ≤ g) : Below w.heap.size w (swW W g x y a b) :=
  by
  unfold swW
  exact ((h.setCell hg _).setCell hg _).drew
theorem swap_facts {W : World} {B g n cap x y : Nat} {l : List ByteArray} {p q : ByteArray} (h : W.ownsRow B 9 1 (.slice (some ⟨g, 0, none⟩) n cap) n (strV l)) (hx : x < n) (hy : y < n) (hp : l[x]? = some p) (hq : l[y]? = some q) :
    W.cell? ⟨g, x, none⟩ = some (.string p) ∧ W.cell? ⟨g, y, none⟩ = some (.string q) ∧ W.frozen? ⟨g, x, none⟩ = false ∧ W.frozen? ⟨g, y, none⟩ = false ∧ (∀ u, (W.setCell ⟨g, x, none⟩ u).frozen? ⟨g, y, none⟩ = false) ∧ (W.setCell ⟨g, x, none⟩ (.string q)).cell? ⟨g, y, none⟩ = some (.string q) := by
  refine ⟨by rw [h.cellAt x (by omega)]; simp [strV, hp], by rw [h.cellAt y (by omega)]; simp [strV, hq], h.frozenAt x, h.frozenAt y, fun u => (h.stored x u).1.frozenAt y, ?_⟩
  rw [(h.stored x (.string q)).1.cellAt y (by omega), List.getElem?_set]
  split
  · have := (List.getElem?_eq_some_iff.1 hp).1
    rw [if_pos (by simp [strV]; omega)]
  · simp [strV, hq]
theorem key_all {P : ByteArray → Prop} {l : List ByteArray} (h : ∀ m, m < l.length → P (keyAt l m)) : ∀ x ∈ l, P x := fun x hx => by
  obtain ⟨i, hi, he⟩ := List.mem_iff_getElem.1 hx
  have := h i hi
  unfold keyAt at this
  rw [List.getElem?_eq_getElem hi] at this
  rw [← he]; exact this
theorem rds_strV8 {S : Nat → Prop} {w : World} {ys : List Value} {l : List ByteArray} (h : Rds S w ys (l.map .str)) : ys = strV l := by
  obtain ⟨hl, h⟩ := h
  simp only [List.length_map] at hl
  unfold strV
  refine List.ext_getElem? (fun i => ?_)
  rw [List.getElem?_map]
  cases hx : l[i]? with
  | none =>
    rw [List.getElem?_eq_none_iff] at hx
    rw [List.getElem?_eq_none (by omega)]; rfl
  | some x =>
    have hi := (List.getElem?_eq_some_iff.1 hx).1
    have hy : ys[i]? = some (ys[i]'(by omega)) := List.getElem?_eq_getElem _
    have := h i _ (.str x) hy (by rw [List.getElem?_map, hx]; rfl)
    rw [hy, this.str_inv]; rfl
set_option maxRecDepth 100000 in
set_option maxHeartbeats 2000000 in
theorem canonOrder_any (v1 v2 v3 : Value) (keys values : List ByteArray) (ns : List Int) (w : World) (he : CE w) (hg : Glob w) (h1 : Rd (Own w) w v1 (.list 1 (keys.map .str))) (h2 : Rd (Own w) w v2 (.list 1 (values.map .str))) (h3 : Rd (Own w) w v3 (.list 1 (ns.map (Dat.int .i64)))) :
    Calls Tryz.prog 7 #[v1, v2, v3] w fun e w' => e = .returned (.bool true) ∧ Below w.heap.size w w' := by
  have H1 := Lib.hid h1; have H2 := Lib.hid h2; have H3 := Lib.hid h3
  obtain ⟨a1, c1, rfl, _, hc1, hx1⟩ := h1.strs_inv
  obtain ⟨a2, c2, rfl, _, hc2, hx2⟩ := h2.strs_inv
  obtain ⟨a3, c3, rfl, _, hc3, hx3⟩ := h3.ints_inv
  have SP := Lib.hid (speaks08 w he)
  have HE := Lib.hid he; have HG := Lib.hid hg; have HX1 := Lib.hid hx1; have HX2 := Lib.hid hx2; have HX3 := Lib.hid hx3
  clear he hg h1 h2 h3 hx1 hx2 hx3
  by_cases b1 : 20 < keys.length
  · have t1 : decide ((20 : Int) < (keys.length : Int)) = true := decide_eq_true (by omega)
    clear b1
    go_enter Tryz.func7, Tryz.ntmps7
    go_wp2_with fail
    refine SP.out.mono ?_
    rintro e w1 ⟨rfl, hb⟩
    have HB := Lib.hid hb; clear hb
    go_wp2
    go_ret
    exact ⟨rfl, HB.out⟩
  have t1 : decide ((20 : Int) < (keys.length : Int)) = false := decide_eq_false (by omega)
  by_cases b2 : keys.length = values.length
  case neg =>
    have t2 : ((keys.length : Int) != (values.length : Int)) = true := by simp; omega
    clear b1 b2
    go_enter Tryz.func7, Tryz.ntmps7
    go_wp2_with fail
    refine SP.out.mono ?_
    rintro e w1 ⟨rfl, hb⟩
    have HB := Lib.hid hb; clear hb
    go_wp2
    go_ret
    exact ⟨rfl, HB.out⟩
  obtain ⟨n, hn⟩ : ∃ n, keys.length = n := ⟨_, rfl⟩
  have hn2 : values.length = n := by omega
  have HN := Lib.hid hn; have HN2 := Lib.hid hn2
  rw [hn] at hc1 t1 b1 ⊢
  rw [hn2] at hc2 ⊢
  clear b2 hn hn2
  have t2 : ((n : Int) != (n : Int)) = false := by simp
  by_cases b3 : 60 < ns.length
  · have t3 : decide ((60 : Int) < (ns.length : Int)) = true := decide_eq_true (by omega)
    clear b1 b3
    go_enter Tryz.func7, Tryz.ntmps7
    go_wp2_with fail
    refine SP.out.mono ?_
    rintro e w1 ⟨rfl, hb⟩
    have HB := Lib.hid hb; clear hb
    go_wp2
    go_ret
    exact ⟨rfl, HB.out⟩
  have t3 : decide ((60 : Int) < (ns.length : Int)) = false := decide_eq_false (by omega)
  go_enter Tryz.func7, Tryz.ntmps7
  go_wp2_with fail
  refine SP.out.mono ?_
  rintro e w1 ⟨rfl, hb⟩
  have HB1 := Lib.hid hb; clear hb
  have ho1 : (w1.alloc (.cells #[] 9)).ownsRow w1.heap.size 9 1 (.slice (some ⟨w1.heap.size, 0, none⟩) 0 0) 0 [] := by
    simpa using World.ownsRow_lit (base := w1.heap.size) (e := 9) (size := 1) w1 #[] 0 (Nat.le_refl _) (by decide) rfl
  have hr1 := H1.out.ext (ext_alloc HB1.out (.cells #[] 9))
  rw [HN.out] at hr1
  have HO1 := Lib.hid ho1; have HR1 := Lib.hid hr1
  clear ho1 hr1
  go_wp2_with (at_builtin; refine wpList_appD (w1.alloc (.cells #[] 9)) rfl _ _ 39 rfl w1.heap.size elStr8 _ 0 [] rfl HO1.out _ rfl _ n HR1.out ?c1 ?c2 ?c3 ?c4 ?_)
  case c1 => simp [HN.out]
  case c2 => simp [maxLen]; omega
  case c3 => omega
  case c4 => simp
  intro va w2 ys2 hown2 hys2 hgr2
  have hb2 : Below w1.heap.size w1 w2 := (ext_alloc (Below.refl _ _) _).grown hgr2 (by simp) (fun q hq => (HO1.out.lt q hq).1)
  have HB12 := Lib.hid hb2
  have HB2 := Lib.hid (HB1.out.trans (hb2.mono HB1.out.size))
  rw [rds_strV8 hys2] at hown2
  have hown2 : w2.ownsRow w1.heap.size 9 1 va n (strV keys) := by simpa using hown2
  have HOA2 := Lib.hid hown2
  have ho3 : (w2.alloc (.cells #[] 9)).ownsRow w2.heap.size 9 1 (.slice (some ⟨w2.heap.size, 0, none⟩) 0 0) 0 [] := by
    simpa using World.ownsRow_lit (base := w2.heap.size) (e := 9) (size := 1) w2 #[] 0 (Nat.le_refl _) (by decide) rfl
  have hr3 := H2.out.ext (ext_alloc HB2.out (.cells #[] 9))
  rw [HN2.out] at hr3
  have HO3 := Lib.hid ho3; have HR3 := Lib.hid hr3
  clear hb2 hown2 hys2 hgr2 ho3 hr3
  go_wp2_with (at_builtin; refine wpList_appD (w2.alloc (.cells #[] 9)) rfl _ _ 39 rfl w2.heap.size elStr8 _ 0 [] rfl HO3.out _ rfl _ n HR3.out ?c1 ?c2 ?c3 ?c4 ?_)
  case c1 => simp [HN2.out]
  case c2 => simp [maxLen]; omega
  case c3 => omega
  case c4 => simp
  intro vb w3 ys3 hown3 hys3 hgr3
  rw [rds_strV8 hys3] at hown3
  have hown3 : w3.ownsRow w2.heap.size 9 1 vb n (strV values) := by simpa using hown3
  have hb3 : Below w2.heap.size w2 w3 := (ext_alloc (Below.refl _ _) _).grown hgr3 (by simp) (fun q hq => (HO3.out.lt q hq).1)
  have HB13 := Lib.hid (HB12.out.trans (hb3.mono HB12.out.size))
  have HB3 := Lib.hid (HB2.out.trans (hb3.mono HB2.out.size))
  have hoa3 : w3.ownsRow w1.heap.size 9 1 va n (strV keys) := aown_ext HOA2.out (fun q hq => hb3.block q (HOA2.out.lt q hq).2) (Nat.le_refl _)
  have HOA3 := Lib.hid hoa3; have HOB3 := Lib.hid hown3
  obtain ⟨B1, hB1⟩ : ∃ B, w1.heap.size = B := ⟨_, rfl⟩
  obtain ⟨B2, hB2⟩ : ∃ B, w2.heap.size = B := ⟨_, rfl⟩
  have HLT : Hid (∀ q, va.ownBlock = some q → q < B2) := Lib.hid (fun q hq => by rw [← hB2]; exact (HOA2.out.lt q hq).2)
  have HB12' : Hid (B1 ≤ B2) := Lib.hid (by rw [← hB1, ← hB2]; exact HB12.out.size)
  rw [hB1] at HOA3
  rw [hB2] at HOB3
  have HB1' := Lib.hid hB1; have HB2' := Lib.hid hB2
  obtain ⟨aa, ca, rfl, fa⟩ := aown_form hoa3
  obtain ⟨ab, cb, rfl, fb⟩ := aown_form hown3
  have FA := Lib.hid fa; have FB := Lib.hid fb
  clear hb3 hown3 hys3 hgr3 hoa3 fa fb hB1 hB2
  go_wp2_with fail
  go_loopw [43] (SzRel8 keys values w3) (fun i _ => n - (intOf i).toNat)
  case atStart => exact ⟨0, rfl, Nat.zero_le _, rfl, fun m h => by omega⟩
  case round =>
    obtain ⟨j, rfl, hj, rfl, hsz⟩ := hrel
    rw [HN.out] at hj
    have HSZ := Lib.hid hsz
    clear hsz
    by_cases hlt : j < n
    · have t4 : decide ((j : Int) < (n : Int)) = true := decide_eq_true (by omega)
      have t4' : decide (j < n) = true := decide_eq_true hlt
      have q1 : IntKind.i64.wrap ((j : Int) + 1) = (j : Int) + 1 := IntWalk.i64_in _ (by omega)
      obtain ⟨p1, o1, rfl, hbz1, hcl1⟩ := HX1.out (by rw [HN.out]; omega)
      obtain ⟨p2, o2, rfl, hbz2, hcl2⟩ := HX2.out (by rw [HN2.out]; omega)
      obtain ⟨k, hk⟩ := get_ex keys j (by rw [HN.out]; exact hlt)
      obtain ⟨x, hx⟩ := get_ex values j (by rw [HN2.out]; exact hlt)
      have c1' := (bcell1 HB3.out hbz1 _).trans (hcl1 j k hk)
      have c2' := (bcell1 HB3.out hbz2 _).trans (hcl2 j x hx)
      have hka : keyAt keys j = k := by unfold keyAt; rw [hk]; rfl
      have hva : keyAt values j = x := by unfold keyAt; rw [hx]; rfl
      have HKA := Lib.hid hka; have HVA := Lib.hid hva
      clear hcl1 hcl2 hk hx hka hva hbz1 hbz2
      by_cases z1 : 200 < k.size
      · have s1 : decide ((200 : Int) < (k.size : Int)) = true := decide_eq_true (by omega)
        clear z1
        go_wp2
        go_ret
        exact ⟨rfl, HB3.out⟩
      have s1 : decide ((200 : Int) < (k.size : Int)) = false := decide_eq_false (by omega)
      by_cases z2 : 200 < x.size
      · have s2 : decide ((200 : Int) < (x.size : Int)) = true := decide_eq_true (by omega)
        clear z1 z2
        go_wp2
        go_ret
        exact ⟨rfl, HB3.out⟩
      have s2 : decide ((200 : Int) < (x.size : Int)) = false := decide_eq_false (by omega)
      have R1 : SzRel8 keys values wr (.int .i64 ((j : Int) + 1)) wr := ⟨j + 1, by go_num, by rw [HN.out]; exact hlt, rfl, fun m hm => by
        by_cases e : m = j
        · subst e; rw [HKA.out, HVA.out]; exact ⟨by omega, by omega⟩
        · exact HSZ.out m (by omega)⟩
      have HRR := Lib.hid R1
      clear R1 z1 z2
      go_wp2
      refine ⟨?_, by simp [intOf]; omega⟩
      have R1 := HRR.out
      first | exact R1 | ((repeat apply Exists.intro); exact ⟨R1, rfl⟩)
    · have t4 : decide ((j : Int) < (n : Int)) = false := decide_eq_false (by omega)
      have t4' : decide (j < n) = false := decide_eq_false hlt
      have hjn : j = n := by omega
      have HZ1 : Hid (∀ x ∈ keys, x.size ≤ 200) := Lib.hid (key_all fun m hm => (HSZ.out m (by rw [HN.out] at hm; omega)).1)
      have HZ2 : Hid (∀ x ∈ values, x.size ≤ 200) := Lib.hid (key_all fun m hm => (HSZ.out m (by rw [HN2.out] at hm; omega)).2)
      clear hjn HSZ
      have hlz : (keys.zip values).map Prod.fst = keys := List.map_fst_zip (by rw [HN.out, HN2.out]; exact Nat.le_refl _)
      have hlz2 : (keys.zip values).map Prod.snd = values := List.map_snd_zip (by rw [HN.out, HN2.out]; exact Nat.le_refl _)
      have HSW : Hid (SwRel (keys.zip values) n ns.length B1 B2 (.slice aa n ca) (.slice ab n cb) w1 (.int .i64 0) wr) := Lib.hid ⟨0, keys.zip values, rfl, Nat.zero_le _, List.Perm.refl _, by rw [hlz]; exact HOA3.out, by rw [hlz2]; exact HOB3.out, HB13.out⟩
      clear hlz hlz2
      go_wp2_with fail
      generalize wr = wo at *
      clear t4 t4' hlt hj
      go_loopw [63] (SwRel (keys.zip values) n ns.length B1 B2 (.slice aa n ca) (.slice ab n cb) w1) (fun i _ => ns.length - (intOf i).toNat)
      case atStart => exact HSW.out
      case round =>
        obtain ⟨j, l, rfl, hj, hpm, hoa, hob, hb⟩ := hrel
        have HWB := Lib.hid (HB1.out.trans (hb.mono HB1.out.size))
        have HPM := Lib.hid hpm; have HOA := Lib.hid hoa; have HOB := Lib.hid hob; have HBB := Lib.hid hb
        clear hpm hoa hob hb
        by_cases hlt : j < ns.length
        · have t4 : decide ((j : Int) < (ns.length : Int)) = true := decide_eq_true (by omega)
          have t4' : decide (j < ns.length) = true := decide_eq_true hlt
          have q1 : IntKind.i64.wrap ((j : Int) + 1) = (j : Int) + 1 := IntWalk.i64_in _ (by omega)
          obtain ⟨p3, o3, rfl, hbz3, hcl3⟩ := HX3.out (by omega)
          obtain ⟨k, hk⟩ := get_ex ns j hlt
          have c0 := (bcell1 HWB.out hbz3 _).trans (hcl3 j k hk)
          clear hk hcl3 hbz3
          by_cases hn0 : 0 < n
          · have t5 : decide ((0 : Int) < (n : Int)) = true := decide_eq_true (by omega)
            have t5' : decide (0 < n) = true := decide_eq_true hn0
            rcases FA.out with ⟨h, _⟩ | ⟨ga, rfl, _, hga⟩
            · omega
            rcases FB.out with ⟨h, _⟩ | ⟨gb, rfl, hgb, _⟩
            · omega
            have hzl : l.length = n := by rw [HPM.out.length_eq, List.length_zip, HN.out, HN2.out]; omega
            obtain ⟨x, hx⟩ : ∃ x, j % n = x := ⟨_, rfl⟩
            have hxn : x < n := by rw [← hx]; exact Nat.mod_lt _ hn0
            obtain ⟨m, hm⟩ : ∃ m, (k % 65536).toNat = m := ⟨_, rfl⟩
            have hmk : k % 65536 = (m : Nat) := by omega
            obtain ⟨y, hy⟩ : ∃ y, m % n = y := ⟨_, rfl⟩
            have hyn : y < n := by rw [← hy]; exact Nat.mod_lt _ hn0
            have r1 : Int.tmod (j : Int) (n : Int) = (x : Int) := by rw [← hx]; exact (Int.ofNat_tmod j n).symm
            have r2 : bits .and .i64 k 65535 = (m : Int) := by rw [and_ffff, hmk]
            have r3 : Int.tmod (m : Int) (n : Int) = (y : Int) := by rw [← hy]; exact (Int.ofNat_tmod m n).symm
            have r4 : ((n : Int) == 0) = false := by simp; omega
            have r4' : ((n : Int) = 0) = False := by simp; omega
            have r4'' : (n = 0) = False := by simp; omega
            have r5 : IntKind.i64.wrap (x : Int) = (x : Int) := IntWalk.i64_in _ (by omega)
            have r6 : IntKind.i64.wrap (y : Int) = (y : Int) := IntWalk.i64_in _ (by omega)
            have r7 : decide (x < n) = true := decide_eq_true hxn
            have r8 : decide (y < n) = true := decide_eq_true hyn
            clear hx hm hmk hy
            go_wp2_with fail
            go_quiet (fail)
            go_wp2_with fail
            obtain ⟨p, hp⟩ := get_ex l x (by omega)
            obtain ⟨q, hq⟩ := get_ex l y (by omega)
            have hoq : (wr.drewN nq).ownsRow B1 9 1 (.slice (some ⟨ga, 0, none⟩) n ca) n (strV (l.map Prod.fst)) := HOA.out
            have hobq : (wr.drewN nq).ownsRow B2 9 1 (.slice (some ⟨gb, 0, none⟩) n cb) n (strV (l.map Prod.snd)) := HOB.out
            have hbq : Below w1.heap.size w1 (wr.drewN nq) := ext_drewN _ HBB.out
            have hne : ga < gb := Nat.lt_of_lt_of_le (HLT.out ga rfl) (by rw [← HB2'.out]; exact hgb)
            have hgaw : w1.heap.size ≤ ga := by assumption
            have hgbw : w1.heap.size ≤ gb := by omega
            obtain ⟨d1, d2, f1, f2, f3, d3⟩ := swap_facts hoq hxn hyn (by rw [List.getElem?_map, hp]; rfl : _ = some p.1) (by rw [List.getElem?_map, hq]; rfl : _ = some q.1)
            have hoq5 := swap_row (x := x) (y := y) (a := p.1) (b := q.1) hoq
            have hobq5 := swap_keep (x := x) (y := y) (a := p.1) (b := q.1) hoq hobq (by intro e; have := Option.some.inj e; simp at this; omega)
            have hbq5 := swap_below (x := x) (y := y) (a := p.1) (b := q.1) hbq hgaw
            rw [← swapK_fst hp hq] at hoq5
            have HOQ := Lib.hid hoq5; have HOBQ := Lib.hid hobq5; have HBQ := Lib.hid hbq5
            have HP := Lib.hid hp; have HQ := Lib.hid hq
            have HNE := Lib.hid hne; have HGB := Lib.hid hgbw; have HXN := Lib.hid hxn; have HYN := Lib.hid hyn
            clear hp hq hoq hobq hbq hoq5 hobq5 hbq5 hne hgaw hgbw c0 r1 r2 r3 r4 r4' r4'' r5 r6 HOA HOB HBB
            generalize wr.drewN nq = wd at *
            go_region
            go_wp2_with fail
            rw [show ((wd.setCell ⟨ga, x, none⟩ (.string q.1)).setCell ⟨ga, y, none⟩ (.string p.1)).drew = swW wd ga x y p.1 q.1 from rfl]
            generalize swW wd ga x y p.1 q.1 = w5 at *
            clear d1 d2 f1 f2 f3 d3
            obtain ⟨d1, d2, f1, f2, f3, d3⟩ := swap_facts HOBQ.out HXN.out HYN.out (by rw [List.getElem?_map, HP.out]; rfl : _ = some p.2) (by rw [List.getElem?_map, HQ.out]; rfl : _ = some q.2)
            have hob6 := swap_row (x := x) (y := y) (a := p.2) (b := q.2) HOBQ.out
            have hoa6 := swap_keep (x := x) (y := y) (a := p.2) (b := q.2) HOBQ.out HOQ.out (by intro e; have := Option.some.inj e; have := HNE.out; simp at *; omega)
            have hb6 := swap_below (x := x) (y := y) (a := p.2) (b := q.2) HBQ.out HGB.out
            rw [← swapK_snd HP.out HQ.out] at hob6
            have R1 : SwRel (keys.zip values) n ns.length B1 B2 (.slice (some ⟨ga, 0, none⟩) n ca) (.slice (some ⟨gb, 0, none⟩) n cb) w1 (.int .i64 ((j : Int) + 1)) (swW w5 gb x y p.2 q.2) := ⟨j + 1, swapK l x y, by go_num, hlt, (swapK_perm (by rw [hzl]; exact HXN.out) (by rw [hzl]; exact HYN.out)).trans HPM.out, hoa6, hob6, hb6⟩
            have HRR := Lib.hid R1
            clear R1 hob6 hoa6 hb6
            go_region
            go_wp2
            refine ⟨?_, by simp [intOf]; omega⟩
            have R1 := HRR.out
            first | exact R1 | ((repeat apply Exists.intro); exact ⟨R1, rfl⟩)
          · have h0 : n = 0 := by omega
            have t5 : decide ((0 : Int) < (n : Int)) = false := decide_eq_false (by omega)
            have t5' : decide (0 < n) = false := decide_eq_false hn0
            have R1 : SwRel (keys.zip values) n ns.length B1 B2 (.slice aa n ca) (.slice ab n cb) w1 (.int .i64 ((j : Int) + 1)) wr := ⟨j + 1, l, by go_num, hlt, HPM.out, HOA.out, HOB.out, HBB.out⟩
            have HRR := Lib.hid R1
            clear R1 h0
            go_wp2
            refine ⟨?_, by simp [intOf]; omega⟩
            have R1 := HRR.out
            first | exact R1 | ((repeat apply Exists.intro); exact ⟨R1, rfl⟩)
        · have t4 : decide ((j : Int) < (ns.length : Int)) = false := decide_eq_false (by omega)
          have t4' : decide (j < ns.length) = false := decide_eq_false hlt
          have hrd1 := H1.out.ext HWB.out
          have hrd2 := H2.out.ext HWB.out
          rw [HN.out] at hrd1
          rw [HN2.out] at hrd2
          have hzl : l.length = n := by rw [HPM.out.length_eq, List.length_zip, HN.out, HN2.out]; omega
          have hrda : Rd (Own wr) wr (.slice aa n ca) (.list 1 ((l.map Prod.fst).map .str)) := rd_owned HOA.out (strV_rds _) (fun g hg => (HOA.out.lt g hg).2)
          have hrdb : Rd (Own wr) wr (.slice ab n cb) (.list 1 ((l.map Prod.snd).map .str)) := rd_owned HOB.out (strV_rds _) (fun g hg => (HOB.out.lt g hg).2)
          have hza : ∀ x ∈ l.map Prod.fst, x.size ≤ 1000 := fun x hx => by
            obtain ⟨p, hp, rfl⟩ := List.mem_map.1 hx
            exact Nat.le_trans (HZ1.out _ (List.of_mem_zip (HPM.out.mem_iff.1 hp)).1) (by omega)
          have hzb : ∀ x ∈ l.map Prod.snd, x.size ≤ 1000 := fun x hx => by
            obtain ⟨p, hp, rfl⟩ := List.mem_map.1 hx
            exact Nat.le_trans (HZ2.out _ (List.of_mem_zip (HPM.out.mem_iff.1 hp)).2) (by omega)
          have hord := obj_order (keys := keys) (values := values) (keys' := l.map Prod.fst) (values' := l.map Prod.snd) (by rw [HN.out, HN2.out]) (by simp) (by
            rw [List.zip_map']
            simpa using HPM.out.symm)
          have CO1 := cobject_any wr _ _ keys values (HE.out.ext HWB.out).sc hrd1 hrd2 (by rw [HN.out]; omega) (by rw [HN2.out]; omega) (fun x hx => Nat.le_trans (HZ1.out x hx) (by omega)) (fun x hx => Nat.le_trans (HZ2.out x hx) (by omega))
          have CO2 := fun W (hW : Below wr.heap.size wr W) => cobject_any W _ _ (l.map Prod.fst) (l.map Prod.snd) ((HE.out.ext HWB.out).ext hW).sc (hrda.ext hW) (hrdb.ext hW) (by rw [List.length_map, hzl]; omega) (by rw [List.length_map, hzl]; omega) hza hzb
          generalize objectS keys values = Ra at *
          generalize objectS (l.map Prod.fst) (l.map Prod.snd) = Rb at *
          obtain ⟨r1, r2, r3⟩ := Ra
          obtain ⟨s1, s2, s3⟩ := Rb
          simp only at hord
          obtain ⟨rfl, rfl⟩ := hord
          have CO1 := Lib.hid CO1; have CO2 := Lib.hid CO2
          clear hrd1 hrd2 hrda hrdb hza hzb HOA HOB HBB HPM hlt
          go_wp2_with fail
          go_at_call 23
          refine CO1.out.mono ?_
          rintro _ w5 ⟨u1, rfl, hu1, hb5⟩
          have HU1 := Lib.hid hu1; have HB5 := Lib.hid hb5
          have CO2' := Lib.hid (CO2.out _ hb5)
          clear hu1 hb5 CO1 CO2
          go_wp2_with fail
          go_at_call 23
          refine CO2'.out.mono ?_
          rintro _ w6 ⟨u2, rfl, hu2, hb6⟩
          have HB6 := Lib.hid (HWB.out.trans ((HB5.out.trans (hb6.mono HB5.out.size)).mono HWB.out.size))
          have K1 := Lib.hid (kind8_any u1 _ w6 (HG.out.ext HB6.out) (HU1.out.ext hb6))
          have K2 := Lib.hid (fun W (hW : Below w6.heap.size w6 W) => kind8_any u2 _ W ((HG.out.ext HB6.out).ext hW) (hu2.ext hW))
          have tx := beqS_t (rfl : r1 = r1)
          have te : ((r2 : Int) == r2) = true := by simp
          clear hu2 hb6 CO2'
          go_wp2_with fail
          refine K1.out.mono ?_
          rintro _ w7 ⟨rfl, hb7⟩
          have HB7 := Lib.hid (HB6.out.trans (hb7.mono HB6.out.size))
          have K2' := Lib.hid (K2.out _ hb7)
          clear hb7 K1 K2
          go_wp2_with fail
          refine K2'.out.mono ?_
          rintro _ w8 ⟨rfl, hb8⟩
          have HB8 := Lib.hid (HB7.out.trans (hb8.mono HB7.out.size))
          clear hb8 K2'
          go_wp2
          go_ret
          exact ⟨rfl, HB8.out⟩
end
end Go.Proofs.YtheoaijheijojaaGreatDoor
