/- Cob6, Cob9, Cob7, Cob10 in one text (a claim holds at most 60 files). -/
import Derived.Test.YtheoaijheijojaaGreatDoorZCob0s
import Derived.Test.YtheoaijheijojaaGreatDoorZCob2s
import Derived.Laws.Bits128
import Derived.Laws.OwnMore
import Derived.Test.YtheoaijheijojaaGreatDoorZCnx0s
import Derived.Test.YtheoaijheijojaaGreatDoorZOwn0s
namespace Go.Proofs.YtheoaijheijojaaGreatDoor
section
open Go.RowKit
theorem dup_nodup {keys : List ByteArray} : firstT (dupP keys) keys.length = none ↔ keys.Nodup := by
  constructor
  · intro h
    have hi := dup_inj (firstT_none' h)
    rw [List.nodup_iff_pairwise_ne, List.pairwise_iff_getElem]
    intro i j h1 h2 hij e
    have := hi i j h1 h2 (by unfold keyAt; rw [List.getElem?_eq_getElem h1, List.getElem?_eq_getElem h2, e])
    omega
  · intro h
    refine firstT_none (fun m hm => ?_)
    unfold dupP
    refine hasL_f (fun hx => ?_)
    obtain ⟨i, hi, he⟩ := List.mem_iff_getElem.1 hx
    rw [List.length_take] at hi
    rw [List.getElem_take] at he
    have e1 : keys[i]? = some (keyAt keys m) := by rw [List.getElem?_eq_getElem (by omega), he]
    have e2 : keys[m]? = some (keyAt keys m) := by unfold keyAt; rw [List.getElem?_eq_getElem hm]; rfl
    have := nodup_inj h e1 e2
    omega
theorem bad_all {keys values : List ByteArray} (hl : keys.length = values.length) : firstT (badP keys values) keys.length = none ↔ ∀ p ∈ keys.zip values, (okC p.1 && okC p.2) = true := by
  have key : ∀ i, badP keys values i = !(okC (keyAt keys i) && okC (keyAt values i)) := fun i => rfl
  constructor
  · intro h p hp
    rw [zip_range keys values hl] at hp
    obtain ⟨i, hi, rfl⟩ := List.mem_map.1 hp
    have := firstT_none' h i (List.mem_range.1 hi)
    rw [key] at this
    simpa using this
  · intro h
    refine firstT_none (fun m hm => ?_)
    rw [key, h (keyAt keys m, keyAt values m) (by rw [zip_range keys values hl]; exact List.mem_map.2 ⟨m, List.mem_range.2 hm, rfl⟩)]
    rfl
end
section
open Go.RowKit
theorem objectS_zero {keys values : List ByteArray} {x : ByteArray} {a : Int} (h : objectS keys values = (x, 0, a)) :
    keys.length = values.length ∧ keys.Nodup ∧ (∀ p ∈ keys.zip values, (okC p.1 && okC p.2) = true) ∧ x = objB ((keys.zip values).map fun p => (p.1, quoteB p.2)) := by
  unfold objectS at h
  split at h
  · have := congrArg (fun y => y.2.1) h; simp at this
  · rename_i hne
    have hl : keys.length = values.length := Decidable.not_not.1 hne
    split at h
    · have := congrArg (fun y => y.2.1) h; simp at this
    · rename_i hd
      split at h
      · have := congrArg (fun y => y.2.1) h; simp at this
      · rename_i hb
        refine ⟨hl, dup_nodup.1 hd, (bad_all hl).1 hb, ?_⟩
        have := congrArg (fun y => y.1) h
        simp only at this
        rw [← this, List.zip_map_right]
        rfl
theorem obj_small2 {keys values : List ByteArray} {a b : Nat} (hl : keys.length ≤ a) (hk : ∀ x ∈ keys, x.size ≤ b) (hv : ∀ x ∈ values, x.size ≤ b) : (objB ((keys.zip values).map fun p => (p.1, quoteB p.2))).size ≤ (12 * b + 6) * a + 2 := by
  have h1 := objB_size ((keys.zip values).map fun p => (p.1, quoteB p.2))
  rw [List.map_map] at h1
  have h2 : ((keys.zip values).map ((fun p : KV => 6 * p.1.size + p.2.size + 4) ∘ fun p => (p.1, quoteB p.2))).sum ≤ ((keys.zip values).map fun _ => 12 * b + 6).sum := sum_le _ (fun p hp => by
    have h3 := hk _ (List.of_mem_zip hp).1
    have h6 := hv _ (List.of_mem_zip hp).2
    have h7 := quoteB_le p.2
    show 6 * p.1.size + (quoteB p.2).size + 4 ≤ _
    omega)
  have h3 : ((keys.zip values).map fun _ => 12 * b + 6).sum = (12 * b + 6) * (keys.zip values).length := by
    generalize keys.zip values = l
    induction l with
    | nil => rfl
    | cons x l ih => rw [List.map_cons, List.sum_cons, ih, List.length_cons, Nat.mul_add]; omega
  have h4 : (keys.zip values).length ≤ a := by rw [List.length_zip]; omega
  exact Nat.le_trans h1 (Nat.add_le_add_right (Nat.le_trans h2 (Nat.le_trans (Nat.le_of_eq h3) (Nat.mul_le_mul_left _ h4))) 2)
end
section
open Go.RowKit
end
section
open Go.RowKit
def SzRel10 (l : List ByteArray) (W : World) (vj : Value) (wr : World) : Prop := ∃ j : Nat, vj = .int .i64 j ∧ j ≤ l.length ∧ wr = W ∧ ∀ m, m < j → (keyAt l m).size ≤ 300
def TxRel10 (n : Nat) (W : World) (vj : Value) (wr : World) : Prop := ∃ j : Nat, vj = .int .i64 j ∧ j ≤ n ∧ Below W.heap.size W wr
theorem key_all10 {P : ByteArray → Prop} {l : List ByteArray} (h : ∀ m, m < l.length → P (keyAt l m)) : ∀ x ∈ l, P x := fun x hx => by
  obtain ⟨i, hi, he⟩ := List.mem_iff_getElem.1 hx
  have := h i hi
  unfold keyAt at this
  rw [List.getElem?_eq_getElem hi] at this
  rw [← he]; exact this
theorem rds_strV10 {S : Nat → Prop} {w : World} {ys : List Value} {l : List ByteArray} (h : Rds S w ys (l.map .str)) : ys = strV l := by
  obtain ⟨hl, h⟩ := h
  simp only [List.length_map] at hl
  unfold strV
  refine List.ext_getElem? (fun i => ?_)
  rw [List.getElem?_map]
  cases hx : l[i]? with
  | none =>
    rw [List.getElem?_eq_none_iff] at hx
    rw [List.getElem?_eq_none (by omega)]; rfl
  | some x =>
    have hi := (List.getElem?_eq_some_iff.1 hx).1
    have hy : ys[i]? = some (ys[i]'(by omega)) := List.getElem?_eq_getElem _
    have := h i _ (.str x) hy (by rw [List.getElem?_map, hx]; rfl)
    rw [hy, this.str_inv]; rfl
/-- What was written of texts is read as them. -/
structure Again10 (keys values : List ByteArray) (X : ByteArray) (s : PS) : Prop where
  p : parseS X ⟨1048576, 64, 5000⟩ = .ok s
  jl : s.js.length ≤ 4001
  top : checkS s.js 0 6 = (0, 0)
  z : X.size ≤ 108200
  mem : ∀ i, i < keys.length → ∃ k : Nat, lastK s.js (kids s.ups 0) (keyAt keys i) = k ∧ anyK s.js (kids s.ups 0) (keyAt keys i) = true ∧ checkS s.js k 4 = (0, 0) ∧ (nodeA s.js k).text = keyAt values i
theorem again10 {keys values : List ByteArray} {X : ByteArray} {a : Int} (h : objectS keys values = (X, 0, a)) (hl : keys.length ≤ 30) (hk : ∀ x ∈ keys, x.size ≤ 300) (hv : ∀ x ∈ values, x.size ≤ 300) : keys.length = values.length ∧ ∃ s, Again10 keys values X s := by
  obtain ⟨hln, hnd, hok, rfl⟩ := objectS_zero h
  refine ⟨hln, ?_⟩
  have hz := obj_small2 (a := 30) (b := 300) hl hk hv
  have hz' : (objB ((keys.zip values).map fun p => (p.1, quoteB p.2))).size ≤ 108200 := Nat.le_trans hz (by decide)
  have hln2 : (keys.zip values).length = keys.length := by rw [List.length_zip]; omega
  have hfst : (keys.zip values).map Prod.fst = keys := List.map_fst_zip (by omega)
  have hndz : (keys.zip values).Nodup := by
    have : ((keys.zip values).map Prod.fst).Nodup := by rw [hfst]; exact hnd
    exact List.Pairwise.of_map Prod.fst (fun a b h e => h (congrArg Prod.fst e)) this
  have hinj : ∀ a ∈ keys.zip values, ∀ b ∈ keys.zip values, a.1 = b.1 → a = b := by
    intro a ha b hb he
    obtain ⟨i, hi, rfl⟩ := List.mem_iff_getElem.1 ha
    obtain ⟨j, hj, rfl⟩ := List.mem_iff_getElem.1 hb
    simp only [List.getElem_zip] at he
    have := (List.getElem_inj hnd).1 he
    subst this; rfl
  obtain ⟨s, p1, p2, p3, p4, p5⟩ := texts_again (l := keys.zip values) (fun p hp => by
    have := hok p hp
    rw [Bool.and_eq_true] at this
    exact ⟨okC_iff.1 this.1, okC_iff.1 this.2⟩) hinj hndz (by omega) (Nat.le_trans hz' (by omega))
  refine ⟨s, p1, p4, ?_, hz', fun i hi => ?_⟩
  · obtain ⟨x, hx⟩ : ∃ x, s.js[0]? = some x := ⟨_, List.getElem?_eq_getElem p2⟩
    have h6 : x.kind = 6 := by unfold textA at p3; rw [hx] at p3; exact p3
    have := checkS_in hx 6
    rw [if_pos (.inl h6)] at this
    exact this
  · obtain ⟨k, hk'⟩ := get_ex keys i hi
    obtain ⟨v, hv'⟩ := get_ex values i (by omega)
    have hmem : (k, v) ∈ keys.zip values := by
      refine List.mem_iff_getElem?.2 ⟨i, ?_⟩
      rw [List.getElem?_zip_eq_some]; exact ⟨hk', hv'⟩
    obtain ⟨n, q1, q2, q3, q4, q5⟩ := p5 _ hmem
    rw [keyAt_some hk', keyAt_some hv']
    refine ⟨n, q2, q3, ?_, ?_⟩
    · obtain ⟨x, hx⟩ : ∃ x, s.js[n]? = some x := ⟨_, List.getElem?_eq_getElem q1⟩
      have h6 : x.kind = 4 := by unfold textA at q4; rw [hx] at q4; exact q4
      have := checkS_in hx 4
      rw [if_pos (.inl h6)] at this
      exact this
    · obtain ⟨x, hx⟩ : ∃ x, s.js[n]? = some x := ⟨_, List.getElem?_eq_getElem q1⟩
      rw [nodeA_in hx]
      unfold textA at q5; rw [hx] at q5; exact q5
set_option maxRecDepth 100000 in
set_option maxHeartbeats 2000000 in
theorem canonTexts_any (v1 v2 : Value) (keys values : List ByteArray) (w : World) (he : CE w) (hg : Glob w) (h1 : Rd (Own w) w v1 (.list 1 (keys.map .str))) (h2 : Rd (Own w) w v2 (.list 1 (values.map .str))) :
    Calls Tryz.prog 8 #[v1, v2] w fun e w' => e = .returned (.bool true) ∧ Below w.heap.size w w' := by
  have H1 := Lib.hid h1; have H2 := Lib.hid h2
  obtain ⟨a1, c1, rfl, _, hc1, hx1⟩ := h1.strs_inv
  obtain ⟨a2, c2, rfl, _, hc2, hx2⟩ := h2.strs_inv
  have SP := Lib.hid (speaks08 w he)
  have HE := Lib.hid he; have HG := Lib.hid hg; have HX1 := Lib.hid hx1; have HX2 := Lib.hid hx2
  clear he hg h1 h2 hx1 hx2
  obtain ⟨n1, hn1⟩ : ∃ n, keys.length = n := ⟨_, rfl⟩
  obtain ⟨n2, hn2⟩ : ∃ n, values.length = n := ⟨_, rfl⟩
  have HN1 := Lib.hid hn1; have HN2 := Lib.hid hn2
  rw [hn1] at hc1 ⊢
  rw [hn2] at hc2 ⊢
  clear hn1 hn2
  by_cases b1 : 30 < n1
  · have t1 : decide ((30 : Int) < (n1 : Int)) = true := decide_eq_true (by omega)
    clear b1
    go_enter Tryz.func8, Tryz.ntmps8
    go_wp2_with fail
    refine SP.out.mono ?_
    rintro e w1 ⟨rfl, hb⟩
    have HB := Lib.hid hb; clear hb
    go_wp2
    go_ret
    exact ⟨rfl, HB.out⟩
  have t1 : decide ((30 : Int) < (n1 : Int)) = false := decide_eq_false (by omega)
  by_cases b2 : 30 < n2
  · have t2 : decide ((30 : Int) < (n2 : Int)) = true := decide_eq_true (by omega)
    clear b1 b2
    go_enter Tryz.func8, Tryz.ntmps8
    go_wp2_with fail
    refine SP.out.mono ?_
    rintro e w1 ⟨rfl, hb⟩
    have HB := Lib.hid hb; clear hb
    go_wp2
    go_ret
    exact ⟨rfl, HB.out⟩
  have t2 : decide ((30 : Int) < (n2 : Int)) = false := decide_eq_false (by omega)
  go_enter Tryz.func8, Tryz.ntmps8
  go_wp2_with fail
  refine SP.out.mono ?_
  rintro e w1 ⟨rfl, hb⟩
  have HB1 := Lib.hid hb; clear hb
  have ho1 : (w1.alloc (.cells #[] 9)).ownsRow w1.heap.size 9 1 (.slice (some ⟨w1.heap.size, 0, none⟩) 0 0) 0 [] := by
    simpa using World.ownsRow_lit (base := w1.heap.size) (e := 9) (size := 1) w1 #[] 0 (Nat.le_refl _) (by decide) rfl
  have hr1 := H1.out.ext (ext_alloc HB1.out (.cells #[] 9))
  rw [HN1.out] at hr1
  have HO1 := Lib.hid ho1; have HR1 := Lib.hid hr1
  clear ho1 hr1
  go_wp2_with (at_builtin; refine wpList_appD (w1.alloc (.cells #[] 9)) rfl _ _ 39 rfl w1.heap.size elStr8 _ 0 [] rfl HO1.out _ rfl _ n1 HR1.out ?c1 ?c2 ?c3 ?c4 ?_)
  case c1 => simp [HN1.out]
  case c2 => simp [maxLen]; omega
  case c3 => omega
  case c4 => simp
  intro va w2 ys2 hown2 hys2 hgr2
  have hb2 : Below w1.heap.size w1 w2 := (ext_alloc (Below.refl _ _) _).grown hgr2 (by simp) (fun q hq => (HO1.out.lt q hq).1)
  have HB12 := Lib.hid hb2
  have HB2 := Lib.hid (HB1.out.trans (hb2.mono HB1.out.size))
  rw [rds_strV10 hys2] at hown2
  have hown2 : w2.ownsRow w1.heap.size 9 1 va n1 (strV keys) := by simpa using hown2
  have hr2 := H2.out.ext HB2.out
  rw [HN2.out] at hr2
  have HOA2 := Lib.hid hown2; have HR2 := Lib.hid hr2
  clear hb2 hown2 hys2 hgr2 hr2
  go_wp2_with (at_builtin; refine wpList_appD w2 rfl _ _ 39 rfl w1.heap.size elStr8 _ n1 (strV keys) rfl HOA2.out _ rfl _ n2 HR2.out ?c1 ?c2 ?c3 ?c4 ?_)
  case c1 => simp [HN2.out]
  case c2 => simp [maxLen]; omega
  case c3 => omega
  case c4 => exact HB12.out.size
  intro vb w3 ys3 hown3 hys3 hgr3
  rw [rds_strV10 hys3] at hown3
  have hb3 : Below w1.heap.size w1 w3 := HB12.out.grown hgr3 HB12.out.size (fun q hq => (HOA2.out.lt q hq).1)
  have HB3 := Lib.hid (HB1.out.trans (hb3.mono HB1.out.size))
  obtain ⟨L, hL⟩ : ∃ L, keys ++ values = L := ⟨_, rfl⟩
  have hLn : L.length = n1 + n2 := by rw [← hL, List.length_append, HN1.out, HN2.out]
  have hown3 : w3.ownsRow w1.heap.size 9 1 vb (n1 + n2) (strV L) := by rw [← hL]; simpa [strV] using hown3
  have hrd3 := rd_strV (by rw [hLn]; exact hown3 : w3.ownsRow w1.heap.size 9 1 vb L.length (strV L))
  have HLL := Lib.hid hL
  have HLN := Lib.hid hLn
  obtain ⟨ab, cb, rfl, _, hcb, hxb⟩ := hrd3.strs_inv
  have HXB := Lib.hid hxb
  rw [hLn] at hcb ⊢
  obtain ⟨nl, hnl⟩ : ∃ n, n1 + n2 = n := ⟨_, rfl⟩
  rw [hnl] at hcb HLN ⊢
  have HNL := Lib.hid hnl
  have hnl' : nl ≤ 60 := by omega
  clear hb3 hown3 hys3 hgr3 hL hrd3 hxb hLn hnl
  go_wp2_with fail
  go_loopw [41] (SzRel10 L w3) (fun i _ => nl - (intOf i).toNat)
  case atStart => exact ⟨0, rfl, Nat.zero_le _, rfl, fun m h => by omega⟩
  case round =>
    obtain ⟨j, rfl, hj, rfl, hsz⟩ := hrel
    rw [HLN.out] at hj
    have HSZ := Lib.hid hsz
    clear hsz
    by_cases hlt : j < nl
    · have t4 : decide ((j : Int) < (nl : Int)) = true := decide_eq_true (by omega)
      have t4' : decide (j < nl) = true := decide_eq_true hlt
      have q1 : IntKind.i64.wrap ((j : Int) + 1) = (j : Int) + 1 := IntWalk.i64_in _ (by omega)
      obtain ⟨p1, o1, rfl, hbz1, hcl1⟩ := HXB.out (by rw [HLN.out]; omega)
      obtain ⟨k, hk⟩ := get_ex L j (by rw [HLN.out]; exact hlt)
      have c1' := hcl1 j k hk
      have hka : keyAt L j = k := by unfold keyAt; rw [hk]; rfl
      have HKA := Lib.hid hka
      clear hcl1 hk hka hbz1
      by_cases z1 : 300 < k.size
      · have s1 : decide ((300 : Int) < (k.size : Int)) = true := decide_eq_true (by omega)
        clear z1
        go_wp2
        go_ret
        exact ⟨rfl, HB3.out⟩
      have s1 : decide ((300 : Int) < (k.size : Int)) = false := decide_eq_false (by omega)
      have R1 : SzRel10 L wr (.int .i64 ((j : Int) + 1)) wr := ⟨j + 1, by go_num, by rw [HLN.out]; exact hlt, rfl, fun m hm => by
        by_cases e : m = j
        · subst e; rw [HKA.out]; omega
        · exact HSZ.out m (by omega)⟩
      have HRR := Lib.hid R1
      clear R1 z1
      go_wp2
      refine ⟨?_, by simp [intOf]; omega⟩
      have R1 := HRR.out
      first | exact R1 | ((repeat apply Exists.intro); exact ⟨R1, rfl⟩)
    · have t4 : decide ((j : Int) < (nl : Int)) = false := decide_eq_false (by omega)
      have t4' : decide (j < nl) = false := decide_eq_false hlt
      have hza : ∀ x ∈ L, x.size ≤ 300 := key_all10 fun m hm => HSZ.out m (by rw [HLN.out] at hm; omega)
      have HZ1 : Hid (∀ x ∈ keys, x.size ≤ 300) := Lib.hid (fun x hx => hza x (by rw [← HLL.out]; exact List.mem_append_left _ hx))
      have HZ2 : Hid (∀ x ∈ values, x.size ≤ 300) := Lib.hid (fun x hx => hza x (by rw [← HLL.out]; exact List.mem_append_right _ hx))
      have hrd1 := H1.out.ext HB3.out
      have hrd2 := H2.out.ext HB3.out
      rw [HN1.out] at hrd1
      rw [HN2.out] at hrd2
      have hk1 : ∀ x ∈ keys, x.size ≤ 1000 := fun x hx => Nat.le_trans (HZ1.out x hx) (by omega)
      have hk2 : ∀ x ∈ values, x.size ≤ 1000 := fun x hx => Nat.le_trans (HZ2.out x hx) (by omega)
      have CO := cobject_any wr _ _ keys values (HE.out.ext HB3.out).sc hrd1 hrd2 (by rw [HN1.out]; omega) (by rw [HN2.out]; omega) hk1 hk2
      have CL := fun W (hW : Below wr.heap.size wr W) => clist_any W _ values ((HE.out.ext HB3.out).ext hW).sc (hrd2.ext hW) (by rw [HN2.out]; omega) hk2
      have RO := fun W (hW : Below wr.heap.size wr W) => robj_any W _ _ keys values (hrd1.ext hW) (hrd2.ext hW) (by rw [HN1.out]; omega) hk1 hk2
      have RL := fun W (hW : Below wr.heap.size wr W) => rlst8_any W _ values (hrd2.ext hW) (by rw [HN2.out]; omega) hk2
      obtain ⟨Ra, hRa⟩ : ∃ R, objectS keys values = R := ⟨_, rfl⟩
      obtain ⟨Rb, hRb⟩ : ∃ R, listS values = R := ⟨_, rfl⟩
      have HRA := Lib.hid hRa
      rw [hRa] at CO RO
      rw [hRb] at CL RL
      obtain ⟨r1, r2, r3⟩ := Ra
      obtain ⟨s1, s2, s3⟩ := Rb
      have CO := Lib.hid CO; have CL := Lib.hid CL; have RO := Lib.hid RO; have RL := Lib.hid RL
      clear hrd1 hrd2 hk1 hk2 hza hRa hRb HSZ hlt HXB
      go_wp2_with fail
      go_at_call 23
      refine CO.out.mono ?_
      rintro _ w5 ⟨u1, rfl, hu1, hb5⟩
      have HU1 := Lib.hid hu1; have HB5 := Lib.hid hb5
      have CL' := Lib.hid (CL.out _ hb5)
      clear hu1 hb5 CO CL
      go_wp2_with fail
      go_at_call 25
      refine CL'.out.mono ?_
      rintro _ w6 ⟨u2, rfl, hu2, hb6⟩
      have HU2 := Lib.hid hu2; have HU1' := Lib.hid (HU1.out.ext hb6)
      have HB6 := Lib.hid (HB5.out.trans (hb6.mono HB5.out.size))
      have RO' := Lib.hid (RO.out _ HB6.out)
      clear hu2 hb6 CL' RO HU1
      go_wp2_with fail
      go_at_call 26
      refine RO'.out.mono ?_
      rintro _ w7 ⟨rfl, hb7⟩
      have HB7 := Lib.hid (HB6.out.trans (hb7.mono HB6.out.size))
      have HU1 := Lib.hid (HU1'.out.ext hb7); have HU2' := Lib.hid (HU2.out.ext hb7)
      have RL' := Lib.hid (RL.out _ HB7.out)
      clear hb7 RO' RL HU1' HU2
      go_wp2_with fail
      go_at_call 27
      refine RL'.out.mono ?_
      rintro _ w8 ⟨rfl, hb8⟩
      have HB8 := Lib.hid (HB3.out.trans ((HB7.out.trans (hb8.mono HB7.out.size)).mono HB3.out.size))
      have hu1 := HU1.out.ext hb8
      have hu2 := HU2'.out.ext hb8
      have TD1 := Lib.hid (told8_any w8 u1 _ _ (HG.out.ext HB8.out) hu1)
      have TD2 := Lib.hid (fun W (hW : Below w8.heap.size w8 W) => told8_any W u2 _ _ ((HG.out.ext HB8.out).ext hW) (hu2.ext hW))
      have hcase : (r2 = 0 ∧ u1 = .nilIface) ∨ ∃ b off uu, u1 = .iface 115 (.pointer (some ⟨b, off, uu⟩)) := by
        rcases hu1 with ⟨h0, rfl⟩ | ⟨h0, h⟩
        · exact .inl ⟨h0, rfl⟩
        · obtain ⟨b, off, uu, rfl, _⟩ := fault_inv h
          exact .inr ⟨_, _, _, rfl⟩
      have tx := beqS_t (rfl : r1 = r1)
      have ty := beqS_t (rfl : s1 = s1)
      clear hu1 hu2 hb8 RL' HU1 HU2'
      go_wp2_with fail
      go_at_call 21
      refine TD1.out.mono ?_
      rintro _ w9 ⟨rfl, hb9⟩
      have HB9 := Lib.hid (HB8.out.trans (hb9.mono HB8.out.size))
      have TD2' := Lib.hid (TD2.out _ hb9)
      clear hb9 TD1 TD2
      go_wp2_with fail
      go_at_call 21
      refine TD2'.out.mono ?_
      rintro _ w10 ⟨rfl, hb10⟩
      have HB10 := Lib.hid (HB9.out.trans (hb10.mono HB9.out.size))
      clear hb10 TD2' tx ty
      rcases hcase with ⟨h0, rfl⟩ | ⟨b, off, uu, rfl⟩
      case inr =>
        go_wp2
        go_ret
        exact ⟨rfl, HB10.out⟩
      subst h0
      obtain ⟨hln, s, hag⟩ := again10 HRA.out (by rw [HN1.out]; omega) HZ1.out HZ2.out
      have hn12 : n1 = n2 := by rw [← HN1.out, ← HN2.out]; exact hln
      have HAG := Lib.hid hag
      have hrz := hag.z
      obtain ⟨W8, cap, hcv, hcap, hb8, hz8, hcell⟩ := bytes_of_string r1 w10
      have L8 := rd_of_cells (S := Own W8) (B := r1) (b := w10.heap.size) hz8 hcap hcell
      have HB11 := Lib.hid (ext_trans HB10.out hb8)
      have PX := Lib.hid (fun W (hW : Below W8.heap.size W8 W) => by
        have := parse_any W _ r1 ⟨1048576, 64, 5000⟩ (L8.ext hW) (HE.out.ext (ext_trans HB11.out hW)).sc (by omega)
        rw [HAG.out.p] at this
        exact this)
      clear hb8 hz8 hcell L8 hcap hag hln
      go_wp2_with fail
      refine (wide_any _).mono ?_
      rintro e w12 ⟨rfl, hb⟩
      have HB12 := Lib.hid (ext_trans HB11.out hb)
      have PX9 := Lib.hid (PX.out _ hb)
      clear hb PX hcv
      go_wp2_with fail
      refine PX9.out.mono ?_
      rintro e w13 ⟨D, T, tv, ns, rfl, hd, hb⟩
      have HB13 := Lib.hid (ext_trans HB12.out hb)
      have HV := Lib.hid (PView.mk hd (Nat.le_trans HAG.out.jl (by omega)) (fun k => by
        unfold keyA
        split
        · rename_i x hx
          have := (parse_nodes2 HAG.out.p x (List.mem_of_getElem? hx)).ks
          simp [maxLen]; omega
        · exact Nat.zero_le _))
      clear hb hd PX9 hrz
      go_wp2_with fail
      generalize wr = wo at *
      go_loopw [112] (TxRel10 n1 w13) (fun i _ => n1 - (intOf i).toNat)
      case atStart => exact ⟨0, rfl, Nat.zero_le _, Below.refl _ _⟩
      case round =>
        obtain ⟨j, rfl, hj, hb⟩ := hrel
        have HBB := Lib.hid hb
        have HB14 := Lib.hid (ext_trans HB13.out hb)
        clear hb
        by_cases hlt : j < n1
        · have t5 : decide ((j : Int) < (n1 : Int)) = true := decide_eq_true (by omega)
          have t5' : decide (j < n1) = true := decide_eq_true hlt
          have q1 : IntKind.i64.wrap ((j : Int) + 1) = (j : Int) + 1 := IntWalk.i64_in _ (by omega)
          obtain ⟨p1, o1, rfl, hbz1, hcl1⟩ := HX1.out (by rw [HN1.out]; omega)
          obtain ⟨p2, o2, rfl, hbz2, hcl2⟩ := HX2.out (by rw [HN2.out]; omega)
          obtain ⟨k, hk⟩ := get_ex keys j (by rw [HN1.out]; exact hlt)
          obtain ⟨v, hv⟩ := get_ex values j (by rw [HN2.out]; omega)
          have d1 := (bcell1 HB14.out hbz1 _).trans (hcl1 j k hk)
          have C2 := Lib.hid (hcl2 j v hv)
          have HBZ2 : Hid (p2 < w.heap.size) := Lib.hid hbz2
          obtain ⟨id, m1, m2, m3, m4⟩ := HAG.out.mem j (by rw [HN1.out]; exact hlt)
          rw [keyAt_some hk] at m1 m2
          rw [keyAt_some hv] at m4
          have ME := member_p (HV.out.below HBB.out) 0 k
          have M0 := Lib.hid HAG.out.top
          have M1 := Lib.hid m1; have M2 := Lib.hid m2
          have M3 := Lib.hid m3; have M4 := Lib.hid m4
          have TE := Lib.hid (fun W (hW : Below wr.heap.size wr W) => text_p ((HV.out.below HBB.out).below hW) (id : Int))
          have ME := Lib.hid ME
          have hlt2 : j < n2 := by omega
          have t6' : decide (j < n2) = true := decide_eq_true hlt2
          clear hcl1 hcl2 hk hv hbz1 hbz2 m1 m2 m3 m4 hlt2
          go_wp2_with fail
          go_at_call 28
          refine ME.out.mono ?_
          rintro _ w14 ⟨one, u3, rfl, hb14, _, hq⟩
          obtain ⟨rfl, hu3⟩ := hq (by rw [M0.out])
          rw [show (0 : Int).toNat = 0 from rfl, M2.out, if_pos rfl] at hu3
          rw [show (0 : Int).toNat = 0 from rfl, M1.out]
          obtain rfl := hu3.nil rfl
          have TE' := Lib.hid (TE.out _ hb14)
          have HB15 := Lib.hid (ext_trans HBB.out hb14)
          clear hb14 hq hu3 ME TE
          go_wp2_with fail
          go_at_call 29
          refine TE'.out.mono ?_
          rintro _ w15 ⟨v8, u4, rfl, hu4, hq, _, hb15⟩
          rw [M3.out] at hu4 hq
          obtain rfl := hu4.nil rfl
          obtain rfl := hq rfl
          rw [M4.out]
          have HB16 := Lib.hid (ext_trans HB15.out hb15)
          have HB17 := Lib.hid (ext_trans HB13.out HB16.out)
          have d2 : w15.cell? ⟨p2, o2 + j, none⟩ = some (.string v) := (bcell1 HB17.out HBZ2.out _).trans C2.out
          have tv := beqS_t (rfl : v = v)
          clear hu4 hq hb15 TE' d1
          have R1 : TxRel10 n1 w13 (.int .i64 ((j : Int) + 1)) w15 := ⟨j + 1, by go_num, hlt, HB16.out⟩
          have HRR := Lib.hid R1
          clear R1
          go_wp2
          refine ⟨?_, by simp [intOf]; omega⟩
          have R1 := HRR.out
          first | exact R1 | ((repeat apply Exists.intro); exact ⟨R1, rfl⟩)
        · have t5 : decide ((j : Int) < (n1 : Int)) = false := decide_eq_false (by omega)
          have t5' : decide (j < n1) = false := decide_eq_false hlt
          go_wp2
          go_ret
          exact ⟨rfl, HB14.out⟩
end
end Go.Proofs.YtheoaijheijojaaGreatDoor
