/- canon.form: the form of a value. -/
import Derived.Test.YtheoaijheijojaaGreatDoorZCnw0s
import Derived.Test.YtheoaijheijojaaGreatDoorZCn8s
namespace Go.Proofs.YtheoaijheijojaaGreatDoor
open Go.RowKit
structure FEnv (s : PS) (K : Nat) : Prop where
  wf : WfUps s.ups
  ul : s.ups.length = s.js.length
  ok : ∀ x ∈ s.js, NodeOK K x
  kk : K ≤ 100000
  jl : s.js.length ≤ 100000
  sz : wt s.js ≤ 100000
theorem FEnv.size {s : PS} {K : Nat} (h : FEnv s K) {f i : Nat} (hf : s.ups.length - i ≤ f) (hi : i < s.ups.length) : (formF s.js s.ups f i).size ≤ 1000000000 := by
  have h1 := formF_size2 (js := s.js) h.wf f i hf hi
  have h2 : ((pre s.ups f i).map (gW s.js)).sum ≤ ((List.range s.js.length).map (gW s.js)).sum := sum_sub (pre_nodup h.wf f i hi) (fun x hx => List.mem_range.2 (by rw [← h.ul]; exact (pre_range h.wf f i x hi hx).2))
  rw [sum_all] at h2
  have := h.sz
  have := h.jl
  omega
def FoRel (l : List KV) (W : World) (vp vj : Value) (wr : World) : Prop := ∃ j : Nat, vj = .int .i64 j ∧ j ≤ l.length ∧ wr.ownsRow W.heap.size 113 2 vp j ((l.take j).flatMap encM) ∧ Below W.heap.size W wr
def FlRel (l : List ByteArray) (W : World) (vp vj : Value) (wr : World) : Prop := ∃ j : Nat, vj = .int .i64 j ∧ j ≤ l.length ∧ wr.ownsRow W.heap.size 9 1 vp j (strV (l.take j)) ∧ Below W.heap.size W wr
set_option maxRecDepth 100000 in
set_option maxHeartbeats 16000000 in
theorem form_any (base D T : Nat) (s : PS) (nodes : Int) (tv : Value) (ns : List ANode) (K : Nat) (F : FEnv s K) : ∀ (f i : Nat) (w : World), ScEnv w → PView w base D T s nodes tv ns → s.ups.length - i ≤ f → i < s.ups.length →
    Calls Tryz.prog 50 #[ptrV D, .int .i64 i] w fun e w' => e = .returned (.string (formF s.js s.ups f i)) ∧ Below w.heap.size w w'
  | 0, i, w, _, _, hf, hi => by omega
  | f + 1, i, w, he, hv, hf, hi => by
    have IH := Lib.hid (form_any base D T s nodes tv ns K F f)
    obtain ⟨x, hx⟩ := get_ex s.js i (by rw [← F.ul]; exact hi)
    have ht : textA s.js i = x := by unfold textA; rw [hx]; rfl
    have hok := F.ok x (List.mem_of_getElem? hx)
    have hil : i < s.js.length := by rw [← F.ul]; exact hi
    have ND := node_p hv i
    rw [nodeA_in hx, decide_eq_true (by omega : 0 ≤ (i : Int) ∧ (i : Int) < s.js.length)] at ND
    have ND := Lib.hid ND
    have hform : formF s.js s.ups (f + 1) i = (if x.kind = 0 then nullB else if x.kind = 1 then falseB else if x.kind = 2 then trueB else if x.kind = 3 then x.text else if x.kind = 4 then quoteB x.text
      else if x.kind = 6 then objB ((membersS s.js (kids s.ups i)).map fun k => (keyA s.js k, formF s.js s.ups f k)) else lstB ((kids s.ups i).map (formF s.js s.ups f))) := by rw [formF, ht]
    have hpre := F.size (f := f + 1) (i := i) hf hi
    obtain ⟨R, hR⟩ : ∃ R, formF s.js s.ups (f + 1) i = R := ⟨_, rfl⟩
    rw [hR] at hpre ⊢
    have HV := Lib.hid hv; have HE := Lib.hid he; have HX := Lib.hid hx; have HOK := Lib.hid hok; have FF := Lib.hid F
    have hkc : x.kind = 0 ∨ x.kind = 1 ∨ x.kind = 2 ∨ x.kind = 3 ∨ x.kind = 4 ∨ x.kind = 6 ∨ x.kind = 5 := by have := hok.lo; have := hok.hi; omega
    clear hv he hx hok ht
    obtain ⟨kd, key, text, at_⟩ := x
    simp only at hkc hform ND
    have hkt := hkc
    rcases hkc with hk | hk | hk | hk | hk | hk | hk
    · subst hk
      have HR' : Hid (R = nullB) := Lib.hid (by rw [← hR, hform]; simp)
      clear hR hform hkt hpre
      go_enter Tryz.func50, Tryz.ntmps50
      go_wp2_with fail
      refine ND.out.mono ?_
      rintro _ w2 ⟨rfl, hb2⟩
      have HB2 := Lib.hid hb2
      clear hb2
      go_wp2
      go_ret
      exact ⟨by rw [HR'.out]; rfl, ext_alloc HB2.out _⟩
    · subst hk
      have HR' : Hid (R = falseB) := Lib.hid (by rw [← hR, hform]; simp)
      clear hR hform hkt hpre
      go_enter Tryz.func50, Tryz.ntmps50
      go_wp2_with fail
      refine ND.out.mono ?_
      rintro _ w2 ⟨rfl, hb2⟩
      have HB2 := Lib.hid hb2
      clear hb2
      go_wp2
      go_ret
      exact ⟨by rw [HR'.out]; rfl, ext_alloc HB2.out _⟩
    · subst hk
      have HR' : Hid (R = trueB) := Lib.hid (by rw [← hR, hform]; simp)
      clear hR hform hkt hpre
      go_enter Tryz.func50, Tryz.ntmps50
      go_wp2_with fail
      refine ND.out.mono ?_
      rintro _ w2 ⟨rfl, hb2⟩
      have HB2 := Lib.hid hb2
      clear hb2
      go_wp2
      go_ret
      exact ⟨by rw [HR'.out]; rfl, ext_alloc HB2.out _⟩
    · subst hk
      have HR' : Hid (R = text) := Lib.hid (by rw [← hR, hform]; simp)
      clear hR hform hkt hpre
      go_enter Tryz.func50, Tryz.ntmps50
      go_wp2_with fail
      refine ND.out.mono ?_
      rintro _ w2 ⟨rfl, hb2⟩
      have HB2 := Lib.hid hb2
      clear hb2
      go_wp2
      go_ret
      exact ⟨by rw [HR'.out]; rfl, ext_alloc HB2.out _⟩
    · subst hk
      have HR' : Hid (R = quoteB text) := Lib.hid (by rw [← hR, hform]; simp)
      clear hR hform hkt hpre
      have QU := Lib.hid (fun W (hW : Below w.heap.size w W) => quoted_any text W (HE.out.ext hW) (HOK.out.text rfl) (Nat.le_trans HOK.out.ts FF.out.kk))
      go_enter Tryz.func50, Tryz.ntmps50
      go_wp2_with fail
      refine ND.out.mono ?_
      rintro _ w2 ⟨rfl, hb2⟩
      have HB2 := Lib.hid hb2
      have HB3 : Hid (Below w.heap.size w (w2.alloc (.cells #[.int .i64 4, .string key, .string text, .int .i64 at_] 68))) := Lib.hid (ext_alloc hb2 _)
      clear hb2
      go_wp2_with fail
      go_at_call 53
      refine (QU.out _ HB3.out).mono ?_
      rintro _ w4 ⟨rfl, hb4⟩
      have HB4 := Lib.hid (HB3.out.trans (hb4.mono HB3.out.size))
      clear hb4
      go_wp2
      go_ret
      exact ⟨by rw [HR'.out]; rfl, HB4.out⟩
    · subst hk
      have hE : R = objB ((membersS s.js (kids s.ups i)).map fun k => (keyA s.js k, formF s.js s.ups f k)) := by rw [← hR, hform]; simp
      have hoz : (objB ((membersS s.js (kids s.ups i)).map fun k => (keyA s.js k, formF s.js s.ups f k))).size ≤ 1000000000 := by rw [← hE]; exact hpre
      have hul := FF.out.ul
      have hjl := FF.out.jl
      have hmem : ∀ k ∈ membersS s.js (kids s.ups i), s.ups.length - k ≤ f ∧ k < s.ups.length := fun k hk => by
        have hk := (List.mem_filter.1 hk).1
        have h1 := kids_gt FF.out.wf hk
        have h2 := (mem_kids.1 hk).2.1
        exact ⟨by omega, h2⟩
      have hinj : ∀ a ∈ (membersS s.js (kids s.ups i)).map (fun k => (keyA s.js k, formF s.js s.ups f k)), ∀ b ∈ (membersS s.js (kids s.ups i)).map (fun k => (keyA s.js k, formF s.js s.ups f k)), a.1 = b.1 → a = b := by
        intro a ha b hb h
        obtain ⟨k1, h1, rfl⟩ := List.mem_map.1 ha
        obtain ⟨k2, h2, rfl⟩ := List.mem_map.1 hb
        rw [members_inj h1 h2 h]
      have hrt : ∀ a ∈ (membersS s.js (kids s.ups i)).map (fun k => (keyA s.js k, formF s.js s.ups f k)), RightB a.1 ∧ a.1.size ≤ 100000 := by
        intro a ha
        obtain ⟨k1, h1, rfl⟩ := List.mem_map.1 ha
        obtain ⟨y, hy⟩ := get_ex s.js k1 (by rw [← hul]; exact (hmem k1 h1).2)
        have hy2 := FF.out.ok y (List.mem_of_getElem? hy)
        rw [show keyA s.js k1 = y.key by unfold keyA; rw [hy]]
        exact ⟨hy2.key, Nat.le_trans hy2.ks FF.out.kk⟩
      have hkl := kids_le s.ups i
      have hml : (membersS s.js (kids s.ups i)).length ≤ (kids s.ups i).length := List.length_filter_le _ _
      have MB := Lib.hid (fun W (hW : Below w.heap.size w W) => by
        have h := members_p (HV.out.below hW) i
        rw [checkS_in HX.out, if_pos (.inl rfl), Int.toNat_natCast] at h
        exact h)
      have HR' := Lib.hid hE; have HOZ := Lib.hid hoz; have HMEM := Lib.hid hmem; have HINJ := Lib.hid hinj; have HRT := Lib.hid hrt
      generalize membersS s.js (kids s.ups i) = ms at *
      clear hR hform hkt hpre hE hoz hmem hinj hrt hi hf
      have hkn : ms.length ≤ 100000 := by omega
      obtain ⟨l, hl⟩ : ∃ l, ms.map (fun k => (keyA s.js k, formF s.js s.ups f k)) = l := ⟨_, rfl⟩
      rw [hl] at HR' HOZ HINJ HRT
      have hll : l.length = ms.length := by rw [← hl, List.length_map]
      have HL := Lib.hid hl
      clear hl hkl hml
      go_enter Tryz.func50, Tryz.ntmps50
      go_wp2_with fail
      refine ND.out.mono ?_
      rintro _ w2 ⟨rfl, hb2⟩
      have HB3 : Hid (Below w.heap.size w (w2.alloc (.cells #[.int .i64 6, .string key, .string text, .int .i64 at_] 68))) := Lib.hid (ext_alloc hb2 _)
      clear hb2
      go_wp2_with fail
      go_at_call 78
      refine (MB.out _ HB3.out).mono ?_
      rintro _ w4 ⟨v4, u4, rfl, hu, hgd, _, hb4⟩
      have hr4 := hgd rfl
      obtain rfl : u4 = .nilIface := by
        rcases hu with ⟨_, h⟩ | ⟨h, _⟩
        · exact h
        · exact absurd rfl h
      have HB4 := Lib.hid (HB3.out.trans (hb4.mono HB3.out.size))
      obtain ⟨a4, c4, rfl, _, _, hx4⟩ := hr4.nats_inv
      have HX4 := Lib.hid hx4
      have HE4 := Lib.hid (HE.out.ext HB4.out)
      have HV4 := Lib.hid (HV.out.below HB4.out)
      clear hu hgd hb4 hr4 hx4 MB
      go_wp2_with fail
      go_loopw [7, 52] (FoRel l w4) (fun _ j _ => l.length - (intOf j).toNat)
      case atStart => exact ⟨0, rfl, Nat.zero_le _, by simpa using World.ownsRow_nil w4 w4.heap.size 113 2, Below.refl _ _⟩
      case round =>
        obtain ⟨j, rfl, hj, hp, hb⟩ := hrel
        by_cases hlt : j < ms.length
        · obtain ⟨k, hkj⟩ := get_ex ms j hlt
          obtain ⟨b, off, rfl, hbz, hc⟩ := HX4.out (by omega)
          have c0 : wr.cell? ⟨b, off + j, none⟩ = some (.int .i64 (k : Nat)) := (bcell1 hb hbz _).trans (by rw [hc j hlt, (List.getElem?_eq_some_iff.1 hkj).2])
          have t1 : decide ((j : Int) < (ms.length : Int)) = true := decide_eq_true (by omega)
          have t1' : decide (j < ms.length) = true := decide_eq_true hlt
          have q1 : IntKind.i64.wrap ((j : Int) + 1) = (j : Int) + 1 := IntWalk.i64_in _ (by omega)
          have hmk := HMEM.out k (List.mem_of_getElem? hkj)
          have FM := Lib.hid (fun W (hW : Below w4.heap.size w4 W) => IH.out k W (HE4.out.ext hW) (HV4.out.below hW) hmk.1 hmk.2)
          obtain ⟨y, hy⟩ := get_ex s.js k (by rw [← hul]; exact hmk.2)
          have NK := node_p (HV4.out.below hb) k
          rw [nodeA_in hy, decide_eq_true (by omega : 0 ≤ (k : Int) ∧ (k : Int) < s.js.length)] at NK
          have NK := Lib.hid NK
          have hlj : l[j]? = some (y.key, formF s.js s.ups f k) := by
            rw [← HL.out, List.getElem?_map, hkj]
            show some (keyA s.js k, _) = _
            rw [show keyA s.js k = y.key by unfold keyA; rw [hy]]
          obtain ⟨fk, hfk⟩ : ∃ fk, formF s.js s.ups f k = fk := ⟨_, rfl⟩
          rw [hfk] at FM hlj
          obtain ⟨kd1, key1, text1, at1⟩ := y
          have HLJ := Lib.hid hlj
          have HP := Lib.hid hp; have HB := Lib.hid hb
          clear hp hb hkj hc hmk hlj hfk hy
          go_wp2_with fail
          go_at_call 42
          refine NK.out.mono ?_
          rintro _ w5 ⟨rfl, hb5⟩
          obtain ⟨N, hN⟩ : ∃ N, w5.heap.size = N := ⟨_, rfl⟩
          obtain ⟨W6, hW6⟩ : ∃ W, w5.alloc (.cells #[.int .i64 kd1, .string key1, .string text1, .int .i64 at1] 68) = W := ⟨_, rfl⟩
          have hb46 : Below w4.heap.size w4 W6 := by rw [← hW6]; exact ext_alloc (HB.out.trans (hb5.mono HB.out.size)) _
          have hx6 : W6.heap[N]? = some (.cells #[.int .i64 kd1, .string key1, .string text1, .int .i64 at1] 68 (0, 0)) := by rw [← hW6, ← hN]; exact heap_alloc_new w5 _
          have n1 : W6.cell? ⟨N, 1, none⟩ = some (.string key1) := cell_of_row _ _ _ _ _ _ hx6
          have hp6 : W6.ownsRow w4.heap.size 113 2 u7 j ((l.take j).flatMap encM) := by
            rw [← hW6]
            exact (aown_ext HP.out (fun q hq => hb5.block q (HP.out.lt q hq).2) (Nat.le_refl _)).alloc _
          have zN : N < W6.heap.size := (Array.getElem?_eq_some_iff.1 hx6).1
          have HBd : Hid (Below w4.heap.size w4 W6.drew) := Lib.hid hb46.drew
          have HPd : Hid (W6.drew.ownsRow w4.heap.size 113 2 u7 j ((l.take j).flatMap encM)) := Lib.hid hp6
          have zNd : N < W6.drew.heap.size := zN
          have NE : Hid (some N ≠ u7.ownBlock) := Lib.hid (fun e => by have h1 := (HP.out.lt N e.symm).2; have h2 := hb5.size; omega)
          have HW6 := Lib.hid hW6; have HN := Lib.hid hN
          clear hb46 hx6 hp6 hW6 hN hb5 c0
          go_wp2_with fail
          simp only [HN.out, HW6.out]
          refine wp_region_noPanic ?_
          refine wp_region_held_drew (S := fun W => W.cell? ⟨N, 1, none⟩ = some (.string key1)) (by kernel_rfl) n1 (fun hHeld => ?_)
          generalize W6.drew = wd at *
          refine wpAnyH_take (i := 0) (oi := _) (v := u7) rfl (by kernel_rfl) (by kernel_rfl) (by kernel_rfl) (fun _ _ _ h => h) (Or.inl ⟨by rfl, ?_⟩) hHeld ?_
          · intro w hSw; go_simp
          try simp only [Act.put, List.setIfInBounds_toArray, List.set_cons_zero, List.set_cons_succ, List.getElem_toArray, List.getElem_cons_zero]
          refine wpAnyH_take (i := 1) (oi := _) (v := .pointer (some ⟨N, 1, none⟩)) rfl (by kernel_rfl) (by kernel_rfl) (by kernel_rfl) (fun _ _ _ h => h) (Or.inl ⟨by rfl, ?_⟩) hHeld ?_
          · intro w hSw; go_simp
          try simp only [Act.put, List.setIfInBounds_toArray, List.set_cons_zero, List.set_cons_succ, List.getElem_toArray, List.getElem_cons_zero, List.getElem_cons_succ]
          refine wpAnyH_take (i := 2) (oi := _) (v := .string key1) rfl (by kernel_rfl) (by kernel_rfl) (by kernel_rfl) (fun _ _ _ h => h) (Or.inl ⟨by rfl, ?_⟩) hHeld ?_
          · intro w hSw; go_simp
          try simp only [Act.put, List.setIfInBounds_toArray, List.set_cons_zero, List.set_cons_succ, List.getElem_toArray, List.getElem_cons_zero, List.getElem_cons_succ]
          refine wpAnyH_take (i := 3) (oi := _) (v := ptrV D) rfl (by kernel_rfl) (by kernel_rfl) (by kernel_rfl) (fun _ _ _ h => h) (Or.inl ⟨by rfl, ?_⟩) hHeld ?_
          · intro w hSw; go_simp
          try simp only [Act.put, List.setIfInBounds_toArray, List.set_cons_zero, List.set_cons_succ, List.getElem_toArray, List.getElem_cons_zero, List.getElem_cons_succ]
          refine wpAnyH_take (i := 4) (oi := _) (v := .int .i64 (k : Nat)) rfl (by kernel_rfl) (by kernel_rfl) (by kernel_rfl) (fun _ _ _ h => h) (Or.inl ⟨by rfl, ?_⟩) hHeld ?_
          · intro w hSw; go_simp
          try simp only [Act.put, List.setIfInBounds_toArray, List.set_cons_zero, List.set_cons_succ, List.getElem_toArray, List.getElem_cons_zero, List.getElem_cons_succ]
          refine wpAnyH_ready (rs := [5]) (by kernel_rfl) (by simp) ?_
          refine AllReadyH.cons (o := _) rfl (fun K hK => ?_) AllReadyH.nil
          go_simp
          refine (FM.out wd HBd.out).mono ?_
          rintro e w7 ⟨rfl, hb7⟩
          go_wp2_with fail
          refine hK.out _ _ ((bcell1 hb7 zNd 1).trans hHeld) (fun hHeld => ?_)
          clear hK K
          try simp only [Act.put, List.setIfInBounds_toArray, List.set_cons_zero, List.set_cons_succ, List.getElem_toArray, List.getElem_cons_zero, List.getElem_cons_succ]
          refine wpAnyH_take (i := 6) (oi := _) (v := .agg #[.string key1, .string fk]) rfl (by kernel_rfl) (by kernel_rfl) (by kernel_rfl) (fun _ _ _ h => h) (Or.inl ⟨by rfl, ?_⟩) hHeld ?_
          · intro w hSw; go_simp
          try simp only [Act.put, List.setIfInBounds_toArray, List.set_cons_zero, List.set_cons_succ, List.getElem_toArray, List.getElem_cons_zero, List.getElem_cons_succ]
          refine wpAnyH_ready (rs := [7]) (by kernel_rfl) (by simp) ?_
          refine AllReadyH.cons (o := _) rfl (fun K hK => ?_) AllReadyH.nil
          go_simp
          refine hK.out _ _ (cell_alloc _ hHeld) (fun hHeld => ?_)
          clear hK K
          try simp only [Act.put, List.setIfInBounds_toArray, List.set_cons_zero, List.set_cons_succ, List.getElem_toArray, List.getElem_cons_zero, List.getElem_cons_succ]
          obtain ⟨i0, hi0, hz0, hz1, hz2⟩ := info_parts elMem.hi
          have hown7 : w7.ownsRow w4.heap.size 113 2 u7 j ((l.take j).flatMap encM) := aown_ext HPd.out (fun q hq => hb7.block q (HPd.out.lt q hq).2) (Nat.le_refl _)
          have hb47 : Below w4.heap.size w4 w7 := HBd.out.trans (hb7.mono HBd.out.size)
          have zN7 : N < w7.heap.size := Nat.lt_of_lt_of_le zNd hb7.size
          have HB47 := Lib.hid hb47
          have hle7 := hb47.size
          refine wpAnyH_ready (rs := [8]) (by kernel_rfl) (by simp) ?_
          refine AllReadyH.cons (o := _) rfl (fun K hK => ?_) AllReadyH.nil
          refine step_append_lies _ (by rfl) _ _ _ (by rfl) w4.heap.size 113 i0 _ 2 32 Tryz.underlying110 hi0 hz0 hz1 hz2 rfl (by omega) u7 j _ (by rfl) (hown7.alloc _) ⟨w7.heap.size, 0, none⟩ 1 1 [.string key1, .string fk] (by rfl) (by rfl) (World.news_of_block (cs := #[.string key1, .string fk]) (t := 113) (fr := (0, 0)) (heap_alloc_new w7 _)) (by simp [Value.oneCell']) (by omega) (by unfold maxLen; omega) (by omega) (by simp; omega) (w7.heap.size + 1) (by simp) ?_
          intro g' cap' w8 hown8 hgrow hat hlt8
          have b1 := (hgrow.cell_far (a := ⟨N, 1, none⟩) (by simp; omega) NE.out).trans hHeld
          have R8 : FoRel l w4 (.slice (some ⟨g', 0, none⟩) (j + 1) cap') (.int .i64 ((j : Int) + 1)) w8 := by
            refine ⟨j + 1, by go_num, by omega, ?_, ?_⟩
            · have e : (l.take (j + 1)).flatMap encM = (l.take j).flatMap encM ++ [.string key1, .string fk] := by
                rw [List.take_add_one, HLJ.out, List.flatMap_append]
                rfl
              rw [e]; exact hown8
            · exact (ext_alloc HB47.out _).grown hgrow (by simp; omega) (fun q hq => (HPd.out.lt q hq).1)
          have HRR := Lib.hid R8
          clear R8 hown8 hgrow hat hlt8 hown7 hb47 hle7
          refine hK.out _ _ b1 (fun hHeld => ?_)
          clear hK K
          try simp only [Act.put, List.setIfInBounds_toArray, List.set_cons_zero, List.set_cons_succ, List.getElem_toArray, List.getElem_cons_zero, List.getElem_cons_succ]
          refine wpAnyH_take (i := 9) (oi := _) (v := .slice (some ⟨g', 0, none⟩) (j + 1) cap') rfl (by kernel_rfl) (by kernel_rfl) (by kernel_rfl) (fun _ _ _ h => h) (Or.inl ⟨by rfl, ?_⟩) hHeld ?_
          · intro w hSw; go_simp
          try simp only [Act.put, List.setIfInBounds_toArray, List.set_cons_zero, List.set_cons_succ, List.getElem_toArray, List.getElem_cons_zero, List.getElem_cons_succ]
          refine wpAnyH_done (by kernel_rfl) ?_ _
          refine NoPanic.normal ?_
          go_wp2
          refine ⟨?_, by simp [intOf]; omega⟩
          have R := HRR.out
          first | exact R | ((repeat apply Exists.intro); exact ⟨R, rfl⟩)
        · have hjn : j = l.length := by omega
          have t1 : decide ((j : Int) < (ms.length : Int)) = false := decide_eq_false (by omega)
          have t1' : decide (j < ms.length) = false := decide_eq_false hlt
          rw [hjn, List.take_length] at hp
          have OB := object_any w4 wr _ l HE4.out hb HINJ.out HRT.out (by omega) HOZ.out hp
          obtain ⟨ob, hob⟩ : ∃ ob, objB l = ob := ⟨_, rfl⟩
          rw [hob] at OB
          have HR2 : Hid (R = ob) := Lib.hid (by rw [HR'.out, hob])
          have OB := Lib.hid OB
          clear hp hb hjn hob
          go_wp2_with fail
          go_at_call 54
          refine OB.out.mono ?_
          rintro _ w7 ⟨rfl, hb7⟩
          have HF := Lib.hid (HB4.out.trans (hb7.mono HB4.out.size))
          clear hb7 OB
          go_wp2
          go_ret
          exact ⟨by rw [HR2.out]; rfl, HF.out⟩
    · subst hk
      have hE : R = lstB ((kids s.ups i).map (formF s.js s.ups f)) := by rw [← hR, hform]; simp
      have hjz : (J ((kids s.ups i).map (formF s.js s.ups f))).size ≤ 1000000000 := by
        rw [hE] at hpre
        unfold lstB at hpre
        rw [ByteArray.size_append, ByteArray.size_append] at hpre
        omega
      have hmem : ∀ k ∈ kids s.ups i, s.ups.length - k ≤ f ∧ k < s.ups.length := fun k hk => by
        have h1 := kids_gt FF.out.wf hk
        have h2 := (mem_kids.1 hk).2.1
        exact ⟨by omega, h2⟩
      have hkl := kids_le s.ups i
      have hul := FF.out.ul
      have hjl := FF.out.jl
      have IT := Lib.hid (fun W (hW : Below w.heap.size w W) => by
        have h := items_p (HV.out.below hW) i
        rw [checkS_in HX.out, if_pos (.inl rfl), Int.toNat_natCast] at h
        exact h)
      have HR' := Lib.hid hE; have HJZ := Lib.hid hjz; have HMEM := Lib.hid hmem
      generalize kids s.ups i = ks at *
      clear hR hform hkt hpre hE hjz hmem hi hf
      have hkn : ks.length ≤ 100000 := by omega
      obtain ⟨l, hl⟩ : ∃ l, ks.map (formF s.js s.ups f) = l := ⟨_, rfl⟩
      rw [hl] at HR' HJZ
      have hll : l.length = ks.length := by rw [← hl, List.length_map]
      have HL := Lib.hid hl
      obtain ⟨jj, hjj⟩ : ∃ jj, J l = jj := ⟨_, rfl⟩
      have HR2 : Hid (R = ⟨#[91]⟩ ++ jj ++ ⟨#[93]⟩) := Lib.hid (by rw [HR'.out, ← hjj]; rfl)
      have hs1 : jj.size ≤ 1000000000 := by have := HJZ.out; rw [hjj] at this; exact this
      have HJJ := Lib.hid hjj
      clear hl hjj HR' hkl
      go_enter Tryz.func50, Tryz.ntmps50
      go_wp2_with fail
      refine ND.out.mono ?_
      rintro _ w2 ⟨rfl, hb2⟩
      have HB3 : Hid (Below w.heap.size w (w2.alloc (.cells #[.int .i64 5, .string key, .string text, .int .i64 at_] 68))) := Lib.hid (ext_alloc hb2 _)
      clear hb2
      go_wp2_with fail
      go_at_call 76
      refine (IT.out _ HB3.out).mono ?_
      rintro _ w4 ⟨v4, u4, rfl, hu, hgd, _, hb4⟩
      have hr4 := hgd rfl
      obtain rfl : u4 = .nilIface := by
        rcases hu with ⟨_, h⟩ | ⟨h, _⟩
        · exact h
        · exact absurd rfl h
      have HB4 := Lib.hid (HB3.out.trans (hb4.mono HB3.out.size))
      obtain ⟨a4, c4, rfl, _, _, hx4⟩ := hr4.nats_inv
      have HX4 := Lib.hid hx4
      have HE4 := Lib.hid (HE.out.ext HB4.out)
      have HV4 := Lib.hid (HV.out.below HB4.out)
      clear hu hgd hb4 hr4 hx4 IT
      go_wp2_with fail
      go_loopw [14, 82] (FlRel l w4) (fun _ j _ => l.length - (intOf j).toNat)
      case atStart => exact ⟨0, rfl, Nat.zero_le _, by simpa [strV] using World.ownsRow_nil w4 w4.heap.size 9 1, Below.refl _ _⟩
      case round =>
        obtain ⟨j, rfl, hj, hp, hb⟩ := hrel
        by_cases hlt : j < ks.length
        · obtain ⟨k, hkj⟩ := get_ex ks j hlt
          obtain ⟨b, off, rfl, hbz, hc⟩ := HX4.out (by omega)
          have c0 : wr.cell? ⟨b, off + j, none⟩ = some (.int .i64 (k : Nat)) := (bcell1 hb hbz _).trans (by rw [hc j hlt, (List.getElem?_eq_some_iff.1 hkj).2])
          have t1 : decide ((j : Int) < (ks.length : Int)) = true := decide_eq_true (by omega)
          have t1' : decide (j < ks.length) = true := decide_eq_true hlt
          have q1 : IntKind.i64.wrap ((j : Int) + 1) = (j : Int) + 1 := IntWalk.i64_in _ (by omega)
          have hmk := HMEM.out k (List.mem_of_getElem? hkj)
          have FM := Lib.hid (IH.out k wr (HE4.out.ext hb) (HV4.out.below hb) hmk.1 hmk.2)
          have hlj : l[j]? = some (formF s.js s.ups f k) := by rw [← HL.out, List.getElem?_map, hkj]; rfl
          have HLJ := Lib.hid hlj
          obtain ⟨fk, hfk⟩ : ∃ fk, formF s.js s.ups f k = fk := ⟨_, rfl⟩
          rw [hfk] at FM HLJ
          have HP := Lib.hid hp; have HB := Lib.hid hb
          clear hp hb hkj hc hmk hlj hfk
          go_wp2_with fail
          go_at_call 50
          refine FM.out.mono ?_
          rintro _ w5 ⟨rfl, hb5⟩
          have hp5 := aown_ext HP.out (fun q hq => hb5.block q (HP.out.lt q hq).2) (Nat.le_refl _)
          have HP5 := Lib.hid hp5
          have HB5 := Lib.hid (HB.out.trans (hb5.mono HB.out.size))
          clear hp5 hb5 FM
          go_wp2_with (at_builtin; refine wpList_app1 w5 #[.string fk] _ rfl _ _ 39 rfl w4.heap.size elStr8 _ _ _ rfl HP5.out rfl rfl ?c1 ?c2 ?c3 ?c4 ?_)
          case c1 => simp [Value.oneCell']
          case c2 => unfold maxLen; omega
          case c3 => omega
          case c4 => exact HB5.out.size
          intro v6 w6 ho6 hg6
          have R6 : FlRel l w4 v6 (.int .i64 ((j : Int) + 1)) w6 := by
            refine ⟨j + 1, by go_num, by omega, ?_, ?_⟩
            · have e : strV (l.take (j + 1)) = strV (l.take j) ++ [.string fk] := by
                rw [List.take_add_one, HLJ.out]; simp [strV]
              rw [e]; exact ho6
            · exact (ext_alloc HB5.out _).grown hg6 (by have := HB5.out.size; simp; omega) (fun q hq => (HP5.out.lt q hq).1)
          have HRR := Lib.hid R6
          clear R6 ho6 hg6
          go_wp2
          refine ⟨?_, by simp [intOf]; omega⟩
          have R := HRR.out
          first | exact R | ((repeat apply Exists.intro); exact ⟨R, rfl⟩)
        · have hjn : j = l.length := by omega
          have t1 : decide ((j : Int) < (ks.length : Int)) = false := decide_eq_false (by omega)
          have t1' : decide (j < ks.length) = false := decide_eq_false hlt
          rw [hjn, List.take_length] at hp
          have JN := join_any wr w4.heap.size _ l hp (by omega) HJZ.out
          rw [HJJ.out] at JN
          have JN := Lib.hid JN
          have HB := Lib.hid hb
          clear hp hb hjn
          go_wp2_with fail
          go_at_call 56
          refine JN.out.mono ?_
          rintro _ w7 ⟨rfl, hb7⟩
          have HF := Lib.hid (HB4.out.trans ((HB.out.trans (hb7.mono HB.out.size)).mono HB4.out.size))
          clear hb7 JN
          go_wp2
          go_ret
          exact ⟨by rw [HR2.out]; rfl, HF.out⟩
end Go.Proofs.YtheoaijheijojaaGreatDoor
