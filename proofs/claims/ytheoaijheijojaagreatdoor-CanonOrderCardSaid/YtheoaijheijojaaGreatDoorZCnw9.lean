/- ref08.Form: the document's form of a value. -/
import Derived.Test.YtheoaijheijojaaGreatDoorZCnw7s
import Derived.Test.YtheoaijheijojaaGreatDoorZJrP1s
import Derived.Test.YtheoaijheijojaaGreatDoorZIdl0s
namespace Go.Proofs.YtheoaijheijojaaGreatDoor
open Go.RowKit
structure RfAt (kl fl : List ByteArray) (W : World) (j : Nat) (v7 v8 : Value) (wr : World) : Prop where
  r7 : wr.ownsRow W.heap.size 9 1 v7 j (strV (kl.take j))
  r8 : wr.ownsRow W.heap.size 9 1 v8 j (strV (fl.take j))
  ne : v8.ownBlock ≠ v7.ownBlock
  below : Below W.heap.size W wr
def RfRel (kl fl : List ByteArray) (W : World) (v7 v8 vi : Value) (wr : World) : Prop := ∃ j : Nat, vi = .int .i64 j ∧ j ≤ kl.length ∧ RfAt kl fl W j v7 v8 wr
theorem strV_rds {S : Nat → Prop} {w : World} (l : List ByteArray) : Rds S w (strV l) (l.map .str) :=
  ⟨by simp [strV], fun j u d hu hd => by
    simp only [strV, List.getElem?_map] at hu hd
    cases hx : l[j]? with
    | none => rw [hx] at hu; cases hu
    | some x => rw [hx] at hu hd; cases hu; cases hd; exact .str _⟩
theorem rd_strV {w : World} {base : Nat} {v : Value} {l : List ByteArray} (h : w.ownsRow base 9 1 v l.length (strV l)) : Rd (Own w) w v (.list 1 (l.map .str)) := rd_owned h (strV_rds l) (fun g hg => (h.lt g hg).2)
theorem keyAt_map (f : Nat → ByteArray) (l : List Nat) {i k : Nat} (h : l[i]? = some k) : keyAt (l.map f) i = f k := by unfold keyAt; rw [List.getElem?_map, h]; rfl
theorem rform_of {js : List JN} {ups : List Nat} {f : Nat} (ms : List Nat) : objB (ms.map fun k => (keyA js k, formF js ups f k)) = objR (ms.map (keyA js)) (ms.map (formF js ups f)) := by
  rw [objR_eq _ _ (by simp), List.zip_map']
set_option maxRecDepth 100000 in
set_option maxHeartbeats 16000000 in
theorem rform_any (D gn cn gu cu : Nat) (s : PS) (K : Nat) (F : FEnv s K) : ∀ (f i : Nat) (w : World), RView w D s gn cn gu cu → s.ups.length - i ≤ f → i < s.ups.length →
    Calls Tryz.prog 14 #[ptrV D, .int .i64 i] w fun e w' => e = .returned (.string (formF s.js s.ups f i)) ∧ Below w.heap.size w w'
  | 0, i, w, _, hf, hi => by omega
  | f + 1, i, w, hv, hf, hi => by
    have IH := Lib.hid (rform_any D gn cn gu cu s K F f)
    obtain ⟨x, hx⟩ := get_ex s.js i (by rw [← F.ul]; exact hi)
    have ht : textA s.js i = x := by unfold textA; rw [hx]; rfl
    have hok := F.ok x (List.mem_of_getElem? hx)
    have hil : i < s.js.length := by rw [← F.ul]; exact hi
    have hform : formF s.js s.ups (f + 1) i = (if x.kind = 0 then nullB else if x.kind = 1 then falseB else if x.kind = 2 then trueB else if x.kind = 3 then x.text else if x.kind = 4 then quoteB x.text
      else if x.kind = 6 then objB ((membersS s.js (kids s.ups i)).map fun k => (keyA s.js k, formF s.js s.ups f k)) else lstB ((kids s.ups i).map (formF s.js s.ups f))) := by rw [formF, ht]
    have hpre := F.size (f := f + 1) (i := i) hf hi
    obtain ⟨R, hR⟩ : ∃ R, formF s.js s.ups (f + 1) i = R := ⟨_, rfl⟩
    rw [hR] at hpre ⊢
    have c0 := hv.c0
    obtain ⟨n0, n1, n2, n3⟩ := hv.nd i x hx
    have zD := hv.zD
    have zN := hv.zN
    have KI := Lib.hid (fun W (hW : Below w.heap.size w W) => rkids7_any W D gn cn gu cu s i (hv.below hW) (by have := F.jl; omega))
    have HV := Lib.hid hv; have HX := Lib.hid hx; have HOK := Lib.hid hok; have FF := Lib.hid F
    have hkc : x.kind = 0 ∨ x.kind = 1 ∨ x.kind = 2 ∨ x.kind = 3 ∨ x.kind = 4 ∨ x.kind = 6 ∨ x.kind = 5 := by have := hok.lo; have := hok.hi; omega
    clear hx hok ht
    obtain ⟨kd, key, text, at_⟩ := x
    simp only at hkc hform n0 n1 n2 n3
    rcases hkc with hk | hk | hk | hk | hk | hk | hk
    · subst hk
      have HR' : Hid (R = nullB) := Lib.hid (by rw [← hR, hform]; simp)
      clear hR hform hpre hv
      go_enter Tryz.func14, Tryz.ntmps14
      go_wp2
      go_ret
      exact ⟨by rw [HR'.out]; rfl, ext_alloc (ext_alloc (Below.refl _ _) _) _⟩
    · subst hk
      have HR' : Hid (R = falseB) := Lib.hid (by rw [← hR, hform]; simp)
      clear hR hform hpre hv
      go_enter Tryz.func14, Tryz.ntmps14
      go_wp2
      go_ret
      exact ⟨by rw [HR'.out]; rfl, ext_alloc (ext_alloc (Below.refl _ _) _) _⟩
    · subst hk
      have HR' : Hid (R = trueB) := Lib.hid (by rw [← hR, hform]; simp)
      clear hR hform hpre hv
      go_enter Tryz.func14, Tryz.ntmps14
      go_wp2
      go_ret
      exact ⟨by rw [HR'.out]; rfl, ext_alloc (ext_alloc (Below.refl _ _) _) _⟩
    · subst hk
      have HR' : Hid (R = text) := Lib.hid (by rw [← hR, hform]; simp)
      clear hR hform hpre hv
      go_enter Tryz.func14, Tryz.ntmps14
      go_wp2
      go_ret
      exact ⟨by rw [HR'.out]; rfl, ext_alloc (Below.refl _ _) _⟩
    · subst hk
      have HR' : Hid (R = quoteB text) := Lib.hid (by rw [← hR, hform]; simp)
      have QU := Lib.hid (fun W => rquote_any text W (Nat.le_trans HOK.out.ts FF.out.kk))
      have HB1 : Hid (Below w.heap.size w (w.alloc (.cells #[.int .i64 4, .string key, .string text, .int .i64 at_] 68))) := Lib.hid (ext_alloc (Below.refl _ _) _)
      clear hR hform hpre hv
      go_enter Tryz.func14, Tryz.ntmps14
      go_wp2_with fail
      go_at_call 37
      refine (QU.out _).mono ?_
      rintro _ w2 ⟨rfl, hb2⟩
      have HB2 := Lib.hid (HB1.out.trans (hb2.mono HB1.out.size))
      clear hb2
      go_wp2
      go_ret
      exact ⟨by rw [HR'.out]; rfl, HB2.out⟩
    · subst hk
      have HB1 : Hid (Below w.heap.size w (w.alloc (.cells #[.int .i64 6, .string key, .string text, .int .i64 at_] 68))) := Lib.hid (ext_alloc (Below.refl _ _) _)
      have hul := FF.out.ul
      have hjl := FF.out.jl
      have hkl := kids_le s.ups i
      have hE : R = objR ((membersS s.js (kids s.ups i)).map (keyA s.js)) ((membersS s.js (kids s.ups i)).map (formF s.js s.ups f)) := by rw [← rform_of, ← hR, hform]; simp
      have hoz : (objR ((membersS s.js (kids s.ups i)).map (keyA s.js)) ((membersS s.js (kids s.ups i)).map (formF s.js s.ups f))).size ≤ 1000000000 := by rw [← hE]; exact hpre
      have hml : (membersS s.js (kids s.ups i)).length ≤ (kids s.ups i).length := List.length_filter_le _ _
      have hmem : ∀ k ∈ membersS s.js (kids s.ups i), s.ups.length - k ≤ f ∧ k < s.ups.length := fun k hk => by
        have hk := (List.mem_filter.1 hk).1
        have h1 := kids_gt FF.out.wf hk
        have h2 := (mem_kids.1 hk).2.1
        exact ⟨by omega, h2⟩
      have hinj : ∀ a b, a < ((membersS s.js (kids s.ups i)).map (keyA s.js)).length → b < ((membersS s.js (kids s.ups i)).map (keyA s.js)).length → keyAt ((membersS s.js (kids s.ups i)).map (keyA s.js)) a = keyAt ((membersS s.js (kids s.ups i)).map (keyA s.js)) b → a = b := by
        intro a b ha hb h
        rw [List.length_map] at ha hb
        obtain ⟨k1, h1⟩ := get_ex _ a ha
        obtain ⟨k2, h2⟩ := get_ex _ b hb
        rw [keyAt_map _ _ h1, keyAt_map _ _ h2] at h
        have := members_inj (List.mem_of_getElem? h1) (List.mem_of_getElem? h2) h
        subst this
        exact nodup_inj (List.Pairwise.filter _ ((kids_sorted s.ups i).imp (fun h => by omega))) h1 h2
      have hkz : ∀ k ∈ (membersS s.js (kids s.ups i)).map (keyA s.js), k.size ≤ 100000 := by
        intro a ha
        obtain ⟨k1, h1, rfl⟩ := List.mem_map.1 ha
        obtain ⟨y, hy⟩ := get_ex s.js k1 (by rw [← hul]; exact (hmem k1 h1).2)
        have hy2 := FF.out.ok y (List.mem_of_getElem? hy)
        rw [show keyA s.js k1 = y.key by unfold keyA; rw [hy]]
        exact Nat.le_trans hy2.ks FF.out.kk
      have MB := Lib.hid (fun W (hW : Below w.heap.size w W) => rmembers7_any W D gn cn gu cu s i (hv.below hW) (by omega))
      have HR' := Lib.hid hE; have HOZ := Lib.hid hoz; have HMEM := Lib.hid hmem; have HINJ := Lib.hid hinj; have HKZ := Lib.hid hkz
      generalize membersS s.js (kids s.ups i) = ks at *
      clear hR hform hpre hE hoz hmem hinj hkz hi hf hv
      have hkn : ks.length ≤ 100000 := by omega
      obtain ⟨kl, hkl2⟩ : ∃ kl, ks.map (keyA s.js) = kl := ⟨_, rfl⟩
      obtain ⟨fl, hfl⟩ : ∃ fl, ks.map (formF s.js s.ups f) = fl := ⟨_, rfl⟩
      rw [hkl2] at HINJ HKZ
      rw [hkl2, hfl] at HR' HOZ
      have HKL := Lib.hid hkl2.symm; have HFL := Lib.hid hfl.symm
      clear hkl2 hfl hml hkl
      go_enter Tryz.func14, Tryz.ntmps14
      go_wp2_with fail
      go_at_call 38
      refine (KI.out _ HB1.out).mono ?_
      rintro _ w3 ⟨v3, rfl, hr3, hb3⟩
      have HB3 := Lib.hid (HB1.out.trans (hb3.mono HB1.out.size))
      have n0' : w3.cell? ⟨w.heap.size, 0, none⟩ = some (.int .i64 6) := (bcell1 hb3 (by simp) 0).trans (by simp)
      have hr3 : Rd (Own w3) w3 v3 _ := hr3.wide (fun b hb => hb.2)
      have HR3 := Lib.hid hr3
      have hs3 := hb3.size
      clear hb3 hr3 KI n0 n1 n2 n3 c0 zD zN
      go_wp2_with fail
      go_at_call 39
      refine (MB.out _ HB3.out).mono ?_
      rintro _ w4 ⟨v4, rfl, hr4, hb4⟩
      have HB4 := Lib.hid (HB3.out.trans (hb4.mono HB3.out.size))
      have hr4 : Rd (Own w4) w4 v4 _ := hr4.wide (fun b hb => hb.2)
      have z03 : w.heap.size < w3.heap.size := World.block_lt_of_cell? w3 ⟨w.heap.size, 0, none⟩ n0'
      have n04 : w4.cell? ⟨w.heap.size, 0, none⟩ = some (.int .i64 6) := (bcell1 hb4 z03 0).trans n0'
      have HB1w : Hid ((w.alloc (.cells #[.int .i64 6, .string key, .string text, .int .i64 at_] 68)).heap.size ≤ w4.heap.size) := Lib.hid (by have := hb4.size; simp; omega)
      clear hb4 MB n0' 
      obtain ⟨a4, kc, rfl, _, _, hx4⟩ := hr4.nats_inv
      have HX4 := Lib.hid hx4
      have HV4 := Lib.hid (HV.out.below HB4.out)
      have z0 : w.heap.size < w4.heap.size := Nat.lt_of_lt_of_le (by simp) HB1w.out
      clear hr4 hx4
      go_wp2_with fail
      obtain ⟨W4, hW4⟩ : ∃ W, (w4.alloc (.cells #[] 9)).alloc (.cells #[] 9) = W := ⟨_, rfl⟩
      have h7 : W4.ownsRow w4.heap.size 9 1 (.slice (some ⟨w4.heap.size, 0, none⟩) 0 0) 0 [] := by
        rw [← hW4]
        exact World.ownsRow.alloc (by simpa using World.ownsRow_lit (base := w4.heap.size) (e := 9) (size := 1) w4 #[] 0 (Nat.le_refl _) (by decide) rfl) _
      have h8 : W4.ownsRow w4.heap.size 9 1 (.slice (some ⟨w4.heap.size + 1, 0, none⟩) 0 0) 0 [] := by
        rw [← hW4]
        have := World.ownsRow_lit (base := w4.heap.size) (e := 9) (size := 1) (w4.alloc (.cells #[] 9)) #[] 0 (by simp) (by decide) rfl
        simpa using this
      have hb4 : Below w4.heap.size w4 W4 := by rw [← hW4]; exact ext_alloc (ext_alloc (Below.refl _ _) _) _
      have R0 : RfRel kl fl w4 (.slice (some ⟨w4.heap.size, 0, none⟩) 0 0) (.slice (some ⟨w4.heap.size + 1, 0, none⟩) 0 0) (.int .i64 0) W4 := ⟨0, rfl, Nat.zero_le _, ⟨by simpa [strV] using h7, by simpa [strV] using h8, by show some (w4.heap.size + 1) ≠ some w4.heap.size; intro e; have := Option.some.inj e; omega, hb4⟩⟩
      have HR0 := Lib.hid R0
      rw [hW4]
      clear h7 h8 hb4 R0 hW4
      go_wp2_with fail
      go_loopw [7, 8, 9] (RfRel kl fl w4) (fun _ _ i _ => ks.length - (intOf i).toNat)
      case atStart => exact HR0.out
      case round =>
        obtain ⟨j, rfl, hj, hA⟩ := hrel
        rw [HKL.out, List.length_map] at hj
        by_cases hlt : j < ks.length
        · obtain ⟨k, hkj⟩ := get_ex ks j hlt
          obtain ⟨kb, ko, rfl, hbz, hc⟩ := HX4.out (by omega)
          have hmk := HMEM.out k (List.mem_of_getElem? hkj)
          obtain ⟨y, hy⟩ := get_ex s.js k (by rw [← hul]; exact hmk.2)
          have hvw := HV4.out.below hA.below
          have cD := hvw.c0
          obtain ⟨_, cN, _, _⟩ := hvw.nd k y hy
          have cK0 : w4.cell? ⟨kb, ko + j, none⟩ = some (.int .i64 (k : Nat)) := by rw [hc j hlt, (List.getElem?_eq_some_iff.1 hkj).2]
          have cK : wr.cell? ⟨kb, ko + j, none⟩ = some (.int .i64 (k : Nat)) := (bcell1 hA.below hbz _).trans cK0
          have t1 : decide ((j : Int) < (ks.length : Int)) = true := decide_eq_true (by omega)
          have t1' : decide (j < ks.length) = true := decide_eq_true hlt
          have q1 : IntKind.i64.wrap ((j : Int) + 1) = (j : Int) + 1 := IntWalk.i64_in _ (by omega)
          have hkjs : k < s.js.length := by rw [← hul]; exact hmk.2
          have FM := Lib.hid (fun W (hW : Below w4.heap.size w4 W) => IH.out k W (HV4.out.below hW) hmk.1 hmk.2)
          have hkk : kl[j]? = some y.key := by
            rw [HKL.out, List.getElem?_map, hkj]
            show some (keyA s.js k) = _
            rw [show keyA s.js k = y.key by unfold keyA; rw [hy]]
          have hff : fl[j]? = some (formF s.js s.ups f k) := by rw [HFL.out, List.getElem?_map, hkj]; rfl
          obtain ⟨fk, hfk⟩ : ∃ fk, formF s.js s.ups f k = fk := ⟨_, rfl⟩
          rw [hfk] at FM hff
          obtain ⟨kd1, key1, text1, at1⟩ := y
          have HKK := Lib.hid hkk; have HFF := Lib.hid hff
          have zD4 : D < w4.heap.size := HV4.out.zD
          have zN4 : gn < w4.heap.size := HV4.out.zN
          have zK4 : kb < w4.heap.size := hbz
          have cD' := cD; have cK' := cK; have cN' := cN
          have HP7 := Lib.hid hA.r7; have HP8 := Lib.hid hA.r8; have HNE := Lib.hid hA.ne; have HB := Lib.hid hA.below
          have hj100 : j ≤ 100000 := by omega
          clear hA hkj hc hmk hkk hff hfk hy hvw cK0
          go_wp2_with fail
          have HPd7 : Hid (wr.drew.ownsRow w4.heap.size 9 1 u7 j (strV (kl.take j))) := Lib.hid HP7.out
          have HPd8 : Hid (wr.drew.ownsRow w4.heap.size 9 1 u8 j (strV (fl.take j))) := Lib.hid HP8.out
          have HBd : Hid (Below w4.heap.size w4 wr.drew) := Lib.hid HB.out.drew
          clear HP7 HP8 HB
          have cD' : wr.drew.cell? ⟨D, 0, none⟩ = some (.slice (some ⟨gn, 0, none⟩) s.js.length cn) := cD
          have cK' : wr.drew.cell? ⟨kb, ko + j, none⟩ = some (.int .i64 (k : Nat)) := cK
          have cN' : wr.drew.cell? ⟨gn, k * 4 + 1, none⟩ = some (.string key1) := cN
          refine wp_region_noPanic ?_
          refine wp_region_held_drew (S := fun W => W.cell? ⟨D, 0, none⟩ = some (.slice (some ⟨gn, 0, none⟩) s.js.length cn) ∧ W.cell? ⟨kb, ko + j, none⟩ = some (.int .i64 (k : Nat)) ∧ W.cell? ⟨gn, k * 4 + 1, none⟩ = some (.string key1)) (by kernel_rfl) ⟨cD, cK, cN⟩ (fun hHeld => ?_)
          generalize wr.drew = wd at *
          refine wpAnyH_take (i := 0) (oi := _) (v := u7) rfl (by kernel_rfl) (by kernel_rfl) (by kernel_rfl) (fun _ _ _ h => h) (Or.inl ⟨by rfl, ?_⟩) hHeld ?_
          · intro w hSw; go_simp
          try simp only [Act.put, List.setIfInBounds_toArray, List.set_cons_zero, List.set_cons_succ, List.getElem_toArray, List.getElem_cons_zero]
          refine wpAnyH_take (i := 1) (oi := _) (v := ptrV D) rfl (by kernel_rfl) (by kernel_rfl) (by kernel_rfl) (fun _ _ _ h => h) (Or.inl ⟨by rfl, ?_⟩) hHeld ?_
          · intro w hSw; go_simp
          try simp only [Act.put, List.setIfInBounds_toArray, List.set_cons_zero, List.set_cons_succ, List.getElem_toArray, List.getElem_cons_zero, List.getElem_cons_succ]
          refine wpAnyH_take (i := 2) (oi := _) (v := ptrV D) rfl (by kernel_rfl) (by kernel_rfl) (by kernel_rfl) (fun _ _ _ h => h) (Or.inl ⟨by rfl, ?_⟩) hHeld ?_
          · intro w hSw; go_simp
          try simp only [Act.put, List.setIfInBounds_toArray, List.set_cons_zero, List.set_cons_succ, List.getElem_toArray, List.getElem_cons_zero, List.getElem_cons_succ]
          refine wpAnyH_take (i := 3) (oi := _) (v := .pointer (some ⟨D, 0, none⟩)) rfl (by kernel_rfl) (by kernel_rfl) (by kernel_rfl) (fun _ _ _ h => h) (Or.inl ⟨by rfl, ?_⟩) hHeld ?_
          · intro w hSw; go_simp
          try simp only [Act.put, List.setIfInBounds_toArray, List.set_cons_zero, List.set_cons_succ, List.getElem_toArray, List.getElem_cons_zero, List.getElem_cons_succ]
          refine wpAnyH_take (i := 4) (oi := _) (v := .slice (some ⟨gn, 0, none⟩) s.js.length cn) rfl (by kernel_rfl) (by kernel_rfl) (by kernel_rfl) (fun _ _ _ h => h) (Or.inl ⟨by rfl, ?_⟩) hHeld ?_
          · intro w hSw; go_simp
          try simp only [Act.put, List.setIfInBounds_toArray, List.set_cons_zero, List.set_cons_succ, List.getElem_toArray, List.getElem_cons_zero, List.getElem_cons_succ]
          refine wpAnyH_take (i := 5) (oi := _) (v := .slice (some ⟨kb, ko, none⟩) ks.length kc) rfl (by kernel_rfl) (by kernel_rfl) (by kernel_rfl) (fun _ _ _ h => h) (Or.inl ⟨by rfl, ?_⟩) hHeld ?_
          · intro w hSw; go_simp
          try simp only [Act.put, List.setIfInBounds_toArray, List.set_cons_zero, List.set_cons_succ, List.getElem_toArray, List.getElem_cons_zero, List.getElem_cons_succ]
          refine wpAnyH_take (i := 6) (oi := _) (v := .int .i64 (j : Nat)) rfl (by kernel_rfl) (by kernel_rfl) (by kernel_rfl) (fun _ _ _ h => h) (Or.inl ⟨by rfl, ?_⟩) hHeld ?_
          · intro w hSw; go_simp
          try simp only [Act.put, List.setIfInBounds_toArray, List.set_cons_zero, List.set_cons_succ, List.getElem_toArray, List.getElem_cons_zero, List.getElem_cons_succ]
          refine wpAnyH_take (i := 7) (oi := _) (v := .pointer (some ⟨kb, ko + j, none⟩)) rfl (by kernel_rfl) (by kernel_rfl) (by kernel_rfl) (fun _ _ _ h => h) (Or.inl ⟨by rfl, ?_⟩) hHeld ?_
          · intro w hSw; go_simp
          try simp only [Act.put, List.setIfInBounds_toArray, List.set_cons_zero, List.set_cons_succ, List.getElem_toArray, List.getElem_cons_zero, List.getElem_cons_succ]
          refine wpAnyH_take (i := 8) (oi := _) (v := .int .i64 (k : Nat)) rfl (by kernel_rfl) (by kernel_rfl) (by kernel_rfl) (fun _ _ _ h => h) (Or.inl ⟨by rfl, ?_⟩) hHeld ?_
          · intro w hSw; go_simp
          try simp only [Act.put, List.setIfInBounds_toArray, List.set_cons_zero, List.set_cons_succ, List.getElem_toArray, List.getElem_cons_zero, List.getElem_cons_succ]
          refine wpAnyH_take (i := 9) (oi := _) (v := .pointer (some ⟨gn, k * 4, none⟩)) rfl (by kernel_rfl) (by kernel_rfl) (by kernel_rfl) (fun _ _ _ h => h) (Or.inl ⟨by rfl, ?_⟩) hHeld ?_
          · intro w hSw; go_simp
          try simp only [Act.put, List.setIfInBounds_toArray, List.set_cons_zero, List.set_cons_succ, List.getElem_toArray, List.getElem_cons_zero, List.getElem_cons_succ]
          refine wpAnyH_take (i := 10) (oi := _) (v := .pointer (some ⟨gn, k * 4 + 1, none⟩)) rfl (by kernel_rfl) (by kernel_rfl) (by kernel_rfl) (fun _ _ _ h => h) (Or.inl ⟨by rfl, ?_⟩) hHeld ?_
          · intro w hSw; go_simp
          try simp only [Act.put, List.setIfInBounds_toArray, List.set_cons_zero, List.set_cons_succ, List.getElem_toArray, List.getElem_cons_zero, List.getElem_cons_succ]
          refine wpAnyH_take (i := 11) (oi := _) (v := .string key1) rfl (by kernel_rfl) (by kernel_rfl) (by kernel_rfl) (fun _ _ _ h => h) (Or.inl ⟨by rfl, ?_⟩) hHeld ?_
          · intro w hSw; go_simp
          try simp only [Act.put, List.setIfInBounds_toArray, List.set_cons_zero, List.set_cons_succ, List.getElem_toArray, List.getElem_cons_zero, List.getElem_cons_succ]
          refine wpAnyH_ready (rs := [12]) (by kernel_rfl) (by simp) ?_
          refine AllReadyH.cons (o := _) rfl (fun K hK => ?_) AllReadyH.nil
          go_simp
          refine hK.out _ _ ⟨cell_alloc _ hHeld.1, cell_alloc _ hHeld.2.1, cell_alloc _ hHeld.2.2⟩ (fun hHeld => ?_)
          clear hK K
          try simp only [Act.put, List.setIfInBounds_toArray, List.set_cons_zero, List.set_cons_succ, List.getElem_toArray, List.getElem_cons_zero, List.getElem_cons_succ]
          obtain ⟨i0, hi0, hz0, hz1, hz2⟩ := info_parts elStr8.hi
          refine wpAnyH_ready (rs := [13]) (by kernel_rfl) (by simp) ?_
          refine AllReadyH.cons (o := _) rfl (fun K hK => ?_) AllReadyH.nil
          refine step_append_lies _ (by rfl) _ _ _ (by rfl) w4.heap.size 9 i0 _ 1 16 Tryz.underlying39 hi0 hz0 hz1 hz2 rfl (by omega) u7 j _ (by rfl) (HPd7.out.alloc _) ⟨wd.heap.size, 0, none⟩ 1 1 [.string key1] (by rfl) (by rfl) (World.news_of_block (cs := #[.string key1]) (t := 9) (fr := (0, 0)) (heap_alloc_new wd _)) (by simp [Value.oneCell']) (by omega) (by unfold maxLen; omega) (by omega) (by have := HBd.out.size; simp; omega) (wd.heap.size + 1) (by simp) ?_
          intro g7 cap7 w8 hown8 hgrow hat hlt8
          have hown8' := World.ownsRow.kept (HPd8.out.alloc (.cells #[.string key1] 9)) hgrow (.inr HNE.out)
          have hb8 : Below w4.heap.size w4 w8 := (ext_alloc HBd.out (.cells #[.string key1] 9)).grown hgrow (by have := HBd.out.size; simp; omega) (fun q hq => (HPd7.out.lt q hq).1)
          have hne8 : u8.ownBlock ≠ some g7 := fun e => by
            rcases hat with h | h
            · exact HNE.out (by rw [e, ← h])
            · have := (HPd8.out.lt g7 e).2
              omega
          have hs8 := hgrow.size
          have H8a := Lib.hid hown8; have H8b := Lib.hid hown8'; have HB8 := Lib.hid hb8; have HN8 := Lib.hid hne8
          have b1 := ((bcell1 hb8 zD4 0).trans ((bcell1 HBd.out zD4 0).symm.trans cD'))
          have b2 := ((bcell1 hb8 zK4 (ko + j)).trans ((bcell1 HBd.out zK4 (ko + j)).symm.trans cK'))
          have b3 := ((bcell1 hb8 zN4 (k * 4 + 1)).trans ((bcell1 HBd.out zN4 (k * 4 + 1)).symm.trans cN'))
          clear hown8 hown8' hgrow hat hlt8 hb8 hne8 hs8
          refine hK.out _ _ ⟨b1, b2, b3⟩ (fun hHeld => ?_)
          clear hK K
          try simp only [Act.put, List.setIfInBounds_toArray, List.set_cons_zero, List.set_cons_succ, List.getElem_toArray, List.getElem_cons_zero, List.getElem_cons_succ]
          refine wpAnyH_take (i := 14) (oi := _) (v := .slice (some ⟨g7, 0, none⟩) (j + 1) cap7) rfl (by kernel_rfl) (by kernel_rfl) (by kernel_rfl) (fun _ _ _ h => h) (Or.inl ⟨by rfl, ?_⟩) hHeld ?_
          · intro w hSw; go_simp
          try simp only [Act.put, List.setIfInBounds_toArray, List.set_cons_zero, List.set_cons_succ, List.getElem_toArray, List.getElem_cons_zero, List.getElem_cons_succ]
          refine wpAnyH_done (by kernel_rfl) ?_ _
          refine NoPanic.normal ?_
          have R8a := H8a.out; have R8b := H8b.out
          have ck2 : w8.cell? ⟨kb, ko + j, none⟩ = some (.int .i64 (k : Nat)) := hHeld.2.1
          have cd2 := hHeld.1
          clear hHeld
          have FMk := Lib.hid (FM.out w8 HB8.out)
          go_wp2_with fail
          go_at_call 14
          refine FMk.out.mono ?_
          rintro _ w9 ⟨rfl, hb9⟩
          have r7 : w9.ownsRow w4.heap.size 9 1 (.slice (some ⟨g7, 0, none⟩) (j + 1) cap7) (j + 1) (strV (kl.take j) ++ [.string key1]) := aown_ext R8a (fun q hq => hb9.block q (R8a.lt q hq).2) (Nat.le_refl _)
          have r8 : w9.ownsRow w4.heap.size 9 1 u8 j (strV (fl.take j)) := aown_ext R8b (fun q hq => hb9.block q (R8b.lt q hq).2) (Nat.le_refl _)
          have HR7 := Lib.hid r7; have HR8 := Lib.hid r8
          have HB9 := Lib.hid (HB8.out.trans (hb9.mono HB8.out.size))
          have z79 := (r7.lt g7 rfl).2
          clear hb9 r7 r8 R8a R8b H8a H8b
          go_wp2_with (at_builtin; refine wpList_appAt (w9.alloc (.cells #[.string fk] 9)) rfl _ _ 39 rfl w4.heap.size elStr8 u8 j _ rfl (HR8.out.alloc _) ⟨w9.heap.size, 0, none⟩ 1 1 [.string fk] rfl rfl (World.news_of_block (cs := #[.string fk]) (t := 9) (fr := (0, 0)) (heap_alloc_new w9 _)) ?c1 ?c2 ?c3 ?c4 ?_)
          case c1 => simp [Value.oneCell']
          case c2 => unfold maxLen; omega
          case c3 => omega
          case c4 => have := HB9.out.size; simp; omega
          intro u8' w10 ho10 hg10 hat10
          have e7 : strV (kl.take (j + 1)) = strV (kl.take j) ++ [.string key1] := by
            rw [List.take_add_one, HKK.out]; simp [strV]
          have e8 : strV (fl.take (j + 1)) = strV (fl.take j) ++ [.string fk] := by
            rw [List.take_add_one, HFF.out]; simp [strV]
          have R1 : RfRel kl fl w4 (.slice (some ⟨g7, 0, none⟩) (j + 1) cap7) u8' (.int .i64 ((j : Int) + 1)) w10 := ⟨j + 1, by go_num, by rw [HKL.out, List.length_map]; exact hlt, ⟨by
            rw [e7]; exact World.ownsRow.kept (HR7.out.alloc _) hg10 (.inr (fun e => HN8.out e.symm)), by rw [e8]; exact ho10, fun e => by
              rcases hat10 with h | h
              · exact HN8.out (by rw [← h]; exact e)
              · rw [h] at e
                have e2 : w9.heap.size + 1 = g7 := by simpa using Option.some.inj e
                omega, (ext_alloc HB9.out _).grown hg10 (by have := HB9.out.size; simp; omega) (fun q hq => (HR8.out.lt q hq).1)⟩⟩
          have HRR := Lib.hid R1
          clear R1 ho10 hg10 hat10 e7 e8
          go_wp2
          refine ⟨?_, by simp [intOf]; omega⟩
          have R := HRR.out
          first | exact R | ((repeat apply Exists.intro); exact ⟨R, rfl⟩)
        · have hjn : j = ks.length := by omega
          have t1 : decide ((j : Int) < (ks.length : Int)) = false := decide_eq_false (by omega)
          have t1' : decide (j < ks.length) = false := decide_eq_false hlt
          have h7 := hA.r7
          have h8 := hA.r8
          have hkll : kl.length = ks.length := by rw [HKL.out, List.length_map]
          have hfll : fl.length = ks.length := by rw [HFL.out, List.length_map]
          rw [List.take_of_length_le (by omega)] at h7 h8
          rw [hjn, ← hkll] at h7
          rw [hjn, ← hfll] at h8
          have D7 := rd_strV h7
          have D8 := rd_strV h8
          have n0r : wr.cell? ⟨w.heap.size, 0, none⟩ = some (.int .i64 6) := (bcell1 hA.below z0 0).trans n04
          have HB := Lib.hid (HB4.out.trans (hA.below.mono HB4.out.size))
          have OB := robject_any wr _ _ kl fl D7 D8 (by omega) (by omega) HINJ.out HKZ.out HOZ.out
          obtain ⟨ob, hob⟩ : ∃ ob, objR kl fl = ob := ⟨_, rfl⟩
          rw [hob] at OB
          have HR2 : Hid (R = ob) := Lib.hid (by rw [HR'.out, hob])
          obtain ⟨a7, c7, e7, _⟩ := aown_form h7
          obtain ⟨a8, c8, e8, _⟩ := aown_form h8
          subst e7; subst e8
          have OB := Lib.hid OB
          clear hA h7 h8 D7 D8 hob hjn hkll hfll
          go_wp2_with fail
          go_at_call 40
          refine OB.out.mono ?_
          rintro _ w9 ⟨rfl, hb9⟩
          have HF := Lib.hid (HB.out.trans (hb9.mono HB.out.size))
          clear hb9 OB
          go_wp2
          go_ret
          exact ⟨by rw [HR2.out]; rfl, HF.out⟩
    · subst hk
      have HB1 : Hid (Below w.heap.size w (w.alloc (.cells #[.int .i64 5, .string key, .string text, .int .i64 at_] 68))) := Lib.hid (ext_alloc (Below.refl _ _) _)
      have hul := FF.out.ul
      have hjl := FF.out.jl
      have hkl := kids_le s.ups i
      have hE : R = lstB ((kids s.ups i).map (formF s.js s.ups f)) := by rw [← hR, hform]; simp
      have hoz : (lstB ((kids s.ups i).map (formF s.js s.ups f))).size ≤ 1000000000 := by rw [← hE]; exact hpre
      have hmem : ∀ k ∈ kids s.ups i, s.ups.length - k ≤ f ∧ k < s.ups.length := fun k hk => by
        have h1 := kids_gt FF.out.wf hk
        have h2 := (mem_kids.1 hk).2.1
        exact ⟨by omega, h2⟩
      have HR' := Lib.hid hE; have HOZ := Lib.hid hoz; have HMEM := Lib.hid hmem
      generalize kids s.ups i = ks at *
      clear hR hform hpre hE hoz hmem hi hf hv
      have hkn : ks.length ≤ 100000 := by omega
      obtain ⟨kl, hkl2⟩ : ∃ kl, ks.map (keyA s.js) = kl := ⟨_, rfl⟩
      obtain ⟨fl, hfl⟩ : ∃ fl, ks.map (formF s.js s.ups f) = fl := ⟨_, rfl⟩
      rw [hfl] at HR' HOZ
      have HKL := Lib.hid hkl2.symm; have HFL := Lib.hid hfl.symm
      clear hkl2 hfl hkl
      go_enter Tryz.func14, Tryz.ntmps14
      go_wp2_with fail
      go_at_call 38
      refine (KI.out _ HB1.out).mono ?_
      rintro _ w3 ⟨v3, rfl, hr3, hb3⟩
      have HB3 := Lib.hid (HB1.out.trans (hb3.mono HB1.out.size))
      have n0' : w3.cell? ⟨w.heap.size, 0, none⟩ = some (.int .i64 5) := (bcell1 hb3 (by simp) 0).trans (by simp)
      have hr3 : Rd (Own w3) w3 v3 _ := hr3.wide (fun b hb => hb.2)
      have HR3 := Lib.hid hr3
      have hs3 := hb3.size
      clear hb3 hr3 KI n0 n1 n2 n3 c0 zD zN
      have hr4 := HR3.out
      have n04 := n0'
      have HB4 := HB3
      have HB1w : Hid ((w.alloc (.cells #[.int .i64 5, .string key, .string text, .int .i64 at_] 68)).heap.size ≤ w3.heap.size) := Lib.hid hs3
      generalize w3 = w4 at *
      clear HR3 n0' HB3
      obtain ⟨a4, kc, rfl, _, _, hx4⟩ := hr4.nats_inv
      have HX4 := Lib.hid hx4
      have HV4 := Lib.hid (HV.out.below HB4.out)
      have z0 : w.heap.size < w4.heap.size := Nat.lt_of_lt_of_le (by simp) HB1w.out
      clear hr4 hx4
      go_wp2_with fail
      obtain ⟨W4, hW4⟩ : ∃ W, (w4.alloc (.cells #[] 9)).alloc (.cells #[] 9) = W := ⟨_, rfl⟩
      have h7 : W4.ownsRow w4.heap.size 9 1 (.slice (some ⟨w4.heap.size, 0, none⟩) 0 0) 0 [] := by
        rw [← hW4]
        exact World.ownsRow.alloc (by simpa using World.ownsRow_lit (base := w4.heap.size) (e := 9) (size := 1) w4 #[] 0 (Nat.le_refl _) (by decide) rfl) _
      have h8 : W4.ownsRow w4.heap.size 9 1 (.slice (some ⟨w4.heap.size + 1, 0, none⟩) 0 0) 0 [] := by
        rw [← hW4]
        have := World.ownsRow_lit (base := w4.heap.size) (e := 9) (size := 1) (w4.alloc (.cells #[] 9)) #[] 0 (by simp) (by decide) rfl
        simpa using this
      have hb4 : Below w4.heap.size w4 W4 := by rw [← hW4]; exact ext_alloc (ext_alloc (Below.refl _ _) _) _
      have R0 : RfRel kl fl w4 (.slice (some ⟨w4.heap.size, 0, none⟩) 0 0) (.slice (some ⟨w4.heap.size + 1, 0, none⟩) 0 0) (.int .i64 0) W4 := ⟨0, rfl, Nat.zero_le _, ⟨by simpa [strV] using h7, by simpa [strV] using h8, by show some (w4.heap.size + 1) ≠ some w4.heap.size; intro e; have := Option.some.inj e; omega, hb4⟩⟩
      have HR0 := Lib.hid R0
      rw [hW4]
      clear h7 h8 hb4 R0 hW4
      go_wp2_with fail
      go_loopw [7, 8, 9] (RfRel kl fl w4) (fun _ _ i _ => ks.length - (intOf i).toNat)
      case atStart => exact HR0.out
      case round =>
        obtain ⟨j, rfl, hj, hA⟩ := hrel
        rw [HKL.out, List.length_map] at hj
        by_cases hlt : j < ks.length
        · obtain ⟨k, hkj⟩ := get_ex ks j hlt
          obtain ⟨kb, ko, rfl, hbz, hc⟩ := HX4.out (by omega)
          have hmk := HMEM.out k (List.mem_of_getElem? hkj)
          obtain ⟨y, hy⟩ := get_ex s.js k (by rw [← hul]; exact hmk.2)
          have hvw := HV4.out.below hA.below
          have cD := hvw.c0
          obtain ⟨_, cN, _, _⟩ := hvw.nd k y hy
          have cK0 : w4.cell? ⟨kb, ko + j, none⟩ = some (.int .i64 (k : Nat)) := by rw [hc j hlt, (List.getElem?_eq_some_iff.1 hkj).2]
          have cK : wr.cell? ⟨kb, ko + j, none⟩ = some (.int .i64 (k : Nat)) := (bcell1 hA.below hbz _).trans cK0
          have t1 : decide ((j : Int) < (ks.length : Int)) = true := decide_eq_true (by omega)
          have t1' : decide (j < ks.length) = true := decide_eq_true hlt
          have q1 : IntKind.i64.wrap ((j : Int) + 1) = (j : Int) + 1 := IntWalk.i64_in _ (by omega)
          have hkjs : k < s.js.length := by rw [← hul]; exact hmk.2
          have FM := Lib.hid (fun W (hW : Below w4.heap.size w4 W) => IH.out k W (HV4.out.below hW) hmk.1 hmk.2)
          have hkk : kl[j]? = some y.key := by
            rw [HKL.out, List.getElem?_map, hkj]
            show some (keyA s.js k) = _
            rw [show keyA s.js k = y.key by unfold keyA; rw [hy]]
          have hff : fl[j]? = some (formF s.js s.ups f k) := by rw [HFL.out, List.getElem?_map, hkj]; rfl
          obtain ⟨fk, hfk⟩ : ∃ fk, formF s.js s.ups f k = fk := ⟨_, rfl⟩
          rw [hfk] at FM hff
          obtain ⟨kd1, key1, text1, at1⟩ := y
          have HKK := Lib.hid hkk; have HFF := Lib.hid hff
          have zD4 : D < w4.heap.size := HV4.out.zD
          have zN4 : gn < w4.heap.size := HV4.out.zN
          have zK4 : kb < w4.heap.size := hbz
          have cD' := cD; have cK' := cK; have cN' := cN
          have HP7 := Lib.hid hA.r7; have HP8 := Lib.hid hA.r8; have HNE := Lib.hid hA.ne; have HB := Lib.hid hA.below
          have hj100 : j ≤ 100000 := by omega
          clear hA hkj hc hmk hkk hff hfk hy hvw cK0
          go_wp2_with fail
          have HPd7 : Hid (wr.drew.ownsRow w4.heap.size 9 1 u7 j (strV (kl.take j))) := Lib.hid HP7.out
          have HPd8 : Hid (wr.drew.ownsRow w4.heap.size 9 1 u8 j (strV (fl.take j))) := Lib.hid HP8.out
          have HBd : Hid (Below w4.heap.size w4 wr.drew) := Lib.hid HB.out.drew
          clear HP7 HP8 HB
          have cD' : wr.drew.cell? ⟨D, 0, none⟩ = some (.slice (some ⟨gn, 0, none⟩) s.js.length cn) := cD
          have cK' : wr.drew.cell? ⟨kb, ko + j, none⟩ = some (.int .i64 (k : Nat)) := cK
          have cN' : wr.drew.cell? ⟨gn, k * 4 + 1, none⟩ = some (.string key1) := cN
          refine wp_region_noPanic ?_
          refine wp_region_held_drew (S := fun W => W.cell? ⟨D, 0, none⟩ = some (.slice (some ⟨gn, 0, none⟩) s.js.length cn) ∧ W.cell? ⟨kb, ko + j, none⟩ = some (.int .i64 (k : Nat)) ∧ W.cell? ⟨gn, k * 4 + 1, none⟩ = some (.string key1)) (by kernel_rfl) ⟨cD, cK, cN⟩ (fun hHeld => ?_)
          generalize wr.drew = wd at *
          refine wpAnyH_take (i := 0) (oi := _) (v := u7) rfl (by kernel_rfl) (by kernel_rfl) (by kernel_rfl) (fun _ _ _ h => h) (Or.inl ⟨by rfl, ?_⟩) hHeld ?_
          · intro w hSw; go_simp
          try simp only [Act.put, List.setIfInBounds_toArray, List.set_cons_zero, List.set_cons_succ, List.getElem_toArray, List.getElem_cons_zero]
          refine wpAnyH_take (i := 1) (oi := _) (v := ptrV D) rfl (by kernel_rfl) (by kernel_rfl) (by kernel_rfl) (fun _ _ _ h => h) (Or.inl ⟨by rfl, ?_⟩) hHeld ?_
          · intro w hSw; go_simp
          try simp only [Act.put, List.setIfInBounds_toArray, List.set_cons_zero, List.set_cons_succ, List.getElem_toArray, List.getElem_cons_zero, List.getElem_cons_succ]
          refine wpAnyH_take (i := 2) (oi := _) (v := ptrV D) rfl (by kernel_rfl) (by kernel_rfl) (by kernel_rfl) (fun _ _ _ h => h) (Or.inl ⟨by rfl, ?_⟩) hHeld ?_
          · intro w hSw; go_simp
          try simp only [Act.put, List.setIfInBounds_toArray, List.set_cons_zero, List.set_cons_succ, List.getElem_toArray, List.getElem_cons_zero, List.getElem_cons_succ]
          refine wpAnyH_take (i := 3) (oi := _) (v := .pointer (some ⟨D, 0, none⟩)) rfl (by kernel_rfl) (by kernel_rfl) (by kernel_rfl) (fun _ _ _ h => h) (Or.inl ⟨by rfl, ?_⟩) hHeld ?_
          · intro w hSw; go_simp
          try simp only [Act.put, List.setIfInBounds_toArray, List.set_cons_zero, List.set_cons_succ, List.getElem_toArray, List.getElem_cons_zero, List.getElem_cons_succ]
          refine wpAnyH_take (i := 4) (oi := _) (v := .slice (some ⟨gn, 0, none⟩) s.js.length cn) rfl (by kernel_rfl) (by kernel_rfl) (by kernel_rfl) (fun _ _ _ h => h) (Or.inl ⟨by rfl, ?_⟩) hHeld ?_
          · intro w hSw; go_simp
          try simp only [Act.put, List.setIfInBounds_toArray, List.set_cons_zero, List.set_cons_succ, List.getElem_toArray, List.getElem_cons_zero, List.getElem_cons_succ]
          refine wpAnyH_take (i := 5) (oi := _) (v := .slice (some ⟨kb, ko, none⟩) ks.length kc) rfl (by kernel_rfl) (by kernel_rfl) (by kernel_rfl) (fun _ _ _ h => h) (Or.inl ⟨by rfl, ?_⟩) hHeld ?_
          · intro w hSw; go_simp
          try simp only [Act.put, List.setIfInBounds_toArray, List.set_cons_zero, List.set_cons_succ, List.getElem_toArray, List.getElem_cons_zero, List.getElem_cons_succ]
          refine wpAnyH_take (i := 6) (oi := _) (v := .int .i64 (j : Nat)) rfl (by kernel_rfl) (by kernel_rfl) (by kernel_rfl) (fun _ _ _ h => h) (Or.inl ⟨by rfl, ?_⟩) hHeld ?_
          · intro w hSw; go_simp
          try simp only [Act.put, List.setIfInBounds_toArray, List.set_cons_zero, List.set_cons_succ, List.getElem_toArray, List.getElem_cons_zero, List.getElem_cons_succ]
          refine wpAnyH_take (i := 7) (oi := _) (v := .pointer (some ⟨kb, ko + j, none⟩)) rfl (by kernel_rfl) (by kernel_rfl) (by kernel_rfl) (fun _ _ _ h => h) (Or.inl ⟨by rfl, ?_⟩) hHeld ?_
          · intro w hSw; go_simp
          try simp only [Act.put, List.setIfInBounds_toArray, List.set_cons_zero, List.set_cons_succ, List.getElem_toArray, List.getElem_cons_zero, List.getElem_cons_succ]
          refine wpAnyH_take (i := 8) (oi := _) (v := .int .i64 (k : Nat)) rfl (by kernel_rfl) (by kernel_rfl) (by kernel_rfl) (fun _ _ _ h => h) (Or.inl ⟨by rfl, ?_⟩) hHeld ?_
          · intro w hSw; go_simp
          try simp only [Act.put, List.setIfInBounds_toArray, List.set_cons_zero, List.set_cons_succ, List.getElem_toArray, List.getElem_cons_zero, List.getElem_cons_succ]
          refine wpAnyH_take (i := 9) (oi := _) (v := .pointer (some ⟨gn, k * 4, none⟩)) rfl (by kernel_rfl) (by kernel_rfl) (by kernel_rfl) (fun _ _ _ h => h) (Or.inl ⟨by rfl, ?_⟩) hHeld ?_
          · intro w hSw; go_simp
          try simp only [Act.put, List.setIfInBounds_toArray, List.set_cons_zero, List.set_cons_succ, List.getElem_toArray, List.getElem_cons_zero, List.getElem_cons_succ]
          refine wpAnyH_take (i := 10) (oi := _) (v := .pointer (some ⟨gn, k * 4 + 1, none⟩)) rfl (by kernel_rfl) (by kernel_rfl) (by kernel_rfl) (fun _ _ _ h => h) (Or.inl ⟨by rfl, ?_⟩) hHeld ?_
          · intro w hSw; go_simp
          try simp only [Act.put, List.setIfInBounds_toArray, List.set_cons_zero, List.set_cons_succ, List.getElem_toArray, List.getElem_cons_zero, List.getElem_cons_succ]
          refine wpAnyH_take (i := 11) (oi := _) (v := .string key1) rfl (by kernel_rfl) (by kernel_rfl) (by kernel_rfl) (fun _ _ _ h => h) (Or.inl ⟨by rfl, ?_⟩) hHeld ?_
          · intro w hSw; go_simp
          try simp only [Act.put, List.setIfInBounds_toArray, List.set_cons_zero, List.set_cons_succ, List.getElem_toArray, List.getElem_cons_zero, List.getElem_cons_succ]
          refine wpAnyH_ready (rs := [12]) (by kernel_rfl) (by simp) ?_
          refine AllReadyH.cons (o := _) rfl (fun K hK => ?_) AllReadyH.nil
          go_simp
          refine hK.out _ _ ⟨cell_alloc _ hHeld.1, cell_alloc _ hHeld.2.1, cell_alloc _ hHeld.2.2⟩ (fun hHeld => ?_)
          clear hK K
          try simp only [Act.put, List.setIfInBounds_toArray, List.set_cons_zero, List.set_cons_succ, List.getElem_toArray, List.getElem_cons_zero, List.getElem_cons_succ]
          obtain ⟨i0, hi0, hz0, hz1, hz2⟩ := info_parts elStr8.hi
          refine wpAnyH_ready (rs := [13]) (by kernel_rfl) (by simp) ?_
          refine AllReadyH.cons (o := _) rfl (fun K hK => ?_) AllReadyH.nil
          refine step_append_lies _ (by rfl) _ _ _ (by rfl) w4.heap.size 9 i0 _ 1 16 Tryz.underlying39 hi0 hz0 hz1 hz2 rfl (by omega) u7 j _ (by rfl) (HPd7.out.alloc _) ⟨wd.heap.size, 0, none⟩ 1 1 [.string key1] (by rfl) (by rfl) (World.news_of_block (cs := #[.string key1]) (t := 9) (fr := (0, 0)) (heap_alloc_new wd _)) (by simp [Value.oneCell']) (by omega) (by unfold maxLen; omega) (by omega) (by have := HBd.out.size; simp; omega) (wd.heap.size + 1) (by simp) ?_
          intro g7 cap7 w8 hown8 hgrow hat hlt8
          have hown8' := World.ownsRow.kept (HPd8.out.alloc (.cells #[.string key1] 9)) hgrow (.inr HNE.out)
          have hb8 : Below w4.heap.size w4 w8 := (ext_alloc HBd.out (.cells #[.string key1] 9)).grown hgrow (by have := HBd.out.size; simp; omega) (fun q hq => (HPd7.out.lt q hq).1)
          have hne8 : u8.ownBlock ≠ some g7 := fun e => by
            rcases hat with h | h
            · exact HNE.out (by rw [e, ← h])
            · have := (HPd8.out.lt g7 e).2
              omega
          have hs8 := hgrow.size
          have H8a := Lib.hid hown8; have H8b := Lib.hid hown8'; have HB8 := Lib.hid hb8; have HN8 := Lib.hid hne8
          have b1 := ((bcell1 hb8 zD4 0).trans ((bcell1 HBd.out zD4 0).symm.trans cD'))
          have b2 := ((bcell1 hb8 zK4 (ko + j)).trans ((bcell1 HBd.out zK4 (ko + j)).symm.trans cK'))
          have b3 := ((bcell1 hb8 zN4 (k * 4 + 1)).trans ((bcell1 HBd.out zN4 (k * 4 + 1)).symm.trans cN'))
          clear hown8 hown8' hgrow hat hlt8 hb8 hne8 hs8
          refine hK.out _ _ ⟨b1, b2, b3⟩ (fun hHeld => ?_)
          clear hK K
          try simp only [Act.put, List.setIfInBounds_toArray, List.set_cons_zero, List.set_cons_succ, List.getElem_toArray, List.getElem_cons_zero, List.getElem_cons_succ]
          refine wpAnyH_take (i := 14) (oi := _) (v := .slice (some ⟨g7, 0, none⟩) (j + 1) cap7) rfl (by kernel_rfl) (by kernel_rfl) (by kernel_rfl) (fun _ _ _ h => h) (Or.inl ⟨by rfl, ?_⟩) hHeld ?_
          · intro w hSw; go_simp
          try simp only [Act.put, List.setIfInBounds_toArray, List.set_cons_zero, List.set_cons_succ, List.getElem_toArray, List.getElem_cons_zero, List.getElem_cons_succ]
          refine wpAnyH_done (by kernel_rfl) ?_ _
          refine NoPanic.normal ?_
          have R8a := H8a.out; have R8b := H8b.out
          have ck2 : w8.cell? ⟨kb, ko + j, none⟩ = some (.int .i64 (k : Nat)) := hHeld.2.1
          have cd2 := hHeld.1
          clear hHeld
          have FMk := Lib.hid (FM.out w8 HB8.out)
          go_wp2_with fail
          go_at_call 14
          refine FMk.out.mono ?_
          rintro _ w9 ⟨rfl, hb9⟩
          have r7 : w9.ownsRow w4.heap.size 9 1 (.slice (some ⟨g7, 0, none⟩) (j + 1) cap7) (j + 1) (strV (kl.take j) ++ [.string key1]) := aown_ext R8a (fun q hq => hb9.block q (R8a.lt q hq).2) (Nat.le_refl _)
          have r8 : w9.ownsRow w4.heap.size 9 1 u8 j (strV (fl.take j)) := aown_ext R8b (fun q hq => hb9.block q (R8b.lt q hq).2) (Nat.le_refl _)
          have HR7 := Lib.hid r7; have HR8 := Lib.hid r8
          have HB9 := Lib.hid (HB8.out.trans (hb9.mono HB8.out.size))
          have z79 := (r7.lt g7 rfl).2
          clear hb9 r7 r8 R8a R8b H8a H8b
          go_wp2_with (at_builtin; refine wpList_appAt (w9.alloc (.cells #[.string fk] 9)) rfl _ _ 39 rfl w4.heap.size elStr8 u8 j _ rfl (HR8.out.alloc _) ⟨w9.heap.size, 0, none⟩ 1 1 [.string fk] rfl rfl (World.news_of_block (cs := #[.string fk]) (t := 9) (fr := (0, 0)) (heap_alloc_new w9 _)) ?c1 ?c2 ?c3 ?c4 ?_)
          case c1 => simp [Value.oneCell']
          case c2 => unfold maxLen; omega
          case c3 => omega
          case c4 => have := HB9.out.size; simp; omega
          intro u8' w10 ho10 hg10 hat10
          have e7 : strV (kl.take (j + 1)) = strV (kl.take j) ++ [.string key1] := by
            rw [List.take_add_one, HKK.out]; simp [strV]
          have e8 : strV (fl.take (j + 1)) = strV (fl.take j) ++ [.string fk] := by
            rw [List.take_add_one, HFF.out]; simp [strV]
          have R1 : RfRel kl fl w4 (.slice (some ⟨g7, 0, none⟩) (j + 1) cap7) u8' (.int .i64 ((j : Int) + 1)) w10 := ⟨j + 1, by go_num, by rw [HKL.out, List.length_map]; exact hlt, ⟨by
            rw [e7]; exact World.ownsRow.kept (HR7.out.alloc _) hg10 (.inr (fun e => HN8.out e.symm)), by rw [e8]; exact ho10, fun e => by
              rcases hat10 with h | h
              · exact HN8.out (by rw [← h]; exact e)
              · rw [h] at e
                have e2 : w9.heap.size + 1 = g7 := by simpa using Option.some.inj e
                omega, (ext_alloc HB9.out _).grown hg10 (by have := HB9.out.size; simp; omega) (fun q hq => (HR8.out.lt q hq).1)⟩⟩
          have HRR := Lib.hid R1
          clear R1 ho10 hg10 hat10 e7 e8
          go_wp2
          refine ⟨?_, by simp [intOf]; omega⟩
          have R := HRR.out
          first | exact R | ((repeat apply Exists.intro); exact ⟨R, rfl⟩)
        · have hjn : j = ks.length := by omega
          have t1 : decide ((j : Int) < (ks.length : Int)) = false := decide_eq_false (by omega)
          have t1' : decide (j < ks.length) = false := decide_eq_false hlt
          have h7 := hA.r7
          have h8 := hA.r8
          have hkll : kl.length = ks.length := by rw [HKL.out, List.length_map]
          have hfll : fl.length = ks.length := by rw [HFL.out, List.length_map]
          rw [List.take_of_length_le (by omega)] at h7 h8
          rw [hjn, ← hkll] at h7
          rw [hjn, ← hfll] at h8
          have D7 := rd_strV h7
          have D8 := rd_strV h8
          have n0r : wr.cell? ⟨w.heap.size, 0, none⟩ = some (.int .i64 5) := (bcell1 hA.below z0 0).trans n04
          have HB := Lib.hid (HB4.out.trans (hA.below.mono HB4.out.size))
          have OB := rlist_any wr _ fl D8 (by omega) HOZ.out
          obtain ⟨ob, hob⟩ : ∃ ob, lstB fl = ob := ⟨_, rfl⟩
          rw [hob] at OB
          have HR2 : Hid (R = ob) := Lib.hid (by rw [HR'.out, hob])
          have OB := Lib.hid OB
          clear hA h7 h8 D7 D8 hob hjn hkll hfll
          go_wp2_with fail
          go_at_call 41
          refine OB.out.mono ?_
          rintro _ w9 ⟨rfl, rfl⟩
          go_wp2
          go_ret
          exact ⟨by rw [HR2.out]; rfl, HB.out⟩
end Go.Proofs.YtheoaijheijojaaGreatDoor
