
/- Cnw1, Cnw2, Cnw0 in one text (a claim holds at most 60 files). -/
import Derived.Test.YtheoaijheijojaaGreatDoorZCn3s
import Derived.Test.YtheoaijheijojaaGreatDoorZQuo5s
import Derived.Test.YtheoaijheijojaaGreatDoorZSrt0s
import Derived.Test.YtheoaijheijojaaGreatDoorShelf
import Derived.Ground.SlsfProg
import Derived.Test.YtheoaijheijojaaGreatDoorZJsO1s
-- @auto
namespace Go.Proofs.YtheoaijheijojaaGreatDoor
section
open Go.RowKit
theorem elMem : ElemTy Tryz.prog 110 113 2 32 (.agg #[.string ⟨#[]⟩, .string ⟨#[]⟩]) := ⟨Tryz.underlying110, by kernel_rfl, rfl, by decide⟩
def encM (p : KV) : List Value := [.string p.1, .string p.2]
theorem encM_len (p : KV) : (encM p).length = 2 := rfl
set_option maxRecDepth 100000 in
theorem quoted_any (s : ByteArray) (w : World) (he : ScEnv w) (hr : RightB s) (hm : s.size ≤ 100000) :
    Calls Tryz.prog 53 #[.string s] w fun e w' => e = .returned (.string (quoteB s)) ∧ Below w.heap.size w w' := by
  have Q := quote_any s w he hm
  obtain ⟨cs, hc⟩ := hr
  unfold QtPost at Q
  rw [hc] at Q
  have HQ := Lib.hid Q
  clear Q he hc
  go_enter Tryz.func53, Tryz.ntmps53
  go_wp2_with fail
  refine HQ.out.mono ?_
  rintro e w2 ⟨rfl, hb⟩
  have HB := Lib.hid hb
  clear hb
  go_wp2
  go_ret
  exact ⟨rfl, HB.out⟩
set_option maxRecDepth 100000 in
set_option maxHeartbeats 8000000 in
theorem memCmp_any (a b : KV) (W : World) : Calls Tryz.prog 87 #[.agg #[.string a.1, .string a.2], .agg #[.string b.1, .string b.2]] W fun e w' => e = .returned (.int .i64 (Lib.compareBytes a.1.data.toList b.1.data.toList)) ∧ ∃ q os', w' = Go.Sort.grow (W.drewN q) os' := by
  have BC := Lib.hid (fun W => Tryz.strings_Compare a.1 b.1 W)
  generalize Lib.compareBytes a.1.data.toList b.1.data.toList = r at *
  go_enter Tryz.func87, Tryz.ntmps87
  go_wp2_with fail
  first
  | (go_at_call 88
     refine (BC.out _).mono ?_
     rintro _ _ ⟨rfl, rfl⟩
     go_wp2
     go_ret
     refine ⟨rfl, 0, #[.cells #[.string a.1, .string a.2] 113 (0, 0), .cells #[.string b.1, .string b.2] 113 (0, 0)], ?_⟩
     rw [Go.Sort.alloc_eq_grow, Go.Sort.alloc_eq_grow, Go.Sort.grow_grow]
     rfl)
  | skip
theorem enters_id8 {P : Program} {k : FuncId} {fn : Func} {c : Code} (hf : P.funcs[k]? = some fn) (hn : (fn.name == "runtime.NumGoroutine") = false) (hb : fn.body = some c) (args : Array Value) (w : World) : (callFunc k args).run P w = .ok (.enter k args) w := by
  have hn' := beq_eq_false_iff_ne.1 hn
  simp [callFunc, hf, hn', hb]
theorem memEn : ∀ args w, (callFunc 87 args).run Tryz.prog w = .ok (.enter 87 args) w := enters_id8 Tryz.func87 (by kernel_rfl) rfl
theorem memAgg : ∀ w, (isAgg 113).run Tryz.prog w = .ok true w := Tryz.isAgg113
theorem memSize : ∀ w, (sizeOf 113).run Tryz.prog w = .ok 2 w := Tryz.sizeOf113
/-- Members sorted: those of one row, whose keys are told apart. -/
theorem sortMem_any (w : World) (base g cap : Nat) (l : List KV) (hi : ∀ a ∈ l, ∀ b ∈ l, a.1 = b.1 → a = b) (hm : l.length ≤ 100000)
    (h : w.ownsRow base 113 2 (.slice (some ⟨g, 0, none⟩) l.length cap) l.length (l.flatMap encM)) :
    Calls Tryz.prog 86 #[.slice (some ⟨g, 0, none⟩) l.length cap, .func (.func 87) #[] #[]] w fun e w' => e = .returned (.tuple #[]) ∧ w'.ownsRow base 113 2 (.slice (some ⟨g, 0, none⟩) l.length cap) l.length ((l.mergeSort kvLe).flatMap encM) ∧ w.grownBy w' (some g) := by
  by_cases h0 : l = []
  · subst h0
    refine Calls.mono (AnyF.slices_SortFunc_none Tryz.sortMem (some ⟨g, 0, none⟩) cap (.func (.func 87) #[] #[]) w) ?_
    rintro e w' ⟨rfl, rfl⟩
    exact ⟨rfl, by simpa using h, World.grownBy.refl _ _⟩
  · obtain ⟨x0, hx0⟩ := List.exists_mem_of_ne_nil l h0
    haveI : Inhabited {p : KV // p ∈ l} := ⟨⟨x0, hx0⟩⟩
    have hfl : ∀ ys : List {p : KV // p ∈ l}, ys.flatMap (fun x => encM x.1) = (ys.map (·.1)).flatMap encM := fun ys => by rw [List.flatMap_map]
    have hat : l.attach.map (·.1) = l := List.attach_map_subtype_val l
    have h' : w.ownsRow base 113 2 (.slice (some ⟨g, 0, none⟩) l.attach.length cap) l.attach.length (l.attach.flatMap fun x => encM x.1) := by
      rw [hfl, hat, List.length_attach]; exact h
    have hO : Go.Sort.SWO (ltOf fun x y : {p : KV // p ∈ l} => Lib.compareBytes x.1.1.data.toList y.1.1.data.toList) := by
      refine ⟨fun x => keyLt_irrefl x.1.1, fun x y z h k => keyLt_trans (a := x.1.1) (b := y.1.1) (c := z.1.1) h k, fun x y z h k => keyLt_ntrans (a := x.1.1) (b := y.1.1) (c := z.1.1) h k⟩
    have K := AnyQ.slices_SortFunc_total Tryz.sortMem 2 memAgg memSize (fun x : {p : KV // p ∈ l} => encM x.1) (fun _ => rfl) (fun x v hv => by simp [encM] at hv; rcases hv with rfl | rfl <;> rfl) (fun x y => Lib.compareBytes x.1.1.data.toList y.1.1.data.toList) hO 87 #[] g 0 cap l.attach.toArray w memEn
      (fun m os dk _ x y => memCmp_any x.1 y.1 _) (own_holdsK (enc := fun x : {p : KV // p ∈ l} => encM x.1) (k := 2) (fun _ => rfl) h') (h.lt g rfl).2 (by simp; omega)
      (fun x y h1 h2 => Subtype.ext (hi x.1 x.2 y.1 y.2 (keyLt_total (a := x.1.1) (b := y.1.1) h1 h2)))
    rw [show l.attach.toArray.size = l.length by simp] at K
    refine Calls.mono K ?_
    rintro e w' ⟨rfl, n, os, rfl⟩
    have hms : ((l.attach.mergeSort fun x y => !(ltOf (fun x y : {p : KV // p ∈ l} => Lib.compareBytes x.1.1.data.toList y.1.1.data.toList)) y x).map (·.1)) = l.mergeSort kvLe := by
      have := List.map_mergeSort (r := fun x y : {p : KV // p ∈ l} => !(ltOf (fun x y : {p : KV // p ∈ l} => Lib.compareBytes x.1.1.data.toList y.1.1.data.toList)) y x) (s := kvLe) (f := (·.1)) (l := l.attach) (fun a _ b _ => rfl)
      rw [this, hat]
    have S := own_sortedK (enc := fun x : {p : KV // p ∈ l} => encM x.1) (k := 2) (fun _ => rfl) (n := n) (os := os) (ys := l.attach.mergeSort fun x y => !(ltOf (fun x y : {p : KV // p ∈ l} => Lib.compareBytes x.1.1.data.toList y.1.1.data.toList)) y x) h' (by rw [List.length_mergeSort])
    obtain ⟨s1, s2⟩ := S
    rw [hfl, hms, List.length_attach] at s1
    exact ⟨rfl, s1, s2⟩
theorem sortMemV_any (w : World) (base : Nat) (v : Value) (l : List KV) (hi : ∀ a ∈ l, ∀ b ∈ l, a.1 = b.1 → a = b) (hm : l.length ≤ 100000)
    (h : w.ownsRow base 113 2 v l.length (l.flatMap encM)) :
    Calls Tryz.prog 86 #[v, .func (.func 87) #[] #[]] w fun e w' => e = .returned (.tuple #[]) ∧ w'.ownsRow base 113 2 v l.length ((l.mergeSort kvLe).flatMap encM) ∧ w.grownBy w' v.ownBlock := by
  rcases h.2 with ⟨rfl, h0⟩ | ⟨g, cap, cur, rfl, _⟩
  · obtain rfl := List.eq_nil_of_length_eq_zero h0
    refine Calls.mono (AnyF.slices_SortFunc_none Tryz.sortMem none 0 (.func (.func 87) #[] #[]) w) ?_
    rintro e w' ⟨rfl, rfl⟩
    exact ⟨rfl, by simpa using h, World.grownBy.refl _ _⟩
  · exact sortMem_any w base g cap l hi hm h
end
section
open Go.RowKit
theorem elStr8 : ElemTy Tryz.prog 39 9 1 16 (.string ⟨#[]⟩) := ⟨Tryz.underlying39, by kernel_rfl, rfl, by decide⟩
def strV (l : List ByteArray) : List Value := l.map Value.string
theorem join_any (w : World) (base : Nat) (v : Value) (l : List ByteArray) (h : w.ownsRow base 9 1 v l.length (strV l)) (hm : l.length ≤ 100000) (hz : (J l).size ≤ 1000000000) :
    Calls Tryz.prog 56 #[v, .string ⟨#[44]⟩] w fun e w' => e = .returned (.string (J l)) ∧ Below w.heap.size w w' := by
  have hsz : (Lib.join (l.map (·.data.toList)) (⟨#[44]⟩ : ByteArray).data.toList).length = (J l).size := by
    unfold J
    show _ = (List.toArray _).size
    simp
  rcases h.2 with ⟨rfl, h0⟩ | ⟨g, cap, cur, rfl, h1, h2, h3, _⟩
  · obtain rfl := List.eq_nil_of_length_eq_zero h0
    exact (Tryz.strings_Join_none none 0 ⟨#[44]⟩ w).mono (fun e w' ⟨h1, h2⟩ => ⟨h1, by rw [h2]; exact Below.refl _ _⟩)
  · exact Tryz.strings_Join g 0 cap l ⟨#[44]⟩ w (fun j x hx => by
      have hj := (List.getElem?_eq_some_iff.1 hx).1
      rw [Nat.zero_add, World.ownsRow.cellAt h j (by omega)]
      simp [strV, hx]) (h.lt g rfl).2 (by omega) h3 (by rw [hsz]; omega)
theorem mem_J_size {l : List ByteArray} {x : ByteArray} (h : x ∈ l) : x.size ≤ (J l).size := by
  have key : ∀ l : List (List UInt8), ∀ y ∈ l, y.length ≤ (Lib.joinTail [44] l).length := by
    intro l
    induction l with
    | nil => intro y hy; simp at hy
    | cons z l ih =>
      intro y hy
      have e : Lib.joinTail [44] (z :: l) = [44] ++ z ++ Lib.joinTail [44] l := by simp [Lib.joinTail]
      rw [e, List.length_append, List.length_append]
      rcases List.mem_cons.1 hy with rfl | hy
      · omega
      · have := ih y hy; omega
  have e : (J l).size = (Lib.join (l.map (·.data.toList)) [44]).length := by unfold J; show (List.toArray _).size = _; simp
  rw [e]
  have hx : x.size = x.data.toList.length := by rw [Array.length_toList]; rfl
  rw [hx]
  cases l with
  | nil => simp at h
  | cons z l =>
    rw [List.map_cons, Lib.join_cons, List.length_append]
    rcases List.mem_cons.1 h with rfl | h
    · omega
    · have := key (l.map (·.data.toList)) x.data.toList (List.mem_map.2 ⟨x, h, rfl⟩); omega
def ObRel (s : List KV) (W : World) (vp vj : Value) (wr : World) : Prop := ∃ j : Nat, vj = .int .i64 j ∧ j ≤ s.length ∧ wr.ownsRow W.heap.size 9 1 vp j (strV ((s.map partB).take j)) ∧ Below W.heap.size W wr
set_option maxRecDepth 100000 in
set_option maxHeartbeats 16000000 in
theorem object_any (w0 w : World) (v : Value) (l : List KV) (he : ScEnv w0) (hb0 : Below w0.heap.size w0 w) (hi : ∀ a ∈ l, ∀ b ∈ l, a.1 = b.1 → a = b) (hr : ∀ a ∈ l, RightB a.1 ∧ a.1.size ≤ 100000) (hm : l.length ≤ 100000) (hz : (objB l).size ≤ 1000000000)
    (h : w.ownsRow w0.heap.size 113 2 v l.length (l.flatMap encM)) :
    Calls Tryz.prog 54 #[v] w fun e w' => e = .returned (.string (objB l)) ∧ Below w0.heap.size w0 w' := by
  obtain ⟨ao, cap, rfl, hao⟩ := aown_form h
  have SM := Lib.hid (sortMemV_any w w0.heap.size _ l hi hm h)
  have hsl : (l.mergeSort kvLe).length = l.length := List.length_mergeSort _
  have hsr : ∀ a ∈ l.mergeSort kvLe, RightB a.1 ∧ a.1.size ≤ 100000 := fun a ha => hr a (List.mem_mergeSort.1 ha)
  have hjz : (J ((l.mergeSort kvLe).map partB)).size ≤ 1000000000 := by
    unfold objB at hz
    rw [ByteArray.size_append, ByteArray.size_append] at hz
    omega
  unfold objB
  obtain ⟨s, hs⟩ : ∃ s, l.mergeSort kvLe = s := ⟨_, rfl⟩
  rw [hs] at SM hsl hsr hjz
  rw [hs]
  obtain ⟨jj, hjj⟩ : ∃ jj, J (s.map partB) = jj := ⟨_, rfl⟩
  rw [hjj] at hjz ⊢
  have HJJ := Lib.hid hjj
  clear hjj
  have HB0 := Lib.hid hb0; have HE := Lib.hid he; have HSR := Lib.hid hsr; have HJZ := Lib.hid hjz; have HAO := Lib.hid hao; have HSL := Lib.hid hsl
  obtain ⟨n, hn⟩ : ∃ n, l.length = n := ⟨_, rfl⟩
  have HNL := Lib.hid hn
  rw [hn] at SM hm ⊢
  clear h he hb0 hi hr hz hs hsr hjz hao hsl hn
  go_enter Tryz.func54, Tryz.ntmps54
  go_wp2_with fail
  go_at_call 86
  refine SM.out.mono ?_
  rintro _ w2 ⟨rfl, ho2, hg2⟩
  have hb2 : Below w0.heap.size w0 w2 := HB0.out.grown hg2 HB0.out.size (fun q e => by
    rcases HAO.out with ⟨_, rfl⟩ | ⟨g, rfl, h1, _⟩
    · cases e
    · cases e; exact h1)
  have he2 : ScEnv w2 := HE.out.ext hb2
  have HO2 := Lib.hid ho2; have HB2 := Lib.hid hb2; have HE2 := Lib.hid he2
  clear ho2 hg2 hb2 he2 SM
  go_wp2_with fail
  go_loopw [3, 10] (ObRel s w2) (fun _ j _ => s.length - (intOf j).toNat)
  case atStart => exact ⟨0, rfl, Nat.zero_le _, by simpa [strV] using World.ownsRow_nil w2 w2.heap.size 9 1, Below.refl _ _⟩
  case round =>
    obtain ⟨j, rfl, hj, hp, hb⟩ := hrel
    by_cases hlt : j < s.length
    · obtain ⟨p, hpj⟩ := get_ex s j hlt
      obtain ⟨g, rfl, hgb, hgz⟩ : ∃ g, ao = some ⟨g, 0, none⟩ ∧ w0.heap.size ≤ g ∧ g < w.heap.size := by
        rcases HAO.out with ⟨h0, _⟩ | h
        · have := HSL.out; have := HNL.out; omega
        · exact h
      have zg2 : g < w2.heap.size := (HO2.out.lt g rfl).2
      have c0 : wr.cell? ⟨g, j * 2, none⟩ = some (.string p.1) := (bcell1 hb zg2 _).trans (row_cell encM_len HO2.out hpj (j := 0) (by decide))
      have c1 : wr.cell? ⟨g, j * 2 + 1, none⟩ = some (.string p.2) := (bcell1 hb zg2 _).trans (row_cell encM_len HO2.out hpj (j := 1) (by decide))
      have hjn : j < n := by have := HSL.out; have := HNL.out; omega
      have t1 : decide ((j : Int) < (n : Int)) = true := decide_eq_true (by have := HSL.out; have := HNL.out; omega)
      have t1' : decide (j < n) = true := decide_eq_true (by have := HSL.out; have := HNL.out; omega)
      have q1 : IntKind.i64.wrap ((j : Int) + 1) = (j : Int) + 1 := IntWalk.i64_in _ (by have := HSL.out; have := HNL.out; omega)
      have hsr := HSR.out p (List.mem_of_getElem? hpj)
      have HSP := Lib.hid hsr
      have hps : (partB p).size ≤ 1000000000 := Nat.le_trans (mem_J_size (List.mem_map.2 ⟨p, List.mem_of_getElem? hpj, rfl⟩)) (by rw [HJJ.out]; exact HJZ.out)
      obtain ⟨pk, pf⟩ := p
      have hps : (quoteB pk).size + 1 + pf.size ≤ 1000000000 := by
        unfold partB at hps
        rw [ByteArray.size_append, ByteArray.size_append] at hps
        exact hps
      have HP := Lib.hid hp; have HB := Lib.hid hb; have HPJ := Lib.hid hpj
      clear hp hb hpj hsr
      go_wp2_with fail
      obtain ⟨W4, hW4⟩ : ∃ W, wr.alloc (.cells #[.string pk, .string pf] 113) = W := ⟨_, rfl⟩
      obtain ⟨N, hN⟩ : ∃ N, wr.heap.size = N := ⟨_, rfl⟩
      have hb4 : Below w2.heap.size w2 W4 := by rw [← hW4]; exact ext_alloc HB.out _
      have hx4 : W4.heap[N]? = some (.cells #[.string pk, .string pf] 113 (0, 0)) := by rw [← hW4, ← hN]; exact heap_alloc_new wr _
      have n0 : W4.cell? ⟨N, 0, none⟩ = some (.string pk) := cell_of_row _ _ _ _ _ _ hx4
      have n1 : W4.cell? ⟨N, 1, none⟩ = some (.string pf) := cell_of_row _ _ _ _ _ _ hx4
      have hp4 : W4.ownsRow w2.heap.size 9 1 u3 j (strV ((s.map partB).take j)) := by rw [← hW4]; exact HP.out.alloc _
      have zN : N < W4.heap.size := (Array.getElem?_eq_some_iff.1 hx4).1
      have hN2 : w2.heap.size ≤ N := by rw [← hN]; exact HB.out.size
      have QU := Lib.hid (fun W (hW : Below w2.heap.size w2 W) => quoted_any pk W (HE2.out.ext hW) HSP.out.1 HSP.out.2)
      have HBd : Hid (Below w2.heap.size w2 W4.drew) := Lib.hid hb4.drew; have HPd : Hid (W4.drew.ownsRow w2.heap.size 9 1 u3 j (strV ((s.map partB).take j))) := Lib.hid hp4; have zNd : N < W4.drew.heap.size := zN; have NE : Hid (some N ≠ u3.ownBlock) := Lib.hid (fun e => by have := (HP.out.lt N e.symm).2; omega); have HN2 := Lib.hid hN2
      rw [hW4]
      simp only [hN]
      clear hb4 hx4 hp4 hW4 hN2 c0 c1
      refine wp_region_noPanic ?_
      refine wp_region_held_drew (S := fun W => W.cell? ⟨N, 0, none⟩ = some (.string pk) ∧ W.cell? ⟨N, 1, none⟩ = some (.string pf)) (by kernel_rfl) ⟨n0, n1⟩ (fun hHeld => ?_)
      generalize W4.drew = wd at *
      refine wpAnyH_take (i := 0) (oi := _) (v := u3) rfl (by kernel_rfl) (by kernel_rfl) (by kernel_rfl) (fun _ _ _ h => h) (Or.inl ⟨by rfl, ?_⟩) hHeld ?_
      · intro w hSw; go_simp
      try simp only [Act.put, List.setIfInBounds_toArray, List.set_cons_zero, List.set_cons_succ, List.getElem_toArray, List.getElem_cons_zero]
      refine wpAnyH_take (i := 1) (oi := _) (v := .pointer (some ⟨N, 0, none⟩)) rfl (by kernel_rfl) (by kernel_rfl) (by kernel_rfl) (fun _ _ _ h => h) (Or.inl ⟨by rfl, ?_⟩) hHeld ?_
      · intro w hSw; go_simp
      try simp only [Act.put, List.setIfInBounds_toArray, List.set_cons_zero, List.set_cons_succ, List.getElem_toArray, List.getElem_cons_zero, List.getElem_cons_succ]
      refine wpAnyH_take (i := 2) (oi := _) (v := .string pk) rfl (by kernel_rfl) (by kernel_rfl) (by kernel_rfl) (fun _ _ _ h => h) (Or.inl ⟨by rfl, ?_⟩) hHeld ?_
      · intro w hSw; go_simp
      try simp only [Act.put, List.setIfInBounds_toArray, List.set_cons_zero, List.set_cons_succ, List.getElem_toArray, List.getElem_cons_zero, List.getElem_cons_succ]
      refine wpAnyH_take (i := 5) (oi := _) (v := .pointer (some ⟨N, 1, none⟩)) rfl (by kernel_rfl) (by kernel_rfl) (by kernel_rfl) (fun _ _ _ h => h) (Or.inl ⟨by rfl, ?_⟩) hHeld ?_
      · intro w hSw; go_simp
      try simp only [Act.put, List.setIfInBounds_toArray, List.set_cons_zero, List.set_cons_succ, List.getElem_toArray, List.getElem_cons_zero, List.getElem_cons_succ]
      refine wpAnyH_take (i := 6) (oi := _) (v := .string pf) rfl (by kernel_rfl) (by kernel_rfl) (by kernel_rfl) (fun _ _ _ h => h) (Or.inl ⟨by rfl, ?_⟩) hHeld ?_
      · intro w hSw; go_simp
      try simp only [Act.put, List.setIfInBounds_toArray, List.set_cons_zero, List.set_cons_succ, List.getElem_toArray, List.getElem_cons_zero, List.getElem_cons_succ]
      refine wpAnyH_ready (rs := [3]) (by kernel_rfl) (by simp) ?_
      refine AllReadyH.cons (o := _) rfl (fun K hK => ?_) AllReadyH.nil
      go_simp
      refine (QU.out wd HBd.out).mono ?_
      rintro e w5 ⟨rfl, hb5⟩
      go_wp2_with fail
      refine hK.out _ _ ⟨(bcell1 hb5 zNd 0).trans hHeld.1, (bcell1 hb5 zNd 1).trans hHeld.2⟩ (fun hHeld => ?_)
      clear hK K
      try simp only [Act.put, List.setIfInBounds_toArray, List.set_cons_zero, List.set_cons_succ, List.getElem_toArray, List.getElem_cons_zero, List.getElem_cons_succ]
      refine wpAnyH_take (i := 4) (oi := _) (v := .string (quoteB pk ++ ⟨#[58]⟩)) rfl (by kernel_rfl) (by kernel_rfl) (by kernel_rfl) (fun _ _ _ h => h) (Or.inl ⟨by rfl, ?_⟩) hHeld ?_
      · intro w hSw; go_simp; omega
      try simp only [Act.put, List.setIfInBounds_toArray, List.set_cons_zero, List.set_cons_succ, List.getElem_toArray, List.getElem_cons_zero, List.getElem_cons_succ]
      refine wpAnyH_take (i := 7) (oi := _) (v := .string (quoteB pk ++ ⟨#[58]⟩ ++ pf)) rfl (by kernel_rfl) (by kernel_rfl) (by kernel_rfl) (fun _ _ _ h => h) (Or.inl ⟨by rfl, ?_⟩) hHeld ?_
      · intro w hSw; go_simp; omega
      try simp only [Act.put, List.setIfInBounds_toArray, List.set_cons_zero, List.set_cons_succ, List.getElem_toArray, List.getElem_cons_zero, List.getElem_cons_succ]
      refine wpAnyH_ready (rs := [8]) (by kernel_rfl) (by simp) ?_
      refine AllReadyH.cons (o := _) rfl (fun K hK => ?_) AllReadyH.nil
      go_simp
      refine hK.out _ _ ⟨cell_alloc _ hHeld.1, cell_alloc _ hHeld.2⟩ (fun hHeld => ?_)
      clear hK K
      try simp only [Act.put, List.setIfInBounds_toArray, List.set_cons_zero, List.set_cons_succ, List.getElem_toArray, List.getElem_cons_zero, List.getElem_cons_succ]
      obtain ⟨i0, hi0, hz0, hz1, hz2⟩ := info_parts elStr8.hi
      have hown5 : w5.ownsRow w2.heap.size 9 1 u3 j (strV ((s.map partB).take j)) := aown_ext HPd.out (fun q hq => hb5.block q (HPd.out.lt q hq).2) (Nat.le_refl _)
      have hb25 : Below w2.heap.size w2 w5 := HBd.out.trans (hb5.mono HBd.out.size)
      have zN5 : N < w5.heap.size := Nat.lt_of_lt_of_le zNd hb5.size
      have HB25 := Lib.hid hb25
      have hle5 := hb25.size
      refine wpAnyH_ready (rs := [9]) (by kernel_rfl) (by simp) ?_
      refine AllReadyH.cons (o := _) rfl (fun K hK => ?_) AllReadyH.nil
      refine step_append_lies _ (by rfl) _ _ _ (by rfl) w2.heap.size 9 i0 _ 1 16 Tryz.underlying39 hi0 hz0 hz1 hz2 rfl (by omega) u3 j _ (by rfl) (hown5.alloc _) ⟨w5.heap.size, 0, none⟩ 1 1 [.string (quoteB pk ++ ⟨#[58]⟩ ++ pf)] (by rfl) (by rfl) (World.news_of_block (cs := #[.string (quoteB pk ++ ⟨#[58]⟩ ++ pf)]) (t := 9) (fr := (0, 0)) (heap_alloc_new w5 _)) (by simp [Value.oneCell']) (by omega) (by unfold maxLen; omega) (by omega) (by simp; omega) (w5.heap.size + 1) (by simp) ?_
      intro g' cap' w6 hown6 hgrow hat hlt6
      have b0 := (hgrow.cell_far (a := ⟨N, 0, none⟩) (by simp; omega) NE.out).trans hHeld.1
      have b1 := (hgrow.cell_far (a := ⟨N, 1, none⟩) (by simp; omega) NE.out).trans hHeld.2
      have R : ObRel s w2 (.slice (some ⟨g', 0, none⟩) (j + 1) cap') (.int .i64 ((j : Int) + 1)) w6 := by
        refine ⟨j + 1, by go_num, hlt, ?_, ?_⟩
        · have e : strV ((s.map partB).take (j + 1)) = strV ((s.map partB).take j) ++ [.string (quoteB pk ++ ⟨#[58]⟩ ++ pf)] := by
            have hj1 : (s.map partB)[j]? = some (partB (pk, pf)) := by rw [List.getElem?_map, HPJ.out]; rfl
            rw [List.take_add_one, hj1]
            simp [strV, partB]
          rw [e]; exact hown6
        · exact (ext_alloc HB25.out _).grown hgrow (by simp; omega) (fun q hq => (HPd.out.lt q hq).1)
      have HRR := Lib.hid R
      clear R hown6 hgrow hat hlt6 hown5 hb25 hle5
      refine hK.out _ _ ⟨b0, b1⟩ (fun hHeld => ?_)
      clear hK K
      try simp only [Act.put, List.setIfInBounds_toArray, List.set_cons_zero, List.set_cons_succ, List.getElem_toArray, List.getElem_cons_zero, List.getElem_cons_succ]
      refine wpAnyH_take (i := 10) (oi := _) (v := .slice (some ⟨g', 0, none⟩) (j + 1) cap') rfl (by kernel_rfl) (by kernel_rfl) (by kernel_rfl) (fun _ _ _ h => h) (Or.inl ⟨by rfl, ?_⟩) hHeld ?_
      · intro w hSw; go_simp
      try simp only [Act.put, List.setIfInBounds_toArray, List.set_cons_zero, List.set_cons_succ, List.getElem_toArray, List.getElem_cons_zero, List.getElem_cons_succ]
      refine wpAnyH_done (by kernel_rfl) ?_ _
      refine NoPanic.normal ?_
      go_wp2
      refine ⟨?_, by simp [intOf]; omega⟩
      have R := HRR.out
      first | exact R | ((repeat apply Exists.intro); exact ⟨R, rfl⟩)
    · have hjl : j = (s.map partB).length := by rw [List.length_map]; omega
      have hjn : ¬ j < n := by have := HSL.out; have := HNL.out; omega
      have t1 : decide ((j : Int) < (n : Int)) = false := decide_eq_false (by omega)
      have t1' : decide (j < n) = false := decide_eq_false hjn
      rw [hjl, List.take_length] at hp
      have hml : (s.map partB).length ≤ 100000 := by have := HSL.out; have := HNL.out; rw [← hjl]; omega
      have JN := join_any wr w2.heap.size _ (s.map partB) hp hml (by rw [HJJ.out]; exact HJZ.out)
      rw [HJJ.out] at JN
      have hjz := HJZ.out
      have JN := Lib.hid JN
      have hs1 : jj.size ≤ 9223372036854775806 := by omega
      have HB := Lib.hid hb
      clear hp hb hjl HJZ
      go_wp2_with fail
      go_at_call 56
      refine JN.out.mono ?_
      rintro _ w7 ⟨rfl, hb7⟩
      have HF := Lib.hid (HB2.out.trans ((HB.out.trans (hb7.mono HB.out.size)).mono HB2.out.size))
      clear hb7 JN
      go_wp2
      go_ret
      exact ⟨rfl, HF.out⟩
end
section
open Go.RowKit
structure PView (w : World) (base D T : Nat) (s : PS) (nodes : Int) (tv : Value) (ns : List ANode) : Prop where
  d : DocAt w base D s nodes T tv ns
  jl : s.js.length ≤ 100000
  ks : ∀ k, (keyA s.js k).size ≤ maxLen
theorem PView.below {w w' : World} {base D T : Nat} {s : PS} {nodes : Int} {tv : Value} {ns : List ANode} (h : PView w base D T s nodes tv ns) (hb : Below w.heap.size w w') : PView w' base D T s nodes tv ns :=
  ⟨h.d.below hb, h.jl, h.ks⟩
section
variable {w : World} {base D T : Nat} {s : PS} {nodes : Int} {tv : Value} {ns : List ANode}
theorem node_p (h : PView w base D T s nodes tv ns) (id : Int) : Calls Tryz.prog 42 #[ptrV D, .int .i64 id] w fun e w' => e = .returned (.tuple #[.agg #[.int .i64 (nodeA s.js id).kind, .string (nodeA s.js id).key, .string (nodeA s.js id).text, .int .i64 (nodeA s.js id).at_], .bool (decide (0 ≤ id ∧ id < s.js.length))]) ∧ Below w.heap.size w w' :=
  (node_any w base D T s nodes tv ns id h.d (by have := h.jl; omega)).mono (fun e w' hp => by
    rcases hp with ⟨i, x, rfl, hx, rfl, hb⟩ | ⟨hn, rfl, hb⟩
    · have := (List.getElem?_eq_some_iff.1 hx).1
      rw [nodeA_in hx, decide_eq_true (by omega : 0 ≤ (i : Int) ∧ (i : Int) < s.js.length)]
      exact ⟨rfl, hb⟩
    · rw [nodeA_out hn, decide_eq_false hn]
      exact ⟨rfl, hb⟩)
theorem items_p (h : PView w base D T s nodes tv ns) (id : Int) : Calls Tryz.prog 76 #[ptrV D, .int .i64 id] w (UPost w (checkS s.js id 5) (fun v w' => Rd (Own w') w' v (intsD (kids s.ups id.toNat))) (.slice none 0 0)) :=
  (items_any w base D T s nodes tv ns id h.d h.jl).mono (fun e w' hp => by
    have := ans_u hp
    obtain ⟨v, u, h1, h2, h3, h4, h5⟩ := this
    exact ⟨v, u, h1, h2, fun h => (h3 h).wide (fun b hb => hb.2), h4, h5⟩)
theorem text_p (h : PView w base D T s nodes tv ns) (id : Int) : Calls Tryz.prog 29 #[ptrV D, .int .i64 id] w (UPost w (checkS s.js id 4) (fun v _ => v = .string (nodeA s.js id).text) (.string ⟨#[]⟩)) :=
  (dtext_any w base D T s nodes tv ns id h.d h.jl).mono (fun e w' hp => by
    obtain ⟨v, u, h1, h2, h3, h4, h5⟩ := ans_u hp
    refine ⟨v, u, h1, h2, fun h0 => ?_, h4, h5⟩
    obtain ⟨i, x, rfl, hx, _, _⟩ := checkS_zero h0
    rw [h3 h0, nodeA_in hx]
    unfold textA
    rw [Int.toNat_natCast, hx]; rfl)
theorem members_p (h : PView w base D T s nodes tv ns) (id : Int) : Calls Tryz.prog 78 #[ptrV D, .int .i64 id] w (UPost w (checkS s.js id 6) (fun v w' => Rd (Own w') w' v (intsD (membersS s.js (kids s.ups id.toNat)))) (.slice none 0 0)) := by
  by_cases h0 : (checkS s.js id 6).1 = 0
  · obtain ⟨i, x, rfl, hx, hk, _⟩ := checkS_zero h0
    have h6 : x.kind = 6 := by
      rcases hk with hk | ⟨hk, _⟩
      · exact hk
      · cases hk
    refine (members_any w base D T s nodes tv ns i x h.d h.jl hx h6 h.ks).mono (fun e w' hp => ?_)
    obtain ⟨v, rfl, hr, hb⟩ := hp
    exact ⟨v, _, rfl, .inl ⟨h0, rfl⟩, fun _ => by rw [Int.toNat_natCast]; exact hr.wide (fun b hb => hb.2), fun h => absurd h0 h, hb⟩
  · refine (membersF_any w base D T s nodes tv ns id h.d h.jl h0).mono (fun e w' hp => ?_)
    obtain ⟨v, u, h1, h2, h3, h4, h5⟩ := ans_u hp
    exact ⟨v, u, h1, h2, fun h => absurd h h0, h4, h5⟩
theorem member_p (h : PView w base D T s nodes tv ns) (id : Int) (key : ByteArray) : Calls Tryz.prog 28 #[ptrV D, .int .i64 id, .string key] w (MuPost w s id key) := by
  by_cases h0 : (checkS s.js id 6).1 = 0
  · obtain ⟨i, x, rfl, hx, hk, _⟩ := checkS_zero h0
    have h6 : x.kind = 6 := by
      rcases hk with hk | ⟨hk, _⟩
      · exact hk
      · cases hk
    refine (member_any w base D T s nodes tv ns i x key h.d h.jl hx h6).mono (fun e w' hp => ?_)
    rcases hp with ⟨ha, rfl, hb⟩ | ⟨ha, u, rfl, hf⟩
    · refine ⟨_, _, rfl, hb, fun h => absurd h0 h, fun _ => ?_⟩
      rw [Int.toNat_natCast, ha, if_pos rfl]
      exact ⟨rfl, .inl ⟨rfl, rfl⟩⟩
    · refine ⟨_, _, rfl, hf.2, fun h => absurd h0 h, fun _ => ?_⟩
      rw [Int.toNat_natCast, ha, if_neg (by decide), nodeA_in hx, lastK_none ha]
      exact ⟨rfl, .inr ⟨by show (30 : Int) ≠ 0; decide, hf.1.wide (fun b hb => hb.2)⟩⟩
  · refine (memberF_any w base D T s nodes tv ns id key h.d h.jl h0).mono (fun e w' hp => ?_)
    rcases hp with ⟨h1, _⟩ | ⟨_, p, rfl, hr, hb⟩
    · exact absurd h1 h0
    · exact ⟨0, _, rfl, hb, fun _ => ⟨rfl, .inr ⟨h0, hr⟩⟩, fun h => absurd h h0⟩
end
end
end Go.Proofs.YtheoaijheijojaaGreatDoor
