
/- JrP1, JrC1, JrC2 in one text (a claim holds at most 60 files). -/
import Derived.Test.YtheoaijheijojaaGreatDoorZJsN1
import Derived.Test.YtheoaijheijojaaGreatDoorZJrM3s
import Derived.Test.YtheoaijheijojaaGreatDoorZOwn0s
import Derived.BigQuiet
-- @auto
namespace Go.Proofs.YtheoaijheijojaaGreatDoor
section
open Go.RowKit
theorem foldK_none {js : List JN} {key : ByteArray} : ∀ (l : List Nat) (a : Int), (∀ k ∈ l, keyA js k ≠ key) → l.foldl (fun a k => if keyA js k = key then (k : Int) else a) a = a
  | [], _, _ => rfl
  | k :: l, a, h => by
    rw [List.foldl_cons, if_neg (h k (by simp))]
    exact foldK_none l a (fun k' hk => h k' (by simp [hk]))
theorem foldK_some {js : List JN} {key : ByteArray} : ∀ (l : List Nat) (a : Int), (∃ k ∈ l, keyA js k = key) → ∃ k ∈ l, l.foldl (fun a k => if keyA js k = key then (k : Int) else a) a = (k : Int)
  | [], _, h => by obtain ⟨k, hk, _⟩ := h; simp at hk
  | k :: l, a, h => by
    rw [List.foldl_cons]
    by_cases hl : ∃ k' ∈ l, keyA js k' = key
    · obtain ⟨k', hk', e⟩ := foldK_some l (if keyA js k = key then (k : Int) else a) hl
      exact ⟨k', by simp [hk'], e⟩
    · have hk : keyA js k = key := by
        obtain ⟨k', hk', e⟩ := h
        rcases List.mem_cons.1 hk' with rfl | h2
        · exact e
        · exact absurd ⟨k', h2, e⟩ hl
      rw [if_pos hk, foldK_none l _ (fun k' hk' e => hl ⟨k', hk', e⟩)]
      exact ⟨k, by simp, rfl⟩
/-- The last of its key: none behind it has the same. -/
theorem isLast_iff {js : List JN} {all : List Nat} (hn : all.Pairwise (· < ·)) {i k : Nat} (hk : all[i]? = some k) : isLast js all k = !anyK js (all.drop (i + 1)) (keyA js k) := by
  obtain ⟨hi, e⟩ := List.getElem?_eq_some_iff.1 hk
  have hs : all = all.take i ++ k :: all.drop (i + 1) := by
    rw [← e, ← List.drop_eq_getElem_cons hi, List.take_append_drop]
  have hf : lastK js all (keyA js k) = (all.drop (i + 1)).foldl (fun a k' => if keyA js k' = keyA js k then (k' : Int) else a) (k : Int) := by
    unfold lastK
    rw [hs, List.foldl_append, List.foldl_cons, if_pos rfl, ← hs]
  unfold isLast
  rw [hf]
  by_cases h : ∃ k' ∈ all.drop (i + 1), keyA js k' = keyA js k
  · obtain ⟨k', hk', e'⟩ := foldK_some (js := js) (key := keyA js k) (all.drop (i + 1)) (k : Int) h
    rw [e']
    have hlt : k < k' := by
      rw [hs] at hn
      exact (List.pairwise_cons.1 (List.pairwise_append.1 hn).2.1).1 k' hk'
    have ha : anyK js (all.drop (i + 1)) (keyA js k) = true := by
      obtain ⟨k2, h2, e2⟩ := h
      exact List.any_eq_true.2 ⟨k2, h2, decide_eq_true e2⟩
    rw [ha]
    exact beq_eq_false_iff_ne.2 (by omega)
  · rw [foldK_none _ _ (fun k' hk' e' => h ⟨k', hk', e'⟩)]
    have ha : anyK js (all.drop (i + 1)) (keyA js k) = false := by
      rw [Bool.eq_false_iff]
      intro hx
      obtain ⟨k2, h2, e2⟩ := List.any_eq_true.1 hx
      exact h ⟨k2, h2, of_decide_eq_true e2⟩
    rw [ha]
    exact beq_self_eq_true _
/-- What a call for a kind tells: an error's number and its place. -/
def checkS (js : List JN) (id kind : Int) : Int × Int := if 0 ≤ id then match js[id.toNat]? with
    | some x => if x.kind = kind ∨ kind = 2 ∧ x.kind = 1 then (0, 0) else (32, x.at_)
    | none => (30, id)
  else (30, id)
theorem checkS_in {js : List JN} {i : Nat} {x : JN} (hx : js[i]? = some x) (kind : Int) : checkS js i kind = if x.kind = kind ∨ kind = 2 ∧ x.kind = 1 then (0, 0) else (32, x.at_) := by
  unfold checkS
  rw [if_pos (by omega), Int.toNat_natCast, hx]
theorem checkS_out {js : List JN} {id : Int} (h : ¬ (0 ≤ id ∧ id < js.length)) (kind : Int) : checkS js id kind = (30, id) := by
  unfold checkS
  by_cases h0 : 0 ≤ id
  · rw [if_pos h0, List.getElem?_eq_none (by omega)]
  · rw [if_neg h0]
/-- The texts of a list, up to the first value that is none. -/
def textA (js : List JN) (k : Nat) : JN := (js[k]?).getD jz
end
section
open Go.RowKit
def kidsT (ups : List Nat) (i j : Nat) : List Nat := (List.range' 1 (j - 1)).filter fun m => decide (ups[m]? = some i)
theorem kidsT_succ (ups : List Nat) (i j : Nat) (hj : 1 ≤ j) : kidsT ups i (j + 1) = kidsT ups i j ++ if ups[j]? = some i then [j] else [] := by
  have e : List.range' 1 (j + 1 - 1) = List.range' 1 (j - 1) ++ [j] := by
    have : j + 1 - 1 = (j - 1) + 1 := by omega
    rw [this, List.range'_concat]; congr 2; omega
  rw [kidsT, e, List.filter_append, kidsT]
  congr 1
  by_cases h : ups[j]? = some i <;> simp [h]
theorem kidsT_le (ups : List Nat) (i j : Nat) : (kidsT ups i j).length ≤ j := by
  have := List.length_filter_le (fun m => decide (ups[m]? = some i)) (List.range' 1 (j - 1))
  unfold kidsT
  simp at this ⊢
  omega
set_option maxRecDepth 100000 in
theorem rhas7_any (w : World) (D gn cn gu cu : Nat) (s : PS) (id : Int) (h : RView w D s gn cn gu cu) :
    Calls Tryz.prog 13 #[ptrV D, .int .i64 id] w fun e w' => e = .returned (.bool (decide (0 ≤ id ∧ id < s.js.length))) ∧ w = w' := by
  have c0 := h.c0
  have zD := h.zD
  clear h
  by_cases h0 : 0 ≤ id
  · have t0 : decide (0 ≤ id) = true := decide_eq_true h0
    by_cases h1 : id < s.js.length
    · have t1 : decide (id < (s.js.length : Int)) = true := decide_eq_true h1
      rw [decide_eq_true (And.intro h0 h1)]
      go_enter Tryz.func13, Tryz.ntmps13
      go_wp2
      go_ret
      exact ⟨rfl, rfl⟩
    · have t1 : decide (id < (s.js.length : Int)) = false := decide_eq_false h1
      rw [decide_eq_false (fun h : 0 ≤ id ∧ id < (s.js.length : Int) => h1 h.2)]
      go_enter Tryz.func13, Tryz.ntmps13
      go_wp2
      go_ret
      exact ⟨rfl, rfl⟩
  · have t0 : decide (0 ≤ id) = false := decide_eq_false h0
    rw [decide_eq_false (fun h : 0 ≤ id ∧ id < (s.js.length : Int) => h0 h.1)]
    go_enter Tryz.func13, Tryz.ntmps13
    go_wp2
    go_ret
    exact ⟨rfl, rfl⟩
def RkRel7 (ups : List Nat) (i : Nat) (W : World) (v k : Value) (wr : World) : Prop := ∃ j : Nat, k = .int .i64 j ∧ 1 ≤ j ∧ j ≤ ups.length ∧ wr.ownsRow W.heap.size 3 1 v (kidsT ups i j).length (intsV (kidsT ups i j)) ∧ Below W.heap.size W wr
set_option maxRecDepth 100000 in
set_option maxHeartbeats 4000000 in
theorem rkids7_any (w : World) (D gn cn gu cu : Nat) (s : PS) (i : Nat) (h : RView w D s gn cn gu cu) (hm : s.js.length ≤ 1000000) :
    Calls Tryz.prog 38 #[ptrV D, .int .i64 i] w fun e w' => ∃ v', e = .returned v' ∧ Rd (Fresh w w') w' v' (intsD (kids s.ups i)) ∧ Below w.heap.size w w' := by
  have H := Lib.hid h
  have hul := h.ul
  have hpos := h.pos
  have HUL := Lib.hid hul
  clear h
  go_enter Tryz.func38, Tryz.ntmps38
  go_wp2_with fail
  go_loopw [5, 6] (RkRel7 s.ups i w) (fun _ k _ => s.ups.length - (intOf k).toNat)
  case atStart =>
    refine ⟨1, rfl, Nat.le_refl _, by omega, ?_, ext_alloc (Below.refl _ _) _⟩
    have := World.ownsRow_lit (base := w.heap.size) (e := 3) (size := 1) w #[] 0 (Nat.le_refl _) (by decide) rfl
    simpa [kidsT, intsV] using this
  case round =>
    obtain ⟨j, rfl, hj1, hj, ho, hb⟩ := hrel
    have hT := H.out.below hb
    have c0 := hT.c0
    have c1 := hT.c1
    have zD := hT.zD
    have zU := hT.zU
    by_cases hlt : j < s.ups.length
    · obtain ⟨u, hu⟩ := get_ex s.ups j hlt
      have x0 := hT.up j u (by omega) hu
      have t1 : decide ((j : Int) < (s.js.length : Int)) = true := decide_eq_true (by omega)
      have t1' : decide (j < s.js.length) = true := decide_eq_true (by omega)
      have q1 : IntKind.i64.wrap ((j : Int) + 1) = (j : Int) + 1 := IntWalk.i64_in _ (by omega)
      have hs := kidsT_succ s.ups i j hj1
      have hle := kidsT_le s.ups i j
      have hju : j < s.js.length := by omega
      have HS := Lib.hid hs; have HO := Lib.hid ho; have HB := Lib.hid hb
      obtain ⟨aA, capA, rfl, _⟩ := aown_form HO.out
      clear hT hs ho hb hul
      by_cases he : u = i
      · have t : ((u : Int) == i) = true := beq_iff_eq.2 (by omega)
        have e1 : (if s.ups[j]? = some i then [j] else []) = [j] := if_pos (by rw [hu, he])
        have HE := Lib.hid e1
        clear e1 hu he
        go_wp2_with (at_builtin; refine wpList_app1 wr #[.int .i64 j] _ rfl _ _ 52 rfl w.heap.size elInt _ _ _ rfl HO.out rfl rfl ?c1 ?c2 ?c3 ?c4 ?_)
        case c1 => first | rfl | (intro u hu; simp at hu; subst hu; rfl)
        case c2 => simp [maxLen]; omega
        case c3 => omega
        case c4 => exact HB.out.size
        intro v2 w2 ho2 hg2
        have hb2 : Below w.heap.size w w2 := (ext_alloc HB.out (.cells #[.int .i64 j] 3)).grown hg2 (ext_alloc HB.out (.cells #[.int .i64 j] 3)).size (fun m hm => (HO.out.lt m hm).1)
        have R : RkRel7 s.ups i w v2 (.int .i64 (j + 1)) w2 := ⟨j + 1, by go_num, by omega, by omega, by rw [HS.out, HE.out]; simpa [intsV] using ho2, hb2⟩
        have HRR := Lib.hid R
        clear R ho2 hg2 hb2
        go_wp2
        refine ⟨?_, by simp [intOf]; omega⟩
        have R := HRR.out
        first | exact R | ((repeat apply Exists.intro); exact ⟨R, rfl⟩)
      · have t : ((u : Int) == i) = false := beq_eq_false_iff_ne.2 (by omega)
        have e1 : (if s.ups[j]? = some i then [j] else []) = [] := if_neg (by rw [hu]; simpa using he)
        have R : RkRel7 s.ups i w (.slice aA (kidsT s.ups i j).length capA) (.int .i64 (j + 1)) wr := ⟨j + 1, by go_num, by omega, by omega, by rw [HS.out, e1, List.append_nil]; exact HO.out, HB.out⟩
        have HRR := Lib.hid R
        clear R e1 hu he
        go_wp2
        refine ⟨?_, by simp [intOf]; omega⟩
        have R := HRR.out
        first | exact R | ((repeat apply Exists.intro); exact ⟨R, rfl⟩)
    · obtain rfl : j = s.ups.length := by omega
      have t1 : decide ((s.ups.length : Int) < (s.js.length : Int)) = false := decide_eq_false (by omega)
      have t1' : decide (s.ups.length < s.js.length) = false := decide_eq_false (by omega)
      have hrd : Rd (Fresh w wr) wr _ (intsD (kidsT s.ups i s.ups.length)) := rd_owned ho (intsV_rds _) (fun m hm => ho.lt m hm)
      obtain ⟨aA, capA, rfl, _⟩ := aown_form ho
      have HRD := Lib.hid hrd; have HB := Lib.hid hb
      clear hrd hb ho hT hul
      go_wp2
      go_ret
      exact ⟨_, rfl, HRD.out, HB.out⟩
end
section
open Go.RowKit
theorem key_is {js : List JN} {k : Nat} {x : JN} (h : js[k]? = some x) : keyA js k = x.key := by unfold keyA; rw [h]
structure KView (w : World) (D : Nat) (s : PS) (gn cn gu cu : Nat) (a : Option Addr) (all : List Nat) : Prop where
  v : RView w D s gn cn gu cu
  cl : ∀ j (_ : j < all.length), ∃ b off, a = some ⟨b, off, none⟩ ∧ b < w.heap.size ∧ w.cell? ⟨b, off + j, none⟩ = some (.int .i64 (all[j] : Nat))
  mem : ∀ k ∈ all, k < s.js.length
theorem KView.below {w w' : World} {D gn cn gu cu : Nat} {s : PS} {a : Option Addr} {all : List Nat} (h : KView w D s gn cn gu cu a all) (hb : Below w.heap.size w w') : KView w' D s gn cn gu cu a all :=
  ⟨h.v.below hb, fun j hj => by
    obtain ⟨b, off, h1, h2, h3⟩ := h.cl j hj
    exact ⟨b, off, h1, Nat.lt_of_lt_of_le h2 hb.size, (bcell1 hb h2 _).trans h3⟩, h.mem⟩
theorem KView.node {w : World} {D gn cn gu cu : Nat} {s : PS} {a : Option Addr} {all : List Nat} (h : KView w D s gn cn gu cu a all) {j : Nat} (hj : j < all.length) : ∃ b off k x, a = some ⟨b, off, none⟩ ∧ b < w.heap.size ∧ w.cell? ⟨b, off + j, none⟩ = some (.int .i64 (k : Nat)) ∧ all[j]? = some k ∧ s.js[k]? = some x ∧ k < s.js.length ∧ w.cell? ⟨gn, k * 4, none⟩ = some (.int .i64 x.kind) ∧ w.cell? ⟨gn, k * 4 + 1, none⟩ = some (.string x.key) ∧ w.cell? ⟨gn, k * 4 + 2, none⟩ = some (.string x.text) ∧ w.cell? ⟨gn, k * 4 + 3, none⟩ = some (.int .i64 x.at_) := by
  obtain ⟨b, off, h1, h2, h3⟩ := h.cl j hj
  have hk := h.mem all[j] (List.getElem_mem hj)
  obtain ⟨x, hx⟩ := get_ex s.js all[j] hk
  exact ⟨b, off, all[j], x, h1, h2, h3, List.getElem?_eq_getElem hj, hx, hk, h.v.nd _ x hx⟩
def RmRel7 (js : List JN) (all : List Nat) (key : ByteArray) (W : World) (f t k : Value) (wr : World) : Prop := ∃ j nq : Nat, k = .int .i64 j ∧ j ≤ all.length ∧ f = .int .i64 (lastK js (all.take j) key) ∧ t = .bool (anyK js (all.take j) key) ∧ wr = W.drewN nq
set_option maxRecDepth 100000 in
set_option maxHeartbeats 8000000 in
theorem rmember7_any (w : World) (D gn cn gu cu : Nat) (s : PS) (i : Nat) (key : ByteArray) (h : RView w D s gn cn gu cu) (hm : s.js.length ≤ 1000000) :
    Calls Tryz.prog 81 #[ptrV D, .int .i64 i, .string key] w fun e w' => e = .returned (.tuple #[.int .i64 (lastK s.js (kids s.ups i) key), .bool (anyK s.js (kids s.ups i) key)]) ∧ Below w.heap.size w w' := by
  have KD := rkids7_any w D gn cn gu cu s i h hm
  have hmem : ∀ k ∈ kids s.ups i, k < s.js.length := fun k hk => by have := (mem_kids.1 hk).2.1; have := h.ul; omega
  have hkl := kids_le s.ups i
  generalize kids s.ups i = all at *
  have KD := Lib.hid KD
  have hul := h.ul
  have H := Lib.hid h
  have HMEM := Lib.hid hmem
  clear h hmem
  go_enter Tryz.func81, Tryz.ntmps81
  go_wp2_with fail
  refine KD.out.mono ?_
  rintro e w3 ⟨v3, rfl, hr3, hb3⟩
  have HB3 := Lib.hid hb3
  obtain ⟨a, c, rfl, _, hac, hcl⟩ := hr3.nats_inv
  have hkv : KView w3 D s gn cn gu cu a all := ⟨H.out.below hb3, fun j hj => by
    obtain ⟨b, off, h1, h2, h3⟩ := hcl (by omega)
    exact ⟨b, off, h1, h2.2, h3 j hj⟩, HMEM.out⟩
  have HKV := Lib.hid hkv
  clear hb3 hr3 hcl hkv KD
  go_wp2_with fail
  go_loopw [9, 10, 11] (RmRel7 s.js all key w3) (fun _ _ k _ => all.length - (intOf k).toNat)
  case atStart => exact ⟨0, 0, rfl, Nat.zero_le _, rfl, rfl, rfl⟩
  case round =>
    obtain ⟨j, nq, rfl, hja, rfl, rfl, rfl⟩ := hrel
    by_cases hlt : j < all.length
    · have t1 : decide ((j : Int) < (all.length : Int)) = true := decide_eq_true (by omega)
      have t1' : decide (j < all.length) = true := decide_eq_true hlt
      have q1 : IntKind.i64.wrap ((j : Int) + 1) = (j : Int) + 1 := IntWalk.i64_in _ (by omega)
      have c0 := HKV.out.v.c0
      have zD := HKV.out.v.zD
      obtain ⟨b, off, k, x, rfl, zb, c1, hk, hx, hkj, _, n1, _, _⟩ := HKV.out.node hlt
      have htk : all.take (j + 1) = all.take j ++ [k] := by rw [List.take_add_one, hk]; rfl
      have hl2 := lastK_snoc s.js (all.take j) k key
      have ha2 := anyK_snoc s.js (all.take j) k key
      rw [← htk, key_is hx] at hl2 ha2
      have zN := HKV.out.v.zN
      by_cases hky : x.key = key
      · have t3 := beqS_t hky
        rw [if_pos hky] at hl2
        rw [decide_eq_true hky, Bool.or_true] at ha2
        have HL2 := Lib.hid hl2; have HA2 := Lib.hid ha2
        generalize x.key = ky at *
        clear htk hl2 ha2 hky hk hx
        go_wp2
        go_quiet (fail)
        go_wp2
        refine ⟨?_, by simp [intOf]; omega⟩
        have R : ∀ n, RmRel7 s.js all key w3 (.int .i64 k) (.bool true) (.int .i64 ((j : Int) + 1)) (w3.drewN n) := fun n => ⟨j + 1, n, by go_num, hlt, by rw [HL2.out], by rw [HA2.out], rfl⟩
        first | exact R _ | ((repeat apply Exists.intro); exact ⟨R _, rfl⟩)
      · have t3 := beqS_f hky
        rw [if_neg hky] at hl2
        rw [decide_eq_false hky, Bool.or_false] at ha2
        have HL2 := Lib.hid hl2; have HA2 := Lib.hid ha2
        generalize x.key = ky at *
        clear htk hl2 ha2 hky hk hx
        go_wp2
        go_quiet (fail)
        go_wp2
        refine ⟨?_, by simp [intOf]; omega⟩
        have R : ∀ n, RmRel7 s.js all key w3 (.int .i64 (lastK s.js (all.take j) key)) (.bool (anyK s.js (all.take j) key)) (.int .i64 ((j : Int) + 1)) (w3.drewN n) := fun n => ⟨j + 1, n, by go_num, hlt, by rw [HL2.out], by rw [HA2.out], rfl⟩
        first | exact R _ | ((repeat apply Exists.intro); exact ⟨R _, rfl⟩)
    · have t1 : decide ((j : Int) < (all.length : Int)) = false := decide_eq_false (by omega)
      have t1' : decide (j < all.length) = false := decide_eq_false hlt
      obtain rfl : j = all.length := by omega
      rw [List.take_length]
      have HF := Lib.hid (drewN_heapB HB3.out nq)
      go_wp2
      go_ret2
      exact ⟨rfl, HF.out⟩
def RmO (js : List JN) (all : List Nat) (W : World) (base : Nat) (o k : Value) (wr : World) : Prop := ∃ j : Nat, k = .int .i64 j ∧ j ≤ all.length ∧ wr.ownsRow base 3 1 o (pickS js all j).length (intsV (pickS js all j)) ∧ Below W.heap.size W wr ∧ base ≤ wr.heap.size
def RmI (js : List JN) (all : List Nat) (i : Nat) (key : ByteArray) (W : World) (l m : Value) (wr : World) : Prop := ∃ j nq : Nat, m = .int .i64 j ∧ i + 1 ≤ j ∧ j ≤ all.length ∧ l = .bool (!anyK js ((all.take j).drop (i + 1)) key) ∧ wr = W.drewN nq
theorem pickS_succ (js : List JN) (all : List Nat) {j k : Nat} (hk : all[j]? = some k) : pickS js all (j + 1) = if isLast js all k = true then pickS js all j ++ [k] else pickS js all j := by
  unfold pickS
  rw [List.take_add_one, hk, List.filter_append]
  cases h : isLast js all k <;> simp [h]
theorem take_drop_succ {all : List Nat} {i j k : Nat} (hk : all[j]? = some k) (hij : i + 1 ≤ j) : (all.take (j + 1)).drop (i + 1) = (all.take j).drop (i + 1) ++ [k] := by
  have hl := (List.getElem?_eq_some_iff.1 hk).1
  rw [List.take_add_one, hk, List.drop_append_of_le_length (by simp; omega)]
  rfl
set_option maxRecDepth 100000 in
set_option maxHeartbeats 16000000 in
theorem rmembers7_any (w : World) (D gn cn gu cu : Nat) (s : PS) (i : Nat) (h : RView w D s gn cn gu cu) (hm : s.js.length ≤ 1000000) :
    Calls Tryz.prog 39 #[ptrV D, .int .i64 i] w fun e w' => ∃ v', e = .returned v' ∧ Rd (Fresh w w') w' v' (intsD (membersS s.js (kids s.ups i))) ∧ Below w.heap.size w w' := by
  have KD := rkids7_any w D gn cn gu cu s i h hm
  have hmem : ∀ k ∈ kids s.ups i, k < s.js.length := fun k hk => by have := (mem_kids.1 hk).2.1; have := h.ul; omega
  have hkl := kids_le s.ups i
  have hso := kids_sorted s.ups i
  generalize kids s.ups i = all at *
  have KD := Lib.hid KD
  have hul := h.ul
  have H := Lib.hid h
  have HMEM := Lib.hid hmem
  have HSO := Lib.hid hso
  clear h hmem hso
  go_enter Tryz.func39, Tryz.ntmps39
  go_wp2_with fail
  refine KD.out.mono ?_
  rintro e w3 ⟨v3, rfl, hr3, hb3⟩
  have HB3 := Lib.hid hb3
  obtain ⟨a, c, rfl, _, hac, hcl⟩ := hr3.nats_inv
  have hkv : KView w3 D s gn cn gu cu a all := ⟨H.out.below hb3, fun j hj => by
    obtain ⟨b, off, h1, h2, h3⟩ := hcl (by omega)
    exact ⟨b, off, h1, h2.2, h3 j hj⟩, HMEM.out⟩
  have HKV := Lib.hid hkv
  have R0 : RmO s.js all w3 w3.heap.size (.slice (some ⟨w3.heap.size, 0, none⟩) 0 0) (.int .i64 0) (w3.alloc (.cells #[] 3)) := ⟨0, rfl, Nat.zero_le _, World.ownsRow_lit (base := w3.heap.size) (e := 3) (size := 1) w3 #[] 0 (Nat.le_refl _) (by decide) rfl, ext_alloc (Below.refl _ _) _, by simp⟩
  have HR0 := Lib.hid R0
  clear hb3 hr3 hcl hkv KD R0
  go_wp2_with fail
  go_loopw [6, 7] (RmO s.js all w3 w3.heap.size) (fun _ k _ => all.length - (intOf k).toNat)
  case atStart => exact HR0.out
  case round =>
    obtain ⟨j, rfl, hja, ho, hbw, hbs⟩ := hrel
    have HO := Lib.hid ho; have HBW := Lib.hid hbw
    obtain ⟨aA, capA, rfl, _⟩ := aown_form ho
    by_cases hlt : j < all.length
    · have t1 : decide ((j : Int) < (all.length : Int)) = true := decide_eq_true (by omega)
      have t1' : decide (j < all.length) = true := decide_eq_true hlt
      have q1 : IntKind.i64.wrap ((j : Int) + 1) = (j : Int) + 1 := IntWalk.i64_in _ (by omega)
      have hkw := HKV.out.below hbw
      have HKW := Lib.hid hkw
      obtain ⟨b, off, k, x, rfl, zb, c1, hk, hx, hkj, _, n1, _, _⟩ := hkw.node hlt
      have c0 := hkw.v.c0
      have zD := hkw.v.zD
      have zN := hkw.v.zN
      have hlast := isLast_iff (js := s.js) HSO.out hk
      rw [key_is hx] at hlast
      have hps := pickS_succ s.js all hk
      have hpl := pickS_len s.js all j
      have R1 : RmI s.js all j x.key wr (.bool true) (.int .i64 ((j : Int) + 1)) wr := ⟨j + 1, 0, by go_num, Nat.le_refl _, by omega, by rw [List.drop_take, Nat.sub_self, List.take_zero]; rfl, rfl⟩
      have HR1 := Lib.hid R1
      have HLAST := Lib.hid hlast; have HPS := Lib.hid hps; have HK := Lib.hid hk
      clear ho hbw hkw hk hx hlast hps R1
      go_wp2_with fail
      go_loopw [8, 9] (RmI s.js all j x.key wr) (fun _ k _ => all.length - (intOf k).toNat)
      case atStart => exact HR1.out
      case round =>
        obtain ⟨j2, nq, rfl, hj2, hja2, rfl, rfl⟩ := hrel
        by_cases hlt2 : j2 < all.length
        · have t2 : decide ((j2 : Int) < (all.length : Int)) = true := decide_eq_true (by omega)
          have t2' : decide (j2 < all.length) = true := decide_eq_true hlt2
          have q2 : IntKind.i64.wrap ((j2 : Int) + 1) = (j2 : Int) + 1 := IntWalk.i64_in _ (by omega)
          obtain ⟨b2, off2, k2, x2, hab, zb2, d1, hk2, hx2, hkj2, _, m1, _, _⟩ := HKW.out.node hlt2
          obtain ⟨rfl, rfl⟩ : b = b2 ∧ off = off2 := by cases hab; exact ⟨rfl, rfl⟩
          have htd := take_drop_succ (i := j) hk2 hj2
          have ha2 := anyK_snoc s.js ((all.take j2).drop (j + 1)) k2 x.key
          rw [← htd, key_is hx2] at ha2
          cases hany : anyK s.js ((all.take j2).drop (j + 1)) x.key with
          | true =>
            rw [hany, Bool.true_or] at ha2
            have HA2 := Lib.hid ha2
            clear ha2 htd hk2 hx2 hany hab
            simp only [Bool.not_true]
            go_wp2
            go_quiet (fail)
            go_wp2
            refine ⟨?_, by simp [intOf]; omega⟩
            have R : ∀ n, RmI s.js all j x.key wr (.bool false) (.int .i64 ((j2 : Int) + 1)) (wr.drewN n) := fun n => ⟨j2 + 1, n, by go_num, by omega, hlt2, by rw [HA2.out]; rfl, rfl⟩
            first | exact R _ | ((repeat apply Exists.intro); exact ⟨R _, rfl⟩)
          | false =>
            rw [hany, Bool.false_or] at ha2
            by_cases hky : x2.key = x.key
            · rw [decide_eq_true hky] at ha2
              have HA2 := Lib.hid ha2
              have t4 := beqS_t hky
              clear ha2 htd hk2 hx2 hany hab hky
              simp only [Bool.not_false]
              go_wp2
              go_quiet (fail)
              go_wp2
              refine ⟨?_, by simp [intOf]; omega⟩
              have R : ∀ n, RmI s.js all j x.key wr (.bool false) (.int .i64 ((j2 : Int) + 1)) (wr.drewN n) := fun n => ⟨j2 + 1, n, by go_num, by omega, hlt2, by rw [HA2.out]; rfl, rfl⟩
              first | exact R _ | ((repeat apply Exists.intro); exact ⟨R _, rfl⟩)
            · rw [decide_eq_false hky] at ha2
              have HA2 := Lib.hid ha2
              have t4 := beqS_f hky
              clear ha2 htd hk2 hx2 hany hab hky
              simp only [Bool.not_false]
              go_wp2
              go_quiet (fail)
              go_wp2
              refine ⟨?_, by simp [intOf]; omega⟩
              have R : ∀ n, RmI s.js all j x.key wr (.bool true) (.int .i64 ((j2 : Int) + 1)) (wr.drewN n) := fun n => ⟨j2 + 1, n, by go_num, by omega, hlt2, by rw [HA2.out]; rfl, rfl⟩
              first | exact R _ | ((repeat apply Exists.intro); exact ⟨R _, rfl⟩)
        · have t2 : decide ((j2 : Int) < (all.length : Int)) = false := decide_eq_false (by omega)
          have t2' : decide (j2 < all.length) = false := decide_eq_false hlt2
          obtain rfl : j2 = all.length := by omega
          rw [List.take_length, ← HLAST.out]
          have hbq := drewN_heapB HBW.out nq
          have HO2 : Hid ((wr.drewN nq).ownsRow w3.heap.size 3 1 (.slice aA (pickS s.js all j).length capA) (pickS s.js all j).length (intsV (pickS s.js all j))) := Lib.hid HO.out
          have hbs2 : w3.heap.size ≤ (wr.drewN nq).heap.size := hbs
          generalize wr.drewN nq = wq at *
          have HBQ := Lib.hid hbq
          cases hil : isLast s.js all k with
          | true =>
            have hpp := HPS.out
            rw [if_pos hil] at hpp
            have HPP := Lib.hid hpp
            have hkw := HKV.out.below hbq
            obtain ⟨b2, off2, k2, x2, hab, zb2, d1, hk2, hx2, hkj2, _, m1, _, _⟩ := hkw.node hlt
            obtain ⟨rfl, rfl⟩ : b = b2 ∧ off = off2 := by cases hab; exact ⟨rfl, rfl⟩
            obtain rfl : k2 = k := Option.some.inj (hk2.symm.trans HK.out)
            clear hkw hab hk2 hx2 hbq hil m1 hpp
            go_wp2_with (at_builtin; refine wpList_app1 wq #[.int .i64 k2] _ rfl _ _ 52 rfl w3.heap.size elInt _ _ _ rfl HO2.out rfl rfl ?c1 ?c2 ?c3 ?c4 ?_)
            case c1 => first | rfl | (intro u hu; simp at hu; subst hu; rfl)
            case c2 => simp [maxLen]; omega
            case c3 => omega
            case c4 => exact hbs2
            intro v2 w2 ho2 hg2
            have hb2 : Below w3.heap.size w3 w2 := (ext_alloc HBQ.out (.cells #[.int .i64 k2] 3)).grown hg2 (ext_alloc HBQ.out (.cells #[.int .i64 k2] 3)).size (fun m hm => (HO2.out.lt m hm).1)
            have R : RmO s.js all w3 w3.heap.size v2 (.int .i64 ((j : Int) + 1)) w2 := ⟨j + 1, by go_num, hlt, by rw [HPP.out]; simpa [intsV] using ho2, hb2, hb2.size⟩
            have HRR := Lib.hid R
            clear R ho2 hg2 hb2
            go_wp2
            refine ⟨?_, by simp [intOf]; omega⟩
            have R := HRR.out
            first | exact R | ((repeat apply Exists.intro); exact ⟨R, rfl⟩)
          | false =>
            have hpp := HPS.out
            rw [if_neg (by rw [hil]; decide)] at hpp
            have R : RmO s.js all w3 w3.heap.size (.slice aA (pickS s.js all j).length capA) (.int .i64 ((j : Int) + 1)) wq := ⟨j + 1, by go_num, hlt, by rw [hpp]; exact HO2.out, hbq, hbs2⟩
            have HRR := Lib.hid R
            clear R hpp hil hbq
            go_wp2
            refine ⟨?_, by simp [intOf]; omega⟩
            have R := HRR.out
            first | exact R | ((repeat apply Exists.intro); exact ⟨R, rfl⟩)
    · obtain rfl : j = all.length := by omega
      have t1 : decide ((all.length : Int) < (all.length : Int)) = false := decide_eq_false (by omega)
      have t1' : decide (all.length < all.length) = false := decide_eq_false (by omega)
      have e : pickS s.js all all.length = membersS s.js all := by unfold pickS membersS; rw [List.take_length]
      have e2 : intsD (pickS s.js all all.length) = intsD (membersS s.js all) := by rw [e]
      have hrd : Rd (Fresh w wr) wr _ (intsD (pickS s.js all all.length)) := rd_owned ho (intsV_rds _) (fun m hm => ⟨by have := (ho.lt m hm).1; have := HB3.out.size; omega, (ho.lt m hm).2⟩)
      rw [e2] at hrd
      have HRD := Lib.hid hrd; have HF := Lib.hid (ext_trans HB3.out hbw)
      clear hrd hbw ho e e2
      go_wp2
      go_ret
      exact ⟨_, rfl, HRD.out, HF.out⟩
end
end Go.Proofs.YtheoaijheijojaaGreatDoor
