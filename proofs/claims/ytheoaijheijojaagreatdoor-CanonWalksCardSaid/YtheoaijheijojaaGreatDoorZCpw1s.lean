/- Cpw1, Cpw2, Cpw3 in one text (a claim holds at most 60 files). -/
import Derived.Test.YtheoaijheijojaaGreatDoorZMore
import Derived.Test.YtheoaijheijojaaGreatDoorZCp0s
import Derived.Test.YtheoaijheijojaaGreatDoorZDec2
import Derived.Test.YtheoaijheijojaaGreatDoorZJrP1s
import Derived.Test.YtheoaijheijojaaGreatDoorZJsO1s
namespace Go.Proofs.YtheoaijheijojaaGreatDoor
section
open Go.RowKit
/-- What stood in a world stands, but in the row that grows. -/
structure KeepB (W : World) (v0 v : Value) (wr : World) : Prop where
  size : W.heap.size ≤ wr.heap.size
  keep : ∀ q, q < W.heap.size → v0.ownBlock ≠ some q → wr.heap[q]? = W.heap[q]?
  own : ∀ g, v.ownBlock = some g → v0.ownBlock = some g ∨ W.heap.size ≤ g
theorem KeepB.refl (W : World) (v : Value) : KeepB W v v W := ⟨Nat.le_refl _, fun _ _ _ => rfl, fun _ h => .inl h⟩
theorem KeepB.ext {W wr w2 : World} {v0 v : Value} (h : KeepB W v0 v wr) (hb : Below wr.heap.size wr w2) : KeepB W v0 v w2 :=
  ⟨Nat.le_trans h.size hb.size, fun q hq hn => (hb.block q (Nat.lt_of_lt_of_le hq h.size)).trans (h.keep q hq hn), h.own⟩
theorem KeepB.push {W wr w1 : World} {v0 v u : Value} {ob : Obj} (h : KeepB W v0 v wr) (g1 : (wr.alloc ob).grownBy w1 v.ownBlock) (at1 : u.ownBlock = v.ownBlock ∨ u.ownBlock = some (wr.heap.size + 1)) : KeepB W v0 u w1 := by
  have hs := g1.size
  have hz := h.size
  simp at hs
  refine ⟨by omega, fun q hq hn => ?_, fun g hg => ?_⟩
  · rw [g1.block q (by simp; omega) (fun e => by
      rcases h.own q e.symm with h1 | h1
      · exact hn h1
      · omega), Below.heap_alloc wr ob q (by omega)]
    exact h.keep q hq hn
  · rcases at1 with e | e
    · rw [e] at hg; exact h.own g hg
    · rw [e] at hg
      have := Option.some.inj hg
      right; omega
theorem KeepB.trans {W W1 wr : World} {v0 v1 v : Value} (h : KeepB W v0 v1 W1) (k : KeepB W1 v1 v wr) : KeepB W v0 v wr :=
  ⟨Nat.le_trans h.size k.size, fun q hq hn => (k.keep q (Nat.lt_of_lt_of_le hq h.size) (fun e => by
    rcases h.own q e with h1 | h1
    · exact hn h1
    · omega)).trans (h.keep q hq hn), fun g hg => by
    rcases k.own g hg with h1 | h1
    · exact h.own g h1
    · exact .inr (Nat.le_trans h.size h1)⟩
structure PRow (w : World) (A : List ByteArray) (v : Value) (wr : World) : Prop where
  row : wr.ownsRow w.heap.size 9 1 v A.length (strV A)
  below : Below w.heap.size w wr
theorem PRow.ext {w wr w2 : World} {A : List ByteArray} {v : Value} (h : PRow w A v wr) (hb : Below wr.heap.size wr w2) : PRow w A v w2 :=
  ⟨aown_ext h.row (fun q hq => hb.block q (h.row.lt q hq).2) (Nat.le_refl _), h.below.trans (hb.mono h.below.size)⟩
theorem PRow.push {w wr w1 : World} {A : List ByteArray} {v u : Value} {x : ByteArray} (h : PRow w A v wr) (o1 : w1.ownsRow w.heap.size 9 1 u (A.length + 1) (strV A ++ [.string x])) (g1 : (wr.alloc (.cells #[.string x] 9)).grownBy w1 v.ownBlock) : PRow w (A ++ [x]) u w1 :=
  ⟨by rw [List.length_append]; simpa [strV] using o1, (ext_alloc h.below _).grown g1 (by have := h.below.size; simp; omega) (fun q hq => (h.row.lt q hq).1)⟩
def pathsTo (js : List JN) (ups : List Nat) (f : Nat) (L : List (ByteArray × Nat)) (j : Nat) : List ByteArray := ⟨#[]⟩ :: (L.take j).flatMap fun x => (pathsF js ups f x.2).map fun p => x.1 ++ p
theorem pathsTo_next {js : List JN} {ups : List Nat} {f : Nat} {L : List (ByteArray × Nat)} {j : Nat} {x : ByteArray × Nat} (h : L[j]? = some x) : pathsTo js ups f L (j + 1) = pathsTo js ups f L j ++ (pathsF js ups f x.2).map fun p => x.1 ++ p := by
  unfold pathsTo
  rw [List.take_add_one, h]
  simp
def PtRel (js : List JN) (ups : List Nat) (f : Nat) (L : List (ByteArray × Nat)) (w W5 : World) (v0 : Value) (v vj : Value) (wr : World) : Prop := ∃ j : Nat, vj = .int .i64 j ∧ j ≤ L.length ∧ PRow w (pathsTo js ups f L j) v wr ∧ KeepB W5 v0 v wr
def PmRel (A : List ByteArray) (nm : ByteArray) (P : List ByteArray) (w W7 : World) (v0 : Value) (v vm : Value) (wr : World) : Prop := ∃ m : Nat, vm = .int .i64 m ∧ m ≤ P.length ∧ PRow w (A ++ (P.take m).map fun p => nm ++ p) v wr ∧ KeepB W7 v0 v wr
structure PEnv (s : PS) : Prop where
  wf : WfUps s.ups
  ul : s.ups.length = s.js.length
  jl : s.js.length ≤ 100000
  sz : wt s.js ≤ 100000
  hi : ∀ x ∈ s.js, x.kind ≤ 6
theorem PEnv.key {s : PS} (h : PEnv s) (k : Nat) : (keyA s.js k).size ≤ 100000 := by
  unfold keyA
  split
  · rename_i x hx
    have := wt_mem (List.mem_of_getElem? hx)
    have := h.sz
    omega
  · exact Nat.zero_le _
theorem pathsTo_len {js : List JN} {ups : List Nat} {f : Nat} {L : List (ByteArray × Nat)} (j : Nat) : (pathsTo js ups f L j).length ≤ 1 + (L.flatMap fun x => (pathsF js ups f x.2).map fun p => x.1 ++ p).length := by
  unfold pathsTo
  have e : L.flatMap (fun x => (pathsF js ups f x.2).map fun p => x.1 ++ p) = (L.take j).flatMap (fun x => (pathsF js ups f x.2).map fun p => x.1 ++ p) ++ (L.drop j).flatMap fun x => (pathsF js ups f x.2).map fun p => x.1 ++ p := by
    rw [← List.flatMap_append, List.take_append_drop]
  rw [e, List.length_cons, List.length_append]
  omega
theorem paths_len2 {s : PS} (h : PEnv s) {f i : Nat} (hi : i < s.ups.length) (j : Nat) : (pathsTo s.js s.ups f (stepsL s.js s.ups i) j).length ≤ 100000 := by
  have h1 := pathsTo_len (js := s.js) (ups := s.ups) (f := f) (L := stepsL s.js s.ups i) j
  have h2 := paths_len (js := s.js) h.wf (f + 1) i
  have h3 := pre_length h.wf (f + 1) i hi
  rw [pathsF, List.length_cons] at h2
  have := h.jl
  have := h.ul
  omega
theorem last_take {α : Type} {l : List α} {j : Nat} {x : α} (h : l[j]? = some x) : l.take (j + 1) = l.take j ++ [x] := by rw [List.take_add_one, h]; rfl
set_option maxRecDepth 100000 in
set_option maxHeartbeats 16000000 in
theorem cpaths_any (base D T : Nat) (s : PS) (nodes : Int) (tv : Value) (ns : List ANode) (F : PEnv s) : ∀ (f i : Nat) (w : World), PView w base D T s nodes tv ns → s.ups.length - i ≤ f → i < s.ups.length →
    Calls Tryz.prog 16 #[ptrV D, .int .i64 i] w fun e w' => ∃ v, e = .returned v ∧ Rd (Fresh w w') w' v (.list 1 ((pathsF s.js s.ups f i).map .str)) ∧ Below w.heap.size w w'
  | 0, i, w, _, hf, hi => by omega
  | f + 1, i, w, hv, hf, hi => by
    have IH := Lib.hid (cpaths_any base D T s nodes tv ns F f)
    have hil : i < s.js.length := by rw [← F.ul]; exact hi
    have ND := node_p hv i
    rw [decide_eq_true (by omega : 0 ≤ (i : Int) ∧ (i : Int) < s.js.length)] at ND
    have ND := Lib.hid ND
    have ST := Lib.hid (fun W (hW : Below w.heap.size w W) => csteps_any base D T s nodes tv ns i W (hv.below hW) hil (fun k => Nat.le_trans (F.key k) (by decide)))
    have hall : pathsF s.js s.ups (f + 1) i = pathsTo s.js s.ups f (stepsL s.js s.ups i) (stepsL s.js s.ups i).length := by
      unfold pathsTo; rw [List.take_length, pathsF]
    have hlen := fun j => paths_len2 F (f := f) hi j
    have hmem : ∀ x ∈ stepsL s.js s.ups i, s.ups.length - x.2 ≤ f ∧ x.2 < s.ups.length := fun x hx => by
      have hk := steps_mem hx
      have h1 := kids_gt F.wf hk
      have h2 := (mem_kids.1 hk).2.1
      exact ⟨by omega, h2⟩
    have hcat : ∀ x ∈ stepsL s.js s.ups i, ∀ p ∈ pathsF s.js s.ups f x.2, x.1.size + p.size ≤ 3000000 := fun x hx p hp => by
      have h1 : x.1 ++ p ∈ pathsF s.js s.ups (f + 1) i := by
        rw [pathsF]
        exact List.mem_cons_of_mem _ (List.mem_flatMap.2 ⟨x, hx, List.mem_map.2 ⟨p, hp, rfl⟩⟩)
      have h2 := path_le F.wf F.ul (by have := F.jl; have := F.ul; omega) hf hi h1
      rw [ByteArray.size_append] at h2
      have := F.sz
      have := F.jl
      omega
    have hLz : (stepsL s.js s.ups i).length ≤ 100000 := by
      have h1 := kids_le s.ups i
      have h2 := F.jl
      have h3 := F.ul
      have h4 : (stepsL s.js s.ups i).length ≤ (kids s.ups i).length := by
        unfold stepsL
        split
        · rw [List.length_map]
          exact Nat.le_trans (List.length_filter_le _ _) (List.length_filter_le _ _)
        · split
          · simp
          · exact Nat.zero_le _
      omega
    rw [hall]
    obtain ⟨L, hL⟩ : ∃ L, stepsL s.js s.ups i = L := ⟨_, rfl⟩
    rw [hL] at ST hlen hmem hcat hLz ⊢
    have HLEN := Lib.hid hlen; have HMEM := Lib.hid hmem; have HCAT := Lib.hid hcat; have HV := Lib.hid hv
    generalize nodeA s.js i = nd at *
    obtain ⟨kd, key, text, at_⟩ := nd
    clear hv hall hlen hmem hcat hL hf hi hil
    go_enter Tryz.func16, Tryz.ntmps16
    go_wp2_with fail
    refine ND.out.mono ?_
    rintro _ w2 ⟨rfl, hb2⟩
    go_wp2_with fail
    obtain ⟨W3, hW3⟩ : ∃ W, w2.alloc (.cells #[.int .i64 kd, .string key, .string text, .int .i64 at_] 68) = W := ⟨_, rfl⟩
    obtain ⟨W4, hW4⟩ : ∃ W, W3.alloc (.cells #[.string ⟨#[]⟩] 9) = W := ⟨_, rfl⟩
    have hb3 : Below w.heap.size w W3 := by rw [← hW3]; exact ext_alloc hb2 _
    have hp4 : PRow w [⟨#[]⟩] (.slice (some ⟨W3.heap.size, 0, none⟩) 1 1) W4 := ⟨by
      rw [← hW4]
      simpa [strV] using World.ownsRow_lit (base := w.heap.size) (e := 9) (size := 1) W3 #[.string ⟨#[]⟩] 1 hb3.size (by decide) rfl, by rw [← hW4]; exact ext_alloc hb3 _⟩
    have z34 : W4.heap.size = W3.heap.size + 1 := by rw [← hW4]; simp
    have n3 : W3.heap.size = w2.heap.size + 1 := by rw [← hW3]; simp
    rw [hW3, hW4]
    try simp only [← n3]
    have HP4 := Lib.hid hp4; have HZ34 := Lib.hid z34
    obtain ⟨N, hN⟩ : ∃ N, W3.heap.size = N := ⟨_, rfl⟩
    rw [hN] at HP4 HZ34 ⊢
    clear hb2 hb3 hp4 z34 n3 hW3 hW4 hN
    refine (ST.out _ HP4.out.below).mono ?_
    rintro _ w5 ⟨vn, vi, rfl, hn5, hi5, hb5⟩
    obtain ⟨an, cn, rfl, _, _, hxn⟩ := hn5.strs_inv
    obtain ⟨ai, ci, rfl, _, _, hxi⟩ := hi5.nats_inv
    have hxi2 : 0 < L.length → ∃ b off, ai = some ⟨b, off, none⟩ ∧ Fresh W4 w5 b ∧ ∀ (j : Nat) x, L[j]? = some x → w5.cell? ⟨b, off + j, none⟩ = some (.int .i64 (x.2 : Nat)) := fun h => by
      obtain ⟨b, off, h1, h2, h3⟩ := hxi (by rw [List.length_map]; exact h)
      refine ⟨b, off, h1, h2, fun j x hx => ?_⟩
      obtain ⟨hj, he⟩ := List.getElem?_eq_some_iff.1 hx
      rw [h3 j (by rw [List.length_map]; exact hj), List.getElem_map, he]
    simp only [List.length_map] at hxn ⊢
    have hp5 := HP4.out.ext hb5
    have HV5 := Lib.hid (HV.out.below hp5.below)
    have R0 : PtRel s.js s.ups f L w w5 (.slice (some ⟨N, 0, none⟩) 1 1) (.slice (some ⟨N, 0, none⟩) 1 1) (.int .i64 0) w5 := ⟨0, rfl, Nat.zero_le _, by unfold pathsTo; simpa using hp5, KeepB.refl _ _⟩
    have HR0 := Lib.hid R0; have HXN := Lib.hid hxn; have HXI := Lib.hid hxi2
    clear hn5 hi5 hb5 hxn hxi hxi2 hp5 R0
    go_wp2_with fail
    go_loopw [4, 30] (PtRel s.js s.ups f L w w5 (.slice (some ⟨N, 0, none⟩) 1 1)) (fun _ j _ => L.length - (intOf j).toNat)
    case atStart => exact HR0.out
    case round =>
      obtain ⟨j, rfl, hj, hp, hk⟩ := hrel
      by_cases hlt : j < L.length
      · obtain ⟨x, hx⟩ := get_ex L j hlt
        obtain ⟨bn, on_, rfl, hbn, hcn⟩ := HXN.out (by omega)
        obtain ⟨bi, oi, rfl, hbi, hci⟩ := HXI.out (by omega)
        have hz34 := HZ34.out
        have kn : wr.heap[bn]? = w5.heap[bn]? := hk.keep bn hbn.2 (fun e => by
          have e2 : N = bn := Option.some.inj e
          have := hbn.1
          omega)
        have ki : wr.heap[bi]? = w5.heap[bi]? := hk.keep bi hbi.2 (fun e => by
          have e2 : N = bi := Option.some.inj e
          have := hbi.1
          omega)
        have c0 : wr.cell? ⟨bi, oi + j, none⟩ = some (.int .i64 (x.2 : Nat)) := by
          rw [cell_keep ki, hci j x hx]
        have cnm : wr.cell? ⟨bn, on_ + j, none⟩ = some (.string x.1) := by
          rw [cell_keep kn]
          exact hcn j x.1 (by rw [List.getElem?_map, hx]; rfl)
        have t1 : decide ((j : Int) < (L.length : Int)) = true := decide_eq_true (by omega)
        have t1' : decide (j < L.length) = true := decide_eq_true hlt
        have q1 : IntKind.i64.wrap ((j : Int) + 1) = (j : Int) + 1 := IntWalk.i64_in _ (by omega)
        have hxm := List.mem_of_getElem? hx
        have hmk := HMEM.out x hxm
        have RC := Lib.hid (IH.out x.2 wr (HV.out.below hp.below) hmk.1 hmk.2)
        have hcat := HCAT.out x hxm
        have hnext := pathsTo_next (js := s.js) (ups := s.ups) (f := f) hx
        have hlen := HLEN.out (j + 1)
        rw [hnext, List.length_append, List.length_map] at hlen
        obtain ⟨nm, kid⟩ := x
        simp only at c0 cnm RC hcat hnext hlen
        obtain ⟨P, hP⟩ : ∃ P, pathsF s.js s.ups f kid = P := ⟨_, rfl⟩
        rw [hP] at RC hcat hnext hlen
        obtain ⟨A, hA⟩ : ∃ A, pathsTo s.js s.ups f L j = A := ⟨_, rfl⟩
        rw [hA] at hp hnext hlen
        have HP := Lib.hid hp; have HK := Lib.hid hk; have HC := Lib.hid hcat; have HNX := Lib.hid hnext
        have HBN := Lib.hid hbn
        have zbn : bn < wr.heap.size := Nat.lt_of_lt_of_le hbn.2 hk.size
        clear hx hxm hmk hp hk hcat hnext hcn hci hbn hbi kn ki hP hA hz34
        generalize u4 = va at *
        generalize wr = wo at *
        go_wp2_with fail
        go_at_call 16
        refine RC.out.mono ?_
        rintro _ w7 ⟨vp, rfl, hr7, hb7⟩
        obtain ⟨ap, cp, rfl, _, _, hxp⟩ := hr7.strs_inv
        have hp7 := HP.out.ext hb7
        have hk7 := HK.out.ext hb7
        have cnm7 : w7.cell? ⟨bn, on_ + j, none⟩ = some (.string nm) := (bcell1 hb7 zbn _).trans cnm
        have R7 : PmRel A nm P w w7 va va (.int .i64 0) w7 := ⟨0, rfl, Nat.zero_le _, by simpa using hp7, KeepB.refl _ _⟩
        have hown : ∀ g, va.ownBlock = some g → g < wo.heap.size := fun g hg => (HP.out.row.lt g hg).2
        have hxp2 : 0 < P.length → ∃ b off, ap = some ⟨b, off, none⟩ ∧ b < w7.heap.size ∧ va.ownBlock ≠ some b ∧ ∀ (i : Nat) x, P[i]? = some x → w7.cell? ⟨b, off + i, none⟩ = some (.string x) := fun h => by
          obtain ⟨b, off, h1, h2, h3⟩ := hxp h
          exact ⟨b, off, h1, h2.2, fun e => by have := hown b e; have := h2.1; omega, h3⟩
        have hbn7 : bn < w7.heap.size ∧ va.ownBlock ≠ some bn := ⟨Nat.lt_of_lt_of_le zbn hb7.size, fun e => by
          have hz := HZ34.out
          have h1 := HBN.out.1
          have h2 := HBN.out.2
          rcases HK.out.own bn e with h | h
          · have e2 : N = bn := Option.some.inj h
            omega
          · omega⟩
        have HR7 := Lib.hid R7; have HXP := Lib.hid hxp2; have HK7 := Lib.hid hk7; have HCN7 := Lib.hid cnm7; have HBN7 := Lib.hid hbn7
        clear R7 hr7 hb7 hxp hxp2 hp7 hk7 hown cnm7 c0 cnm RC zbn hbn7
        go_wp2_with fail
        go_loopw [4, 39] (PmRel A nm P w w7 va) (fun _ m _ => P.length - (intOf m).toNat)
        case atStart => exact HR7.out
        case round =>
          obtain ⟨m, rfl, hm, hp, hk⟩ := hrel
          have cn2 : wr.cell? ⟨bn, on_ + j, none⟩ = some (.string nm) := (cell_keep (hk.keep bn HBN7.out.1 HBN7.out.2)).trans HCN7.out
          by_cases hml : m < P.length
          · obtain ⟨p, hpm⟩ := get_ex P m hml
            obtain ⟨bp, op, rfl, hbp1, hbp2, hcp⟩ := HXP.out (by omega)
            have cp0 : wr.cell? ⟨bp, op + m, none⟩ = some (.string p) := (cell_keep (hk.keep bp hbp1 hbp2)).trans (hcp m p hpm)
            have u1 : decide ((m : Int) < (P.length : Int)) = true := decide_eq_true (by omega)
            have u1' : decide (m < P.length) = true := decide_eq_true hml
            have q2 : IntKind.i64.wrap ((m : Int) + 1) = (m : Int) + 1 := IntWalk.i64_in _ (by omega)
            have hcz := HC.out p (List.mem_of_getElem? hpm)
            have htk := last_take hpm
            obtain ⟨cat, hcat⟩ : ∃ cat, nm ++ p = cat := ⟨_, rfl⟩
            have hAl : A.length + m ≤ 100000 := by omega
            obtain ⟨Am, hAm⟩ : ∃ Am, A ++ (P.take m).map (fun p => nm ++ p) = Am := ⟨_, rfl⟩
            have hAml : Am.length = A.length + m := by rw [← hAm, List.length_append, List.length_map, List.length_take]; omega
            have hnx2 : A ++ (P.take (m + 1)).map (fun p => nm ++ p) = Am ++ [cat] := by rw [htk, List.map_append, ← List.append_assoc, hAm, ← hcat]; rfl
            rw [hAm] at hp
            have HNX2 := Lib.hid hnx2; have HPI := Lib.hid hp; have HKI := Lib.hid hk
            have hAm1 : Am.length ≤ 100000 := by omega
            clear hpm hcp hbp1 hbp2 htk hAm hnx2 hp hk hAml hAl
            go_wp2_with (at_builtin; refine wpList_appAt (wr.alloc (.cells #[.string cat] 9)) rfl _ _ 39 rfl w.heap.size elStr8 _ _ _ rfl (HPI.out.row.alloc _) ⟨wr.heap.size, 0, none⟩ 1 1 [.string cat] rfl rfl (World.news_of_block (cs := #[.string cat]) (t := 9) (fr := (0, 0)) (heap_alloc_new wr _)) ?c1 ?c2 ?c3 ?c4 ?_)
            case c1 => simp [Value.oneCell']
            case c2 => unfold maxLen; omega
            case c3 => omega
            case c4 => have := HPI.out.below.size; simp; omega
            intro x8 w8 ho8 hg8 hat8
            have R8 : PmRel A nm P w w7 va x8 (.int .i64 ((m : Int) + 1)) w8 := ⟨m + 1, by go_num, hml, by rw [HNX2.out]; exact HPI.out.push ho8 hg8, HKI.out.push hg8 hat8⟩
            have HRR := Lib.hid R8
            clear R8 ho8 hg8 hat8
            go_wp2
            refine ⟨?_, by simp [intOf]; omega⟩
            have R := HRR.out
            first | exact R | ((repeat apply Exists.intro); exact ⟨R, rfl⟩)
          · have u1 : decide ((m : Int) < (P.length : Int)) = false := decide_eq_false (by omega)
            have u1' : decide (m < P.length) = false := decide_eq_false hml
            have htk : P.take m = P := List.take_of_length_le (by omega)
            rw [htk, ← HNX.out] at hp
            have R8 : PtRel s.js s.ups f L w w5 (.slice (some ⟨N, 0, none⟩) 1 1) u4 (.int .i64 ((j : Int) + 1)) wr := ⟨j + 1, by go_num, hlt, hp, HK7.out.trans hk⟩
            have HRR := Lib.hid R8
            clear R8 hp hk htk hml cn2 HR7
            go_wp2
            refine ⟨?_, by simp [intOf]; omega⟩
            have R := HRR.out
            first | exact R | ((repeat apply Exists.intro); exact ⟨R, rfl⟩)
      · have t1 : decide ((j : Int) < (L.length : Int)) = false := decide_eq_false (by omega)
        have t1' : decide (j < L.length) = false := decide_eq_false hlt
        have hjn : j = L.length := by omega
        rw [hjn] at hp
        have D4 := Lib.hid (rd_strF (w0 := w) (Nat.le_refl _) hp.row)
        have HF := Lib.hid hp.below
        clear hp hk hjn hlt HR0
        go_wp2
        go_ret
        exact ⟨_, rfl, D4.out, HF.out⟩
end
section
open Go.RowKit
def pathsL (js : List JN) (ups : List Nat) (f : Nat) (L : List (ByteArray × Nat)) : List ByteArray := ⟨#[]⟩ :: L.flatMap fun x => (pathsF js ups f x.2).map fun p => x.1 ++ p
theorem pathsL_snoc {js : List JN} {ups : List Nat} {f : Nat} {L : List (ByteArray × Nat)} {nm : ByteArray} {k : Nat} : pathsL js ups f (L ++ [(nm, k)]) = pathsL js ups f L ++ (pathsF js ups f k).map fun p => nm ++ p := by
  unfold pathsL; simp
theorem pathsL_len {js : List JN} {ups : List Nat} {f : Nat} {L M : List (ByteArray × Nat)} : (pathsL js ups f L).length ≤ (pathsL js ups f (L ++ M)).length := by
  unfold pathsL
  rw [List.flatMap_append, List.length_cons, List.length_cons, List.length_append]
  omega
def LiRel (js : List JN) (ups : List Nat) (f : Nat) (ks : List Nat) (w W5 : World) (v0 : Value) (v vj : Value) (wr : World) : Prop := ∃ j : Nat, vj = .int .i64 j ∧ j ≤ ks.length ∧ PRow w (pathsL js ups f ((ks.take j).zipIdx.map fun x => (slB ++ decB x.2, x.1))) v wr ∧ KeepB W5 v0 v wr
def LoRel (js : List JN) (ups : List Nat) (f : Nat) (ms : List Nat) (w W5 : World) (v0 : Value) (v vj : Value) (wr : World) : Prop := ∃ j : Nat, vj = .int .i64 j ∧ j ≤ ms.length ∧ PRow w (pathsL js ups f (((ms.take j).filter fun k => noSl (keyA js k)).map fun k => (slB ++ keyA js k, k))) v wr ∧ KeepB W5 v0 v wr
theorem path_cat {s : PS} (F : PEnv s) {f i : Nat} (hf : s.ups.length - i ≤ f + 1) (hi : i < s.ups.length) {x : ByteArray × Nat} (hx : x ∈ stepsL s.js s.ups i) {p : ByteArray} (hp : p ∈ pathsF s.js s.ups f x.2) : x.1.size + p.size ≤ 3000000 := by
  have h1 : x.1 ++ p ∈ pathsF s.js s.ups (f + 1) i := by
    rw [pathsF]
    exact List.mem_cons_of_mem _ (List.mem_flatMap.2 ⟨x, hx, List.mem_map.2 ⟨p, hp, rfl⟩⟩)
  have h2 := path_le F.wf F.ul (by have := F.jl; have := F.ul; omega) hf hi h1
  rw [ByteArray.size_append] at h2
  have := F.sz
  have := F.jl
  omega
theorem paths_len3 {s : PS} (h : PEnv s) {f i : Nat} (hi : i < s.ups.length) {A : List (ByteArray × Nat)} {M : List (ByteArray × Nat)} (e : stepsL s.js s.ups i = A ++ M) : (pathsL s.js s.ups f A).length ≤ 100000 := by
  have h1 := paths_len2 h (f := f) hi (stepsL s.js s.ups i).length
  unfold pathsTo at h1
  rw [List.take_length, e] at h1
  exact Nat.le_trans (pathsL_len (js := s.js) (ups := s.ups) (f := f) (L := A) (M := M)) h1
theorem zip_pre (ks : List Nat) (j : Nat) : ∃ M, ks.zipIdx.map (fun x : Nat × Nat => (slB ++ decB x.2, x.1)) = (ks.take j).zipIdx.map (fun x => (slB ++ decB x.2, x.1)) ++ M := by
  refine ⟨((ks.drop j).zipIdx (ks.take j).length).map fun x => (slB ++ decB x.2, x.1), ?_⟩
  rw [← List.map_append]
  congr 1
  have := List.zipIdx_append (xs := ks.take j) (ys := ks.drop j) (k := 0)
  rw [List.take_append_drop] at this
  simpa using this
theorem fil_pre (js : List JN) (ms : List Nat) (j : Nat) : ∃ M, (ms.filter fun k => noSl (keyA js k)).map (fun k => (slB ++ keyA js k, k)) = ((ms.take j).filter fun k => noSl (keyA js k)).map (fun k => (slB ++ keyA js k, k)) ++ M := by
  refine ⟨((ms.drop j).filter fun k => noSl (keyA js k)).map fun k => (slB ++ keyA js k, k), ?_⟩
  rw [← List.map_append, ← List.filter_append, List.take_append_drop]
set_option maxRecDepth 100000 in
set_option maxHeartbeats 64000000 in
theorem rpaths_any (D gn cn gu cu : Nat) (s : PS) (F : PEnv s) (hlf : ∀ i, (textA s.js i).kind < 5 → kids s.ups i = []) : ∀ (f i : Nat) (w : World), RView w D s gn cn gu cu → s.ups.length - i ≤ f → i < s.ups.length →
    Calls Tryz.prog 18 #[ptrV D, .int .i64 i] w fun e w' => ∃ v, e = .returned v ∧ Rd (Fresh w w') w' v (.list 1 ((pathsF s.js s.ups f i).map .str)) ∧ Below w.heap.size w w'
  | 0, i, w, _, hf, hi => by omega
  | f + 1, i, w, hv, hf, hi => by
    have IH := Lib.hid (rpaths_any D gn cn gu cu s F hlf f)
    have hil : i < s.js.length := by rw [← F.ul]; exact hi
    have HAS := fun W (hW : Below w.heap.size w W) => rhas7_any W D gn cn gu cu s i (hv.below hW)
    rw [decide_eq_true (by omega : 0 ≤ (i : Int) ∧ (i : Int) < s.js.length)] at HAS
    have HAS := Lib.hid HAS
    have KI := Lib.hid (fun W (hW : Below w.heap.size w W) => rkids7_any W D gn cn gu cu s i (hv.below hW) (by have := F.jl; omega))
    have MB := Lib.hid (fun W (hW : Below w.heap.size w W) => rmembers7_any W D gn cn gu cu s i (hv.below hW) (by have := F.jl; omega))
    obtain ⟨y, hy⟩ := get_ex s.js i hil
    have ht : textA s.js i = y := by unfold textA; rw [hy]; rfl
    have hall : pathsF s.js s.ups (f + 1) i = pathsL s.js s.ups f (stepsL s.js s.ups i) := rfl
    rw [hall]
    have hkl := kids_le s.ups i
    have hjl := F.jl
    have hul := F.ul
    have hcat := fun x (hx : x ∈ stepsL s.js s.ups i) p (hp : p ∈ pathsF s.js s.ups f x.2) => path_cat F hf hi hx hp
    have hsub : ∀ k ∈ kids s.ups i, s.ups.length - k ≤ f ∧ k < s.ups.length := fun k hk => by
      have h1 := kids_gt F.wf hk
      have h2 := (mem_kids.1 hk).2.1
      exact ⟨by omega, h2⟩
    have hlen := fun A M (e : stepsL s.js s.ups i = A ++ M) => paths_len3 F (f := f) hi e
    have HCAT := Lib.hid hcat; have HSUB := Lib.hid hsub; have HLEN := Lib.hid hlen; have HV := Lib.hid hv
    have hb1 : Below w.heap.size w (w.alloc (.cells #[] 9)) := ext_alloc (Below.refl _ _) _
    have ho1 : (w.alloc (.cells #[] 9)).ownsRow w.heap.size 9 1 (.slice (some ⟨w.heap.size, 0, none⟩) 0 0) 0 [] := by
      simpa using World.ownsRow_lit (base := w.heap.size) (e := 9) (size := 1) w #[] 0 (Nat.le_refl _) (by decide) rfl
    have HB1 := Lib.hid hb1; have HO1 := Lib.hid ho1
    have hz1 : (w.alloc (.cells #[] 9)).heap.size = w.heap.size + 1 := by simp
    have HZ1 := Lib.hid hz1
    clear hv hall hcat hsub hlen hf hi hb1 ho1 hz1
    go_enter Tryz.func18, Tryz.ntmps18
    go_wp2_with fail
    go_at_call 13
    refine (HAS.out _ HB1.out).mono ?_
    rintro _ w1 ⟨rfl, rfl⟩
    generalize (w.alloc (.cells #[] 9)) = w1 at *
    go_wp2_with (at_builtin; refine wpList_appAt (w1.alloc (.cells #[.string ⟨#[]⟩] 9)) rfl _ _ 39 rfl w.heap.size elStr8 _ _ _ rfl (HO1.out.alloc _) ⟨w1.heap.size, 0, none⟩ 1 1 [.string ⟨#[]⟩] rfl rfl (World.news_of_block (cs := #[.string ⟨#[]⟩]) (t := 9) (fr := (0, 0)) (heap_alloc_new w1 _)) ?c1 ?c2 ?c3 ?c4 ?_)
    case c1 => simp [Value.oneCell']
    case c2 => unfold maxLen; omega
    case c3 => omega
    case c4 => have := HB1.out.size; simp; omega
    intro v0 w2 ho2 hg2 hat2
    have hp2 : PRow w [⟨#[]⟩] v0 w2 := by
      have h0 : PRow w [] (.slice (some ⟨w.heap.size, 0, none⟩) 0 0) w1 := ⟨by simpa [strV] using HO1.out, HB1.out⟩
      have := h0.push (x := ⟨#[]⟩) (by simpa [strV] using ho2) hg2
      simpa using this
    have HP2 := Lib.hid hp2
    clear ho2 hg2 hat2 hp2 HO1 HAS
    go_wp2_with fail
    go_at_call 38
    refine (KI.out _ HP2.out.below).mono ?_
    rintro _ w3 ⟨vk, rfl, hr3, hb3⟩
    have hp3 := HP2.out.ext hb3
    have HP3 := Lib.hid hp3
    have hv3 := HV.out.below hp3.below
    have c0 := hv3.c0
    obtain ⟨n0, _, _, _⟩ := hv3.nd i y hy
    have HB3 := Lib.hid hb3
    have HR3 := Lib.hid hr3
    clear hb3 hr3 hp3 hv3 KI
    by_cases h6 : y.kind = 6
    · have hsl : stepsL s.js s.ups i = ((membersS s.js (kids s.ups i)).filter fun k => noSl (keyA s.js k)).map fun k => (slB ++ keyA s.js k, k) := by unfold stepsL; rw [ht, if_pos h6]
      have hml : (membersS s.js (kids s.ups i)).length ≤ (kids s.ups i).length := List.length_filter_le _ _
      have hmm : ∀ k ∈ membersS s.js (kids s.ups i), k ∈ kids s.ups i := fun k hk => (List.mem_filter.1 hk).1
      rw [h6] at n0
      obtain ⟨ks, hks⟩ : ∃ ks, membersS s.js (kids s.ups i) = ks := ⟨_, rfl⟩
      rw [hks] at hsl hml hmm
      have HKS := Lib.hid hks; have HMM := Lib.hid hmm; have HSL := Lib.hid hsl; have HY := Lib.hid hy
      have hkn : ks.length ≤ 100000 := by omega
      clear ht hy hsl hmm hks hml
      go_wp2_with fail
      go_at_call 39
      refine (MB.out _ HP3.out.below).mono ?_
      rintro _ w5 ⟨v5, rfl, hr5, hb5⟩
      rw [HKS.out] at hr5
      have hp5 := HP3.out.ext hb5
      have hf5 : ∀ b, Fresh w3 w5 b → b < w5.heap.size ∧ v0.ownBlock ≠ some b := fun b hb => ⟨hb.2, fun e => by have := (HP3.out.row.lt b e).2; have := hb.1; omega⟩
      clear MB c0 n0
      obtain ⟨ai, ci, rfl, _, _, hxi⟩ := hr5.nats_inv
      have hxi2 : 0 < ks.length → ∃ b off, ai = some ⟨b, off, none⟩ ∧ b < w5.heap.size ∧ v0.ownBlock ≠ some b ∧ ∀ j (hj : j < ks.length), w5.cell? ⟨b, off + j, none⟩ = some (.int .i64 (ks[j] : Nat)) := fun h => by
        obtain ⟨b, off, h1, h2, h3⟩ := hxi h
        exact ⟨b, off, h1, (hf5 b h2).1, (hf5 b h2).2, h3⟩
      have R0 : LoRel s.js s.ups f ks w w5 v0 v0 (.int .i64 0) w5 := ⟨0, rfl, Nat.zero_le _, by unfold pathsL; simpa using hp5, KeepB.refl _ _⟩
      have HR0 := Lib.hid R0; have HXI := Lib.hid hxi2; have HP5 := Lib.hid hp5
      clear hr5 hxi hxi2 hf5 hp5 R0 HR3
      go_wp2_with fail
      go_loopw [5, 7] (LoRel s.js s.ups f ks w w5 v0) (fun _ j _ => ks.length - (intOf j).toNat)
      case atStart => exact HR0.out
      case round =>
        obtain ⟨j, rfl, hj, hp, hk⟩ := hrel
        by_cases hlt : j < ks.length
        · obtain ⟨kid, hkj⟩ := get_ex ks j hlt
          obtain ⟨bi, oi, rfl, hb1, hb2, hci⟩ := HXI.out (by omega)
          have ki := hk.keep bi hb1 hb2
          have ck : wr.cell? ⟨bi, oi + j, none⟩ = some (.int .i64 (kid : Nat)) := by
            rw [cell_keep ki, hci j hlt, (List.getElem?_eq_some_iff.1 hkj).2]
          have t1 : decide ((j : Int) < (ks.length : Int)) = true := decide_eq_true (by omega)
          have t1' : decide (j < ks.length) = true := decide_eq_true hlt
          have q1 : IntKind.i64.wrap ((j : Int) + 1) = (j : Int) + 1 := IntWalk.i64_in _ (by omega)
          have q2 : IntKind.u64.wrap (j : Int) = (j : Int) := IntWalk.u64_in _ (by omega)
          have hkm := HMM.out kid (List.mem_of_getElem? hkj)
          have hmk := HSUB.out kid hkm
          have WRT := Lib.hid (fun W => rwritten10_any j W (by omega))
          have hvw := HV.out.below hp.below
          have c0 := hvw.c0
          obtain ⟨n0, _, _, _⟩ := hvw.nd i y HY.out
          have hdz : (decB j).size ≤ 20 := by rw [show (decB j).size = lenD j from decS_size _ _]; exact lenD_le (by omega)
          have zbi : bi < wr.heap.size := Nat.lt_of_lt_of_le hb1 hk.size
          have hrec := fun W (hW : Below wr.heap.size wr W) => IH.out kid W (HV.out.below (hp.below.trans (hW.mono hp.below.size))) hmk.1 hmk.2
          have HREC := Lib.hid hrec
          have HP := Lib.hid hp; have HK := Lib.hid hk
          have hft := fil_take (js := s.js) hkj
          obtain ⟨M, hM⟩ := fil_pre s.js ks (j + 1)
          have hlen := HLEN.out _ M (by rw [HSL.out]; exact hM)
          have hkjs : kid < s.js.length := by have := hmk.2; omega
          obtain ⟨z, hz⟩ := get_ex s.js kid hkjs
          obtain ⟨_, m1, _, _⟩ := hvw.nd kid z hz
          have hkz : keyA s.js kid = z.key := by unfold keyA; rw [hz]
          have hzz : z.key.size ≤ 100000 := by rw [← hkz]; exact F.key kid
          rw [hkz] at hft
          have hxm : noSl z.key = true → (slB ++ z.key, kid) ∈ stepsL s.js s.ups i := fun h => by rw [HSL.out, hM, hft, if_pos h]; simp
          have hcat := fun h => HCAT.out _ (hxm h)
          have HFT := Lib.hid hft; have HLN := Lib.hid hlen; have HC0 := Lib.hid hcat
          have m1' : ∀ W (hW : Below wr.heap.size wr W), W.cell? ⟨gn, kid * 4 + 1, none⟩ = some (.string z.key) := fun W hW => (bcell1 hW hvw.zN _).trans m1
          have M1 := Lib.hid m1'
          obtain ⟨zk, zkey, zt, za⟩ := z
          simp only at m1 hzz HFT HC0 M1
          have BH := Lib.hid (fun W => bhas_any zkey _ rfl 47 (by omega) W)
          have hns := noSl_contains zkey
          obtain ⟨A, hA⟩ : ∃ A, pathsL s.js s.ups f (((ks.take j).filter fun k => noSl (keyA s.js k)).map fun k => (slB ++ keyA s.js k, k)) = A := ⟨_, rfl⟩
          rw [hA] at HP
          have HA := Lib.hid hA
          clear hkj hci ki hb1 hb2 hkm hmk hvw hp hk hrec hft hM hlen hz hkz hxm hcat m1' hA
          generalize u5 = va at *
          generalize wr = wo at *
          go_wp2_with fail
          go_at_call 44
          refine (WRT.out _).mono ?_
          rintro _ w6 ⟨rfl, hb6⟩
          have hp6 := HP.out.ext hb6
          have hk6 := HK.out.ext hb6
          have hvw := HV.out.below hp6.below
          have c0 := hvw.c0
          obtain ⟨n0, n1, _, _⟩ := hvw.nd i y HY.out
          have ck6 : w6.cell? ⟨bi, oi + j, none⟩ = some (.int .i64 (kid : Nat)) := (bcell1 hb6 zbi _).trans ck
          have RC := Lib.hid (HREC.out w6 hb6)
          have HP6 := Lib.hid hp6; have HK6 := Lib.hid hk6
          have HB6o := Lib.hid hb6
          have zbi6 := Nat.lt_of_lt_of_le zbi hb6.size
          have m1 : w6.cell? ⟨gn, kid * 4 + 1, none⟩ = some (.string zkey) := M1.out w6 hb6
          clear hb6 hp6 hk6 hvw ck zbi n1
          go_wp2_with fail
          have c0n : ∀ n, (w6.drewN n).cell? ⟨D, 0, none⟩ = some (.slice (some ⟨gn, 0, none⟩) s.js.length cn) := fun n => c0
          have ckn : ∀ n, (w6.drewN n).cell? ⟨bi, oi + j, none⟩ = some (.int .i64 (kid : Nat)) := fun n => ck6
          have m1n : ∀ n, (w6.drewN n).cell? ⟨gn, kid * 4 + 1, none⟩ = some (.string zkey) := fun n => m1
          go_quiet (fail)
          have hdr : Below w6.heap.size w6 (w6.drewN nq) := drewN_below _ nq
          have hp6 := HP6.out.ext hdr
          have hk6 := HK6.out.ext hdr
          have ckX : (w6.drewN nq).cell? ⟨bi, oi + j, none⟩ = some (.int .i64 (kid : Nat)) := ck6
          have hrx : Hid (∀ W, Below (w6.drewN nq).heap.size (w6.drewN nq) W → True) := Lib.hid (fun _ _ => trivial)
          have RCX : Hid (Calls Tryz.prog 18 #[ptrV D, .int .i64 (kid : Nat)] (w6.drewN nq) fun e w' => ∃ v, e = .returned v ∧ Rd (Fresh (w6.drewN nq) w') w' v (.list 1 ((pathsF s.js s.ups f kid).map .str)) ∧ Below (w6.drewN nq).heap.size (w6.drewN nq) w') := Lib.hid (HREC.out _ (HB6o.out.trans (hdr.mono HB6o.out.size)))
          have HPX := Lib.hid hp6; have HKX := Lib.hid hk6
          clear c0n ckn m1n hdr hp6 hk6 RC HP6 HK6 c0 n0 ck6 m1 hrx
          generalize w6.drewN nq = WX at *
          go_wp2_with fail
          go_at_call 45
          refine (BH.out _).mono ?_
          rintro _ w6b ⟨rfl, rfl⟩
          by_cases hn2 : noSl zkey = true
          · rw [hn2] at hns
            have hnb : (zkey.data.toList.map (·.toNat)).contains 47 = false := hns
            rw [hnb]
            have hft := HFT.out
            rw [if_pos hn2] at hft
            have hlen := HLN.out
            have hcat := HC0.out hn2
            have hnext : pathsL s.js s.ups f (((ks.take (j + 1)).filter fun k => noSl (keyA s.js k)).map fun k => (slB ++ keyA s.js k, k)) = _ := (congrArg (pathsL s.js s.ups f) hft).trans pathsL_snoc
            obtain ⟨nm, hnm⟩ : ∃ nm, (⟨#[47]⟩ ++ zkey : ByteArray) = nm := ⟨_, rfl⟩
            have hnm2 : slB ++ zkey = nm := hnm
            rw [hnext, hnm2, HA.out, List.length_append, List.length_map] at hlen
            rw [hnm2] at hcat hnext
            rw [HA.out] at hnext
            obtain ⟨P, hP⟩ : ∃ P, pathsF s.js s.ups f kid = P := ⟨_, rfl⟩
            simp only [hP] at hcat
            rw [hP] at RCX hnext hlen
            have HC := Lib.hid hcat; have HNX := Lib.hid hnext
            have RC := RCX
            clear hft hcat hnext hnm2 hP hns hnb hn2 RCX
            go_wp2_with fail
            go_at_call 18
            refine RC.out.mono ?_
            rintro _ w7 ⟨vp, rfl, hr7, hb7⟩
            obtain ⟨ap, cp, rfl, _, _, hxp⟩ := hr7.strs_inv
            have hp7 := HPX.out.ext hb7
            have hk7 := HKX.out.ext hb7
            have R7 : PmRel A nm P w w7 va va (.int .i64 0) w7 := ⟨0, rfl, Nat.zero_le _, by simpa using hp7, KeepB.refl _ _⟩
            have hown : ∀ g, va.ownBlock = some g → g < WX.heap.size := fun g hg => (HPX.out.row.lt g hg).2
            have hxp2 : 0 < P.length → ∃ b off, ap = some ⟨b, off, none⟩ ∧ b < w7.heap.size ∧ va.ownBlock ≠ some b ∧ ∀ (i : Nat) x, P[i]? = some x → w7.cell? ⟨b, off + i, none⟩ = some (.string x) := fun h => by
              obtain ⟨b, off, h1, h2, h3⟩ := hxp h
              exact ⟨b, off, h1, h2.2, fun e => by have := hown b e; have := h2.1; omega, h3⟩
            have HR7 := Lib.hid R7; have HXP := Lib.hid hxp2; have HK7 := Lib.hid hk7
            clear R7 hr7 hb7 hxp hxp2 hp7 hk7 hown RC
            go_wp2_with fail
            go_loopw [5, 11] (PmRel A nm P w w7 va) (fun _ m _ => P.length - (intOf m).toNat)
            case atStart => exact HR7.out
            case round =>
              obtain ⟨m, rfl, hm, hp, hk⟩ := hrel
              by_cases hml : m < P.length
              · obtain ⟨p, hpm⟩ := get_ex P m hml
                obtain ⟨bp, op, rfl, hbp1, hbp2, hcp⟩ := HXP.out (by omega)
                have cp0 : wr.cell? ⟨bp, op + m, none⟩ = some (.string p) := (cell_keep (hk.keep bp hbp1 hbp2)).trans (hcp m p hpm)
                have u1 : decide ((m : Int) < (P.length : Int)) = true := decide_eq_true (by omega)
                have u1' : decide (m < P.length) = true := decide_eq_true hml
                have q2 : IntKind.i64.wrap ((m : Int) + 1) = (m : Int) + 1 := IntWalk.i64_in _ (by omega)
                have hcz := HC.out p (List.mem_of_getElem? hpm)
                have htk := last_take hpm
                obtain ⟨cat, hcat⟩ : ∃ cat, nm ++ p = cat := ⟨_, rfl⟩
                have hAl : A.length + m ≤ 100000 := by omega
                obtain ⟨Am, hAm⟩ : ∃ Am, A ++ (P.take m).map (fun p => nm ++ p) = Am := ⟨_, rfl⟩
                have hAml : Am.length = A.length + m := by rw [← hAm, List.length_append, List.length_map, List.length_take]; omega
                have hnx2 : A ++ (P.take (m + 1)).map (fun p => nm ++ p) = Am ++ [cat] := by rw [htk, List.map_append, ← List.append_assoc, hAm, ← hcat]; rfl
                rw [hAm] at hp
                have HNX2 := Lib.hid hnx2; have HPI := Lib.hid hp; have HKI := Lib.hid hk
                have hAm1 : Am.length ≤ 100000 := by omega
                clear hpm hcp hbp1 hbp2 htk hAm hnx2 hp hk hAml hAl
                go_wp2_with (at_builtin; refine wpList_appAt (wr.alloc (.cells #[.string cat] 9)) rfl _ _ 39 rfl w.heap.size elStr8 _ _ _ rfl (HPI.out.row.alloc _) ⟨wr.heap.size, 0, none⟩ 1 1 [.string cat] rfl rfl (World.news_of_block (cs := #[.string cat]) (t := 9) (fr := (0, 0)) (heap_alloc_new wr _)) ?c1 ?c2 ?c3 ?c4 ?_)
                case c1 => simp [Value.oneCell']
                case c2 => unfold maxLen; omega
                case c3 => omega
                case c4 => have := HPI.out.below.size; simp; omega
                intro x8 w8 ho8 hg8 hat8
                have R8 : PmRel A nm P w w7 va x8 (.int .i64 ((m : Int) + 1)) w8 := ⟨m + 1, by go_num, hml, by rw [HNX2.out]; exact HPI.out.push ho8 hg8, HKI.out.push hg8 hat8⟩
                have HRR := Lib.hid R8
                clear R8 ho8 hg8 hat8
                go_wp2
                refine ⟨?_, by simp [intOf]; omega⟩
                have R := HRR.out
                first | exact R | ((repeat apply Exists.intro); exact ⟨R, rfl⟩)
              · have u1 : decide ((m : Int) < (P.length : Int)) = false := decide_eq_false (by omega)
                have u1' : decide (m < P.length) = false := decide_eq_false hml
                have htk : P.take m = P := List.take_of_length_le (by omega)
                rw [htk, ← HNX.out] at hp
                have R8 : LoRel s.js s.ups f ks w w5 v0 u5 (.int .i64 ((j : Int) + 1)) wr := ⟨j + 1, by go_num, hlt, hp, HK7.out.trans hk⟩
                have HRR := Lib.hid R8
                clear R8 hp hk htk hml HR7
                go_wp2
                refine ⟨?_, by simp [intOf]; omega⟩
                have R := HRR.out
                first | exact R | ((repeat apply Exists.intro); exact ⟨R, rfl⟩)
          · have hn3 : noSl zkey = false := by simpa using hn2
            rw [hn3] at hns
            have hnb : (zkey.data.toList.map (·.toNat)).contains 47 = true := hns
            rw [hnb]
            have hft := HFT.out
            rw [if_neg hn2, List.append_nil] at hft
            have R8 : LoRel s.js s.ups f ks w w5 v0 va (.int .i64 ((j : Int) + 1)) WX := ⟨j + 1, by go_num, hlt, by rw [hft, HA.out]; exact HPX.out, HKX.out⟩
            have HRR := Lib.hid R8
            clear R8 hft hn2 hn3 hns hnb
            go_wp2
            refine ⟨?_, by simp [intOf]; omega⟩
            have R := HRR.out
            first | exact R | ((repeat apply Exists.intro); exact ⟨R, rfl⟩)
        · have t1 : decide ((j : Int) < (ks.length : Int)) = false := decide_eq_false (by omega)
          have t1' : decide (j < ks.length) = false := decide_eq_false hlt
          have htk : ks.take j = ks := List.take_of_length_le (by omega)
          rw [htk, ← HSL.out] at hp
          have D4 := Lib.hid (rd_strF (w0 := w) (Nat.le_refl _) hp.row)
          have HF := Lib.hid hp.below
          clear hp hk htk hlt HR0
          go_wp2
          go_ret
          exact ⟨_, rfl, D4.out, HF.out⟩
    · have hsl : stepsL s.js s.ups i = (kids s.ups i).zipIdx.map fun x => (slB ++ decB x.2, x.1) := by
        unfold stepsL
        rw [ht, if_neg h6]
        by_cases h5 : y.kind = 5
        · rw [if_pos h5]
        · have hhi := F.hi y (List.mem_of_getElem? hy)
          rw [if_neg h5, hlf i (by rw [ht]; omega)]
          rfl
      have t6 : (y.kind == 6) = false := beq_eq_false_iff_ne.2 h6
      obtain ⟨ks, hks⟩ : ∃ ks, kids s.ups i = ks := ⟨_, rfl⟩
      have hmm : ∀ k ∈ ks, k ∈ kids s.ups i := fun k hk => by rw [hks]; exact hk
      rw [hks] at hsl hkl
      have hkn : ks.length ≤ 100000 := by omega
      have hr5 := HR3.out
      rw [hks] at hr5
      have HMM := Lib.hid hmm; have HSL := Lib.hid hsl; have HY := Lib.hid hy
      have hp5 := HP3.out
      have hf5 : ∀ b, Fresh w2 w3 b → b < w3.heap.size ∧ v0.ownBlock ≠ some b := fun b hb => ⟨hb.2, fun e => by have := (HP2.out.row.lt b e).2; have := hb.1; omega⟩
      clear ht hy hsl hmm hks MB HR3 h6
      generalize w3 = w5 at *
      obtain ⟨ai, ci, rfl, _, _, hxi⟩ := hr5.nats_inv
      have hxi2 : 0 < ks.length → ∃ b off, ai = some ⟨b, off, none⟩ ∧ b < w5.heap.size ∧ v0.ownBlock ≠ some b ∧ ∀ j (hj : j < ks.length), w5.cell? ⟨b, off + j, none⟩ = some (.int .i64 (ks[j] : Nat)) := fun h => by
        obtain ⟨b, off, h1, h2, h3⟩ := hxi h
        exact ⟨b, off, h1, (hf5 b h2).1, (hf5 b h2).2, h3⟩
      have R0 : LiRel s.js s.ups f ks w w5 v0 v0 (.int .i64 0) w5 := ⟨0, rfl, Nat.zero_le _, by unfold pathsL; simpa using hp5, KeepB.refl _ _⟩
      have HR0 := Lib.hid R0; have HXI := Lib.hid hxi2; have HP5 := Lib.hid hp5
      clear hr5 hxi hxi2 hf5 hp5 R0
      go_wp2_with fail
      go_loopw [5, 7] (LiRel s.js s.ups f ks w w5 v0) (fun _ j _ => ks.length - (intOf j).toNat)
      case atStart => exact HR0.out
      case round =>
        obtain ⟨j, rfl, hj, hp, hk⟩ := hrel
        by_cases hlt : j < ks.length
        · obtain ⟨kid, hkj⟩ := get_ex ks j hlt
          obtain ⟨bi, oi, rfl, hb1, hb2, hci⟩ := HXI.out (by omega)
          have ki := hk.keep bi hb1 hb2
          have ck : wr.cell? ⟨bi, oi + j, none⟩ = some (.int .i64 (kid : Nat)) := by
            rw [cell_keep ki, hci j hlt, (List.getElem?_eq_some_iff.1 hkj).2]
          have t1 : decide ((j : Int) < (ks.length : Int)) = true := decide_eq_true (by omega)
          have t1' : decide (j < ks.length) = true := decide_eq_true hlt
          have q1 : IntKind.i64.wrap ((j : Int) + 1) = (j : Int) + 1 := IntWalk.i64_in _ (by omega)
          have q2 : IntKind.u64.wrap (j : Int) = (j : Int) := IntWalk.u64_in _ (by omega)
          have hkm := HMM.out kid (List.mem_of_getElem? hkj)
          have hmk := HSUB.out kid hkm
          have WRT := Lib.hid (fun W => rwritten10_any j W (by omega))
          have hvw := HV.out.below hp.below
          have c0 := hvw.c0
          obtain ⟨n0, _, _, _⟩ := hvw.nd i y HY.out
          have hdz : (decB j).size ≤ 20 := by rw [show (decB j).size = lenD j from decS_size _ _]; exact lenD_le (by omega)
          have zbi : bi < wr.heap.size := Nat.lt_of_lt_of_le hb1 hk.size
          have hrec := fun W (hW : Below wr.heap.size wr W) => IH.out kid W (HV.out.below (hp.below.trans (hW.mono hp.below.size))) hmk.1 hmk.2
          have HREC := Lib.hid hrec
          have HP := Lib.hid hp; have HK := Lib.hid hk
          have hzt := zip_take hkj
          obtain ⟨M, hM⟩ := zip_pre ks (j + 1)
          have hlen := HLEN.out _ M (by rw [HSL.out]; exact hM)
          have hxm : (slB ++ decB j, kid) ∈ stepsL s.js s.ups i := by rw [HSL.out, hM, hzt]; simp
          have hcat := HCAT.out _ hxm
          have hnext : pathsL s.js s.ups f ((ks.take (j + 1)).zipIdx.map fun x => (slB ++ decB x.2, x.1)) = _ := (congrArg (pathsL s.js s.ups f) hzt).trans pathsL_snoc
          obtain ⟨nm, hnm⟩ : ∃ nm, (⟨#[47]⟩ ++ decB j : ByteArray) = nm := ⟨_, rfl⟩
          have hnm2 : slB ++ decB j = nm := hnm
          rw [hnext, hnm2, List.length_append, List.length_map] at hlen
          rw [hnm2] at hcat hnext
          obtain ⟨A, hA⟩ : ∃ A, pathsL s.js s.ups f ((ks.take j).zipIdx.map fun x => (slB ++ decB x.2, x.1)) = A := ⟨_, rfl⟩
          rw [hA] at hlen hnext HP
          obtain ⟨P, hP⟩ : ∃ P, pathsF s.js s.ups f kid = P := ⟨_, rfl⟩
          simp only [hP] at hcat
          rw [hP] at HREC hnext hlen
          have HC := Lib.hid hcat; have HNX := Lib.hid hnext
          generalize decB j = dj at *
          clear hkj hci ki hb1 hb2 hkm hmk hvw hp hk hrec hzt hM hxm hcat hnext hnm2 hA hP
          generalize u5 = va at *
          generalize wr = wo at *
          go_wp2_with fail
          go_at_call 44
          refine (WRT.out _).mono ?_
          rintro _ w6 ⟨rfl, hb6⟩
          have hp6 := HP.out.ext hb6
          have hk6 := HK.out.ext hb6
          have hvw := HV.out.below hp6.below
          have c0 := hvw.c0
          obtain ⟨n0, n1, _, _⟩ := hvw.nd i y HY.out
          have ck6 : w6.cell? ⟨bi, oi + j, none⟩ = some (.int .i64 (kid : Nat)) := (bcell1 hb6 zbi _).trans ck
          have RC := Lib.hid (HREC.out w6 hb6)
          have HP6 := Lib.hid hp6; have HK6 := Lib.hid hk6
          have zbi6 := Nat.lt_of_lt_of_le zbi hb6.size
          clear hb6 hp6 hk6 hvw ck zbi n1
          go_wp2_with fail
          obtain ⟨WX, hWX⟩ : ∃ W, w6 = W := ⟨_, rfl⟩
          subst hWX
          have HPX := HP6; have HKX := HK6
          clear hnm HP6 HK6
          go_wp2_with fail
          go_at_call 18
          refine RC.out.mono ?_
          rintro _ w7 ⟨vp, rfl, hr7, hb7⟩
          obtain ⟨ap, cp, rfl, _, _, hxp⟩ := hr7.strs_inv
          have hp7 := HPX.out.ext hb7
          have hk7 := HKX.out.ext hb7
          have R7 : PmRel A nm P w w7 va va (.int .i64 0) w7 := ⟨0, rfl, Nat.zero_le _, by simpa using hp7, KeepB.refl _ _⟩
          have hown : ∀ g, va.ownBlock = some g → g < w6.heap.size := fun g hg => (HPX.out.row.lt g hg).2
          have hxp2 : 0 < P.length → ∃ b off, ap = some ⟨b, off, none⟩ ∧ b < w7.heap.size ∧ va.ownBlock ≠ some b ∧ ∀ (i : Nat) x, P[i]? = some x → w7.cell? ⟨b, off + i, none⟩ = some (.string x) := fun h => by
            obtain ⟨b, off, h1, h2, h3⟩ := hxp h
            exact ⟨b, off, h1, h2.2, fun e => by have := hown b e; have := h2.1; omega, h3⟩
          have HR7 := Lib.hid R7; have HXP := Lib.hid hxp2; have HK7 := Lib.hid hk7
          clear R7 hr7 hb7 hxp hxp2 hp7 hk7 hown RC
          go_wp2_with fail
          go_loopw [5, 11] (PmRel A nm P w w7 va) (fun _ m _ => P.length - (intOf m).toNat)
          case atStart => exact HR7.out
          case round =>
            obtain ⟨m, rfl, hm, hp, hk⟩ := hrel
            by_cases hml : m < P.length
            · obtain ⟨p, hpm⟩ := get_ex P m hml
              obtain ⟨bp, op, rfl, hbp1, hbp2, hcp⟩ := HXP.out (by omega)
              have cp0 : wr.cell? ⟨bp, op + m, none⟩ = some (.string p) := (cell_keep (hk.keep bp hbp1 hbp2)).trans (hcp m p hpm)
              have u1 : decide ((m : Int) < (P.length : Int)) = true := decide_eq_true (by omega)
              have u1' : decide (m < P.length) = true := decide_eq_true hml
              have q2 : IntKind.i64.wrap ((m : Int) + 1) = (m : Int) + 1 := IntWalk.i64_in _ (by omega)
              have hcz := HC.out p (List.mem_of_getElem? hpm)
              have htk := last_take hpm
              obtain ⟨cat, hcat⟩ : ∃ cat, nm ++ p = cat := ⟨_, rfl⟩
              have hAl : A.length + m ≤ 100000 := by omega
              obtain ⟨Am, hAm⟩ : ∃ Am, A ++ (P.take m).map (fun p => nm ++ p) = Am := ⟨_, rfl⟩
              have hAml : Am.length = A.length + m := by rw [← hAm, List.length_append, List.length_map, List.length_take]; omega
              have hnx2 : A ++ (P.take (m + 1)).map (fun p => nm ++ p) = Am ++ [cat] := by rw [htk, List.map_append, ← List.append_assoc, hAm, ← hcat]; rfl
              rw [hAm] at hp
              have HNX2 := Lib.hid hnx2; have HPI := Lib.hid hp; have HKI := Lib.hid hk
              have hAm1 : Am.length ≤ 100000 := by omega
              clear hpm hcp hbp1 hbp2 htk hAm hnx2 hp hk hAml hAl
              go_wp2_with (at_builtin; refine wpList_appAt (wr.alloc (.cells #[.string cat] 9)) rfl _ _ 39 rfl w.heap.size elStr8 _ _ _ rfl (HPI.out.row.alloc _) ⟨wr.heap.size, 0, none⟩ 1 1 [.string cat] rfl rfl (World.news_of_block (cs := #[.string cat]) (t := 9) (fr := (0, 0)) (heap_alloc_new wr _)) ?c1 ?c2 ?c3 ?c4 ?_)
              case c1 => simp [Value.oneCell']
              case c2 => unfold maxLen; omega
              case c3 => omega
              case c4 => have := HPI.out.below.size; simp; omega
              intro x8 w8 ho8 hg8 hat8
              have R8 : PmRel A nm P w w7 va x8 (.int .i64 ((m : Int) + 1)) w8 := ⟨m + 1, by go_num, hml, by rw [HNX2.out]; exact HPI.out.push ho8 hg8, HKI.out.push hg8 hat8⟩
              have HRR := Lib.hid R8
              clear R8 ho8 hg8 hat8
              go_wp2
              refine ⟨?_, by simp [intOf]; omega⟩
              have R := HRR.out
              first | exact R | ((repeat apply Exists.intro); exact ⟨R, rfl⟩)
            · have u1 : decide ((m : Int) < (P.length : Int)) = false := decide_eq_false (by omega)
              have u1' : decide (m < P.length) = false := decide_eq_false hml
              have htk : P.take m = P := List.take_of_length_le (by omega)
              rw [htk, ← HNX.out] at hp
              have R8 : LiRel s.js s.ups f ks w w5 v0 u5 (.int .i64 ((j : Int) + 1)) wr := ⟨j + 1, by go_num, hlt, hp, HK7.out.trans hk⟩
              have HRR := Lib.hid R8
              clear R8 hp hk htk hml HR7
              go_wp2
              refine ⟨?_, by simp [intOf]; omega⟩
              have R := HRR.out
              first | exact R | ((repeat apply Exists.intro); exact ⟨R, rfl⟩)
        · have t1 : decide ((j : Int) < (ks.length : Int)) = false := decide_eq_false (by omega)
          have t1' : decide (j < ks.length) = false := decide_eq_false hlt
          have htk : ks.take j = ks := List.take_of_length_le (by omega)
          rw [htk, ← HSL.out] at hp
          have D4 := Lib.hid (rd_strF (w0 := w) (Nat.le_refl _) hp.row)
          have HF := Lib.hid hp.below
          clear hp hk htk hlt HR0
          go_wp2
          go_ret
          exact ⟨_, rfl, D4.out, HF.out⟩
end
section
open Go.RowKit
theorem penv_of {B : ByteArray} {m : Bd} {s : PS} (h : parseS B m = .ok s) (hB : B.size ≤ 100000) : PEnv s :=
  ⟨(parse_wf h).1, (parse_wf h).2, Nat.le_trans (parse_len h) hB, Nat.le_trans (parse_wt h).1 hB, fun x hx => (parse_nodes2 h x hx).hi⟩
def pathsA (s : PS) (id : Int) : List ByteArray := if inS s id = true then pathsF s.js s.ups s.ups.length id.toNat else []
theorem cpaths_at (base D T : Nat) (s : PS) (nodes : Int) (tv : Value) (ns : List ANode) (F : PEnv s) (id : Int) (w : World) (hv : PView w base D T s nodes tv ns) :
    Calls Tryz.prog 16 #[ptrV D, .int .i64 id] w fun e w' => ∃ v, e = .returned v ∧ Rd (Fresh w w') w' v (.list 1 ((pathsA s id).map .str)) ∧ Below w.heap.size w w' := by
  by_cases hin : 0 ≤ id ∧ id < s.js.length
  · have hi : inS s id = true := decide_eq_true hin
    have h := cpaths_any base D T s nodes tv ns F s.ups.length id.toNat w hv (by omega) (by rw [F.ul]; omega)
    rw [Int.toNat_of_nonneg hin.1] at h
    unfold pathsA
    rw [if_pos hi]
    exact h
  · have hi : ¬ inS s id = true := by unfold inS; simpa using hin
    have ND := node_p hv id
    rw [decide_eq_false hin] at ND
    have ND := Lib.hid ND
    have e : pathsA s id = [] := by unfold pathsA; rw [if_neg hi]
    rw [e]
    generalize nodeA s.js id = nd at *
    obtain ⟨kd, key, text, at_⟩ := nd
    clear hv F hin hi e
    go_enter Tryz.func16, Tryz.ntmps16
    go_wp2_with fail
    refine ND.out.mono ?_
    rintro _ w2 ⟨rfl, hb2⟩
    have HB3 : Hid (Below w.heap.size w (w2.alloc (.cells #[.int .i64 kd, .string key, .string text, .int .i64 at_] 68))) := Lib.hid (ext_alloc hb2 _)
    clear hb2
    go_wp2
    go_ret
    exact ⟨_, rfl, .list0 _ _ _ (fun _ => rfl), HB3.out⟩
theorem rpaths_at (D gn cn gu cu : Nat) (s : PS) (F : PEnv s) (hlf : ∀ i, (textA s.js i).kind < 5 → kids s.ups i = []) (id : Int) (w : World) (hv : RView w D s gn cn gu cu) :
    Calls Tryz.prog 18 #[ptrV D, .int .i64 id] w fun e w' => ∃ v, e = .returned v ∧ Rd (Fresh w w') w' v (.list 1 ((pathsA s id).map .str)) ∧ Below w.heap.size w w' := by
  by_cases hin : 0 ≤ id ∧ id < s.js.length
  · have hi : inS s id = true := decide_eq_true hin
    have h := rpaths_any D gn cn gu cu s F hlf s.ups.length id.toNat w hv (by omega) (by rw [F.ul]; omega)
    rw [Int.toNat_of_nonneg hin.1] at h
    unfold pathsA
    rw [if_pos hi]
    exact h
  · have hi : ¬ inS s id = true := by unfold inS; simpa using hin
    have HAS := fun W (hW : Below w.heap.size w W) => rhas7_any W D gn cn gu cu s id (hv.below hW)
    rw [decide_eq_false hin] at HAS
    have HAS := Lib.hid HAS
    have e : pathsA s id = [] := by unfold pathsA; rw [if_neg hi]
    rw [e]
    have hb1 : Below w.heap.size w (w.alloc (.cells #[] 9)) := ext_alloc (Below.refl _ _) _
    have HB1 := Lib.hid hb1
    clear hv F hin hi e hb1
    go_enter Tryz.func18, Tryz.ntmps18
    go_wp2_with fail
    go_at_call 13
    refine (HAS.out _ HB1.out).mono ?_
    rintro _ w1 ⟨rfl, rfl⟩
    go_wp2
    go_ret
    exact ⟨_, rfl, .list0 _ _ _ nofun, HB1.out⟩
def CwRel (n : Nat) (W : World) (vj : Value) (wr : World) : Prop := ∃ j : Nat, vj = .int .i64 j ∧ j ≤ n ∧ Below W.heap.size W wr
set_option maxRecDepth 100000 in
set_option maxHeartbeats 64000000 in
theorem canonWalks_any (va : Value) (B : ByteArray) (id : Int) (w : World) (he : CE w) (ha : Rd (Own w) w va (bytesDB B)) :
    Calls Tryz.prog 4 #[va, .int .i64 id] w fun e w' => e = .returned (.bool true) ∧ Below w.heap.size w w' := by
  obtain ⟨a1, c1, rfl, _, _, _⟩ := ha.by_inv
  have SP := Lib.hid (speaks08 w he)
  have HE := Lib.hid he; have HA := Lib.hid ha
  clear he ha
  by_cases b1 : 1000 < B.size
  · have t1 : decide ((1000 : Int) < (B.size : Int)) = true := decide_eq_true (by omega)
    clear b1
    go_enter Tryz.func4, Tryz.ntmps4
    go_wp2_with fail
    refine SP.out.mono ?_
    rintro e w1 ⟨rfl, hb⟩
    have HB := Lib.hid hb; clear hb
    go_wp2
    go_ret
    exact ⟨rfl, HB.out⟩
  have t1 : decide ((1000 : Int) < (B.size : Int)) = false := decide_eq_false (by omega)
  have zB : B.size ≤ 1000 := by omega
  have PA := Lib.hid (fun W (hW : Below w.heap.size w W) => parse_any W _ B ⟨1048576, 64, 5000⟩ (HA.out.ext hW) (HE.out.ext hW).sc (by omega))
  have RA := Lib.hid (fun W (hW : Below w.heap.size w W) => rparse_any W _ B ⟨1048576, 64, 5000⟩ (HA.out.ext hW) (HE.out.ext hW).sc (by omega))
  clear b1
  go_enter Tryz.func4, Tryz.ntmps4
  go_wp2_with fail
  refine SP.out.mono ?_
  rintro e w1 ⟨rfl, hb⟩
  have HB1 := Lib.hid hb; clear hb
  go_wp2_with fail
  refine (wide_any _).mono ?_
  rintro e w2 ⟨rfl, hb⟩
  have HB2 := Lib.hid (ext_trans HB1.out hb); clear hb
  have PX := PA.out _ HB2.out
  cases hx : parseS B ⟨1048576, 64, 5000⟩ with
  | no q p =>
    rw [hx] at PX
    have PX := Lib.hid PX
    clear hx
    go_wp2_with fail
    refine PX.out.mono ?_
    rintro e w3 ⟨u, rfl, hf⟩
    have HB3 := Lib.hid (ext_trans HB2.out hf.2)
    clear hf PX
    go_wp2
    go_ret
    exact ⟨rfl, HB3.out⟩
  | ok s =>
    rw [hx] at PX
    have PX := Lib.hid PX
    have HX := Lib.hid hx
    clear hx
    go_wp2_with fail
    refine PX.out.mono ?_
    rintro e w3 ⟨D, T, tv, ns, rfl, hd, hb⟩
    have HB3 := Lib.hid (ext_trans HB2.out hb)
    have HV3 := Lib.hid (pview_of hd HX.out (by omega))
    clear hb hd PX
    go_wp2_with fail
    refine (wide_any _).mono ?_
    rintro e w4 ⟨rfl, hb⟩
    have HV4 := Lib.hid (HV3.out.below hb)
    have HB4 := Lib.hid (ext_trans HB3.out hb); clear hb
    have RX := RA.out _ HB4.out
    rw [HX.out] at RX
    have RX := Lib.hid RX
    go_wp2_with fail
    refine RX.out.mono ?_
    rintro e w5 ⟨R, gn, cn, gu, cu, rfl, hr, hb⟩
    have HV5 := Lib.hid (HV4.out.below hb)
    have HB5 := Lib.hid (ext_trans HB4.out hb)
    have HR5 := Lib.hid hr
    clear hb hr RX
    have F := penv_of HX.out (by omega : B.size ≤ 100000)
    have hjl := parse_len HX.out
    have hul := F.ul
    have PX := Lib.hid (cpaths_at _ D T s 5000 tv ns F id w5 HV5.out)
    have RX := Lib.hid (fun W (hW : Below w5.heap.size w5 W) => rpaths_at R gn cn gu cu s F (fun i hk => leaf_kids HX.out hk) id W (HR5.out.below hW))
    have hlead : ∀ p ∈ pathsA s id, p.size ≤ 1000000 ∧ (pathS s.js s.ups id p).2.1 = 0 := fun p hp => by
      unfold pathsA at hp
      by_cases hi : inS s id = true
      · rw [if_pos hi] at hp
        have hin := of_decide_eq_true hi
        have h1 := path_le F.wf F.ul (by omega) (by omega) (by omega : id.toNat < s.ups.length) hp
        have h2 := path_leadsS F.ul (by omega) (by omega : id.toNat < s.js.length) hp
        rw [Int.toNat_of_nonneg hin.1] at h2
        have h3 := (parse_wt HX.out).1
        exact ⟨by omega, h2⟩
      · rw [if_neg hi] at hp; simp at hp
    have hpl : (pathsA s id).length ≤ 100000 := by
      unfold pathsA
      by_cases hi : inS s id = true
      · rw [if_pos hi]
        have hin := of_decide_eq_true hi
        have h1 := paths_len (js := s.js) F.wf s.ups.length id.toNat
        have h2 := pre_length F.wf s.ups.length id.toNat (by omega)
        omega
      · rw [if_neg hi]; exact Nat.zero_le _
    have PT := Lib.hid (fun W (hW : Below w5.heap.size w5 W) p (hp : p.size ≤ 1000000) => path_any8 _ D T s 5000 tv ns id p W (HV5.out.below hW) (HE.out.ext (ext_trans HB5.out hW)).mx hp)
    generalize pathsA s id = ps at *
    have HLD := Lib.hid hlead
    clear hlead F hjl hul
    go_wp2_with fail
    refine PX.out.mono ?_
    rintro e w6 ⟨vp, rfl, hr6, hb⟩
    have HB6 := Lib.hid hb
    have HR6 := Lib.hid hr6
    have RY := Lib.hid (RX.out _ hb)
    obtain ⟨ap, cp, rfl, _, _, hxp⟩ := hr6.strs_inv
    have HXP := Lib.hid hxp
    clear hb hr6 PX RX hxp
    go_wp2_with fail
    refine RY.out.mono ?_
    rintro e w7 ⟨vq, rfl, hr7, hb⟩
    have HB7 := Lib.hid (ext_trans HB6.out hb)
    have SM := Lib.hid (sameS_any _ vq ps w7 ((HR6.out.wide (S' := Own w6) (fun b hb => hb.2)).ext hb) hr7 (by omega))
    have HB67 := Lib.hid hb
    clear hr7 hb RY
    go_wp2_with fail
    refine SM.out.mono ?_
    rintro e w8 ⟨rfl, hb⟩
    have HB8 := Lib.hid (ext_trans HB7.out hb)
    have hxp8 : 0 < ps.length → ∃ b off, ap = some ⟨b, off, none⟩ ∧ b < w8.heap.size ∧ ∀ (i : Nat) x, ps[i]? = some x → w8.cell? ⟨b, off + i, none⟩ = some (.string x) := fun h => by
      obtain ⟨b, off, h1, h2, h3⟩ := HXP.out h
      have h68 := ext_trans HB67.out hb
      exact ⟨b, off, h1, Nat.lt_of_lt_of_le h2.2 h68.size, fun i x hx => (bcell1 h68 h2.2 _).trans (h3 i x hx)⟩
    have HX8 := Lib.hid hxp8
    clear hb hxp8 SM
    go_wp2_with fail
    go_loopw [50] (CwRel ps.length w8) (fun j _ => ps.length - (intOf j).toNat)
    case atStart => exact ⟨0, rfl, Nat.zero_le _, Below.refl _ _⟩
    case round =>
      obtain ⟨j, rfl, hj, hb⟩ := hrel
      by_cases hlt : j < ps.length
      · obtain ⟨p, hp⟩ := get_ex ps j hlt
        obtain ⟨b, off, rfl, hbz, hc⟩ := HX8.out (by omega)
        have c0 : wr.cell? ⟨b, off + j, none⟩ = some (.string p) := (bcell1 hb hbz _).trans (hc j p hp)
        have t2 : decide ((j : Int) < (ps.length : Int)) = true := decide_eq_true (by omega)
        have t2' : decide (j < ps.length) = true := decide_eq_true hlt
        have q1 : IntKind.i64.wrap ((j : Int) + 1) = (j : Int) + 1 := IntWalk.i64_in _ (by omega)
        obtain ⟨l1, l2⟩ := HLD.out p (List.mem_of_getElem? hp)
        have PP := PT.out wr (ext_trans HB8.out hb) p l1
        obtain ⟨⟨r1, r2, r3⟩, hQ⟩ : ∃ Q, pathS s.js s.ups id p = Q := ⟨_, rfl⟩
        rw [hQ] at PP l2
        simp only at l2
        subst l2
        have PP := Lib.hid PP
        have HBR := Lib.hid hb
        clear hp hc hQ l1 hb
        go_wp2_with fail
        go_at_call 19
        refine PP.out.mono ?_
        rintro _ w9 ⟨u, rfl, hu, hb9⟩
        obtain rfl := hu.nil rfl
        have R1 : CwRel ps.length w8 (.int .i64 ((j : Int) + 1)) w9 := ⟨j + 1, by go_num, hlt, ext_trans HBR.out hb9⟩
        have HRR := Lib.hid R1
        clear R1 hu hb9 PP
        go_wp2
        refine ⟨?_, by simp [intOf]; omega⟩
        have R := HRR.out
        first | exact R | ((repeat apply Exists.intro); exact ⟨R, rfl⟩)
      · have t2 : decide ((j : Int) < (ps.length : Int)) = false := decide_eq_false (by omega)
        have t2' : decide (j < ps.length) = false := decide_eq_false hlt
        have HF := Lib.hid (ext_trans HB5.out (ext_trans HB8.out hb))
        clear hb hlt
        go_wp2
        go_ret
        exact ⟨rfl, HF.out⟩
end
end Go.Proofs.YtheoaijheijojaaGreatDoor
