/- Texts put together. -/
import Derived.Test.YtcaiibkgajhohaaGreatDoorYJrP0sf
import Derived.Test.YtcaiibkgajhohaaGreatDoorYAppAt0f
import Derived.Test.YtcaiibkgajhohaaGreatDoorYJrP2f
import Derived.Test.YtcaiibkgajhohaaGreatDoorShelfI
namespace Go.Proofs.YtcaiibkgajhohaaGreatDoor
open Go.RowKit
theorem idx_get {α : Type} [Inhabited α] (p : α → Bool) (zs : List α) : (zs.any p = false ∧ Go.Lib.idxBy (fun _ y => p y) (zs.take zs.length) default = -1) ∨ ∃ k, k < zs.length ∧ zs.any p = true ∧ p zs[k]! = true ∧ Go.Lib.idxBy (fun _ y => p y) (zs.take zs.length) default = ((k : Nat) : Int) ∧ ∀ j, j < k → p zs[j]! = false := by
 have hm : ∀ m, m ≤ zs.length → (∀ j, j < m → p zs[j]! = false) ∨ ∃ k, k < m ∧ p zs[k]! = true ∧ ∀ j, j < k → p zs[j]! = false := by
  intro m
  induction m with
  | zero => exact fun _ => .inl fun j hj => absurd hj (Nat.not_lt_zero _)
  | succ m ih =>
    intro hml
    rcases ih (by omega) with h | ⟨k, hk, h1, h2⟩
    · cases hp : p zs[m]! with
      | true => exact .inr ⟨m, by omega, hp, h⟩
      | false =>
        refine .inl (fun j hj => ?_)
        by_cases e : j = m
        · rw [e]; exact hp
        · exact h j (by omega)
    · exact .inr ⟨k, by omega, h1, h2⟩
 rcases hm zs.length (Nat.le_refl _) with h | ⟨k, hk, h1, h2⟩
 · refine .inl ⟨?_, Go.Lib.idxBy_miss _ _ _ _ h⟩
   rw [List.any_eq_false]
   intro x hx
   obtain ⟨j, hj, rfl⟩ := List.mem_iff_getElem.1 hx
   have := h j hj
   rw [getElem!_pos zs j hj] at this
   simp [this]
 · refine .inr ⟨k, hk, ?_, h1, Go.Lib.idxBy_hit _ _ _ _ _ hk (Nat.le_refl _) h1 h2, h2⟩
   rw [List.any_eq_true]
   exact ⟨zs[k], List.getElem_mem hk, by rw [getElem!_pos zs k hk] at h1; exact h1⟩
structure Cls where
 nm : ByteArray
 am : ByteArray
 sz : Int
instance : Inhabited Cls := ⟨⟨noB, noB, 0⟩⟩
def smB : List UInt8 := [97, 98, 99, 100, 101, 102, 103, 104, 105, 106, 107, 108, 109, 110, 111, 112, 113, 114, 115, 116, 117, 118, 119, 120, 121, 122]
def grB : List UInt8 := [65, 66, 67, 68, 69, 70, 71, 72, 73, 74, 75, 76, 77, 78, 79, 80, 81, 82, 83, 84, 85, 86, 87, 88, 89, 90]
def dgB : List UInt8 := [48, 49, 50, 51, 52, 53, 54, 55, 56, 57]
def hxB : List UInt8 := [97, 98, 99, 100, 101, 102, 65, 66, 67, 68, 69, 70]
def clsL : List Cls := [⟨⟨#[97, 108, 112, 104, 97]⟩, ⟨(smB ++ grB).toArray⟩, 1⟩, ⟨⟨#[117, 112, 112, 101, 114]⟩, ⟨grB.toArray⟩, 1⟩, ⟨⟨#[108, 111, 119, 101, 114]⟩, ⟨smB.toArray⟩, 1⟩, ⟨⟨#[100, 105, 103, 105, 116]⟩, ⟨dgB.toArray⟩, 1⟩, ⟨⟨#[97, 108, 110, 117, 109]⟩, ⟨(smB ++ grB ++ dgB).toArray⟩, 1⟩, ⟨⟨#[120, 100, 105, 103, 105, 116]⟩, ⟨(dgB ++ hxB).toArray⟩, 1⟩, ⟨⟨#[114, 101, 103, 105, 111, 110]⟩, ⟨grB.toArray⟩, 2⟩, ⟨⟨#[108, 97, 110, 103]⟩, ⟨smB.toArray⟩, 2⟩]
def encC (x : Cls) : List Value := [.string x.nm, .string x.am, .int .i64 x.sz]
def classC : Array Value := (clsL.flatMap encC).toArray
/-- The variable subst.classes as the program's start leaves it. -/
def ClassT (w : World) : Prop := ∃ fr, w.heap[3]? = some (.cells classC 261 fr)
theorem ClassT.ext {w w' : World} (h : ClassT w) (hb : Below w.heap.size w w') : ClassT w' := by
 obtain ⟨fr, h⟩ := h
 exact ⟨fr, by rw [hb.block _ (Array.getElem?_eq_some_iff.1 h).1]; exact h⟩
theorem own_any (t : ByteArray) : (clsL.any fun x => decide (x.nm = t)) = ownB t := by
 unfold ownB ownL clsL; rfl
theorem flat3 : ∀ (l : List Cls) (j i : Nat) (v : Value), j < l.length → (encC l[j]!)[i]? = some v → (l.flatMap encC)[j * 3 + i]? = some v
 | [], j, i, v, h, _ => absurd h (Nat.not_lt_zero _)
 | x :: l, 0, i, v, _, h => by
   have hi : i < 3 := (List.getElem?_eq_some_iff.1 h).1
   rw [List.flatMap_cons, List.getElem?_append_left (by show 0 * 3 + i < 3; omega), Nat.zero_mul, Nat.zero_add]
   exact h
 | x :: l, j + 1, i, v, hl, h => by
   rw [List.flatMap_cons, List.getElem?_append_right (by show 3 ≤ _; omega), show (j + 1) * 3 + i - (encC x).length = j * 3 + i by show _ - 3 = _; omega]
   exact flat3 l j i v (by simpa using hl) h
theorem ClassT.at {w : World} (h : ClassT w) (j : Nat) (hj : j < 8) (i : Nat) (v : Value) (hv : (encC clsL[j]!)[i]? = some v) : w.cell? ⟨3, 0 + j * 3 + i, none⟩ = some v := by
 obtain ⟨fr, h⟩ := h
 have := Lib.cell_of_heap h (0 + j * 3 + i)
 rw [this, Nat.zero_add]
 unfold classC
 rw [List.getElem?_toArray]
 exact flat3 clsL j i v hj hv
set_option maxRecDepth 100000 in
theorem ownIn_any (t : ByteArray) (B : Nat) (w : World) (hB : B < w.heap.size) (hcell : w.cell? ⟨B, 0, none⟩ = some (.string t)) :
    PredBelow Tryz.prog 159 #[.pointer (some ⟨B, 0, none⟩)] (fun x => .agg (encC x).toArray) (fun x => decide (x.nm = t)) w := fun W x hb => by
 have hc : W.cell? ⟨B, 0, none⟩ = some (.string t) := (hb.cell (p := ⟨B, 0, none⟩) hB).trans hcell
 have hBW : B < W.heap.size := Nat.lt_of_lt_of_le hB hb.size
 have hne : B ≠ W.heap.size := by omega
 obtain ⟨q, hqq⟩ : ∃ q, decide (x.nm = t) = q := ⟨_, rfl⟩
 have hq : (x.nm.toList == t.toList) = q := by
  by_cases e : x.nm = t
  · rw [← hqq, beqS_t e, decide_eq_true e]
  · rw [← hqq, beqS_f e, decide_eq_false e]
 show Calls Tryz.prog 159 #[.agg #[.string x.nm, .string x.am, .int .i64 x.sz], .pointer (some ⟨B, 0, none⟩)] W fun e w' => e = .returned (.bool (decide (x.nm = t))) ∧ Below w.heap.size w w'
 rw [hqq]
 clear hqq
 go_enter Tryz.func159, Tryz.ntmps159
 go_wp2
 go_ret
 exact ⟨rfl, hb.alloc hb.size _⟩
theorem boxesN (w : World) (cs ds : Array Value) (T U : TypeId) : ((w.alloc (.cells cs T)).alloc (.cells ds U)).heap[w.heap.size]? = some (.cells cs T (0, 0)) ∧ ((w.alloc (.cells cs T)).alloc (.cells ds U)).heap[w.heap.size + 1]? = some (.cells ds U (0, 0)) ∧ Below w.heap.size w ((w.alloc (.cells cs T)).alloc (.cells ds U)) := by
 have h1 := heap_alloc_new w (.cells cs T)
 have h2 := heap_alloc_new (w.alloc (.cells cs T)) (.cells ds U)
 refine ⟨?_, by simpa using h2, ext_alloc (ext_alloc (Below.refl _ _) _) _⟩
 exact ((ext_alloc (Below.refl _ _) (Obj.cells ds U)).block _ (heap_lt h1)).trans h1
theorem class_lt {w : World} (h : ClassT w) : 3 < w.heap.size := by
 obtain ⟨fr, h⟩ := h
 exact heap_lt h
theorem encC_at (x : Cls) : (encC x)[0]? = some (.string x.nm) ∧ (encC x)[1]? = some (.string x.am) ∧ (encC x)[2]? = some (.int .i64 x.sz) := ⟨rfl, rfl, rfl⟩
set_option maxRecDepth 100000 in
set_option maxHeartbeats 4000000 in
/-- subst.own -/
theorem sown_any (t : ByteArray) (w : World) (h : ClassT w) :
    Calls Tryz.prog 128 #[.string t] w fun e w' => (∃ (a b : ByteArray) (c : Int), e = .returned (.tuple #[.agg #[.string a, .string b, .int .i64 c], .bool (ownB t)])) ∧ Below w.heap.size w w' := by
 have eg : ∀ args w, (callFunc 159 args).run Tryz.prog w = .ok (.enter 159 args) w := enters_of Tryz.func159 (by kernel_rfl) rfl
 have BX := Lib.hid (boxesN w #[.string t] #[.string ⟨#[]⟩, .string ⟨#[]⟩, .int .i64 0] 9 233)
 have K := fun (W : World) (hc : ClassT W) (hB : w.heap.size < W.heap.size) (hcell : W.cell? ⟨w.heap.size, 0, none⟩ = some (.string t)) => AnyQ.slices_IndexFunc Tryz.idxClass 3 Tryz.isAgg233 Tryz.sizeOf233 encC (fun _ => rfl) (fun x => decide (x.nm = t)) 159 #[.pointer (some ⟨w.heap.size, 0, none⟩)] eg 3 0 8 8 clsL W (ownIn_any t w.heap.size W hB hcell) (Nat.le_refl _) (by decide) (class_lt hc) (fun j hj i v hv => hc.at j hj i v hv)
 change ∀ (W : World) (hc : ClassT W) (hB : w.heap.size < W.heap.size) (hcell : W.cell? ⟨w.heap.size, 0, none⟩ = some (.string t)), Calls Tryz.prog 158 _ _ _ at K
 have hown := own_any t
 rcases idx_get (fun x : Cls => decide (x.nm = t)) clsL with ⟨h1, h2⟩ | ⟨k, hk, h1, _, h2, _⟩
 · rw [hown] at h1
   rw [h1]
   change Go.Lib.idxBy _ (clsL.take 8) default = _ at h2
   simp only [h2] at K
   have K := Lib.hid K
   have H := Lib.hid h
   clear h1 h2 h hown eg
   go_enter Tryz.func128, Tryz.ntmps128
   go_wp2_with fail
   obtain ⟨Wa, hWa⟩ : ∃ Wa, ((w.alloc (Obj.cells #[Value.string t] 9)).alloc (Obj.cells #[Value.string ⟨#[]⟩, Value.string ⟨#[]⟩, Value.int .i64 0] 233)) = Wa := ⟨_, rfl⟩
   rw [hWa] at BX ⊢
   have BA := Lib.hid BX.out.2.2
   refine (K.out Wa (H.out.ext BA.out) (heap_lt BX.out.1) (Lib.cell_of_heap BX.out.1 0)).mono ?_
   rintro e w1 ⟨rfl, hb1⟩
   have X6 := (hb1.block _ (heap_lt BX.out.2.1)).trans BX.out.2.1
   have c60 := Lib.cell_of_heap X6 0; have c61 := Lib.cell_of_heap X6 1; have c62 := Lib.cell_of_heap X6 2
   have g6 := fun i => Go.Joins.unfrozen_of_block X6 i
   have hs6 := heap_lt X6
   have BB := Lib.hid (ext_trans BA.out hb1)
   clear X6 hb1 hWa
   go_wp2
   have HB := Lib.hid (((BB.out.setCell (p := ⟨w.heap.size + 1, 0, none⟩) (Nat.le_succ _) (.string ⟨#[]⟩)).setCell (p := ⟨w.heap.size + 1, 1, none⟩) (Nat.le_succ _) (.string ⟨#[]⟩)).setCell (p := ⟨w.heap.size + 1, 2, none⟩) (Nat.le_succ _) (.int .i64 0))
   refine bodyPost_ret (v := .tuple #[.agg #[.string ⟨#[]⟩, .string ⟨#[]⟩, .int .i64 0], .bool false]) (by simp [results, Tryz.results128, go_sem, c60, c61, c62]) rfl ⟨⟨_, _, _, rfl⟩, HB.out⟩
 · rw [hown] at h1
   rw [h1]
   change Go.Lib.idxBy _ (clsL.take 8) default = _ at h2
   simp only [h2] at K
   have hk : k < 8 := hk
   have K := Lib.hid K
   have H := Lib.hid h
   have AT := Lib.hid (fun W (hc : ClassT W) i v hv => hc.at k hk i v hv)
   obtain ⟨x, hx⟩ : ∃ x, clsL[k]! = x := ⟨_, rfl⟩
   rw [hx] at AT
   have t1 : decide ((k : Int) < 0) = false := decide_eq_false (by omega)
   have t2 : ¬ (k : Int) < 0 := by omega
   clear h1 h2 h hown eg hx
   go_enter Tryz.func128, Tryz.ntmps128
   go_wp2_with fail
   obtain ⟨Wa, hWa⟩ : ∃ Wa, ((w.alloc (Obj.cells #[Value.string t] 9)).alloc (Obj.cells #[Value.string ⟨#[]⟩, Value.string ⟨#[]⟩, Value.int .i64 0] 233)) = Wa := ⟨_, rfl⟩
   rw [hWa] at BX ⊢
   have BA := Lib.hid BX.out.2.2
   refine (K.out Wa (H.out.ext BA.out) (heap_lt BX.out.1) (Lib.cell_of_heap BX.out.1 0)).mono ?_
   rintro e w1 ⟨rfl, hb1⟩
   have X6 := (hb1.block _ (heap_lt BX.out.2.1)).trans BX.out.2.1
   have c60 := Lib.cell_of_heap X6 0; have c61 := Lib.cell_of_heap X6 1; have c62 := Lib.cell_of_heap X6 2
   have g6 := fun i => Go.Joins.unfrozen_of_block X6 i
   have hs6 := heap_lt X6
   have BB := Lib.hid (ext_trans BA.out hb1)
   have HC := (H.out.ext BA.out).ext hb1
   have d0 := AT.out w1 HC 0 _ (encC_at x).1
   have d1 := AT.out w1 HC 1 _ (encC_at x).2.1
   have d2 := AT.out w1 HC 2 _ (encC_at x).2.2
   simp only [Nat.zero_add, Nat.add_zero] at d0 d1 d2
   clear X6 hb1 hWa HC
   go_wp2
   have HB := Lib.hid (((BB.out.setCell (p := ⟨w.heap.size + 1, 0, none⟩) (Nat.le_succ _) (.string x.nm)).setCell (p := ⟨w.heap.size + 1, 1, none⟩) (Nat.le_succ _) (.string x.am)).setCell (p := ⟨w.heap.size + 1, 2, none⟩) (Nat.le_succ _) (.int .i64 x.sz))
   refine bodyPost_ret (v := .tuple #[.agg #[.string x.nm, .string x.am, .int .i64 x.sz], .bool true]) (by simp [results, Tryz.results128, go_sem, c60, c61, c62]) rfl ⟨⟨_, _, _, rfl⟩, HB.out⟩
set_option maxRecDepth 100000 in
set_option maxHeartbeats 4000000 in
/-- subst.Own -/
theorem sOwn_any (t : ByteArray) (w : World) (h : ClassT w) : Calls Tryz.prog 97 #[.string t] w fun e w' => e = .returned (.bool (ownB t)) ∧ Below w.heap.size w w' := by
 have SO := Lib.hid (sown_any t w h)
 obtain ⟨q, hq⟩ : ∃ q, ownB t = q := ⟨_, rfl⟩
 rw [hq] at SO ⊢
 clear h hq
 go_enter Tryz.func97, Tryz.ntmps97
 go_wp2_with fail
 refine SO.out.mono ?_
 rintro e w1 ⟨⟨a, b, c, rfl⟩, hb1⟩
 have HB := Lib.hid (ext_alloc hb1 (.cells #[.string a, .string b, .int .i64 c] 233))
 clear hb1
 go_wp2
 go_ret
 exact ⟨rfl, HB.out⟩
end Go.Proofs.YtcaiibkgajhohaaGreatDoor
namespace Go.Proofs.YtcaiibkgajhohaaGreatDoor
open Go.RowKit
/-- An error's value: none, or a fault. -/
def EvA (bad : Bool) (u : Value) : Prop := (bad = false ∧ u = .nilIface) ∨ (bad = true ∧ ∃ b : Nat, u = .iface 85 (.pointer (some ⟨b, 0, none⟩)))
/-- The variables that were read: a row that stands from a world on. -/
structure VarsAt (W0 Wv : World) (vv : Value) (vars : List VaA) : Prop where
 below : Below W0.heap.size W0 Wv
 lt : W0.heap.size < Wv.heap.size
 row : RowD (W0.heap.size + 1) 103 2 Wv vv vars.length (vars.flatMap vaD)
/-- The reader in memory: at the end of the world in which it was made. -/
structure ReA (W0 Wv : World) (vv : Value) (w : World) (D : Nat) (st : RdSt) : Prop where
 vars : VarsAt W0 Wv vv st.vars
 only : Only (fun b => b = W0.heap.size) Wv w
 blk : ∃ ev, w.heap[W0.heap.size]? = some (.cells #[ptrV D, vv, ev] 69 (0, 0)) ∧ EvA st.bad ev
theorem ReA.below {W0 Wv w : World} {vv : Value} {D : Nat} {st : RdSt} (h : ReA W0 Wv vv w D st) : Below W0.heap.size W0 w := Below.trans h.vars.below (h.only.below (B := W0.heap.size) (Nat.le_of_lt h.vars.lt) (fun k hk => by omega))
theorem ReA.lt {W0 Wv w : World} {vv : Value} {D : Nat} {st : RdSt} (h : ReA W0 Wv vv w D st) : W0.heap.size < w.heap.size := Nat.lt_of_lt_of_le h.vars.lt h.only.size
/-- Other blocks have turned, but none of the variables'. -/
theorem ReA.turn {W0 Wv w w' : World} {vv : Value} {D : Nat} {st : RdSt} (h : ReA W0 Wv vv w D st) {T : Nat → Prop} (ho : Only T w w') (hT : ∀ k, T k → Wv.heap.size ≤ k) : ReA W0 Wv vv w' D st := by
 obtain ⟨ev, hx, he⟩ := h.blk
 refine ⟨h.vars, ⟨ho.os.trans h.only.os, ho.tape.trans h.only.tape, ho.output.trans h.only.output, Nat.le_trans h.only.size ho.size, fun k hk hn => ?_⟩, ev, (ho.block _ h.lt (fun ht => by have := hT _ ht; have := h.vars.lt; omega)).trans hx, he⟩
 exact (ho.block k (Nat.lt_of_lt_of_le hk h.only.size) (fun ht => by have := hT _ ht; omega)).trans (h.only.block k hk hn)
/-- Memory was made, nothing has turned. -/
theorem ReA.ext {W0 Wv w w' : World} {vv : Value} {D : Nat} {st : RdSt} (h : ReA W0 Wv vv w D st) (hb : Below w.heap.size w w') : ReA W0 Wv vv w' D st := h.turn (T := fun _ => False) (Only.of hb) (fun _ h => h.elim)
/-- What a method of the reader leaves. -/
structure RePost (W0 Wv : World) (vv : Value) (w : World) (D : Nat) (st : RdSt) (w' : World) : Prop where
 re : ReA W0 Wv vv w' D st
 only : Only (fun b => b = W0.heap.size) w w'
theorem RePost.of {W0 Wv w w' : World} {vv : Value} {D : Nat} {st : RdSt} (h : ReA W0 Wv vv w D st) (hb : Below w.heap.size w w') : RePost W0 Wv vv w D st w' := ⟨h.ext hb, Only.of hb⟩
theorem RePost.trans {W0 Wv a b c : World} {vv : Value} {D : Nat} {s t : RdSt} (h : RePost W0 Wv vv a D s b) (k : RePost W0 Wv vv b D t c) : RePost W0 Wv vv a D t c := ⟨k.re, h.only.trans k.only⟩
theorem RePost.more {W0 Wv a b c : World} {vv : Value} {D : Nat} {s : RdSt} (h : RePost W0 Wv vv a D s b) (k : Below b.heap.size b c) : RePost W0 Wv vv a D s c := h.trans (RePost.of h.re k)
/-- The reader's cells. -/
theorem ReA.cells {W0 Wv w : World} {vv : Value} {D : Nat} {st : RdSt} (h : ReA W0 Wv vv w D st) : ∃ ev, w.cell? ⟨W0.heap.size, 0, none⟩ = some (ptrV D) ∧ w.cell? ⟨W0.heap.size, 1, none⟩ = some vv ∧ w.cell? ⟨W0.heap.size, 2, none⟩ = some ev ∧ w.frozen? ⟨W0.heap.size, 2, none⟩ = false ∧ EvA st.bad ev := by
 obtain ⟨ev, hx, he⟩ := h.blk
 exact ⟨ev, Lib.cell_of_heap hx 0, Lib.cell_of_heap hx 1, Lib.cell_of_heap hx 2, Go.Joins.unfrozen_of_block hx 2, he⟩
/-- A fault is stored. -/
theorem ReA.fault {W0 Wv w : World} {vv : Value} {D : Nat} {st : RdSt} (h : ReA W0 Wv vv w D st) (b : Nat) : RePost W0 Wv vv w D st.fail (w.setCell ⟨W0.heap.size, 2, none⟩ (.iface 85 (.pointer (some ⟨b, 0, none⟩)))) := by
 obtain ⟨ev, hx, he⟩ := h.blk
 exact ⟨⟨h.vars, h.only.set (p := ⟨W0.heap.size, 2, none⟩) (fun _ => rfl) _, _, Go.Joins.block_setCell hx (i := 2) _, .inr ⟨rfl, b, rfl⟩⟩, (Only.refl (fun k => k = W0.heap.size) w).set (p := ⟨W0.heap.size, 2, none⟩) (fun _ => rfl) _⟩
theorem fail_bad {st : RdSt} (h : st.bad = true) : st.fail = st := by cases st; cases h; rfl
section
variable {W0 Wv : World} {vv : Value} {base D T : Nat} {s : PS} {nodes : Int} {tv : Value} {ns : List ANode}
/-- The document, wherever the reader stands. -/
theorem ReA.view (hV : PView W0 base D T s nodes tv ns) {w : World} {st : RdSt} (h : ReA W0 Wv vv w D st) : PView w base D T s nodes tv ns := hV.below h.below
set_option maxRecDepth 100000 in
set_option maxHeartbeats 4000000 in
/-- aasa.reader.fail -/
theorem rfail_any (hV : PView W0 base D T s nodes tv ns) (st : RdSt) (id : Int) (U : TypeId) (x : Value) (w : World) (h : ReA W0 Wv vv w D st) :
    Calls Tryz.prog 53 #[ptrV W0.heap.size, .int .i64 id, .iface U x] w fun e w' => e = .returned (.tuple #[]) ∧ RePost W0 Wv vv w D st.fail w' := by
 obtain ⟨ev, c0, c1, c2, f2, hev⟩ := h.cells
 rcases hev with ⟨hb, rfl⟩ | ⟨hb, b, rfl⟩
 · obtain ⟨W1, hW1⟩ : ∃ W1, True ∧ W1 = w := ⟨w, trivial, rfl⟩
   have ND := Lib.hid (node_p (h.view hV) id)
   have H := Lib.hid h
   have hl := h.lt
   obtain ⟨n, hn⟩ : ∃ n, nodeA s.js id = n := ⟨_, rfl⟩
   rw [hn] at ND
   clear hb hn hW1 h
   go_enter Tryz.func53, Tryz.ntmps53
   go_wp2_with fail
   refine ND.out.mono ?_
   rintro e w2 ⟨rfl, hb2⟩
   have H2 := Lib.hid (H.out.ext hb2)
   have k2 := (bcell1 hb2 hl 2).trans c2
   have g2 : w2.frozen? ⟨W0.heap.size, 2, none⟩ = false := by
    obtain ⟨_, _, _, _, g, _⟩ := H2.out.cells
    exact g
   have hl2 := H2.out.lt
   have HF := Lib.hid (fun k : Nat => (RePost.of H.out hb2).trans ((H2.out.fault k).more (ext_alloc (ext_alloc (Below.refl _ _) (.cells #[.int .i64 n.kind, .string n.key, .string n.text, .int .i64 n.at_] 117)) (.cells #[.int .i64 33, .int .i64 n.at_, .iface U x] 89))))
   clear hb2
   go_wp2
   go_end0
   exact ⟨rfl, HF.out (w2.heap.size + 1)⟩
 · have hf := fail_bad hb
   have HP : Hid (RePost W0 Wv vv w D st.fail w) := Lib.hid (by rw [hf]; exact RePost.of h (Below.refl _ _))
   clear hf hb h hV
   go_enter Tryz.func53, Tryz.ntmps53
   go_wp2
   go_end0
   exact ⟨rfl, HP.out⟩
set_option maxRecDepth 100000 in
/-- aasa.reader.wrong -/
theorem rwrong_any (hV : PView W0 base D T s nodes tv ns) (st : RdSt) (id k : Int) (w : World) (h : ReA W0 Wv vv w D st) :
    Calls Tryz.prog 28 #[ptrV W0.heap.size, .int .i64 id, .int .i64 k] w fun e w' => e = .returned (.tuple #[]) ∧ RePost W0 Wv vv w D st.fail w' := by
 have FL := Lib.hid (rfail_any hV st id 51 (.int .i64 k) w h)
 clear hV h
 go_enter Tryz.func28, Tryz.ntmps28
 go_wp2_with fail
 refine FL.out.mono ?_
 rintro e w2 ⟨rfl, hp⟩
 have HP := Lib.hid hp
 clear hp
 go_wp2
 go_end0
 exact ⟨rfl, HP.out⟩
theorem node_kind (js : List JN) (id : Nat) : (nodeA js (id : Int)).kind = kindA js id ∧ (nodeA js (id : Int)).key = keyA js id ∧ (nodeA js (id : Int)).text = txtA0 js id := by
 cases hx : js[id]? with
 | some x =>
   rw [nodeA_in hx]
   unfold kindA keyA txtA0
   rw [hx]
   exact ⟨rfl, rfl, rfl⟩
 | none =>
   have hl := List.getElem?_eq_none_iff.1 hx
   rw [nodeA_out (by omega)]
   unfold kindA keyA txtA0
   rw [hx]
   exact ⟨rfl, rfl, rfl⟩
set_option maxRecDepth 100000 in
/-- aasa.reader.kind -/
theorem rkind_any (hV : PView W0 base D T s nodes tv ns) (st : RdSt) (id : Nat) (w : World) (h : ReA W0 Wv vv w D st) :
    Calls Tryz.prog 51 #[ptrV W0.heap.size, .int .i64 id] w fun e w' => e = .returned (.int .i64 (kindA s.js id)) ∧ Below w.heap.size w w' := by
 obtain ⟨ev, c0, c1, c2, f2, hev⟩ := h.cells
 have ND := Lib.hid (node_p (h.view hV) id)
 have hk := (node_kind s.js id).1
 obtain ⟨n, hn⟩ : ∃ n, nodeA s.js (id : Int) = n := ⟨_, rfl⟩
 rw [hn] at ND hk
 rw [← hk]
 clear hev hk hn h hV
 go_enter Tryz.func51, Tryz.ntmps51
 go_wp2_with fail
 refine ND.out.mono ?_
 rintro e w2 ⟨rfl, hb2⟩
 have HB := Lib.hid (ext_alloc hb2 (.cells #[.int .i64 n.kind, .string n.key, .string n.text, .int .i64 n.at_] 117))
 clear hb2
 go_wp2
 go_ret
 exact ⟨rfl, HB.out⟩
set_option maxRecDepth 100000 in
/-- aasa.reader.key -/
theorem rkeyA_any (hV : PView W0 base D T s nodes tv ns) (st : RdSt) (id : Nat) (w : World) (h : ReA W0 Wv vv w D st) :
    Calls Tryz.prog 56 #[ptrV W0.heap.size, .int .i64 id] w fun e w' => e = .returned (.string (keyA s.js id)) ∧ Below w.heap.size w w' := by
 obtain ⟨ev, c0, c1, c2, f2, hev⟩ := h.cells
 have ND := Lib.hid (node_p (h.view hV) id)
 have hk := (node_kind s.js id).2.1
 obtain ⟨n, hn⟩ : ∃ n, nodeA s.js (id : Int) = n := ⟨_, rfl⟩
 rw [hn] at ND hk
 rw [← hk]
 clear hev hk hn h hV
 go_enter Tryz.func56, Tryz.ntmps56
 go_wp2_with fail
 refine ND.out.mono ?_
 rintro e w2 ⟨rfl, hb2⟩
 have HB := Lib.hid (ext_alloc hb2 (.cells #[.int .i64 n.kind, .string n.key, .string n.text, .int .i64 n.at_] 117))
 clear hb2
 go_wp2
 go_ret
 exact ⟨rfl, HB.out⟩
theorem isA_bad {js : List JN} {st : RdSt} {id : Nat} {k : Int} (h : st.bad = true) : isA js st id k = (false, st) := by
 cases st; cases h; rfl
theorem isA_good {js : List JN} {st : RdSt} {id : Nat} {k : Int} (h : st.bad = false) (hk : kindA js id = k) : isA js st id k = (true, st) := by
 cases st; cases h
 unfold isA
 dsimp only
 rw [decide_eq_false (fun e => e hk)]; rfl
theorem isA_wrong {js : List JN} {st : RdSt} {id : Nat} {k : Int} (h : st.bad = false) (hk : kindA js id ≠ k) : isA js st id k = (false, st.fail) := by
 cases st; cases h
 unfold isA
 dsimp only
 rw [decide_eq_true hk]; rfl
set_option maxRecDepth 100000 in
set_option maxHeartbeats 4000000 in
/-- aasa.reader.is -/
theorem ris_any (hV : PView W0 base D T s nodes tv ns) (st : RdSt) (id : Nat) (k : Int) (w : World) (h : ReA W0 Wv vv w D st) :
    Calls Tryz.prog 26 #[ptrV W0.heap.size, .int .i64 id, .int .i64 k] w fun e w' => e = .returned (.bool (isA s.js st id k).1) ∧ RePost W0 Wv vv w D (isA s.js st id k).2 w' := by
 have H := Lib.hid h
 obtain ⟨ev, c0, c1, c2, f2, hev⟩ := h.cells
 have hl := h.lt
 rcases hev with ⟨hb, rfl⟩ | ⟨hb, b, rfl⟩
 · have KD := Lib.hid (rkind_any hV st id w h)
   by_cases hk : kindA s.js id = k
   · rw [isA_good hb hk]
     rw [hk] at KD
     have t1 : (k == k) = true := by simp
     clear hk hb h hV
     go_enter Tryz.func26, Tryz.ntmps26
     go_wp2_with fail
     refine KD.out.mono ?_
     rintro e w2 ⟨rfl, hb2⟩
     have HP := Lib.hid (RePost.of H.out hb2)
     have k2 := (bcell1 hb2 hl 2).trans c2
     clear hb2 c2
     go_wp2
     go_ret
     exact ⟨rfl, HP.out⟩
   · rw [isA_wrong hb hk]
     have WR := Lib.hid (fun W (hb2 : Below w.heap.size w W) => rwrong_any hV st id 32 W (h.ext hb2))
     obtain ⟨k', hk'⟩ : ∃ k', kindA s.js id = k' := ⟨_, rfl⟩
     rw [hk'] at KD hk
     have t1 : (k' == k) = false := beq_eq_false_iff_ne.2 hk
     have t1' : (k' = k) = False := eq_false hk
     clear hk hk' hb h hV
     go_enter Tryz.func26, Tryz.ntmps26
     go_wp2_with fail
     refine KD.out.mono ?_
     rintro e w2 ⟨rfl, hb2⟩
     have WR2 := Lib.hid (WR.out w2 hb2)
     have HB2 := Lib.hid hb2
     have k2 := (bcell1 hb2 hl 2).trans c2
     clear hb2 c2
     go_wp2_with fail
     refine WR2.out.mono ?_
     rintro e w3 ⟨rfl, hp⟩
     have HP := Lib.hid ((RePost.of H.out HB2.out).trans hp)
     obtain ⟨ev3, d0, d1, d2, g2, hev3⟩ := hp.re.cells
     rcases hev3 with ⟨hb3, _⟩ | ⟨_, b3, rfl⟩
     · cases hb3
     · clear hp k2
       go_wp2
       go_ret
       exact ⟨rfl, HP.out⟩
 · rw [isA_bad hb]
   have HP := Lib.hid (RePost.of h (Below.refl _ _))
   clear hb h hV
   go_enter Tryz.func26, Tryz.ntmps26
   go_wp2
   go_ret
   exact ⟨rfl, HP.out⟩
end
end Go.Proofs.YtcaiibkgajhohaaGreatDoor
