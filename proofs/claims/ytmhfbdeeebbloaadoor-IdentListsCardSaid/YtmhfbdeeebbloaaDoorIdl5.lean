/- Rows of fingerprints that a call owns: what lies in them; appends; one row built. -/
import Derived.Test.YtmhfbdeeebbloaaDoorIdl4
import Derived.Test.YtmhfbdeeebbloaaDoorLib0
import Derived.Great.BuildSlice
namespace Go.Proofs.YtmhfbdeeebbloaaDoor
open Go.RowKit
theorem elPr : ElemTy Tryd.prog 32 23 32 32 (.agg (Array.replicate 32 (.int .u8 0))) := ⟨Tryd.underlying32, by kernel_rfl, rfl, by decide⟩
def pflat (ps : List Pr) : List Value := ps.flatMap encP
theorem pflat_len (ps : List Pr) : (pflat ps).length = ps.length * 32 := vflat_length encP_len ps
theorem pflat_one (ps : List Pr) : ∀ v ∈ pflat ps, v.oneCell' = true := by
  intro v hv
  obtain ⟨x, _, hx⟩ := List.mem_flatMap.1 hv
  exact encP_one x v hx
theorem pflat_get (ps : List Pr) (j : Nat) (x : Pr) (i : Nat) (hx : ps[j]? = some x) (hi : i < 32) : (pflat ps)[j * 32 + i]? = some (.int .u8 (x.b i : Nat)) := by
  rw [pflat, vflat_get? encP_len ps j i x hx hi, encP_get x i hi]
/-- The cells of rows, one by one. -/
theorem RowP.cells {w : World} {b off : Nat} {ps : List Pr} (h : RowP w b off ps) : ∀ (j : Nat) u, (pflat ps)[j]? = some u → w.cell? ⟨b, off + j, none⟩ = some u := by
  intro j u hj
  have hlt := (List.getElem?_eq_some_iff.1 hj).1
  rw [pflat_len] at hlt
  obtain ⟨x, hx⟩ : ∃ x, ps[j / 32]? = some x := ⟨_, List.getElem?_eq_getElem (by omega)⟩
  have h1 := pflat_get ps (j / 32) x (j % 32) hx (Nat.mod_lt _ (by decide))
  have h2 := h (j / 32) x hx (j % 32) (Nat.mod_lt _ (by decide))
  rw [show j / 32 * 32 + j % 32 = j by omega] at h1
  rw [show off + j / 32 * 32 + j % 32 = off + j by omega] at h2
  rw [h2, ← hj, h1]
theorem RowP.of_cells {w : World} {b off : Nat} {ps : List Pr} (h : ∀ (j : Nat) u, (pflat ps)[j]? = some u → w.cell? ⟨b, off + j, none⟩ = some u) : RowP w b off ps := fun j x hx i hi => by
  rw [Nat.add_assoc]; exact h _ _ (pflat_get ps j x i hx hi)
theorem RowP.drop {w : World} {b off : Nat} {ps : List Pr} (h : RowP w b off ps) (n : Nat) : RowP w b (off + n * 32) (ps.drop n) := fun j x hx i hi => by
  rw [List.getElem?_drop] at hx
  have := h (n + j) x hx i hi
  rw [show off + n * 32 + j * 32 + i = off + (n + j) * 32 + i by omega]; exact this
theorem RowP.take {w : World} {b off : Nat} {ps : List Pr} (h : RowP w b off ps) (n : Nat) : RowP w b off (ps.take n) := fun j x hx i hi => by
  rw [List.getElem?_take] at hx
  split at hx
  · exact h j x hx i hi
  · cases hx
theorem RowP.nil {w : World} {b off : Nat} : RowP w b off [] := fun j x hx => by simp at hx
theorem RowP.one {w : World} {b : Nat} {x : Pr} (h : w.heap[b]? = some (.cells (prV x) 23 (0, 0))) : RowP w b 0 [x] := fun j y hy i hi => by
  cases j with
  | succ j => simp at hy
  | zero =>
    simp at hy; subst hy
    have h2 := prC_get x.b 32 i hi
    rw [if_pos hi] at h2
    rw [show 0 + 0 * 32 + i = i by omega, cell_of_row w b i _ _ _ h]; exact h2
theorem RowP.load {w : World} {b off : Nat} {ps : List Pr} (h : RowP w b off ps) {j : Nat} {x : Pr} (hx : ps[j]? = some x) : (loadVar 23 ⟨b, off + j * 32, none⟩).run Tryd.prog w = .ok (.agg (prV x)) w :=
  pr_loadAt (fun i hi => h j x hx i hi)
/-- A row that a call owns. -/
def OwnP (w : World) (base g cap : Nat) (ps : List Pr) : Prop := w.ownsRow base 23 32 (.slice (some ⟨g, 0, none⟩) ps.length cap) ps.length (pflat ps)
theorem OwnP.parts {w : World} {base g cap : Nat} {ps : List Pr} (h : OwnP w base g cap ps) : base ≤ g ∧ g < w.heap.size := by
  have := h.lt g rfl
  exact this
theorem OwnP.cap_le {w : World} {base g cap : Nat} {ps : List Pr} (h : OwnP w base g cap ps) : ps.length ≤ cap := by
  rcases h.2 with ⟨h, _⟩ | ⟨g', cap', cur, h, _, _, hnc, _⟩
  · cases h
  · simp only [Value.slice.injEq] at h; omega
theorem OwnP.row {w : World} {base g cap : Nat} {ps : List Pr} (h : OwnP w base g cap ps) : RowP w g 0 ps := RowP.of_cells (fun j u hj => by
  have := World.ownsRow.cells h (g := g) rfl j u hj
  rw [Addr.add_lit] at this; exact this)
theorem OwnP.ext {w w' : World} {base base' g cap : Nat} {ps : List Pr} (h : OwnP w base g cap ps) (hb : w'.heap[g]? = w.heap[g]?) (hB : base' ≤ base) : OwnP w' base' g cap ps := aown_ext h (fun k hk => by cases hk; exact hb) hB
theorem OwnP.empty (w : World) : OwnP (w.alloc (.cells #[] 23)) w.heap.size w.heap.size 0 [] := World.ownsRow_made w #[] 0 (Nat.le_refl _) (Nat.zero_le _) (by simp)
/-- 'append' of fingerprints onto a row that the call owns. -/
theorem wpList_appP (w : World) {ops : Array Oper} {rest : List Oper} {o : Oper} {a : Act} {Q : Exit → Act → World → Prop} (hgd : o.guard = none) (s x : Operand)
    (ho : o.op = .call { callee := .builtin .append, args := #[s, x], argTypes := #[32, 32] })
    (base g cap n : Nat) (ps qs : List Pr) (hn : n = ps.length) (hs : a.eval s = .slice (some ⟨g, 0, none⟩) n cap) (hown : OwnP w base g cap ps)
    (ao : Option Addr) (m c : Nat) (hm : m = qs.length) (hx : a.eval x = .slice ao m c) (hao : ao = none → m = 0 ∧ c = 0)
    (hrow : 0 < qs.length → ∃ b off, ao = some ⟨b, off, none⟩ ∧ RowP w b off qs)
    (hsm : ps.length + qs.length ≤ 1000000) (hbase : base ≤ w.heap.size) (d : Option Tmp) (hd : o.dst = d) (N : Nat) (hN : N = ps.length + qs.length)
    (hK : ∀ g' cap' w', OwnP w' base g' cap' (ps ++ qs) → w.grownBy w' (some g) → (g' = g ∨ g' = w.heap.size) → wpList Tryd.prog ops Q rest (a.put d (.slice (some ⟨g', 0, none⟩) N cap')) w') : wpList Tryd.prog ops Q (o :: rest) a w := by
  subst hn hm hd hN
  have key : ∀ v' w', w'.ownsRow base 23 32 v' (ps.length + qs.length) (pflat ps ++ pflat qs) → v' ≠ .slice none 0 0 → ∃ g' cap', v' = .slice (some ⟨g', 0, none⟩) (ps.length + qs.length) cap' ∧ OwnP w' base g' cap' (ps ++ qs) := by
    intro v' w' h hne
    rcases h.2 with ⟨h2, _⟩ | ⟨g', cap', cur, hv, _⟩
    · exact absurd h2 hne
    · subst hv
      refine ⟨g', cap', rfl, ?_⟩
      unfold OwnP
      rw [List.length_append, show pflat (ps ++ qs) = pflat ps ++ pflat qs by simp [pflat]]
      exact h
  by_cases h0 : ao = none
  · subst h0
    obtain ⟨hq, rfl⟩ := hao rfl
    have hq : qs = [] := List.eq_nil_of_length_eq_zero hq
    subst hq
    obtain ⟨i, hi, _, _, _⟩ := info_parts elPr.hi
    refine wpList_plain hgd fun K hK' => ?_
    have hrun := run_append_owned_none (P := Tryd.prog) w base 32 o.type 23 i 32 elPr.ht hi _ _ _ hown
    unfold Oper.wp
    simp [execOp, ho, resolve, invoke, builtin, hs, hx, hrun, Result.andThen]
    refine hK' _ _ ?_
    have := hK g cap w (by rw [List.append_nil]; exact hown) (World.grownBy.refl _ _) (.inl rfl)
    simpa using this
  · obtain ⟨ad, rfl⟩ := Option.ne_none_iff_exists'.1 h0
    obtain ⟨i, hi, hz, hsz, hby⟩ := info_parts elPr.hi
    refine wpList_append_own_at w hgd s x 32 ho base 23 i _ 32 32 elPr.ht hi hz hsz hby rfl (by decide) _ _ _ hs hown ad qs.length c (pflat qs) hx (pflat_len qs) (fun j u hu => ?_) (pflat_one qs) (by unfold maxLen; omega) (by omega) hbase (fun v' w' a1 a2 a3 a4 => ?_)
    · have hjl := (List.getElem?_eq_some_iff.1 hu).1
      rw [pflat_len] at hjl
      obtain ⟨b, off, he, hr⟩ := hrow (by omega)
      obtain rfl := Option.some.inj he
      rw [Addr.add_lit]; exact hr.cells j u hu
    · have hne : v' ≠ .slice none 0 0 := fun h => by have := (a3.1 h).1; cases this
      obtain ⟨g', cap', rfl, ho'⟩ := key v' w' a1 hne
      refine hK g' cap' w' ho' a2 ?_
      rcases a4 with h | h
      · left; simpa [Value.ownBlock] using h
      · right; simpa [Value.ownBlock] using h
/-- One row built. -/
theorem wpList_buildP1 {ops : Array Oper} {rest : List Oper} {o : Oper} {a : Act} {w : World} {Q : Exit → Act → World → Prop} (hg : o.guard = none) (x : Operand) (ho : o.op = .buildSlice 32 1 #[(0, x)]) (p : Pr) (cp : Array Value) (hcp : cp = prV p) (hx : a.eval x = .agg cp)
    (d : Option Tmp) (hd : o.dst = d)
    (h : wpList Tryd.prog ops Q rest (a.put d (.slice (some ⟨w.heap.size, 0, none⟩) 1 1)) (w.alloc (.cells cp 23))) : wpList Tryd.prog ops Q (o :: rest) a w := by
  subst hd
  obtain ⟨i, hi, hz, hsz, hby⟩ := info_parts elPr.hi
  refine wpList_buildSlice hg 32 23 1 #[(0, x)] ho cp i _ elPr.ht hi hz (by rw [hsz]; decide) (by rw [hsz]; decide) ?_ h
  rw [hsz]
  have hsz1 : cp.size = 32 := by rw [hcp]; unfold prV; exact prC_size _ _
  obtain ⟨bs, hbs⟩ : ∃ bs, (Array.range (1 * 32)).map ((Value.agg (Array.replicate 32 (.int .u8 0))).cells[· % (Value.agg (Array.replicate 32 (.int .u8 0))).cells.size]!) = bs := ⟨_, rfl⟩
  have hbz : bs.size = 32 := by rw [← hbs, Array.size_map, Array.size_range]
  rw [hbs]
  have := Great.fill_whole (s := 32) (by decide) [.agg cp] bs (fun v hv => by simp at hv; subst hv; exact hsz1) (by rw [hbz]; rfl)
  have e : (Array.map (fun (i, x) => (i, a.eval x)) #[(0, x)]).toList = ((List.zipIdx [Value.agg cp] 0).map fun x => (x.2, x.1)) := by simp [hx]
  rw [e, this, List.flatMap_cons, List.flatMap_nil, List.append_nil]
  show some cp.toList.toArray = some cp
  rw [Array.toArray_toList]
theorem wpList_loadRowP {P : Program} {w : World} {ops : Array Oper} {rest : List Oper} {o : Oper} {a : Act} {Q : Exit → Act → World → Prop} (t : TypeId) (p : Addr) (v : Value) (hl : (loadVar t p).run P w = .ok v w)
    (x : Operand) (hgd : Region.wanted o (yielded ops a.tmps) = true) (ho : o.op = .load t x) (hx : a.eval x = .pointer (some p)) (hK : wpList P ops Q rest (a.put o.dst v) w) : wpList P ops Q (o :: rest) a w := by
  refine wpList_step fun K hK' => ?_
  rw [if_pos hgd]
  unfold Oper.wp
  simp [execOp, ho, hx, Instr.loadAt, Instr.sureAddr, hl, Result.andThen]
  exact hK' _ _ hK
end Go.Proofs.YtmhfbdeeebbloaaDoor
