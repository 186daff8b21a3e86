/- The frame of a law: its arguments, read as data. -/
import Derived.Test.YtheoaijheijojaaGreatDoorRows
import Derived.Test.YtheoaijheijojaaGreatDoorZLib0s
import Derived.ProofKit
import Derived.OpenShut
import Derived.Lib.LaidTab
namespace Go.Proofs.YtheoaijheijojaaGreatDoor
open Go.RowKit Go.ChangeShapes Go.WideShapes
variable {H : Type} {enc : TypeId × Value → H} {P : Program} {W : World} {base : Nat} {sp : Nat → Bool} {held : Bool}

/-- Cells that read as a datum of type t are the data of some a. -/
def Opens (enc : TypeId × Value → H) (P : Program) (W : World) (base : Nat) (sp : Nat → Bool) (held : Bool) (t : TypeId) (α : Type) (cd : α → List Dat) (ok : α → Prop) (bk : α → Nat) : Prop :=
  ∀ fuel cs x, DataW.trod enc P W base sp held fuel t cs = some x → ∃ a : α, Rds (Own W) W cs (cd a) ∧ ok a ∧ bk a ≤ Rows.uptoBulk x.1

theorem opens_str {t : TypeId} (ht : P.underlying t = some .string) : Opens enc P W base sp held t ByteArray (fun s => [.str s]) (fun s => s.size ≤ maxLen) (fun s => s.size + 1) := by
  intro fuel cs x h
  obtain ⟨s, rfl, rfl, hw⟩ := DataW.trod_string ht h
  exact ⟨s, .cons (.str _) .nil, hw, by simp [Rows.uptoBulk]⟩

theorem bulkAll_map {β : Type} {bk : β → Nat} : ∀ (ds : List (DataW H)) (bs : List β), ds.length = bs.length → (∀ (i : Nat) d b, ds[i]? = some d → bs[i]? = some b → bk b ≤ Rows.uptoBulk d) → (bs.map bk).sum ≤ Rows.uptoBulkAll ds
  | [], [], _, _ => by simp [Rows.uptoBulkAll]
  | [], b :: bs, h, _ => by simp at h
  | d :: ds, [], h, _ => by simp at h
  | d :: ds, b :: bs, h, hb => by
    have h1 := hb 0 d b rfl rfl
    have h2 := bulkAll_map ds bs (by simpa using h) (fun i d b hd hb' => hb (i + 1) d b (by simpa using hd) (by simpa using hb'))
    simp only [List.map_cons, List.sum_cons, Rows.uptoBulkAll]; omega
theorem choose_list {β : Type} {p : Nat → β → Prop} : ∀ n, (∀ i, i < n → ∃ b, p i b) → ∃ bs : List β, bs.length = n ∧ ∀ (i : Nat) b, bs[i]? = some b → p i b
  | 0, _ => ⟨[], rfl, fun i b h => by simp at h⟩
  | n + 1, h => by
    obtain ⟨bs, hl, hb⟩ := choose_list n (fun i hi => h i (by omega))
    obtain ⟨b, hb'⟩ := h n (by omega)
    refine ⟨bs ++ [b], by simp [hl], fun i c hc => ?_⟩
    by_cases hi : i < n
    · rw [List.getElem?_append_left (by omega)] at hc; exact hb i c hc
    · rw [List.getElem?_append_right (by omega)] at hc
      have : i - bs.length = 0 := by
        have := (List.getElem?_eq_some_iff.1 hc).1; simp at this; omega
      rw [this] at hc; simp at hc; subst hc
      obtain rfl : i = n := by omega
      exact hb'

theorem opens_slice {t e : TypeId} {β : Type} {cd : β → List Dat} {ok : β → Prop} {bk : β → Nat} {sz : Nat} (ht : P.underlying t = some (.slice e)) (hsz : P.cellsOf e = sz) (h0 : 0 < sz) (hl : ∀ b, (cd b).length = sz)
    (he : Opens enc P W base sp held e β cd ok bk) : Opens enc P W base sp held t (List β) (fun xs => [.list sz (xs.flatMap cd)]) (fun xs => xs.length ≤ maxLen ∧ ∀ x ∈ xs, ok x) (fun xs => (xs.map bk).sum + 1) := by
  intro fuel cs x h
  rcases DataW.trod_slice ht h with ⟨rfl, rfl⟩ | ⟨a, len, cap, elems, rest, n, _, rfl, rfl, hb, hlc, hm, hlen, hel, _, _⟩
  · exact ⟨[], .cons (.list0 _ _ _ (fun _ => rfl)) .nil, ⟨Nat.zero_le _, nofun⟩, by simp [Rows.uptoBulk]⟩
  · have each : ∀ i, i < len → ∃ b : β, ∃ cs', W.cells? base (a.add (i * sz)) sz = some cs' ∧ Rds (Own W) W cs' (cd b) ∧ ok b ∧ ∀ y, elems[i]? = some y → bk b ≤ Rows.uptoBulk y.1 := by
      intro i hi
      have h1 := hel i hi
      rw [hsz] at h1
      have hy : elems[i]? = some elems[i] := List.getElem?_eq_getElem (by omega)
      rw [hy, Option.bind_eq_some_iff] at h1
      obtain ⟨cs', hc, hd⟩ := h1
      obtain ⟨b, q1, q2, q3⟩ := he _ _ _ hd
      exact ⟨b, cs', hc, q1, q2, fun y h => by rw [hy] at h; cases h; exact q3⟩
    obtain ⟨bs, hbl, hbs⟩ := choose_list len each
    refine ⟨bs, .cons ?_ .nil, ⟨by rw [hbl]; omega, fun b hb => ?_⟩, ?_⟩
    · by_cases hz : len = 0
      · subst hz
        obtain rfl := List.eq_nil_of_length_eq_zero hbl
        exact .list0 _ _ _ nofun
      · have cell : ∀ i b, bs[i]? = some b → ∀ j d, (cd b)[j]? = some d → ∃ u, W.cell? ((a.add (i * sz)).add j) = some u ∧ Rd (Own W) W u d := by
          intro i b hb j d hd
          obtain ⟨cs', hc, hr, _⟩ := hbs i b hb
          obtain ⟨_, hcl, hcc⟩ := World.cells?_some hc
          have hj : j < sz := by have := (List.getElem?_eq_some_iff.1 hd).1; rw [hl] at this; exact this
          have hu : cs'[j]? = some cs'[j] := List.getElem?_eq_getElem (by omega)
          exact ⟨_, (hcc j hj).trans hu, hr.2 j _ d hu hd⟩
        obtain ⟨b0, hb0⟩ := get_ex bs 0 (by omega)
        obtain ⟨d0, hd0⟩ := get_ex (cd b0) 0 (by rw [hl]; exact h0)
        obtain ⟨u0, hu0, _⟩ := cell 0 b0 hb0 0 d0 hd0
        have hspot : a.spot = none := by
          simp only [Nat.zero_mul, Addr.add, if_true] at hu0
          unfold World.cell? at hu0
          split at hu0
          · cases hs : a.spot with
            | none => rfl
            | some _ => simp [hs] at hu0
          · cases hu0
        have hown : Own W a.block := by
          simp only [Nat.zero_mul, Addr.add, if_true] at hu0
          exact World.block_lt_of_cell? W a hu0
        obtain ⟨ab, ao, asp⟩ := a
        simp only at hspot hown
        subst hspot
        have key : ∀ j, j < (bs.flatMap cd).length → ∃ u, W.cell? ⟨ab, ao + j, none⟩ = some u ∧ ∀ d, (bs.flatMap cd)[j]? = some d → Rd (Own W) W u d := by
          intro j hj
          rw [flat_length hl, hbl] at hj
          have hq : j / sz < len := by rw [Nat.div_lt_iff_lt_mul h0]; exact hj
          obtain ⟨b, hb⟩ := get_ex bs (j / sz) (by omega)
          have hr : j % sz < sz := Nat.mod_lt _ h0
          obtain ⟨d, hd⟩ := get_ex (cd b) (j % sz) (by rw [hl]; exact hr)
          obtain ⟨u, hu, hrd⟩ := cell _ b hb _ d hd
          have e : j / sz * sz + j % sz = j := Nat.div_add_mod' j sz
          refine ⟨u, ?_, fun d' hd' => ?_⟩
          · rw [Addr.add_lit, Addr.add_lit, Nat.add_assoc, e] at hu; exact hu
          · have := flat_get? hl bs (j / sz) (j % sz) b hb hr
            rw [e, hd'] at this
            rw [hd] at this
            cases this; exact hrd
        refine .list ab ao len cap sz _ (fun j => (W.cell? ⟨ab, ao + j, none⟩).getD undef) hown (by omega) hlc (by rw [flat_length hl, hbl]) (fun j hj => ?_) (fun j hj => ?_)
        · obtain ⟨u, hu, _⟩ := key j hj
          rw [hu]; rfl
        · obtain ⟨u, hu, hr⟩ := key j hj
          rw [hu]; exact hr _ (List.getElem?_eq_getElem hj)
    · obtain ⟨i, hi⟩ := List.getElem?_of_mem hb
      obtain ⟨_, _, _, h, _⟩ := hbs i b hi
      exact h
    · have : (bs.map bk).sum ≤ Rows.uptoBulkAll (elems.map (·.1)) := bulkAll_map _ bs (by simp [hlen, hbl]) (fun i d b hd hb => by
        obtain ⟨_, _, _, _, h⟩ := hbs i b hb
        simp at hd
        obtain ⟨y, hy, rfl⟩ : ∃ y, elems[i]? = some y ∧ y.1 = d := by
          obtain ⟨q, hq⟩ := hd; exact ⟨_, hq, rfl⟩
        exact h y hy)
      simp only [Rows.uptoBulk]; omega

theorem Opens.map {t : TypeId} {α β : Type} {cd : α → List Dat} {ok : α → Prop} {bk : α → Nat} (h : Opens enc P W base sp held t α cd ok bk) (g : α → β) {cd' : β → List Dat} {ok' : β → Prop} {bk' : β → Nat}
    (hc : ∀ a, cd' (g a) = cd a) (ho : ∀ a, ok a → ok' (g a)) (hb : ∀ a, bk' (g a) ≤ bk a) : Opens enc P W base sp held t β cd' ok' bk' := by
  intro fuel cs x hx
  obtain ⟨a, r, o, b⟩ := h fuel cs x hx
  exact ⟨g a, by rw [hc]; exact r, ho a o, Nat.le_trans (hb a) b⟩

/-- An argument of one cell, opened. -/
theorem Opens.one {t : TypeId} {α : Type} {cd : α → List Dat} {ok : α → Prop} {bk : α → Nat} (h : Opens enc P W base sp held t α cd ok bk) {v : Value} {d : DataW H} {p : List MemPlace}
    (hd : DataW.Trod enc P W base sp held t v d p) : ∃ a, Rds (Own W) W v.cells.toList (cd a) ∧ ok a ∧ bk a ≤ Rows.uptoBulk d := by
  obtain ⟨fuel, hf⟩ := hd
  exact h fuel _ _ hf
theorem Rds.one {S : Nat → Prop} {w : World} {v : Value} {d : Dat} (h : Rds S w [v] [d]) : Rd S w v d := h.2 0 v d rfl rfl
/-- What was read of the arguments is read of them again, behind a call that turned no old memory. -/
theorem trodAll_below {W' : World} (hl : laidOutB P = true) (hb : Below W.heap.size W W') : ∀ {ts : List TypeId} {vs : List Value} {ds : List (DataW H)} {ps : List MemPlace}, (∀ t ∈ ts, P.readableRec t = true ∧ t < P.types.size) →
    DataW.TrodAll enc P W 0 (fun _ => true) true ts vs ds ps → (∀ x ∈ ps, x.block < W.heap.size) → DataW.TrodAll enc P W' 0 (fun b => decide (b < W.heap.size)) true ts vs ds ps
  | [], [], [], ps, _, h, _ => h
  | t :: ts, v :: vs, d :: ds, ps, ht, h, hlt => by
    obtain ⟨p, q, hp, hq, rfl⟩ := h
    exact ⟨p, q, Below.trod hl (ht t (by simp)).1 (ht t (by simp)).2 hp hb (fun x hx => hlt x (by simp [hx])), trodAll_below hl hb (fun t ht' => ht t (by simp [ht'])) hq (fun x hx => hlt x (by simp [hx])), rfl⟩

/-- From the walk to the row's post: the law answers true, and turned no old memory. -/
theorem law_post {fn : Func} {s : ChangeSpec} {f : FuncId} {args : Array Value} {ds gs : List (DataW H)} {before : List MemPlace} {tb : TypeId} (hl : laidOutB P = true)
    (ht : ∀ t ∈ fn.params.toList, P.readableRec t = true ∧ t < P.types.size) (hr : fn.resultTypes = #[tb]) (hb : P.underlying tb = some .bool) (hv : s.vars = [])
    (hW : DataW.Whole enc P fn.params.toList s.vars false W args.toList ds gs before) (h1 : (s.fn H (ds ++ [])).results = [.lit (.bool true)]) (h2 : (s.fn H (ds ++ [])).args = ds) (h3 : (s.fn H (ds ++ [])).vars = [])
    (calls : Calls P f args W fun e W' => e = .returned (.bool true) ∧ Below W.heap.size W W') :
    Calls P f args W fun e W' => ∃ v, e = .returned v ∧ s.post enc P fn false true false false W args v W' := by
  refine calls.mono fun e W' ⟨he, hb'⟩ => ⟨_, he, ?_⟩
  have hW' := hW
  have hlt := hW.lt
  obtain ⟨p, q, hA, hV, rfl, _, _⟩ := hW
  rw [hv] at hV
  obtain ⟨rfl, rfl⟩ := trodVars_none hV
  refine ⟨ds, [], _, [], p, [], hW', ?_, ?_, ?_, hb'.frame _, nofun⟩
  · rw [h1, hr]
    exact trodAll_cons_mk (shut_bool hb _) trodAll_mk0
  · rw [h2]
    exact trodAll_below hl hb' ht hA (fun x hx => hlt x (by simp [hx]))
  · rw [hv, h3]
    rfl
end Go.Proofs.YtheoaijheijojaaGreatDoor
