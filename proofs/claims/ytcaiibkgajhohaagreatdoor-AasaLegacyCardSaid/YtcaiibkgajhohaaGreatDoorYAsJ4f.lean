/- The frame of a law: its arguments, read as data. -/
import Derived.Test.YtcaiibkgajhohaaGreatDoorYAsJ3
import Derived.Test.YtcaiibkgajhohaaGreatDoorYAsJ0f
import Derived.Test.YtcaiibkgajhohaaGreatDoorYJrP2f
import Derived.Test.YtcaiibkgajhohaaGreatDoorYLib0s
import Derived.Test.YtcaiibkgajhohaaGreatDoorYErrs1s
import Derived.Test.YtcaiibkgajhohaaGreatDoorYTxtWs
import Derived.Test.YtcaiibkgajhohaaGreatDoorRows
import Derived.ProofKit
import Derived.OpenShut
import Derived.Lib.LaidTab
import Derived.LaidHandle
import Derived.Stop.Joined
import Derived.Lib.LaidU8T
import Derived.PinnedBridge
namespace Go.Proofs.YtcaiibkgajhohaaGreatDoor
open Go.RowKit
theorem dec_sizes {B : ByteArray} (hB : B.size ≤ 100000) : ∀ s, parseS B ⟨131072, 64, 20000⟩ = .ok s → (∀ id, (txtA0 s.js id).size ≤ 1100000) ∧ (∀ k, (keyA s.js k).size ≤ 1100000) ∧ s.js.length ≤ 100000 := fun s h => by
 refine ⟨fun id => ?_, fun k => Nat.le_trans (parse_key h k) (by omega), Nat.le_trans (parse_len h) hB⟩
 unfold txtA0
 split
 · rename_i x hx
   exact Nat.le_trans (parse_nodes h x (List.mem_of_getElem? hx)).ts (by omega)
 · exact Nat.zero_le _
/-- The document's example. -/
def ex20 : ByteArray := ⟨#[123, 34, 97, 112, 112, 108, 105, 110, 107, 115, 34, 58, 123, 34, 100, 101, 116, 97, 105, 108, 115, 34, 58, 91, 123, 34, 97, 112, 112, 73, 68, 115, 34, 58, 91, 34, 65, 66, 67, 68, 69, 49, 50, 51, 52, 53, 46, 97, 34, 93, 44, 34, 99, 111, 109, 112, 111, 110, 101, 110, 116, 115, 34, 58, 91, 123, 34, 47, 34, 58, 34, 47, 98, 117, 121, 47, 42, 34, 125, 93, 125, 93, 125, 125]⟩
def exTell (r : Option AsA) : Bool := match r with
 | some ⟨[⟨[_], [x]⟩], _⟩ => decide (x.path = ⟨#[47, 98, 117, 121, 47, 42]⟩)
 | _ => false
theorem ex20_dec : exTell (decA ex20) = true := by kernel_rfl
end Go.Proofs.YtcaiibkgajhohaaGreatDoor
namespace Go.Proofs.YtcaiibkgajhohaaGreatDoor
open Go.RowKit Go.ChangeShapes Go.WideShapes
variable {H : Type} {enc : TypeId × Value → H} {P : Program} {W : World} {base : Nat} {sp : Nat → Bool} {held : Bool}

/-- Cells that read as a datum of type t are the data of some a. -/
def Opens (enc : TypeId × Value → H) (P : Program) (W : World) (base : Nat) (sp : Nat → Bool) (held : Bool) (t : TypeId) (α : Type) (cd : α → List Dat) (ok : α → Prop) (bk : α → Nat) : Prop :=
 ∀ fuel cs x, DataW.trod enc P W base sp held fuel t cs = some x → ∃ a : α, Rds (Own W) W cs (cd a) ∧ ok a ∧ bk a ≤ Rows.uptoBulk x.1

theorem opens_int {t : TypeId} {k : IntKind} (ht : P.underlying t = some (.int k)) : Opens enc P W base sp held t Int (fun n => [.int k n]) (fun n => (Lit.int k n).wf = true) (fun _ => 1) := by
 intro fuel cs x h
 obtain ⟨n, rfl, rfl, hw⟩ := DataW.trod_int ht h
 exact ⟨n, .cons (.int _ _) .nil, hw, by simp [Rows.uptoBulk]⟩
theorem opens_bool {t : TypeId} (ht : P.underlying t = some .bool) : Opens enc P W base sp held t Bool (fun b => [.bool b]) (fun _ => True) (fun _ => 1) := by
 intro fuel cs x h
 obtain ⟨n, rfl, rfl⟩ := DataW.trod_bool ht h
 exact ⟨n, .cons (.bool _) .nil, trivial, by simp [Rows.uptoBulk]⟩
theorem opens_str {t : TypeId} (ht : P.underlying t = some .string) : Opens enc P W base sp held t ByteArray (fun s => [.str s]) (fun s => s.size ≤ maxLen) (fun s => s.size + 1) := by
 intro fuel cs x h
 obtain ⟨s, rfl, rfl, hw⟩ := DataW.trod_string ht h
 exact ⟨s, .cons (.str _) .nil, hw, by simp [Rows.uptoBulk]⟩

theorem bulkAll_map {β : Type} {bk : β → Nat} : ∀ (ds : List (DataW H)) (bs : List β), ds.length = bs.length → (∀ (i : Nat) d b, ds[i]? = some d → bs[i]? = some b → bk b ≤ Rows.uptoBulk d) → (bs.map bk).sum ≤ Rows.uptoBulkAll ds
 | [], [], _, _ => by simp [Rows.uptoBulkAll]
 | [], b :: bs, h, _ => by simp at h
 | d :: ds, [], h, _ => by simp at h
 | d :: ds, b :: bs, h, hb => by
   have h1 := hb 0 d b rfl rfl
   have h2 := bulkAll_map ds bs (by simpa using h) (fun i d b hd hb' => hb (i + 1) d b (by simpa using hd) (by simpa using hb'))
   simp only [List.map_cons, List.sum_cons, Rows.uptoBulkAll]; omega
theorem choose_list {β : Type} {p : Nat → β → Prop} : ∀ n, (∀ i, i < n → ∃ b, p i b) → ∃ bs : List β, bs.length = n ∧ ∀ (i : Nat) b, bs[i]? = some b → p i b
 | 0, _ => ⟨[], rfl, fun i b h => by simp at h⟩
 | n + 1, h => by
   obtain ⟨bs, hl, hb⟩ := choose_list n (fun i hi => h i (by omega))
   obtain ⟨b, hb'⟩ := h n (by omega)
   refine ⟨bs ++ [b], by simp [hl], fun i c hc => ?_⟩
   by_cases hi : i < n
   · rw [List.getElem?_append_left (by omega)] at hc; exact hb i c hc
   · rw [List.getElem?_append_right (by omega)] at hc
     have : i - bs.length = 0 := by
      have := (List.getElem?_eq_some_iff.1 hc).1; simp at this; omega
     rw [this] at hc; simp at hc; subst hc
     obtain rfl : i = n := by omega
     exact hb'

theorem opens_slice {t e : TypeId} {β : Type} {cd : β → List Dat} {ok : β → Prop} {bk : β → Nat} {sz : Nat} (ht : P.underlying t = some (.slice e)) (hsz : P.cellsOf e = sz) (h0 : 0 < sz) (hl : ∀ b, (cd b).length = sz)
    (he : Opens enc P W base sp held e β cd ok bk) : Opens enc P W base sp held t (List β) (fun xs => [.list sz (xs.flatMap cd)]) (fun xs => xs.length ≤ maxLen ∧ ∀ x ∈ xs, ok x) (fun xs => (xs.map bk).sum + 1) := by
 intro fuel cs x h
 rcases DataW.trod_slice ht h with ⟨rfl, rfl⟩ | ⟨a, len, cap, elems, rest, n, _, rfl, rfl, hb, hlc, hm, hlen, hel, _, _⟩
 · exact ⟨[], .cons (.list0 _ _ _ (fun _ => rfl)) .nil, ⟨Nat.zero_le _, nofun⟩, by simp [Rows.uptoBulk]⟩
 · have each : ∀ i, i < len → ∃ b : β, ∃ cs', W.cells? base (a.add (i * sz)) sz = some cs' ∧ Rds (Own W) W cs' (cd b) ∧ ok b ∧ ∀ y, elems[i]? = some y → bk b ≤ Rows.uptoBulk y.1 := by
     intro i hi
     have h1 := hel i hi
     rw [hsz] at h1
     have hy : elems[i]? = some elems[i] := List.getElem?_eq_getElem (by omega)
     rw [hy, Option.bind_eq_some_iff] at h1
     obtain ⟨cs', hc, hd⟩ := h1
     obtain ⟨b, q1, q2, q3⟩ := he _ _ _ hd
     exact ⟨b, cs', hc, q1, q2, fun y h => by rw [hy] at h; cases h; exact q3⟩
   obtain ⟨bs, hbl, hbs⟩ := choose_list len each
   refine ⟨bs, .cons ?_ .nil, ⟨by rw [hbl]; omega, fun b hb => ?_⟩, ?_⟩
   · by_cases hz : len = 0
     · subst hz
       obtain rfl := List.eq_nil_of_length_eq_zero hbl
       exact .list0 _ _ _ nofun
     · have cell : ∀ i b, bs[i]? = some b → ∀ j d, (cd b)[j]? = some d → ∃ u, W.cell? ((a.add (i * sz)).add j) = some u ∧ Rd (Own W) W u d := by
         intro i b hb j d hd
         obtain ⟨cs', hc, hr, _⟩ := hbs i b hb
         obtain ⟨_, hcl, hcc⟩ := World.cells?_some hc
         have hj : j < sz := by have := (List.getElem?_eq_some_iff.1 hd).1; rw [hl] at this; exact this
         have hu : cs'[j]? = some cs'[j] := List.getElem?_eq_getElem (by omega)
         exact ⟨_, (hcc j hj).trans hu, hr.2 j _ d hu hd⟩
       obtain ⟨b0, hb0⟩ := get_ex bs 0 (by omega)
       obtain ⟨d0, hd0⟩ := get_ex (cd b0) 0 (by rw [hl]; exact h0)
       obtain ⟨u0, hu0, _⟩ := cell 0 b0 hb0 0 d0 hd0
       have hspot : a.spot = none := by
        simp only [Nat.zero_mul, Addr.add, if_true] at hu0
        unfold World.cell? at hu0
        split at hu0
        · cases hs : a.spot with
          | none => rfl
          | some _ => simp [hs] at hu0
        · cases hu0
       have hown : Own W a.block := by
        simp only [Nat.zero_mul, Addr.add, if_true] at hu0
        exact World.block_lt_of_cell? W a hu0
       obtain ⟨ab, ao, asp⟩ := a
       simp only at hspot hown
       subst hspot
       have key : ∀ j, j < (bs.flatMap cd).length → ∃ u, W.cell? ⟨ab, ao + j, none⟩ = some u ∧ ∀ d, (bs.flatMap cd)[j]? = some d → Rd (Own W) W u d := by
        intro j hj
        rw [flat_length hl, hbl] at hj
        have hq : j / sz < len := by rw [Nat.div_lt_iff_lt_mul h0]; exact hj
        obtain ⟨b, hb⟩ := get_ex bs (j / sz) (by omega)
        have hr : j % sz < sz := Nat.mod_lt _ h0
        obtain ⟨d, hd⟩ := get_ex (cd b) (j % sz) (by rw [hl]; exact hr)
        obtain ⟨u, hu, hrd⟩ := cell _ b hb _ d hd
        have e : j / sz * sz + j % sz = j := Nat.div_add_mod' j sz
        refine ⟨u, ?_, fun d' hd' => ?_⟩
        · rw [Addr.add_lit, Addr.add_lit, Nat.add_assoc, e] at hu; exact hu
        · have := flat_get? hl bs (j / sz) (j % sz) b hb hr
          rw [e, hd'] at this
          rw [hd] at this
          cases this; exact hrd
       refine .list ab ao len cap sz _ (fun j => (W.cell? ⟨ab, ao + j, none⟩).getD undef) hown (by omega) hlc (by rw [flat_length hl, hbl]) (fun j hj => ?_) (fun j hj => ?_)
       · obtain ⟨u, hu, _⟩ := key j hj
         rw [hu]; rfl
       · obtain ⟨u, hu, hr⟩ := key j hj
         rw [hu]; exact hr _ (List.getElem?_eq_getElem hj)
   · obtain ⟨i, hi⟩ := List.getElem?_of_mem hb
     obtain ⟨_, _, _, h, _⟩ := hbs i b hi
     exact h
   · have : (bs.map bk).sum ≤ Rows.uptoBulkAll (elems.map (·.1)) := bulkAll_map _ bs (by simp [hlen, hbl]) (fun i d b hd hb => by
       obtain ⟨_, _, _, _, h⟩ := hbs i b hb
       simp at hd
       obtain ⟨y, hy, rfl⟩ : ∃ y, elems[i]? = some y ∧ y.1 = d := by
        obtain ⟨q, hq⟩ := hd; exact ⟨_, hq, rfl⟩
       exact h y hy)
     simp only [Rows.uptoBulk]; omega

/-- A row of fields, the first of which lies at offset off. -/
def OpensF (enc : TypeId × Value → H) (P : Program) (W : World) (base : Nat) (sp : Nat → Bool) (held : Bool) (fs : List Field) (off tot : Nat) (α : Type) (cd : α → List Dat) (ok : α → Prop) (bk : α → Nat) : Prop :=
 ∀ (n : Nat) (cs : List Value) (xs : List (DataW H × List MemPlace)), xs.length = fs.length → off + tot ≤ cs.length → (∀ (i : Nat) f, fs[i]? = some f → DataW.trod enc P W base sp held n f.type ((cs.drop f.offset).take (P.cellsOf f.type)) = xs[i]?) →
  ∃ a : α, Rds (Own W) W ((cs.drop off).take tot) (cd a) ∧ ok a ∧ bk a ≤ Rows.uptoBulkAll (xs.map (·.1))
theorem opensF_nil {off : Nat} : OpensF enc P W base sp held [] off 0 Unit (fun _ => []) (fun _ => True) (fun _ => 0) := by
 intro n cs xs hx _ _
 obtain rfl := List.eq_nil_of_length_eq_zero hx
 exact ⟨(), by simpa using Rds.nil, trivial, Nat.zero_le _⟩
theorem opensF_cons {f : Field} {fs : List Field} {off k tot : Nat} {α β : Type} {cd : α → List Dat} {ok : α → Prop} {bk : α → Nat} {cd' : β → List Dat} {ok' : β → Prop} {bk' : β → Nat}
    (ho : f.offset = off) (hk : P.cellsOf f.type = k) (h : Opens enc P W base sp held f.type α cd ok bk) (hs : OpensF enc P W base sp held fs (off + k) tot β cd' ok' bk') :
    OpensF enc P W base sp held (f :: fs) off (k + tot) (α × β) (fun a => cd a.1 ++ cd' a.2) (fun a => ok a.1 ∧ ok' a.2) (fun a => bk a.1 + bk' a.2) := by
 intro n cs xs hx hc hf
 cases xs with
 | nil => simp at hx
 | cons x xs =>
   have h0 := hf 0 f rfl
   simp only [List.getElem?_cons_zero, ho, hk] at h0
   obtain ⟨a, r1, o1, b1⟩ := h _ _ _ h0
   obtain ⟨b, r2, o2, b2⟩ := hs n cs xs (by simpa using hx) (by omega) (fun i g hg => by simpa using hf (i + 1) g (by simpa using hg))
   refine ⟨(a, b), ?_, ⟨o1, o2⟩, by simp only [List.map_cons, Rows.uptoBulkAll]; omega⟩
   have e : (cs.drop off).take (k + tot) = (cs.drop off).take k ++ (cs.drop (off + k)).take tot := by
    rw [List.take_add, List.drop_drop]
   rw [e]
   exact r1.append r2
theorem opens_struct {t : TypeId} {fs : Array Field} {tot : Nat} {α : Type} {cd : α → List Dat} {ok : α → Prop} {bk : α → Nat} (ht : P.underlying t = some (.struct fs)) (hc : P.cellsOf t = tot)
    (h : OpensF enc P W base sp held fs.toList 0 tot α cd ok bk) : Opens enc P W base sp held t α cd ok (fun a => bk a + 1) := by
 intro fuel cs x hx
 obtain ⟨xs, n, _, rfl, hl, hxl, hf⟩ := DataW.trod_struct ht hx
 obtain ⟨a, r, o, b⟩ := h n cs xs (by simpa using hxl) (by omega) (fun i f hg => hf i f (by simpa using hg))
 refine ⟨a, ?_, o, by simp only [Rows.uptoBulk]; omega⟩
 have e : (cs.drop 0).take tot = cs := by rw [List.drop_zero]; exact List.take_of_length_le (by omega)
 rwa [e] at r
theorem Opens.map {t : TypeId} {α β : Type} {cd : α → List Dat} {ok : α → Prop} {bk : α → Nat} (h : Opens enc P W base sp held t α cd ok bk) (g : α → β) {cd' : β → List Dat} {ok' : β → Prop} {bk' : β → Nat}
    (hc : ∀ a, cd' (g a) = cd a) (ho : ∀ a, ok a → ok' (g a)) (hb : ∀ a, bk' (g a) ≤ bk a) : Opens enc P W base sp held t β cd' ok' bk' := by
 intro fuel cs x hx
 obtain ⟨a, r, o, b⟩ := h fuel cs x hx
 exact ⟨g a, by rw [hc]; exact r, ho a o, Nat.le_trans (hb a) b⟩

/-- An argument of one cell, opened. -/
theorem Opens.one {t : TypeId} {α : Type} {cd : α → List Dat} {ok : α → Prop} {bk : α → Nat} (h : Opens enc P W base sp held t α cd ok bk) {v : Value} {d : DataW H} {p : List MemPlace}
    (hd : DataW.Trod enc P W base sp held t v d p) : ∃ a, Rds (Own W) W v.cells.toList (cd a) ∧ ok a ∧ bk a ≤ Rows.uptoBulk d := by
 obtain ⟨fuel, hf⟩ := hd
 exact h fuel _ _ hf
theorem Rds.one {S : Nat → Prop} {w : World} {v : Value} {d : Dat} (h : Rds S w [v] [d]) : Rd S w v d := h.2 0 v d rfl rfl
theorem Rds.three {S : Nat → Prop} {w : World} {v0 v1 v2 : Value} {d0 d1 d2 : Dat} (h : Rds S w [v0, v1, v2] [d0, d1, d2]) : Rd S w v0 d0 ∧ Rd S w v1 d1 ∧ Rd S w v2 d2 :=
 ⟨h.2 0 _ _ rfl rfl, h.2 1 _ _ rfl rfl, h.2 2 _ _ rfl rfl⟩

/-- What was read of the arguments is read of them again, behind a call that turned no old memory. -/
theorem trodAll_below {W' : World} (hl : laidOutB P = true) (hb : Below W.heap.size W W') : ∀ {ts : List TypeId} {vs : List Value} {ds : List (DataW H)} {ps : List MemPlace}, (∀ t ∈ ts, P.readableRec t = true ∧ t < P.types.size) →
    DataW.TrodAll enc P W 0 (fun _ => true) true ts vs ds ps → (∀ x ∈ ps, x.block < W.heap.size) → DataW.TrodAll enc P W' 0 (fun b => decide (b < W.heap.size)) true ts vs ds ps
 | [], [], [], ps, _, h, _ => h
 | t :: ts, v :: vs, d :: ds, ps, ht, h, hlt => by
   obtain ⟨p, q, hp, hq, rfl⟩ := h
   exact ⟨p, q, Below.trod hl (ht t (by simp)).1 (ht t (by simp)).2 hp hb (fun x hx => hlt x (by simp [hx])), trodAll_below hl hb (fun t ht' => ht t (by simp [ht'])) hq (fun x hx => hlt x (by simp [hx])), rfl⟩

/-- From the walk to the row's post: the law answers true, and turned no old memory. -/
theorem law_post {fn : Func} {s : ChangeSpec} {f : FuncId} {args : Array Value} {ds gs : List (DataW H)} {before : List MemPlace} {tb : TypeId} (hl : laidOutB P = true)
    (ht : ∀ t ∈ fn.params.toList, P.readableRec t = true ∧ t < P.types.size) (hr : fn.resultTypes = #[tb]) (hb : P.underlying tb = some .bool) (hv : s.vars = [])
    (hW : DataW.Whole enc P fn.params.toList s.vars false W args.toList ds gs before) (h1 : (s.fn H (ds ++ [])).results = [.lit (.bool true)]) (h2 : (s.fn H (ds ++ [])).args = ds) (h3 : (s.fn H (ds ++ [])).vars = [])
    (calls : Calls P f args W fun e W' => e = .returned (.bool true) ∧ Below W.heap.size W W') :
    Calls P f args W fun e W' => ∃ v, e = .returned v ∧ s.post enc P fn false true false false W args v W' := by
 refine calls.mono fun e W' ⟨he, hb'⟩ => ⟨_, he, ?_⟩
 have hW' := hW
 have hlt := hW.lt
 obtain ⟨p, q, hA, hV, rfl, _, _⟩ := hW
 rw [hv] at hV
 obtain ⟨rfl, rfl⟩ := trodVars_none hV
 refine ⟨ds, [], _, [], p, [], hW', ?_, ?_, ?_, hb'.frame _, nofun⟩
 · rw [h1, hr]
   exact trodAll_cons_mk (shut_bool hb _) trodAll_mk0
 · rw [h2]
   exact trodAll_below hl hb' ht hA (fun x hx => hlt x (by simp [hx]))
 · rw [hv, h3]
   rfl
end Go.Proofs.YtcaiibkgajhohaaGreatDoor
namespace Go.Proofs.YtcaiibkgajhohaaGreatDoor
open Go.ChangeShapes Go.WideShapes Go.RowKit
theorem errOwn : ownKnob Tryz.prog.godebug = none := by kernel_rfl
theorem errLaidOut : laidOutB Tryz.prog = true := by kernel_rfl
theorem errVar : Tryz.prog.globalNamed "errors.errorType" = some 0 := by kernel_rfl
theorem errRtype : (Tryz.prog.cutTypes.find? (·.1 == "internal/reflectlite.rtype")).map (·.2) = some 192 := by kernel_rfl
theorem errOneRow : ((List.range 340).filter fun t => Tryz.prog.rowNamed t [101, 114, 114, 111, 114]) = [29] := by kernel_rfl
theorem errSize : Tryz.prog.types.size = 340 := by kernel_rfl
/-- What the condition gives a walk. -/
theorem glob_of_laid {W : World} (h : laidMetH Tryz.prog [("errors.errorType", Rows.laid_errors_errorType)] W) : Glob W := by
 have h' : laidMet Tryz.prog [] W ∧ handlesMet Tryz.prog [("errors.errorType", Rows.laid_errors_errorType)] W := h
 obtain ⟨name, u, ty, e1, e2, e3, e4, e5⟩ := h'.2 _ (List.mem_singleton.2 rfl)
 have en : name = [101, 114, 114, 111, 114] := (Option.some.inj e1).symm
 subst en
 obtain rfl := Option.some.inj (errRtype.symm.trans e2)
 have hm : ty ∈ (List.range 340).filter fun t => Tryz.prog.rowNamed t [101, 114, 114, 111, 114] := List.mem_filter.2 ⟨List.mem_range.2 (by rw [← errSize]; exact e3), e4⟩
 rw [errOneRow] at hm
 obtain rfl := List.mem_singleton.1 hm
 have hh : typeHandle Tryz.prog 29 = .pointer (some ⟨6, 29, none⟩) := by kernel_rfl
 rw [hh] at e5
 unfold Glob
 simpa using World.var?_cell errVar e5 0
/-- A world that meets the condition. -/
noncomputable def errWorld (os : Os) : World :=
 let w0 := World.holding Tryz.prog os ⟨#[], #[], []⟩
 { w0 with heap := w0.heap.modify 0 fun
     | .cells _ t frozen => .cells #[.iface 192 (.agg #[.pointer (some ⟨6, 29, none⟩)])] t frozen
     | o => o }
end Go.Proofs.YtcaiibkgajhohaaGreatDoor
namespace Go.Proofs.YtcaiibkgajhohaaGreatDoor
open Go.ChangeShapes Go.WideShapes Go.RowKit Go.Lib
def scRen : Go.Shelf.Ren := ⟨fun n => n, fun | 5 => 5 | 119 => 288 | 138 => 290 | 139 => 291 | n => n, fun | 3 => 4 | 4 => 5 | n => n⟩
theorem scTypes : U8Types Tryz.prog scRen := ⟨Tryz.underlying5, Tryz.underlying288, Tryz.underlying290, Tryz.underlying291⟩
theorem scExtra : U8Extra Tryz.prog scRen := ⟨by kernel_rfl, by kernel_rfl, by kernel_rfl, by kernel_rfl, by kernel_rfl, by kernel_rfl, by kernel_rfl⟩
theorem acc_eq : (Rows.laid_unicode_utf8_acceptRanges : DataW Unit) = acceptData := by kernel_rfl
theorem first_eq : Rows.laid_unicode_utf8_first = firstData := Pinned.utf8First_eq
theorem len2 {l : List Value} (h : l.length = 2) : ∃ a b, l = [a, b] := by
 match l, h with
 | [a, b], _ => exact ⟨a, b, rfl⟩
theorem trod_two {fuel : Nat} {fs : Array Field} {tt : TypeId} {W : World} {cs : List Value} {d0 d1 : DataW Unit} {p : List MemPlace} (ht : Tryz.prog.underlying tt = some (.struct fs)) (h : DataW.trod (fun _ => ()) Tryz.prog W 0 (fun _ => true) false fuel tt cs = some (.agg [d0, d1], p)) :
    ∃ (n : Nat) (x0 x1 : DataW Unit × List MemPlace), x0.1 = d0 ∧ x1.1 = d1 ∧ cs.length = Tryz.prog.cellsOf tt ∧ (∀ f, fs[0]? = some f → DataW.trod (fun _ => ()) Tryz.prog W 0 (fun _ => true) false n f.type ((cs.drop f.offset).take (Tryz.prog.cellsOf f.type)) = some x0) ∧ (∀ f, fs[1]? = some f → DataW.trod (fun _ => ()) Tryz.prog W 0 (fun _ => true) false n f.type ((cs.drop f.offset).take (Tryz.prog.cellsOf f.type)) = some x1) := by
 obtain ⟨xs, m, _, hx, hl, hxl, hf⟩ := DataW.trod_struct ht h
 have hx2 : xs.map (·.1) = [d0, d1] := by
  have := congrArg Prod.fst hx
  simpa using this.symm
 obtain ⟨x0, x1, rfl⟩ : ∃ x0 x1, xs = [x0, x1] := by
  match xs, hx2 with
  | [x0, x1], _ => exact ⟨x0, x1, rfl⟩
 simp only [List.map_cons, List.map_nil, List.cons.injEq, and_true] at hx2
 exact ⟨m, x0, x1, hx2.1, hx2.2, hl, fun f hf0 => hf 0 f hf0, fun f hf1 => hf 1 f hf1⟩
/-- One word of the table. -/
theorem word_cells {W : World} {fuel : Nat} {cs : List Value} {s : List UInt8} {n : Int} {p : List MemPlace}
    (h : DataW.trod (fun _ => ()) Tryz.prog W 0 (fun _ => true) false fuel 220 cs = some (.agg [.lit (.string s), .lit (.int .i64 n)], p)) : cs = [.string ⟨s.toArray⟩, .int .i64 n] := by
 obtain ⟨m, x0, x1, e0, e1, hl, hf0, hf1⟩ := trod_two Tryz.underlying220 h
 have f0 := hf0 _ rfl
 have f1 := hf1 _ rfl
 have c0 : Tryz.prog.cellsOf 9 = 1 := by kernel_rfl
 have c1 : Tryz.prog.cellsOf 3 = 1 := by kernel_rfl
 have ct : Tryz.prog.cellsOf 220 = 2 := by kernel_rfl
 change DataW.trod _ _ _ _ _ _ _ 9 ((cs.drop 0).take (Tryz.prog.cellsOf 9)) = some x0 at f0
 change DataW.trod _ _ _ _ _ _ _ 3 ((cs.drop 1).take (Tryz.prog.cellsOf 3)) = some x1 at f1
 rw [c0] at f0
 rw [c1] at f1
 rw [ct] at hl
 obtain ⟨s', k0, hd, _⟩ := DataW.trod_string Tryz.underlying9 f0
 obtain ⟨n', k1, hd1, _⟩ := DataW.trod_int Tryz.underlying3 f1
 rw [hd] at e0
 rw [hd1] at e1
 simp only [DataW.lit.injEq, Lit.string.injEq, Lit.int.injEq, true_and] at e0 e1
 subst e0
 subst e1
 obtain ⟨y0, y1, rfl⟩ := len2 hl
 have g0 : [y0] = [Value.string s'] := k0
 have g1 : [y1] = [Value.int .i64 n'] := k1
 rw [(List.cons.inj g0).1, (List.cons.inj g1).1]
theorem words_of {W : World} (h : VarReads Tryz.prog W "waybill/scan.words" Rows.laid_waybill_scan_words) : WordsT W := by
 obtain ⟨g, t, cs, fuel, p, hg, hty, hvar, hd⟩ := h
 obtain rfl := Option.some.inj ((show Tryz.prog.globalNamed "waybill/scan.words" = some 1 by kernel_rfl).symm.trans hg)
 obtain rfl := Option.some.inj ((show (Tryz.prog.globals[1]?).map (·.type) = some 221 by kernel_rfl).symm.trans hty)
 have ce : Tryz.prog.cellsOf 220 = 2 := by kernel_rfl
 have key : ∀ i, i < 3 → ∀ s n, ([DataW.agg [.lit (.string [116, 114, 117, 101]), .lit (.int .i64 9)], .agg [.lit (.string [102, 97, 108, 115, 101]), .lit (.int .i64 10)], .agg [.lit (.string [110, 117, 108, 108]), .lit (.int .i64 11)]] : List (DataW Unit))[i]? = some (.agg [.lit (.string s), .lit (.int .i64 n)]) → W.cell? ⟨1, i * 2, none⟩ = some (.string ⟨s.toArray⟩) ∧ W.cell? ⟨1, i * 2 + 1, none⟩ = some (.int .i64 n) := by
  intro i hi s n hs
  obtain ⟨fuel', d, q, hdi, he⟩ := array_elem Tryz.underlying221 hd i hi
  rw [hs] at hdi
  obtain rfl := Option.some.inj hdi
  rw [ce] at he
  have hc := word_cells he
  have e0 := congrArg (·[0]?) hc
  have e1 := congrArg (·[1]?) hc
  simp only [List.getElem?_take, List.getElem?_drop] at e0 e1
  constructor
  · rw [World.var?_cell hg hvar (i * 2), ← Array.getElem?_toList]; simpa using e0
  · rw [World.var?_cell hg hvar (i * 2 + 1), ← Array.getElem?_toList]; simpa using e1
 have k0 := key 0 (by decide) _ _ rfl
 have k1 := key 1 (by decide) _ _ rfl
 have k2 := key 2 (by decide) _ _ rfl
 exact ⟨k0.1, k0.2, k1.1, k1.2, k2.1, k2.2⟩
/-- A world that meets the conditions. -/
noncomputable def scLay (c : Array Value) : Obj → Obj
 | .cells _ t frozen => .cells c t frozen
 | o => o
noncomputable def scWorld (os : Os) : World :=
 let w0 := errWorld os
 { w0 with heap := ((w0.heap.modify 1 (scLay #[.string ⟨#[116, 114, 117, 101]⟩, .int .i64 9, .string ⟨#[102, 97, 108, 115, 101]⟩, .int .i64 10, .string ⟨#[110, 117, 108, 108]⟩, .int .i64 11])).modify 4 (scLay (firstTab.map fun z => Value.int .u8 z).toArray)).modify 5 (scLay ((List.range 16).flatMap fun i => [Value.int .u8 (accLo i : Int), Value.int .u8 (accHi i : Int)]).toArray) }
end Go.Proofs.YtcaiibkgajhohaaGreatDoor
