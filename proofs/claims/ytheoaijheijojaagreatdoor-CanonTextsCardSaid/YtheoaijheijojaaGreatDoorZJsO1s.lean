
/- JsO1, JrC3, JrC4, JrD0 in one text (a claim holds at most 60 files). -/
import Derived.Test.YtheoaijheijojaaGreatDoorZJrP1s
import Derived.RegionTactic
import Derived.BigRegion
import Derived.BigQuiet
-- @auto
namespace Go.Proofs.YtheoaijheijojaaGreatDoor
section
open Go.RowKit
/-- What a call answers: a value, and an error that is told by a number and a place. -/
def AnsPost (w : World) (chk : Int × Int) (good : Value → World → Prop) (bad : Value) (e : Ending) (w' : World) : Prop :=
  (chk.1 = 0 ∧ ∃ v, e = .returned (.tuple #[v, .nilIface]) ∧ good v w' ∧ Below w.heap.size w w') ∨
  (chk.1 ≠ 0 ∧ ∃ p, e = .returned (.tuple #[bad, .iface 115 (.pointer (some p))]) ∧ Rd (Own w') w' (.iface 115 (.pointer (some p))) (errD 115 [chk]) ∧ Below w.heap.size w w')
theorem chk_mem {js : List JN} {i : Nat} {x : JN} {kind : Int} {ks : List Int} (hx : js[i]? = some x) (hk : x.kind ∈ ks ↔ (x.kind = kind ∨ kind = 2 ∧ x.kind = 1)) : checkS js i kind = if x.kind ∈ ks then (0, 0) else (32, x.at_) := by
  rw [checkS_in hx kind]
  by_cases h : x.kind ∈ ks
  · rw [if_pos h, if_pos (hk.1 h)]
  · rw [if_neg h, if_neg (fun h2 => h (hk.2 h2))]
/-- From what `of` tells. -/
theorem of_cases {w w' : World} {js : List JN} {id : Int} {ks : List Int} {kind : Int} {e : Ending} (hk : ∀ k : Int, k ∈ ks ↔ (k = kind ∨ kind = 2 ∧ k = 1)) (h : OfPost w js id ks e w') :
    (∃ (i : Nat) (x : JN), id = i ∧ js[i]? = some x ∧ checkS js id kind = (0, 0) ∧ (x.kind = kind ∨ kind = 2 ∧ x.kind = 1) ∧ e = .returned (.tuple #[.agg #[.int .i64 x.kind, .string x.key, .string x.text, .int .i64 x.at_], .nilIface]) ∧ Below w.heap.size w w') ∨
    ((checkS js id kind).1 ≠ 0 ∧ ∃ p, e = .returned (.tuple #[.agg #[.int .i64 0, .string ⟨#[]⟩, .string ⟨#[]⟩, .int .i64 0], .iface 115 (.pointer (some p))]) ∧ Rd (Own w') w' (.iface 115 (.pointer (some p))) (errD 115 [checkS js id kind]) ∧ Below w.heap.size w w') := by
  rcases h with ⟨i, x, rfl, hx, h⟩ | ⟨hn, u, rfl, hf⟩
  · have hc := chk_mem (ks := ks) hx (hk x.kind)
    rcases h with ⟨hm, rfl, hb⟩ | ⟨hm, u, rfl, hf⟩
    · rw [if_pos hm] at hc
      exact .inl ⟨i, x, rfl, hx, hc, (hk _).1 hm, rfl, hb⟩
    · rw [if_neg hm] at hc
      refine .inr ⟨by rw [hc]; show (32 : Int) ≠ 0; decide, u, rfl, ?_, hf.2⟩
      rw [hc]; exact hf.1.wide (fun b hb => hb.2)
  · have hc := checkS_out hn kind
    refine .inr ⟨by rw [hc]; show (30 : Int) ≠ 0; decide, u, rfl, ?_, hf.2⟩
    rw [hc]; exact hf.1.wide (fun b hb => hb.2)
theorem ks1 (w : World) (k : Int) : Rd (Own (w.alloc (.cells #[.int .i64 k] 3))) (w.alloc (.cells #[.int .i64 k] 3)) (.slice (some ⟨w.heap.size, 0, none⟩) 1 1) (.list 1 (([k] : List Int).map (.int .i64))) := by
  have ho := World.ownsRow_lit (base := w.heap.size) (e := 3) (size := 1) w #[.int .i64 k] 1 (Nat.le_refl _) (by decide) rfl
  refine rd_owned ho ⟨rfl, fun j u d hu hd => ?_⟩ (fun g hg => (ho.lt g hg).2)
  cases j with
  | zero => simp at hu hd; subst hu; subst hd; exact .int _ _
  | succ j => simp at hu
set_option maxRecDepth 100000 in
set_option maxHeartbeats 4000000 in
theorem items_any (w : World) (base D T : Nat) (s : PS) (nodes : Int) (tv : Value) (ns : List ANode) (id : Int) (h : DocAt w base D s nodes T tv ns) (hj : s.js.length ≤ 100000) :
    Calls Tryz.prog 76 #[ptrV D, .int .i64 id] w (AnsPost w (checkS s.js id 5) (fun v w' => Rd (Fresh w w') w' v (intsD (kids s.ups id.toNat))) (.slice none 0 0)) := by
  have hl := h.len
  have hgl := h.good.len
  have cD := h.cD
  have hDw := heap_lt h.doc
  have OF := Lib.hid (fun ob (kv : Value) (hk : Rd (Own (w.alloc ob)) (w.alloc ob) kv (.list 1 (([5] : List Int).map (.int .i64)))) => of_any (w.alloc ob) base D T s nodes tv ns id kv [5] (h.below (ext_alloc (Below.refl _ _) ob)) (by omega) hk (by decide))
  have K5 := Lib.hid (ks1 w 5)
  have hb1 := Lib.hid (fun ob : Obj => ext_alloc (Below.refl _ w) ob)
  have H := Lib.hid h
  clear h
  go_enter Tryz.func76, Tryz.ntmps76
  go_wp2_with fail
  refine (OF.out _ _ K5.out).mono ?_
  intro e w2 hp
  rcases of_cases (kind := 5) (fun k => by simp) hp with ⟨i, x, rfl, hx, hc, _, rfl, hb2⟩ | ⟨hc, p, rfl, hr, hb2⟩
  · have HC := Lib.hid hc
    have HB2 := Lib.hid (fun ob => ext_alloc (ext_trans (hb1.out _) hb2) ob)
    have hcd : ∀ ob, (w2.alloc ob).cell? ⟨D, 0, none⟩ = some (ptrV T) := fun ob => (bcell1 (HB2.out ob) hDw 0).trans cD
    have hil := (List.getElem?_eq_some_iff.1 hx).1
    have KD := Lib.hid (fun ob => kids_any T tv ns s.ups nodes i (w2.alloc ob) ((H.out.below (HB2.out ob)).tree) H.out.good (by omega) (by omega))
    clear hp hb2 hx hc
    go_wp2_with fail
    refine (KD.out _).mono ?_
    rintro e w3 ⟨v3, rfl, hr3, hb3⟩
    have HF := Lib.hid (ext_trans (HB2.out _) hb3)
    have HR := Lib.hid (hr3.wide (S' := Fresh w w3) (fun b hb => ⟨Nat.le_trans (HB2.out _).size hb.1, hb.2⟩))
    clear hr3 hb3
    go_wp2
    go_ret2
    exact .inl ⟨by rw [HC.out], _, rfl, by rw [Int.toNat_natCast]; exact HR.out, HF.out⟩
  · have HF := Lib.hid (fun W (hW : Below w2.heap.size w2 W) => show AnsPost w (checkS s.js id 5) (fun v w' => Rd (Fresh w w') w' v (intsD (kids s.ups id.toNat))) (.slice none 0 0) (.returned (.tuple #[.slice none 0 0, .iface 115 (.pointer (some p))])) W from .inr ⟨hc, p, rfl, hr.ext hW, ext_trans (ext_trans (hb1.out _) hb2) hW⟩)
    clear hp hc hr hb2
    go_wp2
    go_ret2
    exact HF.out _ (by first | exact Below.refl _ _ | exact ext_alloc (Below.refl _ _) _)
set_option maxRecDepth 100000 in
set_option maxHeartbeats 4000000 in
theorem dtext_any (w : World) (base D T : Nat) (s : PS) (nodes : Int) (tv : Value) (ns : List ANode) (id : Int) (h : DocAt w base D s nodes T tv ns) (hj : s.js.length ≤ 100000) :
    Calls Tryz.prog 29 #[ptrV D, .int .i64 id] w (AnsPost w (checkS s.js id 4) (fun v _ => v = .string (textA s.js id.toNat).text) (.string ⟨#[]⟩)) := by
  have hDw := heap_lt h.doc
  have OF := Lib.hid (fun W (hW : Below w.heap.size w W) (kv : Value) (hk : Rd (Own W) W kv (.list 1 (([4] : List Int).map (.int .i64)))) => of_any W base D T s nodes tv ns id kv [4] (h.below hW) (by omega) hk (by decide))
  have K4 := Lib.hid (fun W => ks1 W 4)
  have hb1 := Lib.hid (fun ob : Obj => ext_alloc (Below.refl _ w) ob)
  have hb2 := Lib.hid (fun ob o2 : Obj => ext_alloc (ext_alloc (Below.refl _ w) ob) o2)
  clear h
  go_enter Tryz.func29, Tryz.ntmps29
  go_wp2_with fail
  refine (OF.out _ (by first | exact hb1.out _ | exact hb2.out _ _) _ (K4.out _)).mono ?_
  intro e w2 hp
  rcases of_cases (kind := 4) (fun k => by simp) hp with ⟨i, x, rfl, hx, hc, _, rfl, hbb⟩ | ⟨hc, p, rfl, hr, hbb⟩
  · have HC := Lib.hid hc
    have HB2 := Lib.hid (ext_trans (by first | exact hb1.out _ | exact hb2.out _ _) hbb)
    have HTX := Lib.hid (show (textA s.js i).text = x.text by unfold textA; rw [hx]; rfl)
    clear hp hbb hx hc
    go_wp2
    go_ret2
    exact .inl ⟨by rw [HC.out], _, rfl, by rw [Int.toNat_natCast, HTX.out]; rfl, (by first | exact HB2.out | exact ext_alloc HB2.out _)⟩
  · have HF := Lib.hid (fun W (hW : Below w2.heap.size w2 W) => show AnsPost w (checkS s.js id 4) (fun v _ => v = .string (textA s.js id.toNat).text) (.string ⟨#[]⟩) (.returned (.tuple #[.string ⟨#[]⟩, .iface 115 (.pointer (some p))])) W from .inr ⟨hc, p, rfl, hr.ext hW, ext_trans (ext_trans (by first | exact hb1.out _ | exact hb2.out _ _) hbb) hW⟩)
    clear hp hc hr hbb
    go_wp2
    go_ret2
    exact HF.out _ (by first | exact Below.refl _ _ | exact ext_alloc (Below.refl _ _) _)
set_option maxRecDepth 100000 in
set_option maxHeartbeats 4000000 in
theorem membersF_any (w : World) (base D T : Nat) (s : PS) (nodes : Int) (tv : Value) (ns : List ANode) (id : Int) (h : DocAt w base D s nodes T tv ns) (hj : s.js.length ≤ 100000) (hc : (checkS s.js id 6).1 ≠ 0) :
    Calls Tryz.prog 78 #[ptrV D, .int .i64 id] w (AnsPost w (checkS s.js id 6) (fun _ _ => False) (.slice none 0 0)) := by
  have hDw := heap_lt h.doc
  have OF := Lib.hid (fun W (hW : Below w.heap.size w W) (kv : Value) (hk : Rd (Own W) W kv (.list 1 (([6] : List Int).map (.int .i64)))) => of_any W base D T s nodes tv ns id kv [6] (h.below hW) (by omega) hk (by decide))
  have K4 := Lib.hid (fun W => ks1 W 6)
  have hb1 := Lib.hid (fun ob : Obj => ext_alloc (Below.refl _ w) ob)
  have hb2 := Lib.hid (fun ob o2 : Obj => ext_alloc (ext_alloc (Below.refl _ w) ob) o2)
  have HC := Lib.hid hc
  clear h hc
  go_enter Tryz.func78, Tryz.ntmps78
  go_wp2_with fail
  refine (OF.out _ (by first | exact hb1.out _ | exact hb2.out _ _) _ (K4.out _)).mono ?_
  intro e w2 hp
  rcases of_cases (kind := 6) (fun k => by simp) hp with ⟨i, x, rfl, hx, hc, _, rfl, hbb⟩ | ⟨hc, p, rfl, hr, hbb⟩
  · exact absurd (by rw [hc]) HC.out
  · have HF := Lib.hid (fun W (hW : Below w2.heap.size w2 W) => show AnsPost w (checkS s.js id 6) (fun _ _ => False) (.slice none 0 0) (.returned (.tuple #[.slice none 0 0, .iface 115 (.pointer (some p))])) W from .inr ⟨hc, p, rfl, hr.ext hW, ext_trans (ext_trans (by first | exact hb1.out _ | exact hb2.out _ _) hbb) hW⟩)
    clear hp hc hr hbb
    go_wp2
    go_ret2
    exact HF.out _ (by first | exact Below.refl _ _ | exact ext_alloc (Below.refl _ _) _)
set_option maxRecDepth 100000 in
set_option maxHeartbeats 4000000 in
theorem memberF_any (w : World) (base D T : Nat) (s : PS) (nodes : Int) (tv : Value) (ns : List ANode) (id : Int) (key : ByteArray) (h : DocAt w base D s nodes T tv ns) (hj : s.js.length ≤ 100000) (hc : (checkS s.js id 6).1 ≠ 0) :
    Calls Tryz.prog 28 #[ptrV D, .int .i64 id, .string key] w (AnsPost w (checkS s.js id 6) (fun _ _ => False) (.int .i64 0)) := by
  have hDw := heap_lt h.doc
  have OF := Lib.hid (fun W (hW : Below w.heap.size w W) (kv : Value) (hk : Rd (Own W) W kv (.list 1 (([6] : List Int).map (.int .i64)))) => of_any W base D T s nodes tv ns id kv [6] (h.below hW) (by omega) hk (by decide))
  have K4 := Lib.hid (fun W => ks1 W 6)
  have hb1 := Lib.hid (fun ob : Obj => ext_alloc (Below.refl _ w) ob)
  have hb2 := Lib.hid (fun ob o2 : Obj => ext_alloc (ext_alloc (Below.refl _ w) ob) o2)
  have HC := Lib.hid hc
  clear h hc
  go_enter Tryz.func28, Tryz.ntmps28
  go_wp2_with fail
  refine (OF.out _ (by first | exact hb1.out _ | exact hb2.out _ _) _ (K4.out _)).mono ?_
  intro e w2 hp
  rcases of_cases (kind := 6) (fun k => by simp) hp with ⟨i, x, rfl, hx, hc, _, rfl, hbb⟩ | ⟨hc, p, rfl, hr, hbb⟩
  · exact absurd (by rw [hc]) HC.out
  · have HF := Lib.hid (fun W (hW : Below w2.heap.size w2 W) => show AnsPost w (checkS s.js id 6) (fun _ _ => False) (.int .i64 0) (.returned (.tuple #[.int .i64 0, .iface 115 (.pointer (some p))])) W from .inr ⟨hc, p, rfl, hr.ext hW, ext_trans (ext_trans (by first | exact hb1.out _ | exact hb2.out _ _) hbb) hW⟩)
    clear hp hc hr hbb
    go_wp2
    go_ret2
    exact HF.out _ (by first | exact Below.refl _ _ | exact ext_alloc (Below.refl _ _) _)
end
section
open Go.RowKit
end
section
open Go.RowKit
/-- An error that is told by a number and a place, or none. -/
def ErrIs (w : World) (u : Value) (p : Int × Int) : Prop := (p.1 = 0 ∧ u = .nilIface) ∨ (p.1 ≠ 0 ∧ Rd (Own w) w u (errD 115 [p]))
theorem ErrIs.ext {w w' : World} {u : Value} {p : Int × Int} (h : ErrIs w u p) (hb : Below w.heap.size w w') : ErrIs w' u p := by
  rcases h with h | ⟨h1, h2⟩
  · exact .inl h
  · exact .inr ⟨h1, h2.ext hb⟩
end
section
open Go.RowKit
def nodeA (js : List JN) (id : Int) : JN := if 0 ≤ id then (js[id.toNat]?).getD jz else jz
theorem nodeA_in {js : List JN} {i : Nat} {x : JN} (h : js[i]? = some x) : nodeA js i = x := by unfold nodeA; rw [if_pos (by omega), Int.toNat_natCast, h]; rfl
theorem nodeA_out {js : List JN} {id : Int} (h : ¬ (0 ≤ id ∧ id < js.length)) : nodeA js id = jz := by
  unfold nodeA
  by_cases h0 : 0 ≤ id
  · rw [if_pos h0, List.getElem?_eq_none (by omega)]; rfl
  · rw [if_neg h0]
theorem checkS_zero {js : List JN} {id kind : Int} (h : (checkS js id kind).1 = 0) : ∃ (i : Nat) (x : JN), id = i ∧ js[i]? = some x ∧ (x.kind = kind ∨ kind = 2 ∧ x.kind = 1) ∧ i < js.length := by
  by_cases hid : 0 ≤ id ∧ id < js.length
  · obtain ⟨i, rfl⟩ : ∃ i : Nat, id = i := ⟨id.toNat, by omega⟩
    obtain ⟨x, hx⟩ := get_ex js i (by omega)
    rw [checkS_in hx] at h
    by_cases hk : x.kind = kind ∨ kind = 2 ∧ x.kind = 1
    · exact ⟨i, x, rfl, hx, hk, by omega⟩
    · rw [if_neg hk] at h; exact absurd h (by show ¬ (32 : Int) = 0; decide)
  · rw [checkS_out hid] at h; exact absurd h (by show ¬ (30 : Int) = 0; decide)
def UPost (w : World) (chk : Int × Int) (good : Value → World → Prop) (bad : Value) (e : Ending) (w' : World) : Prop :=
  ∃ v u, e = .returned (.tuple #[v, u]) ∧ ErrIs w' u chk ∧ (chk.1 = 0 → good v w') ∧ (chk.1 ≠ 0 → v = bad) ∧ Below w.heap.size w w'
theorem ans_u {w w' : World} {chk : Int × Int} {good : Value → World → Prop} {bad : Value} {e : Ending} (h : AnsPost w chk good bad e w') : UPost w chk good bad e w' := by
  rcases h with ⟨h0, v, rfl, hg, hb⟩ | ⟨h0, p, rfl, hr, hb⟩
  · exact ⟨v, _, rfl, .inl ⟨h0, rfl⟩, fun _ => hg, fun h => absurd h0 h, hb⟩
  · exact ⟨bad, _, rfl, .inr ⟨h0, hr⟩, fun h => absurd h h0, fun _ => rfl, hb⟩
section
variable {w : World} {base D T : Nat} {s : PS} {nodes : Int} {tv : Value} {ns : List ANode} {DR gn cn gu cu : Nat}
/-- Member's answer: a number, and an error. -/
def MuPost (w : World) (s : PS) (id : Int) (key : ByteArray) (e : Ending) (w' : World) : Prop :=
  ∃ (one : Int) (u : Value), e = .returned (.tuple #[.int .i64 one, u]) ∧ Below w.heap.size w w' ∧
    ((checkS s.js id 6).1 ≠ 0 → one = 0 ∧ ErrIs w' u (checkS s.js id 6)) ∧
    ((checkS s.js id 6).1 = 0 → one = lastK s.js (kids s.ups id.toNat) key ∧ ErrIs w' u (if anyK s.js (kids s.ups id.toNat) key = true then (0, 0) else (30, (nodeA s.js id).at_)))
theorem lastK_none {js : List JN} {l : List Nat} {key : ByteArray} (h : anyK js l key = false) : lastK js l key = 0 := by
  unfold lastK
  refine foldK_none l 0 (fun k hk e => ?_)
  rw [Bool.eq_false_iff] at h
  exact h (List.any_eq_true.2 ⟨k, hk, decide_eq_true e⟩)
end
end
end Go.Proofs.YtheoaijheijojaaGreatDoor
