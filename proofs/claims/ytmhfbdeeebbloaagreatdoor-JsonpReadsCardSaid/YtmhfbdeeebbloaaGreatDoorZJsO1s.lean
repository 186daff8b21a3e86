/- JsO1, JrC3, JrC4, JrD0, JrD2 in one text (a claim holds at most 60 files). -/
import Derived.Test.YtmhfbdeeebbloaaGreatDoorZJrP1s
import Derived.RegionTactic
import Derived.BigRegion
import Derived.BigQuiet
namespace Go.Proofs.YtmhfbdeeebbloaaGreatDoor
section
open Go.RowKit
/-- What a call answers: a value, and an error that is told by a number and a place. -/
def AnsPost (w : World) (chk : Int × Int) (good : Value → World → Prop) (bad : Value) (e : Ending) (w' : World) : Prop :=
  (chk.1 = 0 ∧ ∃ v, e = .returned (.tuple #[v, .nilIface]) ∧ good v w' ∧ Below w.heap.size w w') ∨
  (chk.1 ≠ 0 ∧ ∃ p, e = .returned (.tuple #[bad, .iface 102 (.pointer (some p))]) ∧ Rd (Own w') w' (.iface 102 (.pointer (some p))) (errD 102 [chk]) ∧ Below w.heap.size w w')
theorem chk_mem {js : List JN} {i : Nat} {x : JN} {kind : Int} {ks : List Int} (hx : js[i]? = some x) (hk : x.kind ∈ ks ↔ (x.kind = kind ∨ kind = 2 ∧ x.kind = 1)) : checkS js i kind = if x.kind ∈ ks then (0, 0) else (32, x.at_) := by
  rw [checkS_in hx kind]
  by_cases h : x.kind ∈ ks
  · rw [if_pos h, if_pos (hk.1 h)]
  · rw [if_neg h, if_neg (fun h2 => h (hk.2 h2))]
/-- From what `of` tells. -/
theorem of_cases {w w' : World} {js : List JN} {id : Int} {ks : List Int} {kind : Int} {e : Ending} (hk : ∀ k : Int, k ∈ ks ↔ (k = kind ∨ kind = 2 ∧ k = 1)) (h : OfPost w js id ks e w') :
    (∃ (i : Nat) (x : JN), id = i ∧ js[i]? = some x ∧ checkS js id kind = (0, 0) ∧ (x.kind = kind ∨ kind = 2 ∧ x.kind = 1) ∧ e = .returned (.tuple #[.agg #[.int .i64 x.kind, .string x.key, .string x.text, .int .i64 x.at_], .nilIface]) ∧ Below w.heap.size w w') ∨
    ((checkS js id kind).1 ≠ 0 ∧ ∃ p, e = .returned (.tuple #[.agg #[.int .i64 0, .string ⟨#[]⟩, .string ⟨#[]⟩, .int .i64 0], .iface 102 (.pointer (some p))]) ∧ Rd (Own w') w' (.iface 102 (.pointer (some p))) (errD 102 [checkS js id kind]) ∧ Below w.heap.size w w') := by
  rcases h with ⟨i, x, rfl, hx, h⟩ | ⟨hn, u, rfl, hf⟩
  · have hc := chk_mem (ks := ks) hx (hk x.kind)
    rcases h with ⟨hm, rfl, hb⟩ | ⟨hm, u, rfl, hf⟩
    · rw [if_pos hm] at hc
      exact .inl ⟨i, x, rfl, hx, hc, (hk _).1 hm, rfl, hb⟩
    · rw [if_neg hm] at hc
      refine .inr ⟨by rw [hc]; show (32 : Int) ≠ 0; decide, u, rfl, ?_, hf.2⟩
      rw [hc]; exact hf.1.wide (fun b hb => hb.2)
  · have hc := checkS_out hn kind
    refine .inr ⟨by rw [hc]; show (30 : Int) ≠ 0; decide, u, rfl, ?_, hf.2⟩
    rw [hc]; exact hf.1.wide (fun b hb => hb.2)
theorem ks1 (w : World) (k : Int) : Rd (Own (w.alloc (.cells #[.int .i64 k] 3))) (w.alloc (.cells #[.int .i64 k] 3)) (.slice (some ⟨w.heap.size, 0, none⟩) 1 1) (.list 1 (([k] : List Int).map (.int .i64))) := by
  have ho := World.ownsRow_lit (base := w.heap.size) (e := 3) (size := 1) w #[.int .i64 k] 1 (Nat.le_refl _) (by decide) rfl
  refine rd_owned ho ⟨rfl, fun j u d hu hd => ?_⟩ (fun g hg => (ho.lt g hg).2)
  cases j with
  | zero => simp at hu hd; subst hu; subst hd; exact .int _ _
  | succ j => simp at hu
theorem ks2 (w : World) (k l : Int) : Rd (Own (w.alloc (.cells #[.int .i64 k, .int .i64 l] 3))) (w.alloc (.cells #[.int .i64 k, .int .i64 l] 3)) (.slice (some ⟨w.heap.size, 0, none⟩) 2 2) (.list 1 (([k, l] : List Int).map (.int .i64))) := by
  have ho := World.ownsRow_lit (base := w.heap.size) (e := 3) (size := 1) w #[.int .i64 k, .int .i64 l] 2 (Nat.le_refl _) (by decide) rfl
  refine rd_owned ho ⟨rfl, fun j u d hu hd => ?_⟩ (fun g hg => (ho.lt g hg).2)
  cases j with
  | zero => simp at hu hd; subst hu; subst hd; exact .int _ _
  | succ j => cases j with
    | zero => simp at hu hd; subst hu; subst hd; exact .int _ _
    | succ j => simp at hu
set_option maxRecDepth 100000 in
set_option maxHeartbeats 4000000 in
theorem items_any (w : World) (base D T : Nat) (s : PS) (nodes : Int) (tv : Value) (ns : List ANode) (id : Int) (h : DocAt w base D s nodes T tv ns) (hj : s.js.length ≤ 100000) :
    Calls Tryz.prog 30 #[ptrV D, .int .i64 id] w (AnsPost w (checkS s.js id 5) (fun v w' => Rd (Fresh w w') w' v (intsD (kids s.ups id.toNat))) (.slice none 0 0)) := by
  have hl := h.len
  have hgl := h.good.len
  have cD := h.cD
  have hDw := heap_lt h.doc
  have OF := Lib.hid (fun ob (kv : Value) (hk : Rd (Own (w.alloc ob)) (w.alloc ob) kv (.list 1 (([5] : List Int).map (.int .i64)))) => of_any (w.alloc ob) base D T s nodes tv ns id kv [5] (h.below (ext_alloc (Below.refl _ _) ob)) (by omega) hk (by decide))
  have K5 := Lib.hid (ks1 w 5)
  have hb1 := Lib.hid (fun ob : Obj => ext_alloc (Below.refl _ w) ob)
  have H := Lib.hid h
  clear h
  go_enter Tryz.func30, Tryz.ntmps30
  go_wp2_with fail
  refine (OF.out _ _ K5.out).mono ?_
  intro e w2 hp
  rcases of_cases (kind := 5) (fun k => by simp) hp with ⟨i, x, rfl, hx, hc, _, rfl, hb2⟩ | ⟨hc, p, rfl, hr, hb2⟩
  · have HC := Lib.hid hc
    have HB2 := Lib.hid (fun ob => ext_alloc (ext_trans (hb1.out _) hb2) ob)
    have hcd : ∀ ob, (w2.alloc ob).cell? ⟨D, 0, none⟩ = some (ptrV T) := fun ob => (bcell1 (HB2.out ob) hDw 0).trans cD
    have hil := (List.getElem?_eq_some_iff.1 hx).1
    have KD := Lib.hid (fun ob => kids_any T tv ns s.ups nodes i (w2.alloc ob) ((H.out.below (HB2.out ob)).tree) H.out.good (by omega) (by omega))
    clear hp hb2 hx hc
    go_wp2_with fail
    refine (KD.out _).mono ?_
    rintro e w3 ⟨v3, rfl, hr3, hb3⟩
    have HF := Lib.hid (ext_trans (HB2.out _) hb3)
    have HR := Lib.hid (hr3.wide (S' := Fresh w w3) (fun b hb => ⟨Nat.le_trans (HB2.out _).size hb.1, hb.2⟩))
    clear hr3 hb3
    go_wp2
    go_ret2
    exact .inl ⟨by rw [HC.out], _, rfl, by rw [Int.toNat_natCast]; exact HR.out, HF.out⟩
  · have HF := Lib.hid (fun W (hW : Below w2.heap.size w2 W) => show AnsPost w (checkS s.js id 5) (fun v w' => Rd (Fresh w w') w' v (intsD (kids s.ups id.toNat))) (.slice none 0 0) (.returned (.tuple #[.slice none 0 0, .iface 102 (.pointer (some p))])) W from .inr ⟨hc, p, rfl, hr.ext hW, ext_trans (ext_trans (hb1.out _) hb2) hW⟩)
    clear hp hc hr hb2
    go_wp2
    go_ret2
    exact HF.out _ (by first | exact Below.refl _ _ | exact ext_alloc (Below.refl _ _) _)
set_option maxRecDepth 100000 in
set_option maxHeartbeats 4000000 in
theorem dtext_any (w : World) (base D T : Nat) (s : PS) (nodes : Int) (tv : Value) (ns : List ANode) (id : Int) (h : DocAt w base D s nodes T tv ns) (hj : s.js.length ≤ 100000) :
    Calls Tryz.prog 35 #[ptrV D, .int .i64 id] w (AnsPost w (checkS s.js id 4) (fun v _ => v = .string (textA s.js id.toNat).text) (.string ⟨#[]⟩)) := by
  have hDw := heap_lt h.doc
  have OF := Lib.hid (fun W (hW : Below w.heap.size w W) (kv : Value) (hk : Rd (Own W) W kv (.list 1 (([4] : List Int).map (.int .i64)))) => of_any W base D T s nodes tv ns id kv [4] (h.below hW) (by omega) hk (by decide))
  have K4 := Lib.hid (fun W => ks1 W 4)
  have hb1 := Lib.hid (fun ob : Obj => ext_alloc (Below.refl _ w) ob)
  have hb2 := Lib.hid (fun ob o2 : Obj => ext_alloc (ext_alloc (Below.refl _ w) ob) o2)
  clear h
  go_enter Tryz.func35, Tryz.ntmps35
  go_wp2_with fail
  refine (OF.out _ (by first | exact hb1.out _ | exact hb2.out _ _) _ (K4.out _)).mono ?_
  intro e w2 hp
  rcases of_cases (kind := 4) (fun k => by simp) hp with ⟨i, x, rfl, hx, hc, _, rfl, hbb⟩ | ⟨hc, p, rfl, hr, hbb⟩
  · have HC := Lib.hid hc
    have HB2 := Lib.hid (ext_trans (by first | exact hb1.out _ | exact hb2.out _ _) hbb)
    have HTX := Lib.hid (show (textA s.js i).text = x.text by unfold textA; rw [hx]; rfl)
    clear hp hbb hx hc
    go_wp2
    go_ret2
    exact .inl ⟨by rw [HC.out], _, rfl, by rw [Int.toNat_natCast, HTX.out]; rfl, (by first | exact HB2.out | exact ext_alloc HB2.out _)⟩
  · have HF := Lib.hid (fun W (hW : Below w2.heap.size w2 W) => show AnsPost w (checkS s.js id 4) (fun v _ => v = .string (textA s.js id.toNat).text) (.string ⟨#[]⟩) (.returned (.tuple #[.string ⟨#[]⟩, .iface 102 (.pointer (some p))])) W from .inr ⟨hc, p, rfl, hr.ext hW, ext_trans (ext_trans (by first | exact hb1.out _ | exact hb2.out _ _) hbb) hW⟩)
    clear hp hc hr hbb
    go_wp2
    go_ret2
    exact HF.out _ (by first | exact Below.refl _ _ | exact ext_alloc (Below.refl _ _) _)
set_option maxRecDepth 100000 in
set_option maxHeartbeats 4000000 in
theorem dflag_any (w : World) (base D T : Nat) (s : PS) (nodes : Int) (tv : Value) (ns : List ANode) (id : Int) (h : DocAt w base D s nodes T tv ns) (hj : s.js.length ≤ 100000) :
    Calls Tryz.prog 36 #[ptrV D, .int .i64 id] w (AnsPost w (checkS s.js id 2) (fun v _ => v = .bool ((textA s.js id.toNat).kind == 2)) (.bool false)) := by
  have hDw := heap_lt h.doc
  have OF := Lib.hid (fun W (hW : Below w.heap.size w W) (kv : Value) (hk : Rd (Own W) W kv (.list 1 (([2, 1] : List Int).map (.int .i64)))) => of_any W base D T s nodes tv ns id kv [2, 1] (h.below hW) (by omega) hk (by decide))
  have K4 := Lib.hid (fun W => ks2 W 2 1)
  have hb1 := Lib.hid (fun ob : Obj => ext_alloc (Below.refl _ w) ob)
  have hb2 := Lib.hid (fun ob o2 : Obj => ext_alloc (ext_alloc (Below.refl _ w) ob) o2)
  clear h
  go_enter Tryz.func36, Tryz.ntmps36
  go_wp2_with fail
  refine (OF.out _ (by first | exact hb1.out _ | exact hb2.out _ _) _ (K4.out _)).mono ?_
  intro e w2 hp
  rcases of_cases (kind := 2) (fun k => by simp) hp with ⟨i, x, rfl, hx, hc, _, rfl, hbb⟩ | ⟨hc, p, rfl, hr, hbb⟩
  · have HC := Lib.hid hc
    have HB2 := Lib.hid (ext_trans (by first | exact hb1.out _ | exact hb2.out _ _) hbb)
    have HTX := Lib.hid (show (textA s.js i).kind = x.kind by unfold textA; rw [hx]; rfl)
    clear hp hbb hx hc
    go_wp2
    go_ret2
    exact .inl ⟨by rw [HC.out], _, rfl, by rw [Int.toNat_natCast, HTX.out]; rfl, (by first | exact HB2.out | exact ext_alloc HB2.out _)⟩
  · have HF := Lib.hid (fun W (hW : Below w2.heap.size w2 W) => show AnsPost w (checkS s.js id 2) (fun v _ => v = .bool ((textA s.js id.toNat).kind == 2)) (.bool false) (.returned (.tuple #[.bool false, .iface 102 (.pointer (some p))])) W from .inr ⟨hc, p, rfl, hr.ext hW, ext_trans (ext_trans (by first | exact hb1.out _ | exact hb2.out _ _) hbb) hW⟩)
    clear hp hc hr hbb
    go_wp2
    go_ret2
    exact HF.out _ (by first | exact Below.refl _ _ | exact ext_alloc (Below.refl _ _) _)
set_option maxRecDepth 100000 in
set_option maxHeartbeats 4000000 in
theorem membersF_any (w : World) (base D T : Nat) (s : PS) (nodes : Int) (tv : Value) (ns : List ANode) (id : Int) (h : DocAt w base D s nodes T tv ns) (hj : s.js.length ≤ 100000) (hc : (checkS s.js id 6).1 ≠ 0) :
    Calls Tryz.prog 14 #[ptrV D, .int .i64 id] w (AnsPost w (checkS s.js id 6) (fun _ _ => False) (.slice none 0 0)) := by
  have hDw := heap_lt h.doc
  have OF := Lib.hid (fun W (hW : Below w.heap.size w W) (kv : Value) (hk : Rd (Own W) W kv (.list 1 (([6] : List Int).map (.int .i64)))) => of_any W base D T s nodes tv ns id kv [6] (h.below hW) (by omega) hk (by decide))
  have K4 := Lib.hid (fun W => ks1 W 6)
  have hb1 := Lib.hid (fun ob : Obj => ext_alloc (Below.refl _ w) ob)
  have hb2 := Lib.hid (fun ob o2 : Obj => ext_alloc (ext_alloc (Below.refl _ w) ob) o2)
  have HC := Lib.hid hc
  clear h hc
  go_enter Tryz.func14, Tryz.ntmps14
  go_wp2_with fail
  refine (OF.out _ (by first | exact hb1.out _ | exact hb2.out _ _) _ (K4.out _)).mono ?_
  intro e w2 hp
  rcases of_cases (kind := 6) (fun k => by simp) hp with ⟨i, x, rfl, hx, hc, _, rfl, hbb⟩ | ⟨hc, p, rfl, hr, hbb⟩
  · exact absurd (by rw [hc]) HC.out
  · have HF := Lib.hid (fun W (hW : Below w2.heap.size w2 W) => show AnsPost w (checkS s.js id 6) (fun _ _ => False) (.slice none 0 0) (.returned (.tuple #[.slice none 0 0, .iface 102 (.pointer (some p))])) W from .inr ⟨hc, p, rfl, hr.ext hW, ext_trans (ext_trans (by first | exact hb1.out _ | exact hb2.out _ _) hbb) hW⟩)
    clear hp hc hr hbb
    go_wp2
    go_ret2
    exact HF.out _ (by first | exact Below.refl _ _ | exact ext_alloc (Below.refl _ _) _)
set_option maxRecDepth 100000 in
set_option maxHeartbeats 4000000 in
theorem memberF_any (w : World) (base D T : Nat) (s : PS) (nodes : Int) (tv : Value) (ns : List ANode) (id : Int) (key : ByteArray) (h : DocAt w base D s nodes T tv ns) (hj : s.js.length ≤ 100000) (hc : (checkS s.js id 6).1 ≠ 0) :
    Calls Tryz.prog 15 #[ptrV D, .int .i64 id, .string key] w (AnsPost w (checkS s.js id 6) (fun _ _ => False) (.int .i64 0)) := by
  have hDw := heap_lt h.doc
  have OF := Lib.hid (fun W (hW : Below w.heap.size w W) (kv : Value) (hk : Rd (Own W) W kv (.list 1 (([6] : List Int).map (.int .i64)))) => of_any W base D T s nodes tv ns id kv [6] (h.below hW) (by omega) hk (by decide))
  have K4 := Lib.hid (fun W => ks1 W 6)
  have hb1 := Lib.hid (fun ob : Obj => ext_alloc (Below.refl _ w) ob)
  have hb2 := Lib.hid (fun ob o2 : Obj => ext_alloc (ext_alloc (Below.refl _ w) ob) o2)
  have HC := Lib.hid hc
  clear h hc
  go_enter Tryz.func15, Tryz.ntmps15
  go_wp2_with fail
  refine (OF.out _ (by first | exact hb1.out _ | exact hb2.out _ _) _ (K4.out _)).mono ?_
  intro e w2 hp
  rcases of_cases (kind := 6) (fun k => by simp) hp with ⟨i, x, rfl, hx, hc, _, rfl, hbb⟩ | ⟨hc, p, rfl, hr, hbb⟩
  · exact absurd (by rw [hc]) HC.out
  · have HF := Lib.hid (fun W (hW : Below w2.heap.size w2 W) => show AnsPost w (checkS s.js id 6) (fun _ _ => False) (.int .i64 0) (.returned (.tuple #[.int .i64 0, .iface 102 (.pointer (some p))])) W from .inr ⟨hc, p, rfl, hr.ext hW, ext_trans (ext_trans (by first | exact hb1.out _ | exact hb2.out _ _) hbb) hW⟩)
    clear hp hc hr hbb
    go_wp2
    go_ret2
    exact HF.out _ (by first | exact Below.refl _ _ | exact ext_alloc (Below.refl _ _) _)
end
section
open Go.RowKit
theorem elStr7 : ElemTy Tryz.prog 92 9 1 16 (.string ⟨#[]⟩) := ⟨Tryz.underlying92, by kernel_rfl, rfl, by decide⟩
def strsV (l : List ByteArray) : List Value := l.map Value.string
def strsD7 (l : List ByteArray) : Dat := .list 1 (l.map .str)
theorem strsV_rds {S : Nat → Prop} {w : World} (l : List ByteArray) : Rds S w (strsV l) (l.map Dat.str) := by
  refine ⟨by simp [strsV], fun i u d hu hd => ?_⟩
  simp only [strsV, List.getElem?_map] at hu hd
  cases h : l[i]? with
  | none => rw [h] at hu; cases hu
  | some x => rw [h] at hu hd; cases hu; cases hd; exact .str _
/-- The place of the first value that is no text. -/
def badT (js : List JN) : List Nat → Option Int
  | [] => none
  | k :: l => match js[k]? with
    | some x => if x.kind = 4 then badT js l else some x.at_
    | none => badT js l
def txtS (js : List JN) (l : List Nat) : List ByteArray := l.map fun k => (textA js k).text
theorem txtS_snoc {js : List JN} {l : List Nat} {k : Nat} {x : JN} (h : js[k]? = some x) : txtS js (l ++ [k]) = txtS js l ++ [x.text] := by simp [txtS, textA, h]
theorem txtS_len (js : List JN) (l : List Nat) : (txtS js l).length = l.length := by simp [txtS]
theorem badT_in {js : List JN} {l : List Nat} {j k : Nat} {x : JN} (hk : l[j]? = some k) (hx : js[k]? = some x) : badT js (l.drop j) = if x.kind = 4 then badT js (l.drop (j + 1)) else some x.at_ := by
  obtain ⟨hj, e⟩ := List.getElem?_eq_some_iff.1 hk
  rw [List.drop_eq_getElem_cons hj, e, badT, hx]
def RtPost7 (w : World) (js : List JN) (all : List Nat) (e : Ending) (w' : World) : Prop :=
  (badT js all = none ∧ ∃ v, e = .returned (.tuple #[v, .int .i64 0, .bool true]) ∧ Rd (Own w') w' v (strsD7 (txtS js all)) ∧ Below w.heap.size w w') ∨
  (∃ a v, badT js all = some a ∧ e = .returned (.tuple #[v, .int .i64 a, .bool false]) ∧ Below w.heap.size w w')
def RtRel7 (js : List JN) (all : List Nat) (W : World) (o k : Value) (wr : World) : Prop := ∃ j : Nat, k = .int .i64 j ∧ j ≤ all.length ∧ badT js all = badT js (all.drop j) ∧ wr.ownsRow W.heap.size 9 1 o (txtS js (all.take j)).length (strsV (txtS js (all.take j))) ∧ Below W.heap.size W wr
set_option maxRecDepth 100000 in
set_option maxHeartbeats 8000000 in
theorem rtexts7_any (w : World) (D gn cn gu cu : Nat) (s : PS) (i : Nat) (h : RView w D s gn cn gu cu) (hm : s.js.length ≤ 100000) :
    Calls Tryz.prog 38 #[ptrV D, .int .i64 i] w (RtPost7 w s.js (kids s.ups i)) := by
  have KD := rkids7_any w D gn cn gu cu s i h (by omega)
  have hmem : ∀ k ∈ kids s.ups i, k < s.js.length := fun k hk => by have := (mem_kids.1 hk).2.1; have := h.ul; omega
  have hkl := kids_le s.ups i
  generalize kids s.ups i = all at *
  have KD := Lib.hid KD
  have hul := h.ul
  have H := Lib.hid h
  have HMEM := Lib.hid hmem
  clear h hmem
  go_enter Tryz.func38, Tryz.ntmps38
  go_wp2_with fail
  refine KD.out.mono ?_
  rintro e w3 ⟨v3, rfl, hr3, hb3⟩
  have HB3 := Lib.hid hb3
  obtain ⟨a, c, rfl, _, hac, hcl⟩ := hr3.nats_inv
  have hkv : KView w3 D s gn cn gu cu a all := ⟨H.out.below hb3, fun j hj => by
    obtain ⟨b, off, h1, h2, h3⟩ := hcl (by omega)
    exact ⟨b, off, h1, h2.2, h3 j hj⟩, HMEM.out⟩
  have HKV := Lib.hid hkv
  have R0 : RtRel7 s.js all w3 (.slice (some ⟨w3.heap.size, 0, none⟩) 0 0) (.int .i64 0) (w3.alloc (.cells #[] 9)) := ⟨0, rfl, Nat.zero_le _, rfl, World.ownsRow_lit (base := w3.heap.size) (e := 9) (size := 1) w3 #[] 0 (Nat.le_refl _) (by decide) rfl, ext_alloc (Below.refl _ _) _⟩
  have HR0 := Lib.hid R0
  clear hb3 hr3 hcl hkv KD R0
  go_wp2_with fail
  go_loopw [8, 9] (RtRel7 s.js all w3) (fun _ k _ => all.length - (intOf k).toNat)
  case atStart => exact HR0.out
  case round =>
    obtain ⟨j, rfl, hja, hbd, ho, hbw⟩ := hrel
    have HO := Lib.hid ho; have HBW := Lib.hid hbw
    obtain ⟨aA, capA, rfl, _⟩ := aown_form ho
    by_cases hlt : j < all.length
    · have t1 : decide ((j : Int) < (all.length : Int)) = true := decide_eq_true (by omega)
      have t1' : decide (j < all.length) = true := decide_eq_true hlt
      have q1 : IntKind.i64.wrap ((j : Int) + 1) = (j : Int) + 1 := IntWalk.i64_in _ (by omega)
      have hkw := HKV.out.below hbw
      obtain ⟨b, off, k, x, rfl, zb, c1, hk, hx, hkj, n0, n1, n2, n3⟩ := hkw.node hlt
      have c0 := hkw.v.c0
      have zD := hkw.v.zD
      have zN := hkw.v.zN
      rw [badT_in hk hx] at hbd
      have htk : all.take (j + 1) = all.take j ++ [k] := by rw [List.take_add_one, hk]; rfl
      have hts := txtS_snoc (l := all.take j) hx
      rw [← htk] at hts
      have htl := txtS_len s.js (all.take j)
      rw [List.length_take_of_le (by omega)] at htl
      by_cases h4 : x.kind = 4
      · rw [if_pos h4] at hbd
        have t2 : (x.kind != 4) = false := by rw [h4]; rfl
        have HBD := Lib.hid hbd; have HTS := Lib.hid hts
        have HON := Lib.hid (fun W (hW : Below wr.heap.size wr W) => aown_ext HO.out (fun g hg => hW.block g (HO.out.lt g hg).2) (Nat.le_refl w3.heap.size))
        have HTL := Lib.hid htl
        clear hbd hts htk hk hx hkw ho hbw h4 htl
        go_wp2_with fail
        go_region
        all_goals
          have hbq : Below wr.heap.size wr ((wr.alloc (.cells #[.int .i64 x.kind, .string x.key, .string x.text, .int .i64 x.at_] 40)).drew) := drewN_heapB (ext_alloc (Below.refl _ wr) _) 1
          have hnb : ((wr.alloc (.cells #[.int .i64 x.kind, .string x.key, .string x.text, .int .i64 x.at_] 40)).drew).heap[wr.heap.size]? = some (.cells #[.int .i64 x.kind, .string x.key, .string x.text, .int .i64 x.at_] 40 (0, 0)) := heap_alloc_new wr _
          generalize (wr.alloc (.cells #[.int .i64 x.kind, .string x.key, .string x.text, .int .i64 x.at_] 40)).drew = wq at *
          have HBQ := Lib.hid hbq
          have kq := fun j => show wq.cell? ⟨wr.heap.size, j, none⟩ = (#[.int .i64 x.kind, .string x.key, .string x.text, .int .i64 x.at_] : Array Value)[j]? by simp [World.cell?, hnb]
          have zq := heap_lt hnb
          clear hbq hnb
          go_wp2_with (at_builtin; refine wpList_app1 wq #[.string x.text] _ rfl _ _ 92 rfl w3.heap.size elStr7 _ _ _ rfl (HON.out _ HBQ.out) rfl rfl ?c1 ?c2 ?c3 ?c4 ?_)
          case c1 => first | rfl | (intro u hu; simp at hu; subst hu; rfl)
          case c2 => rw [HTL.out]; simp [maxLen]; omega
          case c3 => rw [HTL.out]; omega
          case c4 => exact (ext_trans HBW.out HBQ.out).size
          intro v2 w2 ho2 hg2
          have hb2 : Below w3.heap.size w3 w2 := (ext_alloc (ext_trans HBW.out HBQ.out) (.cells #[.string x.text] 9)).grown hg2 (ext_alloc (ext_trans HBW.out HBQ.out) (.cells #[.string x.text] 9)).size (fun m hm => (HO.out.lt m hm).1)
          have R : RtRel7 s.js all w3 v2 (.int .i64 ((j : Int) + 1)) w2 := ⟨j + 1, by go_num, hlt, HBD.out, by rw [HTS.out]; simpa [strsV] using ho2, hb2⟩
          have HRR := Lib.hid R
          clear R ho2 hg2 hb2
          go_wp2
          refine ⟨?_, by simp [intOf]; omega⟩
          have R := HRR.out
          first | exact R | ((repeat apply Exists.intro); exact ⟨R, rfl⟩)
      · rw [if_neg h4] at hbd
        have t2 : (x.kind != 4) = true := bne_iff_ne.2 h4
        have HBD := Lib.hid hbd
        clear hbd hts htk hk hx hkw ho hbw h4 htl
        go_wp2_with fail
        go_region
        all_goals
          have hbq : Below wr.heap.size wr ((wr.alloc (.cells #[.int .i64 x.kind, .string x.key, .string x.text, .int .i64 x.at_] 40)).drew) := drewN_heapB (ext_alloc (Below.refl _ wr) _) 1
          have hnb : ((wr.alloc (.cells #[.int .i64 x.kind, .string x.key, .string x.text, .int .i64 x.at_] 40)).drew).heap[wr.heap.size]? = some (.cells #[.int .i64 x.kind, .string x.key, .string x.text, .int .i64 x.at_] 40 (0, 0)) := heap_alloc_new wr _
          generalize (wr.alloc (.cells #[.int .i64 x.kind, .string x.key, .string x.text, .int .i64 x.at_] 40)).drew = wq at *
          have HF := Lib.hid (fun n ob => drewN_heapB (ext_alloc (ext_trans HB3.out (ext_trans HBW.out hbq)) ob) n)
          have kq := fun j => show wq.cell? ⟨wr.heap.size, j, none⟩ = (#[.int .i64 x.kind, .string x.key, .string x.text, .int .i64 x.at_] : Array Value)[j]? by simp [World.cell?, hnb]
          have zq := heap_lt hnb
          clear hbq hnb
          go_wp2_with fail
          go_region
          all_goals
            go_wp2
            refine bodyPost_ret (v := .tuple #[_, .int .i64 x.at_, .bool false]) (by simp [results, Tryz.results38, go_sem]; rfl) rfl (.inr ⟨x.at_, _, HBD.out, rfl, ?_⟩)
            first | exact HF.out 0 _ | exact HF.out 1 _
    · have t1 : decide ((j : Int) < (all.length : Int)) = false := decide_eq_false (by omega)
      have t1' : decide (j < all.length) = false := decide_eq_false hlt
      obtain rfl : j = all.length := by omega
      rw [List.drop_length] at hbd
      rw [List.take_length] at ho HO ⊢
      have hrd : Rd (Own wr) wr (.slice aA (txtS s.js all).length capA) (strsD7 (txtS s.js all)) := rd_owned ho (strsV_rds _) (fun m hm => (ho.lt m hm).2)
      have HRD := Lib.hid hrd; have HF := Lib.hid (ext_trans HB3.out hbw)
      have HBD := Lib.hid hbd
      clear hrd hbw ho hbd
      go_wp2
      refine bodyPost_ret (v := .tuple #[.slice aA (txtS s.js all).length capA, .int .i64 0, .bool true]) (by simp [results, Tryz.results38, go_sem]) rfl (.inl ⟨HBD.out, _, rfl, HRD.out, HF.out⟩)
end
section
open Go.RowKit
def SameS7 (n : Nat) (W : World) (i : Value) (wr : World) : Prop := ∃ j nq : Nat, i = .int .i64 j ∧ j ≤ n ∧ wr = W.drewN nq
set_option maxRecDepth 100000 in
theorem sameS_any {S1 S2 : Nat → Prop} (v1 v2 : Value) (l : List ByteArray) (w : World) (h1 : Rd S1 w v1 (strsD7 l)) (h2 : Rd S2 w v2 (strsD7 l)) (hm : l.length ≤ 1000000) :
    Calls Tryz.prog 39 #[v1, v2] w fun e w' => e = .returned (.bool true) ∧ Below w.heap.size w w' := by
  obtain ⟨a1, c1, rfl, _, _, hc1⟩ := h1.strs_inv
  obtain ⟨a2, c2, rfl, _, _, hc2⟩ := h2.strs_inv
  have t : ((l.length : Int) != l.length) = false := by simp
  have H1 := Lib.hid hc1; have H2 := Lib.hid hc2
  clear h1 h2 hc1 hc2
  go_enter Tryz.func39, Tryz.ntmps39
  go_wp2_with fail
  go_loopw [5] (SameS7 l.length w) (fun i _ => l.length - (intOf i).toNat)
  case atStart => exact ⟨0, 0, rfl, Nat.zero_le _, rfl⟩
  case round =>
    obtain ⟨j, nq, rfl, hj, rfl⟩ := hrel
    by_cases hlt : j < l.length
    · obtain ⟨b1, o1, rfl, _, x1⟩ := H1.out (by omega)
      obtain ⟨b2, o2, rfl, _, x2⟩ := H2.out (by omega)
      obtain ⟨x, hx⟩ := get_ex l j hlt
      have y1 := x1 j x hx
      have y2 := x2 j x hx
      have t2 := beqS_t (show x = x from rfl)
      clear x1 x2 hx
      go_wp2
      go_quiet (fail)
      go_wp2
      refine ⟨?_, by simp [intOf]; omega⟩
      have R : ∀ W k, SameS7 l.length W (.int .i64 (j + 1)) (W.drewN k) := fun W k => ⟨j + 1, k, by go_num, by omega, rfl⟩
      first | exact R _ _ | ((repeat apply Exists.intro); exact ⟨R _ _, rfl⟩)
    · go_wp2
      go_ret
      exact ⟨rfl, ext_drewN _ (Below.refl _ _)⟩
/-- An error that is told by a number and a place, or none. -/
def ErrIs (w : World) (u : Value) (p : Int × Int) : Prop := (p.1 = 0 ∧ u = .nilIface) ∨ (p.1 ≠ 0 ∧ Rd (Own w) w u (errD 102 [p]))
theorem ErrIs.ext {w w' : World} {u : Value} {p : Int × Int} (h : ErrIs w u p) (hb : Below w.heap.size w w') : ErrIs w' u p := by
  rcases h with h | ⟨h1, h2⟩
  · exact .inl h
  · exact .inr ⟨h1, h2.ext hb⟩
set_option maxRecDepth 100000 in
set_option maxHeartbeats 4000000 in
theorem told7_any (w : World) (u : Value) (k a : Int) (hg : Glob w) (h : ErrIs w u (k, a)) :
    Calls Tryz.prog 11 #[u, .int .i64 k, .int .i64 a] w fun e w' => e = .returned (.bool true) ∧ Below w.heap.size w w' := by
  rcases h with ⟨h0, rfl⟩ | ⟨h0, h⟩
  · simp only at h0
    subst h0
    have KN := Lib.hid (kind_any .nilIface [] w hg (by simp only [errD]; exact .nilI))
    clear hg
    go_enter Tryz.func11, Tryz.ntmps11
    go_wp2_with fail
    refine KN.out.mono ?_
    rintro e w2 ⟨rfl, hb⟩
    have HB := Lib.hid hb
    clear hb
    simp only [kindI]
    go_wp2
    go_ret
    exact ⟨rfl, HB.out⟩
  · have KN := Lib.hid (kind_any u [(k, a)] w hg h)
    have AT := Lib.hid (fun W (hW : Below w.heap.size w W) => at_any u [(k, a)] W (hg.ext hW) (h.ext hW))
    obtain ⟨b, off, uu, rfl, _⟩ := fault_inv h
    have tk : (k == k) = true := beq_self_eq_true k
    have ta : (a == a) = true := beq_self_eq_true a
    clear hg h h0
    go_enter Tryz.func11, Tryz.ntmps11
    go_wp2_with fail
    refine KN.out.mono ?_
    rintro e w2 ⟨rfl, hb⟩
    have HB := Lib.hid hb
    clear hb
    simp only [kindI]
    go_wp2_with fail
    refine (AT.out _ HB.out).mono ?_
    rintro e w3 ⟨rfl, hb⟩
    have HB3 := Lib.hid (ext_trans HB.out hb)
    clear hb
    simp only [atI]
    go_wp2
    go_ret
    exact ⟨rfl, HB3.out⟩
def DtPost (w : World) (js : List JN) (all : List Nat) (e : Ending) (w' : World) : Prop :=
  (badT js all = none ∧ ∃ v, e = .returned (.tuple #[v, .nilIface]) ∧ Rd (Own w') w' v (strsD7 (txtS js all)) ∧ Below w.heap.size w w') ∨
  (∃ a p, badT js all = some a ∧ e = .returned (.tuple #[.slice none 0 0, .iface 102 (.pointer (some p))]) ∧ Rd (Own w') w' (.iface 102 (.pointer (some p))) (errD 102 [(32, a)]) ∧ Below w.heap.size w w')
def DtAll (w : World) (s : PS) (id : Int) (e : Ending) (w' : World) : Prop :=
  ((checkS s.js id 5).1 = 0 ∧ DtPost w s.js (kids s.ups id.toNat) e w') ∨
  ((checkS s.js id 5).1 ≠ 0 ∧ ∃ p, e = .returned (.tuple #[.slice none 0 0, .iface 102 (.pointer (some p))]) ∧ Rd (Own w') w' (.iface 102 (.pointer (some p))) (errD 102 [checkS s.js id 5]) ∧ Below w.heap.size w w')
def DtRel (js : List JN) (all : List Nat) (W : World) (o k : Value) (wr : World) : Prop := ∃ j : Nat, k = .int .i64 j ∧ j ≤ all.length ∧ badT js all = badT js (all.drop j) ∧ wr.ownsRow W.heap.size 9 1 o (txtS js (all.take j)).length (strsV (txtS js (all.take j))) ∧ Below W.heap.size W wr
set_option maxRecDepth 100000 in
set_option maxHeartbeats 8000000 in
theorem dtexts_any (w : World) (base D T : Nat) (s : PS) (nodes : Int) (tv : Value) (ns : List ANode) (id : Int) (h : DocAt w base D s nodes T tv ns) (hj : s.js.length ≤ 100000) :
    Calls Tryz.prog 37 #[ptrV D, .int .i64 id] w (DtAll w s id) := by
  have hl := h.len
  have hgl := h.good.len
  have IT := items_any w base D T s nodes tv ns id h hj
  have hmem : ∀ k ∈ kids s.ups id.toNat, k < s.js.length := fun k hk => by have := (mem_kids.1 hk).2.1; omega
  have hkl := kids_le s.ups id.toNat
  have TX := Lib.hid (fun W (hW : Below w.heap.size w W) (k : Nat) => dtext_any W base D T s nodes tv ns k (h.below hW) hj)
  unfold DtAll
  generalize kids s.ups id.toNat = all at *
  have HMEM := Lib.hid hmem
  have IT := Lib.hid IT
  clear h hmem
  go_enter Tryz.func37, Tryz.ntmps37
  go_wp2_with fail
  refine IT.out.mono ?_
  rintro e w3 (⟨hc, v3, rfl, hr3, hb3⟩ | ⟨hc, p, rfl, hr3, hb3⟩)
  · have HB3 := Lib.hid hb3
    have HC := Lib.hid hc
    obtain ⟨a, c, rfl, _, hac, hcl⟩ := hr3.nats_inv
    have hcl' : ∀ j (hj : j < all.length), ∃ b off, a = some ⟨b, off, none⟩ ∧ b < w3.heap.size ∧ w3.cell? ⟨b, off + j, none⟩ = some (.int .i64 (all[j] : Nat)) := fun j hj => by
      obtain ⟨b, off, h1, h2, h3⟩ := hcl (by omega)
      exact ⟨b, off, h1, h2.2, h3 j hj⟩
    have HCL := Lib.hid hcl'
    have R0 : DtRel s.js all w3 (.slice none 0 0) (.int .i64 0) w3 := ⟨0, rfl, Nat.zero_le _, rfl, World.ownsRow_nil _ _ _ _, Below.refl _ _⟩
    have HR0 := Lib.hid R0
    clear hb3 hr3 hcl hcl' R0 hc
    go_wp2_with fail
    go_loopw [8, 24] (DtRel s.js all w3) (fun _ k _ => all.length - (intOf k).toNat)
    case atStart => exact HR0.out
    case round =>
      obtain ⟨j, rfl, hja, hbd, ho, hbw⟩ := hrel
      have HO := Lib.hid ho; have HBW := Lib.hid hbw
      obtain ⟨aA, capA, rfl, _⟩ := aown_form ho
      by_cases hlt : j < all.length
      · have t1 : decide ((j : Int) < (all.length : Int)) = true := decide_eq_true (by omega)
        have t1' : decide (j < all.length) = true := decide_eq_true hlt
        have q1 : IntKind.i64.wrap ((j : Int) + 1) = (j : Int) + 1 := IntWalk.i64_in _ (by omega)
        obtain ⟨b, off, rfl, hbz, hcc⟩ := HCL.out j hlt
        have hcw := (bcell1 hbw hbz (off + j)).trans hcc
        have hkn := HMEM.out all[j] (List.getElem_mem hlt)
        have hk : all[j]? = some all[j] := List.getElem?_eq_getElem hlt
        generalize all[j] = k at *
        obtain ⟨x, hx⟩ := get_ex s.js k hkn
        rw [badT_in hk hx] at hbd
        have htk : all.take (j + 1) = all.take j ++ [k] := by rw [List.take_add_one, hk]; rfl
        have hts := txtS_snoc (l := all.take j) hx
        rw [← htk] at hts
        have htl := txtS_len s.js (all.take j)
        rw [List.length_take_of_le (by omega)] at htl
        have TK := TX.out wr (ext_trans HB3.out hbw) k
        have hck := checkS_in hx 4
        have htx : (textA s.js ((k : Nat) : Int).toNat).text = x.text := by rw [Int.toNat_natCast]; unfold textA; rw [hx]; rfl
        have HTX := Lib.hid htx
        have TK := Lib.hid TK; have HTL := Lib.hid htl; have HTS := Lib.hid hts
        by_cases h4 : x.kind = 4
        · rw [if_pos h4] at hbd
          rw [if_pos (.inl h4)] at hck
          have HBD := Lib.hid hbd; have HCK := Lib.hid hck
          clear hbd hts htk hk hx ho hbw h4 htl hck htx hcc
          go_wp2_with fail
          refine TK.out.mono ?_
          rintro e w5 (⟨_, v5, rfl, hv5, hb5⟩ | ⟨hc5, _⟩)
          · rw [HTX.out] at hv5
            subst hv5
            have HB5 := Lib.hid hb5
            have HBW5 := Lib.hid (ext_trans HBW.out hb5)
            have HON := Lib.hid (aown_ext (w' := w5) HO.out (fun g hg => hb5.block g (HO.out.lt g hg).2) (Nat.le_refl w3.heap.size))
            clear hb5
            go_wp2_with (at_builtin; refine wpList_app1 w5 #[.string x.text] _ rfl _ _ 92 rfl w3.heap.size elStr7 _ _ _ rfl HON.out rfl rfl ?c1 ?c2 ?c3 ?c4 ?_)
            case c1 => first | rfl | (intro u hu; simp at hu; subst hu; rfl)
            case c2 => rw [HTL.out]; simp [maxLen]; omega
            case c3 => rw [HTL.out]; omega
            case c4 => exact HBW5.out.size
            intro v2 w2 ho2 hg2
            have hb2 : Below w3.heap.size w3 w2 := (ext_alloc HBW5.out (.cells #[.string x.text] 9)).grown hg2 (ext_alloc HBW5.out (.cells #[.string x.text] 9)).size (fun m hm => (HO.out.lt m hm).1)
            have R : DtRel s.js all w3 v2 (.int .i64 ((j : Int) + 1)) w2 := ⟨j + 1, by go_num, hlt, HBD.out, by rw [HTS.out]; simpa [strsV] using ho2, hb2⟩
            have HRR := Lib.hid R
            clear R ho2 hg2 hb2
            go_wp2
            refine ⟨?_, by simp [intOf]; omega⟩
            have R := HRR.out
            first | exact R | ((repeat apply Exists.intro); exact ⟨R, rfl⟩)
          · exact absurd (by rw [HCK.out]) hc5
        · rw [if_neg h4] at hbd
          rw [if_neg (fun h => h.elim h4 (fun h => absurd h.1 (by decide)))] at hck
          have HBD := Lib.hid hbd; have HCK := Lib.hid hck
          clear hbd hts htk hk hx ho hbw h4 htl hck htx hcc
          go_wp2_with fail
          refine TK.out.mono ?_
          rintro e w5 (⟨hc5, _⟩ | ⟨_, p, rfl, hr5, hb5⟩)
          · rw [HCK.out] at hc5; exact absurd hc5 (by show ¬ (32 : Int) = 0; decide)
          · rw [HCK.out] at hr5
            have HF := Lib.hid (ext_trans HB3.out (ext_trans HBW.out hb5)); have HR := Lib.hid hr5
            clear hb5 hr5
            go_wp2
            go_ret2
            exact .inl ⟨HC.out, .inr ⟨x.at_, p, HBD.out, rfl, HR.out, HF.out⟩⟩
      · have t1 : decide ((j : Int) < (all.length : Int)) = false := decide_eq_false (by omega)
        have t1' : decide (j < all.length) = false := decide_eq_false hlt
        obtain rfl : j = all.length := by omega
        rw [List.drop_length] at hbd
        rw [List.take_length] at ho HO ⊢
        have hrd : Rd (Own wr) wr (.slice aA (txtS s.js all).length capA) (strsD7 (txtS s.js all)) := rd_owned ho (strsV_rds _) (fun m hm => (ho.lt m hm).2)
        have HRD := Lib.hid hrd; have HF := Lib.hid (ext_trans HB3.out hbw)
        have HBD := Lib.hid hbd
        clear hrd hbw ho hbd
        go_wp2
        go_ret2
        exact .inl ⟨HC.out, .inl ⟨HBD.out, _, rfl, HRD.out, HF.out⟩⟩
  · have HF := Lib.hid hb3; have HR := Lib.hid hr3; have HC := Lib.hid hc
    clear hb3 hr3 hc
    go_wp2
    go_ret2
    exact .inr ⟨HC.out, p, rfl, HR.out, HF.out⟩
end
section
open Go.RowKit
def nodeA (js : List JN) (id : Int) : JN := if 0 ≤ id then (js[id.toNat]?).getD jz else jz
theorem nodeA_in {js : List JN} {i : Nat} {x : JN} (h : js[i]? = some x) : nodeA js i = x := by unfold nodeA; rw [if_pos (by omega), Int.toNat_natCast, h]; rfl
theorem nodeA_out {js : List JN} {id : Int} (h : ¬ (0 ≤ id ∧ id < js.length)) : nodeA js id = jz := by
  unfold nodeA
  by_cases h0 : 0 ≤ id
  · rw [if_pos h0, List.getElem?_eq_none (by omega)]; rfl
  · rw [if_neg h0]
theorem checkS_zero {js : List JN} {id kind : Int} (h : (checkS js id kind).1 = 0) : ∃ (i : Nat) (x : JN), id = i ∧ js[i]? = some x ∧ (x.kind = kind ∨ kind = 2 ∧ x.kind = 1) ∧ i < js.length := by
  by_cases hid : 0 ≤ id ∧ id < js.length
  · obtain ⟨i, rfl⟩ : ∃ i : Nat, id = i := ⟨id.toNat, by omega⟩
    obtain ⟨x, hx⟩ := get_ex js i (by omega)
    rw [checkS_in hx] at h
    by_cases hk : x.kind = kind ∨ kind = 2 ∧ x.kind = 1
    · exact ⟨i, x, rfl, hx, hk, by omega⟩
    · rw [if_neg hk] at h; exact absurd h (by show ¬ (32 : Int) = 0; decide)
  · rw [checkS_out hid] at h; exact absurd h (by show ¬ (30 : Int) = 0; decide)
def UPost (w : World) (chk : Int × Int) (good : Value → World → Prop) (bad : Value) (e : Ending) (w' : World) : Prop :=
  ∃ v u, e = .returned (.tuple #[v, u]) ∧ ErrIs w' u chk ∧ (chk.1 = 0 → good v w') ∧ (chk.1 ≠ 0 → v = bad) ∧ Below w.heap.size w w'
theorem ans_u {w w' : World} {chk : Int × Int} {good : Value → World → Prop} {bad : Value} {e : Ending} (h : AnsPost w chk good bad e w') : UPost w chk good bad e w' := by
  rcases h with ⟨h0, v, rfl, hg, hb⟩ | ⟨h0, p, rfl, hr, hb⟩
  · exact ⟨v, _, rfl, .inl ⟨h0, rfl⟩, fun _ => hg, fun h => absurd h0 h, hb⟩
  · exact ⟨bad, _, rfl, .inr ⟨h0, hr⟩, fun h => absurd h h0, fun _ => rfl, hb⟩
/-- Both documents in memory. -/
structure Both (w : World) (base D T : Nat) (s : PS) (nodes : Int) (tv : Value) (ns : List ANode) (DR gn cn gu cu : Nat) : Prop where
  d : DocAt w base D s nodes T tv ns
  v : RView w DR s gn cn gu cu
  jl : s.js.length ≤ 100000
  ks : ∀ k, (keyA s.js k).size ≤ maxLen
  gl : Glob w
theorem Both.below {w w' : World} {base D T : Nat} {s : PS} {nodes : Int} {tv : Value} {ns : List ANode} {DR gn cn gu cu : Nat} (h : Both w base D T s nodes tv ns DR gn cn gu cu) (hb : Below w.heap.size w w') : Both w' base D T s nodes tv ns DR gn cn gu cu :=
  ⟨h.d.below hb, h.v.below hb, h.jl, h.ks, h.gl.ext hb⟩
section
variable {w : World} {base D T : Nat} {s : PS} {nodes : Int} {tv : Value} {ns : List ANode} {DR gn cn gu cu : Nat}
theorem node_u (h : Both w base D T s nodes tv ns DR gn cn gu cu) (id : Int) : Calls Tryz.prog 28 #[ptrV D, .int .i64 id] w fun e w' => e = .returned (.tuple #[.agg #[.int .i64 (nodeA s.js id).kind, .string (nodeA s.js id).key, .string (nodeA s.js id).text, .int .i64 (nodeA s.js id).at_], .bool (decide (0 ≤ id ∧ id < s.js.length))]) ∧ Below w.heap.size w w' :=
  (node_any w base D T s nodes tv ns id h.d (by have := h.jl; omega)).mono (fun e w' hp => by
    rcases hp with ⟨i, x, rfl, hx, rfl, hb⟩ | ⟨hn, rfl, hb⟩
    · have := (List.getElem?_eq_some_iff.1 hx).1
      rw [nodeA_in hx, decide_eq_true (by omega : 0 ≤ (i : Int) ∧ (i : Int) < s.js.length)]
      exact ⟨rfl, hb⟩
    · rw [nodeA_out hn, decide_eq_false hn]
      exact ⟨rfl, hb⟩)
theorem items_u (h : Both w base D T s nodes tv ns DR gn cn gu cu) (id : Int) : Calls Tryz.prog 30 #[ptrV D, .int .i64 id] w (UPost w (checkS s.js id 5) (fun v w' => Rd (Own w') w' v (intsD (kids s.ups id.toNat))) (.slice none 0 0)) :=
  (items_any w base D T s nodes tv ns id h.d h.jl).mono (fun e w' hp => by
    have := ans_u hp
    obtain ⟨v, u, h1, h2, h3, h4, h5⟩ := this
    exact ⟨v, u, h1, h2, fun h => (h3 h).wide (fun b hb => hb.2), h4, h5⟩)
theorem text_u (h : Both w base D T s nodes tv ns DR gn cn gu cu) (id : Int) : Calls Tryz.prog 35 #[ptrV D, .int .i64 id] w (UPost w (checkS s.js id 4) (fun v _ => v = .string (nodeA s.js id).text) (.string ⟨#[]⟩)) :=
  (dtext_any w base D T s nodes tv ns id h.d h.jl).mono (fun e w' hp => by
    obtain ⟨v, u, h1, h2, h3, h4, h5⟩ := ans_u hp
    refine ⟨v, u, h1, h2, fun h0 => ?_, h4, h5⟩
    obtain ⟨i, x, rfl, hx, _, _⟩ := checkS_zero h0
    rw [h3 h0, nodeA_in hx]
    unfold textA
    rw [Int.toNat_natCast, hx]; rfl)
theorem flag_u (h : Both w base D T s nodes tv ns DR gn cn gu cu) (id : Int) : Calls Tryz.prog 36 #[ptrV D, .int .i64 id] w (UPost w (checkS s.js id 2) (fun v _ => v = .bool ((nodeA s.js id).kind == 2)) (.bool false)) :=
  (dflag_any w base D T s nodes tv ns id h.d h.jl).mono (fun e w' hp => by
    obtain ⟨v, u, h1, h2, h3, h4, h5⟩ := ans_u hp
    refine ⟨v, u, h1, h2, fun h0 => ?_, h4, h5⟩
    obtain ⟨i, x, rfl, hx, _, _⟩ := checkS_zero h0
    rw [h3 h0, nodeA_in hx]
    unfold textA
    rw [Int.toNat_natCast, hx]; rfl)
theorem members_u (h : Both w base D T s nodes tv ns DR gn cn gu cu) (id : Int) : Calls Tryz.prog 14 #[ptrV D, .int .i64 id] w (UPost w (checkS s.js id 6) (fun v w' => Rd (Own w') w' v (intsD (membersS s.js (kids s.ups id.toNat)))) (.slice none 0 0)) := by
  by_cases h0 : (checkS s.js id 6).1 = 0
  · obtain ⟨i, x, rfl, hx, hk, _⟩ := checkS_zero h0
    have h6 : x.kind = 6 := by
      rcases hk with hk | ⟨hk, _⟩
      · exact hk
      · cases hk
    refine (members_any w base D T s nodes tv ns i x h.d h.jl hx h6 h.ks).mono (fun e w' hp => ?_)
    obtain ⟨v, rfl, hr, hb⟩ := hp
    exact ⟨v, _, rfl, .inl ⟨h0, rfl⟩, fun _ => by rw [Int.toNat_natCast]; exact hr.wide (fun b hb => hb.2), fun h => absurd h0 h, hb⟩
  · refine (membersF_any w base D T s nodes tv ns id h.d h.jl h0).mono (fun e w' hp => ?_)
    obtain ⟨v, u, h1, h2, h3, h4, h5⟩ := ans_u hp
    exact ⟨v, u, h1, h2, fun h => absurd h h0, h4, h5⟩
/-- Member's answer: a number, and an error. -/
def MuPost (w : World) (s : PS) (id : Int) (key : ByteArray) (e : Ending) (w' : World) : Prop :=
  ∃ (one : Int) (u : Value), e = .returned (.tuple #[.int .i64 one, u]) ∧ Below w.heap.size w w' ∧
    ((checkS s.js id 6).1 ≠ 0 → one = 0 ∧ ErrIs w' u (checkS s.js id 6)) ∧
    ((checkS s.js id 6).1 = 0 → one = lastK s.js (kids s.ups id.toNat) key ∧ ErrIs w' u (if anyK s.js (kids s.ups id.toNat) key = true then (0, 0) else (30, (nodeA s.js id).at_)))
theorem lastK_none {js : List JN} {l : List Nat} {key : ByteArray} (h : anyK js l key = false) : lastK js l key = 0 := by
  unfold lastK
  refine foldK_none l 0 (fun k hk e => ?_)
  rw [Bool.eq_false_iff] at h
  exact h (List.any_eq_true.2 ⟨k, hk, decide_eq_true e⟩)
theorem member_u (h : Both w base D T s nodes tv ns DR gn cn gu cu) (id : Int) (key : ByteArray) : Calls Tryz.prog 15 #[ptrV D, .int .i64 id, .string key] w (MuPost w s id key) := by
  by_cases h0 : (checkS s.js id 6).1 = 0
  · obtain ⟨i, x, rfl, hx, hk, _⟩ := checkS_zero h0
    have h6 : x.kind = 6 := by
      rcases hk with hk | ⟨hk, _⟩
      · exact hk
      · cases hk
    refine (member_any w base D T s nodes tv ns i x key h.d h.jl hx h6).mono (fun e w' hp => ?_)
    rcases hp with ⟨ha, rfl, hb⟩ | ⟨ha, u, rfl, hf⟩
    · refine ⟨_, _, rfl, hb, fun h => absurd h0 h, fun _ => ?_⟩
      rw [Int.toNat_natCast, ha, if_pos rfl]
      exact ⟨rfl, .inl ⟨rfl, rfl⟩⟩
    · refine ⟨_, _, rfl, hf.2, fun h => absurd h0 h, fun _ => ?_⟩
      rw [Int.toNat_natCast, ha, if_neg (by decide), nodeA_in hx, lastK_none ha]
      exact ⟨rfl, .inr ⟨by show (30 : Int) ≠ 0; decide, hf.1.wide (fun b hb => hb.2)⟩⟩
  · refine (memberF_any w base D T s nodes tv ns id key h.d h.jl h0).mono (fun e w' hp => ?_)
    rcases hp with ⟨h1, _⟩ | ⟨_, p, rfl, hr, hb⟩
    · exact absurd h1 h0
    · exact ⟨0, _, rfl, hb, fun _ => ⟨rfl, .inr ⟨h0, hr⟩⟩, fun h => absurd h h0⟩
end
end
section
open Go.RowKit
set_option maxRecDepth 100000 in
set_option maxHeartbeats 16000000 in
theorem texts7_any (w : World) (base D T : Nat) (s : PS) (nodes : Int) (tv : Value) (ns : List ANode) (DR gn cn gu cu : Nat) (id : Int) (h : Both w base D T s nodes tv ns DR gn cn gu cu) :
    Calls Tryz.prog 13 #[ptrV D, ptrV DR, .int .i64 id] w fun e w' => e = .returned (.bool true) ∧ Below w.heap.size w w' := by
  have HB := Lib.hid (fun W (hW : Below w.heap.size w W) => h.below hW)
  have DT := dtexts_any w base D T s nodes tv ns id h.d h.jl
  have hjl := h.jl
  have HJL := Lib.hid hjl
  have DT := Lib.hid DT
  clear h hjl
  have TD := Lib.hid (fun W (hW : Below w.heap.size w W) u k a (he : ErrIs W u (k, a)) => told7_any W u k a (HB.out W hW).gl he)
  have CK := Lib.hid (fun W (hW : Below w.heap.size w W) kind => rcheck_any W DR gn cn gu cu s id kind (HB.out W hW).v (by have := HJL.out; omega))
  go_enter Tryz.func13, Tryz.ntmps13
  go_wp2_with fail
  refine DT.out.mono ?_
  rintro e w1 (⟨h0, hp⟩ | ⟨h0, p, rfl, hr, hb⟩)
  · obtain ⟨i, x, rfl, hx, _, hil⟩ := checkS_zero h0
    obtain ⟨c5, a5, hc5⟩ : ∃ c5 a5, checkS s.js (i : Int) 5 = (c5, a5) := ⟨_, _, rfl⟩
    rw [hc5] at h0
    simp only at h0
    subst h0
    rw [Int.toNat_natCast] at hp
    have hkl := kids_le s.ups i
    have hul := (HB.out w (Below.refl _ _)).v.ul
    generalize hkk : kids s.ups i = kk at *
    have HKK := Lib.hid hkk
    have HC5 := Lib.hid hc5
    have RT := Lib.hid (fun W (hW : Below w.heap.size w W) => by
      have := rtexts7_any W DR gn cn gu cu s i (HB.out W hW).v HJL.out
      rw [HKK.out] at this
      exact this)
    have htl := txtS_len s.js kk
    have hkm : (txtS s.js kk).length ≤ 1000000 := by have := HJL.out; omega
    clear hkk hkl hul hc5 hx hil htl
    rcases hp with ⟨hbd, v, rfl, hr, hb⟩ | ⟨a, p, hbd, rfl, hr, hb⟩
    · obtain ⟨aa, cc, rfl, _, _, _⟩ := hr.strs_inv
      have HBD := Lib.hid hbd; have HR := Lib.hid hr; have HW1 := Lib.hid hb
      have CK1 := CK.out w1 hb 5
      rw [HC5.out] at CK1
      have CK1 := Lib.hid CK1
      clear hbd hr hb
      go_wp2_with fail
      refine CK1.out.mono ?_
      rintro e w2 ⟨rfl, hb2⟩
      have HW2 := Lib.hid (ext_trans HW1.out hb2)
      have HR2 := Lib.hid (HR.out.ext hb2)
      clear hb2
      (try simp only)
      go_wp2_with fail
      refine (RT.out w2 HW2.out).mono ?_
      rintro e w3 (⟨_, v3, rfl, hr3, hb3⟩ | ⟨a3, v3, hbd3, _⟩)
      · have SM := Lib.hid (sameS_any _ _ _ w3 (HR2.out.ext hb3) hr3 hkm)
        have HW3 := Lib.hid (ext_trans HW2.out hb3)
        clear hr3 hb3
        go_wp2_with fail
        refine SM.out.mono ?_
        rintro e w4 ⟨rfl, hb4⟩
        have HW4 := Lib.hid (ext_trans HW3.out hb4)
        clear hb4
        go_wp2
        go_ret
        exact ⟨rfl, HW4.out⟩
      · rw [HBD.out] at hbd3; cases hbd3
    · have HBD := Lib.hid hbd; have HR := Lib.hid hr; have HW1 := Lib.hid hb
      have CK1 := CK.out w1 hb 5
      rw [HC5.out] at CK1
      have CK1 := Lib.hid CK1
      clear hbd hr hb
      go_wp2_with fail
      refine CK1.out.mono ?_
      rintro e w2 ⟨rfl, hb2⟩
      have HW2 := Lib.hid (ext_trans HW1.out hb2)
      have HR2 := Lib.hid (HR.out.ext hb2)
      clear hb2
      (try simp only)
      go_wp2_with fail
      refine (RT.out w2 HW2.out).mono ?_
      rintro e w3 (⟨hbd3, _⟩ | ⟨a3, v3, hbd3, rfl, hb3⟩)
      · rw [HBD.out] at hbd3; cases hbd3
      · rw [HBD.out] at hbd3
        cases hbd3
        have HW3 := Lib.hid (ext_trans HW2.out hb3)
        have TD3 := Lib.hid (TD.out w3 HW3.out _ 32 a (.inr ⟨by show (32 : Int) ≠ 0; decide, HR2.out.ext hb3⟩))
        clear hb3
        go_wp2_with fail
        refine TD3.out.mono ?_
        rintro e w4 ⟨rfl, hb4⟩
        have HW4 := Lib.hid (ext_trans HW3.out hb4)
        clear hb4
        go_wp2
        go_ret
        exact ⟨rfl, HW4.out⟩
  · obtain ⟨c5, a5, hc5⟩ : ∃ c5 a5, checkS s.js id 5 = (c5, a5) := ⟨_, _, rfl⟩
    rw [hc5] at h0 hr
    simp only at h0
    have t1 : (c5 != 0) = true := bne_iff_ne.2 h0
    have HR := Lib.hid hr; have HW1 := Lib.hid hb; have H0 := Lib.hid h0
    have CK1 := CK.out w1 hb 5
    rw [hc5] at CK1
    have CK1 := Lib.hid CK1
    clear hr hb hc5 h0
    go_wp2_with fail
    refine CK1.out.mono ?_
    rintro e w2 ⟨rfl, hb2⟩
    have HW2 := Lib.hid (ext_trans HW1.out hb2)
    have TD3 := Lib.hid (TD.out w2 HW2.out _ c5 a5 (.inr ⟨H0.out, HR.out.ext hb2⟩))
    clear hb2
    (try simp only)
    go_wp2_with fail
    refine TD3.out.mono ?_
    rintro e w4 ⟨rfl, hb4⟩
    have HW4 := Lib.hid (ext_trans HW2.out hb4)
    clear hb4
    go_wp2
    go_ret
    exact ⟨rfl, HW4.out⟩
end
end Go.Proofs.YtmhfbdeeebbloaaGreatDoor
