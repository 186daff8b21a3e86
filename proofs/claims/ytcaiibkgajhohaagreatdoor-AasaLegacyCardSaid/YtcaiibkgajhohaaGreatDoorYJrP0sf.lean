/- The machine's steps, as the document's reader takes them. Nothing of the program. -/
import Derived.Test.YtcaiibkgajhohaaGreatDoorYArena0s
import Derived.Test.YtcaiibkgajhohaaGreatDoorYFold0s
import Derived.Test.YtcaiibkgajhohaaGreatDoorYUtf0s
import Derived.Test.YtcaiibkgajhohaaGreatDoorYQuo0f
import Derived.Test.YtcaiibkgajhohaaGreatDoorYOwn0s
import Derived.Test.YtcaiibkgajhohaaGreatDoorYQuo3f
import Derived.Test.YtcaiibkgajhohaaGreatDoorYAs1
import Derived.Test.YtcaiibkgajhohaaGreatDoorYErrs1s
import Derived.Lib.Strings
import Derived.Lib.Slices
import Derived.Lib.Walk
import Derived.Lib.Builder
import Derived.Lib.AppendStr
import Derived.Lib.UnsafeStr
import Derived.Lib.MakeNoZero
import Derived.WalkKit
import Derived.Laws.Externs
import Derived.Laws.Bits128
import Derived.Lib.IndexMore
import Derived.Test.YtcaiibkgajhohaaGreatDoorProg
import Derived.Deep.WholeRow
namespace Go.Proofs.YtcaiibkgajhohaaGreatDoor
open Go.RowKit
section
variable {B : ByteArray} {m : Bd} {i : Int} {s s' : PS} {t : Tok} {k : Nat} {p : Int} {js : List JN} {ups : List Nat} {o : Op} {r : List Op}
theorem kindS_pos {k : Int} (h : kindS t.kind = some k) : t.kind ≠ 0 := fun e => by rw [e] at h; cases h
end
end Go.Proofs.YtcaiibkgajhohaaGreatDoor
namespace Go.Proofs.YtcaiibkgajhohaaGreatDoor
open Go.RowKit
def above (cs : List Nat) (n : Nat) : Nat := (cs.filter fun c => decide (n ≤ c)).length
end Go.Proofs.YtcaiibkgajhohaaGreatDoor
namespace Go.Proofs.YtcaiibkgajhohaaGreatDoor
open Go.RowKit
/-- Small letters. -/
def lowN (c : Nat) : Nat := if 65 ≤ c ∧ c ≤ 90 then c + 32 else c
end Go.Proofs.YtcaiibkgajhohaaGreatDoor
namespace Go.Proofs.YtcaiibkgajhohaaGreatDoor
open Go.RowKit
theorem sl_both (S : ByteArray) (i j : Nat) (h : i ≤ j) (hj : j ≤ S.size) (x : ByteArray) (hx : S.extract i j = x) (W : World) : (Instr.slice 9 (.string S) (some (.int .i64 (i : Int))) (some (.int .i64 (j : Int))) none).run Tryz.prog W = .ok (.string x) W := by
 have e2 : (0 : Int) ≤ (j : Int) := by omega
 have e3 : (j : Int) ≤ (S.size : Int) := by omega
 have e4 : (i : Int) ≤ (j : Int) := by omega
 have e5 : (0 : Int) ≤ (i : Int) := by omega
 simp [Instr.slice, run_underlying Tryz.underlying9, Instr.sliceBounds, run_sliceBound, h, hj, hx]
theorem sl_from (S : ByteArray) (i : Nat) (h : i ≤ S.size) (x : ByteArray) (hx : S.extract i S.size = x) (W : World) : (Instr.slice 9 (.string S) (some (.int .i64 (i : Int))) none none).run Tryz.prog W = .ok (.string x) W := by
 simp [Instr.slice, run_underlying Tryz.underlying9, Instr.sliceBounds, run_sliceBound, h, hx]
end Go.Proofs.YtcaiibkgajhohaaGreatDoor
namespace Go.Proofs.YtcaiibkgajhohaaGreatDoor
open Go.RowKit
/-- Is a text characters' bytes? -/
def utfE (t : ByteArray) : List (Int × Int) := match charsS t 0 [] with
 | .ok _ => []
 | .no k p => [((k : Nat), p)]
theorem charsFA_no (B : ByteArray) : ∀ f i acc k p, charsF B f i acc = .no k p → k = 12 ∧ 0 ≤ p
 | 0, i, acc, k, p, h => by
   rw [charsF] at h
   split at h
   · cases h; exact ⟨rfl, by omega⟩
   · cases h
 | f + 1, i, acc, k, p, h => by
   rw [charsF] at h
   split at h
   · split at h
     · cases h; exact ⟨rfl, by omega⟩
     · exact charsFA_no B f _ _ _ _ h
   · cases h
theorem charsSA_no {B : ByteArray} {k : Nat} {p : Int} (h : charsS B 0 [] = .no k p) : k = 12 ∧ 0 ≤ p := charsFA_no _ _ _ _ _ _ h
/-- What is wrong with a pattern. -/
def globE (t : ByteArray) : List (Int × Int) := if 1024 < t.size then [(14, 1024)] else utfE t
def okGlobB (t : ByteArray) : Bool := (globE t).isEmpty
/-- The variables that there are always. -/
def ownL : List ByteArray := [⟨#[97, 108, 112, 104, 97]⟩, ⟨#[117, 112, 112, 101, 114]⟩, ⟨#[108, 111, 119, 101, 114]⟩, ⟨#[100, 105, 103, 105, 116]⟩, ⟨#[97, 108, 110, 117, 109]⟩, ⟨#[120, 100, 105, 103, 105, 116]⟩, ⟨#[114, 101, 103, 105, 111, 110]⟩, ⟨#[108, 97, 110, 103]⟩]
def ownB (t : ByteArray) : Bool := ownL.any fun x => decide (x = t)
def markedB (t : ByteArray) (marks : List UInt8) : Bool := t.data.toList.any fun c => decide (0 ≤ Go.Lib.indexByte marks c)
def okVarB (v : VaA) : Bool := decide (v.name ≠ noB) && decide (v.name.size ≤ 64) && !ownB v.name && !markedB v.name [36, 40, 41] && (utfE v.name).isEmpty && decide (v.values.length ≤ 256) && v.values.all fun t => !markedB t [36] && okGlobB t
/-- A part of a pattern: a variable, or what is between variables. -/
structure Pc where
 text : ByteArray
 var : Bool
 at_ : Nat
def ixOpen (s : ByteArray) (i : Nat) : Int := Go.Lib.index (s.extract i s.size).data.toList [36, 40]
def cutShut (s : ByteArray) (i : Nat) : List UInt8 × List UInt8 × Bool := Go.Lib.cut (s.extract i s.size).data.toList [41]
def pcAcc (s : ByteArray) (i : Nat) (m : Int) (acc : List Pc) : List Pc := if 0 < m then acc ++ [⟨s.extract i (i + m.toNat), false, i⟩] else acc
def pcF : Nat → ByteArray → Nat → List Pc → List Pc × Int
 | 0, _, _, acc => (acc, -1)
 | f + 1, s, i, acc => if s.size ≤ i then (acc, -1) else if ixOpen s i < 0 then (acc ++ [⟨s.extract i s.size, false, i⟩], -1)
   else if (cutShut s (i + (ixOpen s i).toNat + 2)).2.2 = false then (pcAcc s i (ixOpen s i) acc, ((i + (ixOpen s i).toNat : Nat) : Int))
   else pcF f s (i + (ixOpen s i).toNat + (cutShut s (i + (ixOpen s i).toNat + 2)).1.length + 3) (pcAcc s i (ixOpen s i) acc ++ [⟨⟨(cutShut s (i + (ixOpen s i).toNat + 2)).1.toArray⟩, true, i + (ixOpen s i).toNat⟩])
def piecesB (t : ByteArray) : List Pc × Int := pcF (t.size + 1) t 0 []
def okPatB (t : ByteArray) (vars : List VaA) : Bool := okGlobB t && ((piecesB t).1.all fun p => !p.var || ownB p.text || vars.any fun v => decide (v.name = p.text)) && decide ((piecesB t).2 < 0)
def asK : AsK := ⟨okVarB, okPatB, okGlobB⟩
end Go.Proofs.YtcaiibkgajhohaaGreatDoor
namespace Go.Proofs.YtcaiibkgajhohaaGreatDoor
open Go.RowKit
/-- An error, or none, told by its chain. -/
abbrev ErA (w : World) (u : Value) (c : List (Int × Int)) : Prop := Rd (Own w) w u (errD 85 c)
theorem ErA.nil {w : World} : ErA w .nilIface [] := by
 show Rd _ _ _ (errD _ [])
 simp only [errD]; exact .nilI
def GcPost (w : World) (c : List (Int × Int)) (e : Ending) (w' : World) : Prop := Below w.heap.size w w' ∧ ∃ u, e = .returned u ∧ ErA w' u c
set_option maxRecDepth 100000 in
/-- glob.Check -/
theorem gcheck_any (s : ByteArray) (w : World) (ht : Utf8T w) (hm : s.size ≤ 1100000) : Calls Tryz.prog 34 #[.string s] w (GcPost w (globE s)) := by
 by_cases hz : 1024 < s.size
 · have t1 : decide ((1024 : Int) < (s.size : Int)) = true := decide_eq_true (by omega)
   have t1' : decide (1024 < s.size) = true := decide_eq_true hz
   have hg : globE s = [(14, 1024)] := by unfold globE; rw [if_pos hz]
   rw [hg]
   have HF := Lib.hid (Rd.failed 14 1024 w)
   have HB := Lib.hid (ext_alloc (Below.refl w.heap.size w) (.cells #[.int .i64 14, .int .i64 1024, .nilIface] 89))
   clear hz hg
   go_enter Tryz.func34, Tryz.ntmps34
   go_wp2_with fail
   go_at_call 42
   refine (fail_any _ _ _).mono ?_
   rintro e w1 ⟨rfl, rfl⟩
   go_wp2
   go_ret
   exact ⟨HB.out, _, rfl, HF.out⟩
 · have t1 : decide ((1024 : Int) < (s.size : Int)) = false := decide_eq_false (by omega)
   have t1' : decide (1024 < s.size) = false := decide_eq_false hz
   have hg : globE s = utfE s := by unfold globE; rw [if_neg hz]
   rw [hg]
   obtain ⟨W0, cap, hcv, hcap, hb0, hz0, hcell⟩ := bytes_of_string s w
   have L := rd_of_cells (S := Own W0) (B := s) (b := w.heap.size) hz0 hcap hcell
   have VD := uvalid_any _ s W0 L (ht.ext hb0) hm
   unfold utfE
   obtain ⟨R, hR⟩ : ∃ R, charsS s 0 [] = R := ⟨_, rfl⟩
   rw [hR] at VD ⊢
   have VD := Lib.hid VD; have HB0 := Lib.hid hb0
   clear hm L hb0 hz0 hcell hcap hR hz hg ht
   go_enter Tryz.func34, Tryz.ntmps34
   go_wp2_with fail
   go_at_call 64
   refine VD.out.mono ?_
   intro e w1 hp
   cases R with
   | ok l =>
     obtain ⟨rfl, hb⟩ := hp
     have HB := Lib.hid (HB0.out.trans (hb.mono HB0.out.size))
     clear hb
     go_wp2
     go_ret
     exact ⟨HB.out, _, rfl, ErA.nil⟩
   | no k p =>
     obtain ⟨u, rfl, hf⟩ := hp
     have HB := Lib.hid (HB0.out.trans (hf.2.mono HB0.out.size))
     have HE : Hid (ErA w1 _ [((k : Nat), p)]) := Lib.hid (hf.1.wide (fun b hb => hb.2))
     clear hf
     go_wp2
     go_ret
     exact ⟨HB.out, _, rfl, HE.out⟩
end Go.Proofs.YtcaiibkgajhohaaGreatDoor
namespace Go.Proofs.YtcaiibkgajhohaaGreatDoor
open Go.RowKit
theorem ld_arr {P : Program} {w : World} {ops : Array Oper} {rest : List Oper} {o : Oper} {a : Act} {Q : Exit → Act → World → Prop} (t : TypeId) (b : Nat) (v : Value) (hl : (loadVar t ⟨b, 0, none⟩).run P w = .ok v w)
    (x : Operand) (hgd : o.guard = none) (ho : o.op = .load t x) (hx : a.eval x = .pointer (some ⟨b, 0, none⟩)) (hK : wpList P ops Q rest (a.put o.dst v) w) : wpList P ops Q (o :: rest) a w := by
 refine wpList_plain hgd fun K hK' => ?_
 unfold Oper.wp
 simp [execOp, ho, hx, Instr.loadAt, Instr.sureAddr, hl, Result.andThen]
 exact hK' _ _ hK
theorem ld_arrG {P : Program} {w : World} {ops : Array Oper} {rest : List Oper} {o : Oper} {a : Act} {Q : Exit → Act → World → Prop} (t : TypeId) (b : Nat) (v : Value) (hl : (loadVar t ⟨b, 0, none⟩).run P w = .ok v w)
    (x : Operand) (hgd : Region.wanted o (yielded ops a.tmps) = true) (ho : o.op = .load t x) (hx : a.eval x = .pointer (some ⟨b, 0, none⟩)) (hK : wpList P ops Q rest (a.put o.dst v) w) : wpList P ops Q (o :: rest) a w := by
 refine wpList_step fun K hK' => ?_
 rw [if_pos hgd]
 unfold Oper.wp
 simp [execOp, ho, hx, Instr.loadAt, Instr.sureAddr, hl, Result.andThen]
 exact hK' _ _ hK
theorem st_arr {P : Program} {w w' : World} {ops : Array Oper} {rest : List Oper} {o : Oper} {a : Act} {Q : Exit → Act → World → Prop} (t : TypeId) (b : Nat) (v : Value) (hl : (storeVar t ⟨b, 0, none⟩ v).run P w = .ok () w')
    (x y : Operand) (hgd : o.guard = none) (ho : o.op = .store t x y) (hx : a.eval x = .pointer (some ⟨b, 0, none⟩)) (hy : a.eval y = v) (hK : wpList P ops Q rest (a.put o.dst undef) w') : wpList P ops Q (o :: rest) a w := by
 refine wpList_plain hgd fun K hK' => ?_
 unfold Oper.wp
 simp [execOp, ho, hx, hy, Instr.storeAt, Instr.sureAddr, hl, Result.andThen]
 exact hK' _ _ hK
theorem setRow_heap {w : World} {b : Nat} {c d : Array Value} {t : TypeId} {fr : Nat × Nat} (h : w.heap[b]? = some (.cells d t fr)) : (w.setRow b c).heap[b]? = some (.cells c t fr) := by
 simp only [World.setRow]
 rw [Array.getElem?_modify, if_pos rfl, h]; rfl
theorem setRow_below {w0 w : World} {B b : Nat} {c : Array Value} (h : Below B w0 w) (hb : B ≤ b) : Below B w0 (w.setRow b c) := by
 refine ⟨h.os, h.tape, h.output, by simp only [World.setRow, Array.size_modify]; exact h.size, fun k hk => ?_⟩
 simp only [World.setRow]
 rw [Array.getElem?_modify, if_neg (by omega)]
 exact h.block k hk
theorem row_same {w : World} {b : Nat} {c : Array Value} {t : TypeId} {fr : Nat × Nat} (h : w.heap[b]? = some (.cells c t fr)) : w.setRow b c = w := by
 simp only [World.setRow]
 have : w.heap.modify b (fun o => match o with | .cells _ t f => .cells c t f | o => o) = w.heap := by
  apply Array.ext_getElem?
  intro i
  rw [Array.getElem?_modify]
  by_cases e : b = i
  · subst e; rw [if_pos rfl, h]; rfl
  · rw [if_neg e]
 exact congrArg (fun h => { w with heap := h }) this
end Go.Proofs.YtcaiibkgajhohaaGreatDoor
