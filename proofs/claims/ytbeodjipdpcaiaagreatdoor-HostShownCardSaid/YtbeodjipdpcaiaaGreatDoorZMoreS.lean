
/- Further items of ZLib0s, ZPun0s, ZQuo0s, ZLab0s, ZDec0s, ZOwn0s, ZTxtWs, ZQuo3s, ZHsw4s, ZHlw1. -/
import Derived.Test.YtbeodjipdpcaiaaGreatDoorZLib0s
import Derived.Test.YtbeodjipdpcaiaaGreatDoorZChr1s
import Derived.WalkKit
import Derived.Lib.Hide
import Derived.Deep.QuietTactic
import Derived.BigQuiet
import Derived.ProofKit
import Derived.OpenShut
import Derived.Lib.LaidTab
import Derived.Test.YtbeodjipdpcaiaaGreatDoorZPun0s
import Derived.Test.YtbeodjipdpcaiaaGreatDoorZQuo0s
import Derived.Test.YtbeodjipdpcaiaaGreatDoorZLab0s
import Derived.Lib.Strings
import Derived.Test.YtbeodjipdpcaiaaGreatDoorZDec0s
import Derived.Test.YtbeodjipdpcaiaaGreatDoorZOwn0s
import Derived.Laws.OwnMore
import Derived.Lib.SmallJoins
import Derived.Laws.BytesString
import Derived.Deep.AppendLies
import Derived.Lib.RuneBytes
import Derived.Test.YtbeodjipdpcaiaaGreatDoorZTxtWs
import Derived.Sort.OwnSorted
import Derived.Lib.RowBridge
import Derived.Test.YtbeodjipdpcaiaaGreatDoorZQuo3s
import Derived.Test.YtbeodjipdpcaiaaGreatDoorZHsw4s
import Derived.Test.YtbeodjipdpcaiaaGreatDoorZHlw1
-- @auto
namespace Go.Proofs.YtbeodjipdpcaiaaGreatDoor
section
section
open Go.RowKit

section
variable {S : Nat → Prop} {w : World} {v : Value}
end

/-- What was appended is written nowhere but into the row's own block. -/
theorem grown_below {W w w' : World} {B : Nat} {base : Nat} {e : TypeId} {sz n : Nat} {v : Value} {xs : List Value} (h : Below B W w) (hown : w.ownsRow base e sz v n xs) (hg : w.grownBy w' v.ownBlock) (hB : B ≤ w.heap.size) (hb : B ≤ base) : Below B W w' :=
  h.grown hg hB (fun k hk => Nat.le_trans hb (hown.lt k hk).1)
end
section
open Go.RowKit Go.ChangeShapes Go.WideShapes
variable {H : Type} {enc : TypeId × Value → H} {P : Program} {W : World} {base : Nat} {sp : Nat → Bool} {held : Bool}

theorem opens_int {t : TypeId} {k : IntKind} (ht : P.underlying t = some (.int k)) : Opens enc P W base sp held t Int (fun n => [.int k n]) (fun n => (Lit.int k n).wf = true) (fun _ => 1) := by
  intro fuel cs x h
  obtain ⟨n, rfl, rfl, hw⟩ := DataW.trod_int ht h
  exact ⟨n, .cons (.int _ _) .nil, hw, by simp [Rows.uptoBulk]⟩
/-- A row of fields, the first of which lies at offset off. -/
def OpensF (enc : TypeId × Value → H) (P : Program) (W : World) (base : Nat) (sp : Nat → Bool) (held : Bool) (fs : List Field) (off tot : Nat) (α : Type) (cd : α → List Dat) (ok : α → Prop) (bk : α → Nat) : Prop :=
  ∀ (n : Nat) (cs : List Value) (xs : List (DataW H × List MemPlace)), xs.length = fs.length → off + tot ≤ cs.length → (∀ (i : Nat) f, fs[i]? = some f → DataW.trod enc P W base sp held n f.type ((cs.drop f.offset).take (P.cellsOf f.type)) = xs[i]?) →
    ∃ a : α, Rds (Own W) W ((cs.drop off).take tot) (cd a) ∧ ok a ∧ bk a ≤ Rows.uptoBulkAll (xs.map (·.1))
theorem opensF_nil {off : Nat} : OpensF enc P W base sp held [] off 0 Unit (fun _ => []) (fun _ => True) (fun _ => 0) := by
  intro n cs xs hx _ _
  obtain rfl := List.eq_nil_of_length_eq_zero hx
  exact ⟨(), by simpa using Rds.nil, trivial, Nat.zero_le _⟩
theorem opensF_cons {f : Field} {fs : List Field} {off k tot : Nat} {α β : Type} {cd : α → List Dat} {ok : α → Prop} {bk : α → Nat} {cd' : β → List Dat} {ok' : β → Prop} {bk' : β → Nat}
    (ho : f.offset = off) (hk : P.cellsOf f.type = k) (h : Opens enc P W base sp held f.type α cd ok bk) (hs : OpensF enc P W base sp held fs (off + k) tot β cd' ok' bk') :
    OpensF enc P W base sp held (f :: fs) off (k + tot) (α × β) (fun a => cd a.1 ++ cd' a.2) (fun a => ok a.1 ∧ ok' a.2) (fun a => bk a.1 + bk' a.2) := by
  intro n cs xs hx hc hf
  cases xs with
  | nil => simp at hx
  | cons x xs =>
    have h0 := hf 0 f rfl
    simp only [List.getElem?_cons_zero, ho, hk] at h0
    obtain ⟨a, r1, o1, b1⟩ := h _ _ _ h0
    obtain ⟨b, r2, o2, b2⟩ := hs n cs xs (by simpa using hx) (by omega) (fun i g hg => by simpa using hf (i + 1) g (by simpa using hg))
    refine ⟨(a, b), ?_, ⟨o1, o2⟩, by simp only [List.map_cons, Rows.uptoBulkAll]; omega⟩
    have e : (cs.drop off).take (k + tot) = (cs.drop off).take k ++ (cs.drop (off + k)).take tot := by
      rw [List.take_add, List.drop_drop]
    rw [e]
    exact r1.append r2
theorem opens_struct {t : TypeId} {fs : Array Field} {tot : Nat} {α : Type} {cd : α → List Dat} {ok : α → Prop} {bk : α → Nat} (ht : P.underlying t = some (.struct fs)) (hc : P.cellsOf t = tot)
    (h : OpensF enc P W base sp held fs.toList 0 tot α cd ok bk) : Opens enc P W base sp held t α cd ok (fun a => bk a + 1) := by
  intro fuel cs x hx
  obtain ⟨xs, n, _, rfl, hl, hxl, hf⟩ := DataW.trod_struct ht hx
  obtain ⟨a, r, o, b⟩ := h n cs xs (by simpa using hxl) (by omega) (fun i f hg => hf i f (by simpa using hg))
  refine ⟨a, ?_, o, by simp only [Rows.uptoBulk]; omega⟩
  have e : (cs.drop 0).take tot = cs := by rw [List.drop_zero]; exact List.take_of_length_le (by omega)
  rwa [e] at r
end
section
open Go.RowKit
end
end
section
section
open Go.RowKit
end
section
open Go.RowKit
theorem bytesL_append (a b : List Nat) : bytesL (a ++ b) = bytesL a ++ bytesL b := by
  apply toList_inj
  unfold bytesL
  rw [ByteArray.toList_eq, ByteArray.toList_eq, ByteArray.data_append]
  simp
end
section
open Go.RowKit
end
end
section
section
open Go.RowKit
end
section
open Go.RowKit
theorem putN_len (n : Nat) : (putN n).length ≤ 4 := by
  unfold putN; split
  · simp
  · split
    · simp
    · split <;> simp
theorem strOf_size (acc : List Nat) : (strOf acc).size = (acc.flatMap putN).length := by
  show ((acc.flatMap putN).map UInt8.ofNat).toArray.size = _
  simp
theorem AllRight.get {acc : List Nat} (h : AllRight acc) {j : Nat} (hj : j < acc.length) : rightN (acc[j] : Int) = true := h _ (List.getElem_mem hj)
end
section
open Go.RowKit
end
section
open Go.RowKit
end
end
section
section
open Go.RowKit
end
section
open Go.RowKit
theorem ok_low {c : Nat} (h : okN c = true) : lowN c = c := by
  unfold okN at h
  rcases Bool.or_eq_true_iff.1 h with h | h
  · exact small_low h
  · exact lowN_wide (by have := char_ge h; omega)
theorem asciiW_of {l : List Nat} (h1 : ∀ c ∈ l, okN c = true) (h2 : marksN l = true) (h3 : l.length ≤ 256) (h4 : (encL l).length ≤ 59) : asciiW l = .ok (xnL ++ encL l) := by
  unfold asciiW
  rw [find_no (fun i hi => by
    unfold badC
    rw [List.getElem?_eq_getElem hi]
    simp [h1 _ (List.getElem_mem hi)])]
  simp only
  rw [if_neg (by rw [h2]; decide), if_neg (by omega)]
theorem any_not {l : List Nat} (h : (l.any fun c => decide (128 ≤ c)) = true) : ¬ (l.all fun c => decide (c < 128)) = true := fun ha => by
  obtain ⟨c, hc, h1⟩ := List.any_eq_true.1 h
  have := List.all_eq_true.1 ha c hc
  simp at this h1
  omega
/-- A right label as it is shown. -/
def shownL (t : List Nat) : List Nat := if codedN t = true then match decodeN t with
    | some cs => cs.flatMap putN
    | none => t
  else t
theorem coded_xn {t : List Nat} {cs : List Nat} (h : decodeN t = some cs) : t = xnL ++ encL cs ∧ (cs.all okN) = true ∧ (cs.any fun c => decide (128 ≤ c)) = true ∧ marksN cs = true := by
  unfold decodeN at h
  split at h
  · rename_i hx
    split at h
    · rename_i cs' _
      split at h
      · rename_i hok
        obtain rfl := Option.some.inj h
        unfold decOk at hok
        rw [Bool.and_eq_true, Bool.and_eq_true, Bool.and_eq_true] at hok
        refine ⟨?_, hok.1.1, hok.1.2, hok.2.2⟩
        rw [of_decide_eq_true hok.2.1, ← hx, List.take_append_drop]
      · cases h
    · cases h
  · cases h
/-- What is shown of a right label is read as it. -/
theorem ascii_shown {t : List Nat} (h : rightL t = (0, 0)) : asciiL (shownL t) = .ok t ∧ (∀ c ∈ shownL t, c ≠ 46 ∧ c ≠ 37 ∧ c ≠ 91) ∧ shownL t ≠ [] ∧ ByteL (shownL t) := by
  obtain ⟨h0, h1, h2, h3, h4, _⟩ := rightL_zero h
  have plain : asciiL t = .ok t ∧ (∀ c ∈ t, c ≠ 46 ∧ c ≠ 37 ∧ c ≠ 91) ∧ t ≠ [] ∧ ByteL t := ⟨ascii_right h, fun c hc => by have := small_ne (h2 c hc); exact ⟨this.1, this.2.1, this.2.2.1⟩, h0, fun c hc => by have := small_lt (h2 c hc); omega⟩
  unfold shownL
  by_cases hc : codedN t = true
  · rw [if_pos hc]
    obtain ⟨cs, hcs⟩ := Option.isSome_iff_exists.1 (h4 hc)
    rw [hcs]
    simp only
    obtain ⟨e1, e2, e3, e4⟩ := coded_xn hcs
    have hok := List.all_eq_true.1 e2
    have hlow : cs.map lowN = cs := (List.map_congr_left (fun x hx => ok_low (hok x hx))).trans (List.map_id _)
    have hright : AllRight cs := fun c hc => ok_right (hok c hc)
    have hel : (encL cs).length ≤ 59 := by rw [e1] at h1; simp [xnL] at h1; omega
    have hll := encL_len cs
    refine ⟨?_, fun c hc => ?_, ?_, byteL_putN hright⟩
    · unfold asciiL
      rw [charsL_puts hright]
      simp only
      rw [if_neg (any_not e3), hlow, asciiW_of hok e4 (by omega) hel, ← e1]
    · obtain ⟨d, hd, hcd⟩ := List.mem_flatMap.1 hc
      by_cases hs : d < 128
      · rw [putN_small hs] at hcd
        rw [List.mem_singleton.1 hcd]
        have := small_ne (ok_small (hok d hd) hs)
        exact ⟨this.1, this.2.1, this.2.2.1⟩
      · have := putN_wide hs c hcd
        omega
    · intro he
      obtain ⟨c, hc, _⟩ := List.any_eq_true.1 e3
      have : 0 < (cs.flatMap putN).length := by
        obtain ⟨i, hi, rfl⟩ := List.mem_iff_getElem.1 hc
        have := putN_pos cs[i]
        have hx : ∃ x, x ∈ putN cs[i] := ⟨(putN cs[i])[0], List.getElem_mem _⟩
        obtain ⟨x, hx⟩ := hx
        exact List.length_pos_of_mem (List.mem_flatMap.2 ⟨_, hc, hx⟩)
      rw [he] at this
      simp at this
  · rw [if_neg hc]
    exact plain
end
section
open Go.RowKit
section
variable {n : List Nat} {ts : List (List Nat)}
/-- As it is shown it is read as it. -/
theorem NameOk.shown (h : NameOk n ts) : nameL (joinN 46 (ts.map shownL)) = .ok n := by
  have hs : splitN 46 (joinN 46 (ts.map shownL)) = ts.map shownL := by
    refine splitN_join 46 (by simpa using h.ne) (fun p hp c hc => ?_)
    obtain ⟨t, ht, rfl⟩ := List.mem_map.1 hp
    exact ((ascii_shown (h.right t ht)).2.1 c hc).1
  have hp : Parts (joinN 46 (ts.map shownL)) ts := by
    refine ⟨by rw [hs, List.length_map], fun i p t hp ht => ?_⟩
    rw [hs, List.getElem?_map, ht] at hp
    obtain rfl := Option.some.inj hp
    exact (ascii_shown (h.right t (List.mem_of_getElem? ht))).1
  have := (name_of hp h.len (by rw [← h.eq]; exact h.size)).1
  rw [← h.eq] at this
  exact this
end
end
section
open Go.RowKit
end
section
open Go.RowKit
end
section
open Go.RowKit
end
section
open Go.RowKit
end
end
section
section
open Go.RowKit
end
section
open Go.RowKit
end
section
open Go.RowKit
end
section
open Go.RowKit
def shownP (p : List Nat) : List Nat := if rightL p = (0, 0) then shownL p else p
def shownH (k : Nat) (t : List Nat) : List Nat := if k = 1 then joinN 46 ((splitN 46 t).map shownP) else textH k t
theorem shown_back {k : Nat} {t : List Nat} (h : HostOk k t) : canonL (shownH k t) = .ok k t := by
  have h' := h
  cases h with
  | name n ts h hn =>
    unfold shownH
    rw [if_pos rfl, h.split]
    have e : ts.map shownP = ts.map shownL := List.map_congr_left (fun p hp => by unfold shownP; rw [if_pos (h.right p hp)])
    rw [e]
    have hmem : ∀ c ∈ joinN 46 (ts.map shownL), c ≠ 37 ∧ c ≠ 91 := fun c hc => by
      rcases joinN_mem hc with rfl | ⟨p, hp, hc⟩
      · decide
      · obtain ⟨q, hq, rfl⟩ := List.mem_map.1 hp
        have := (ascii_shown (h.right q hq)).2.1 c hc
        exact ⟨this.2.1, this.2.2⟩
    have hne : joinN 46 (ts.map shownL) ≠ [] := fun e => by
      have := h.shown
      rw [e] at this
      have h2 : nameL [] = .no 10 0 := rfl
      rw [h2] at this
      cases this
    rw [canon_plain hne (hmem _ (first_mem hne)).2 (fun c hc => (hmem c hc).1), h.shown]
    unfold nameH
    simp only
    rw [if_neg (by rw [hn]; decide)]
  | four a h => exact canon_back h'
  | six g h8 h => exact canon_back h'
end
section
open Go.RowKit
end
section
open Go.RowKit
end
end
section
section
open Go.RowKit
section
variable {α β : Type} {enc : α → List β} {k : Nat}
end
section
variable {α : Type} {enc : α → List Value} {k : Nat} {w : World} {base g n cap : Nat} {e : TypeId} {xs : List α}
end
end
section
open Go.RowKit
end
section
open Go.RowKit
theorem putC_len (n : Nat) : (putC n).length = (putN n).length := by simp [putC]
theorem strOf_le : ∀ acc : List Nat, (strOf acc).size ≤ 4 * acc.length
  | [] => by simp [strOf_size]
  | c :: acc => by
    have ih := strOf_le acc
    have := putN_len c
    rw [strOf_size] at ih ⊢
    rw [List.flatMap_cons, List.length_append, List.length_cons]; omega
theorem strOf_snoc {acc : List Nat} {c : Nat} (h : AllRight acc) (hc : rightN (c : Int) = true) : byV (strOf (acc ++ [c])) = byV (strOf acc) ++ putC c := by
  rw [byV_strOf (h.snoc hc), byV_strOf h, List.flatMap_append]; simp
theorem take_snoc {acc : List Nat} {j : Nat} (hj : j < acc.length) : acc.take (j + 1) = acc.take j ++ [acc[j]] := List.take_succ_eq_append_getElem hj
end
section
open Go.RowKit
end
end
section
section
open Go.RowKit
def UtRel (acc : List Nat) (w : World) (o i : Value) (wr : World) : Prop := ∃ j : Nat, i = .int .i64 j ∧ j ≤ acc.length ∧ wr.ownsRow w.heap.size 5 1 o (strOf (acc.take j)).size (byV (strOf (acc.take j))) ∧ Below w.heap.size w wr
theorem UtRel.step {acc : List Nat} {w w2 : World} {v2 : Value} {j : Nat} (ha : AllRight acc) (hj : j < acc.length)
    (ho : w2.ownsRow w.heap.size 5 1 v2 ((strOf (acc.take j)).size + (putC acc[j]).length) (byV (strOf (acc.take j)) ++ putC acc[j])) (hb : Below w.heap.size w w2) : UtRel acc w v2 (.int .i64 (j + 1)) w2 := by
  refine ⟨j + 1, by go_num, hj, ?_, hb⟩
  have e := strOf_snoc (ha.take j) (ha.get hj)
  rw [← take_snoc hj] at e
  have el := congrArg List.length e
  rw [List.length_append, byV_length, byV_length] at el
  rw [e, el]; exact ho
def UtPost (acc : List Nat) (w : World) (r : Value) (e : Ending) (w' : World) : Prop := ∃ o, e = .returned (.tuple #[o, r]) ∧ Rd (Own w') w' o (bytesDB (strOf acc)) ∧ Below w.heap.size w w'
theorem UtRel.fin {acc : List Nat} {w wr : World} {o i : Value} (h : UtRel acc w o i wr) (hi : i = .int .i64 acc.length) (r : Value) : UtPost acc w r (.returned (.tuple #[o, r])) wr := by
  obtain ⟨j, rfl, hj, ho, hb⟩ := h
  cases hi
  refine ⟨o, rfl, ?_, hb⟩
  rw [List.take_of_length_le (Nat.le_refl _)] at ho
  rw [bytesDB_eq]
  exact rd_owned ho (byV_rds _) (fun g hg => (ho.lt g hg).2)
set_option maxRecDepth 100000 in
set_option maxHeartbeats 16000000 in
theorem utext_any (v : Value) (acc : List Nat) (w : World) (h : Rd (Own w) w v (intsD acc)) (ha : AllRight acc) (hl : acc.length ≤ 1000000) :
    Calls Tryz.prog 120 #[v] w (UtPost acc w .nilIface) := by
  obtain ⟨a, c, rfl, _, _, _⟩ := h.nats_inv
  have H := Lib.hid h; have HA := Lib.hid ha
  clear h ha
  go_enter Tryz.func120, Tryz.ntmps120
  go_wp2_with fail
  go_loopw [4, 9] (UtRel acc w) (fun _ i _ => acc.length - (intOf i).toNat)
  case atStart => exact ⟨0, rfl, Nat.zero_le _, World.ownsRow_nil _ _ _ _, Below.refl _ _⟩
  case round =>
    obtain ⟨j, rfl, hj, ho, hb⟩ := hrel
    obtain ⟨ao, cap, rfl, _⟩ := aown_form ho
    have hsz := strOf_le (acc.take j)
    rw [List.length_take] at hsz
    have HO := Lib.hid ho; have HB := Lib.hid hb
    by_cases hlt : j < acc.length
    · have t1 : decide ((j : Int) < (acc.length : Int)) = true := decide_eq_true (by omega)
      have t1' : decide (j < acc.length) = true := decide_eq_true hlt
      obtain ⟨a', c', e1, _, _, hc⟩ := (H.out.ext hb).nats_inv
      cases e1
      obtain ⟨b, off, rfl, _, x0⟩ := hc (by omega)
      have x1 := x0 j hlt
      have hrt := HA.out.get hlt
      have HST := Lib.hid (fun v2 w2 => UtRel.step (w := w) (w2 := w2) (v2 := v2) HA.out hlt)
      have hrc := rune_put hrt
      have hcl := right_lt hrt
      have HUR := uright_any (acc[j] : Nat) wr
      rw [hrt] at HUR
      have HAR := Tryz.utf8_AppendRune_plain w.heap.size _ _ _ ((acc[j] : Nat) : Int) (by omega) (by omega) wr ho (by omega) hb.size
      rw [hrc] at HAR
      generalize acc[j] = ch at *
      have HUR := Lib.hid HUR; have HAR := Lib.hid HAR
      clear x0 hc ho hb hrt hrc
      go_wp2_with fail
      refine HUR.out.mono ?_
      rintro e w1 ⟨rfl, rfl⟩
      go_wp2_with fail
      refine HAR.out.mono ?_
      rintro e w1 ⟨v2, rfl, ho2, ob, hg⟩
      have R := HST.out v2 w1 ho2 (grown_below (ext_alloc HB.out ob) (HO.out.alloc ob) hg (by have := HB.out.size; simp; omega) (Nat.le_refl _))
      have HR := Lib.hid R
      clear R ho2 hg
      go_wp2
      refine ⟨?_, by simp [intOf] <;> omega⟩
      have R := HR.out
      first | exact R | ((repeat apply Exists.intro); exact ⟨R, rfl⟩)
    · have t1 : decide ((j : Int) < (acc.length : Int)) = false := decide_eq_false (by omega)
      have t1' : decide (j < acc.length) = false := decide_eq_false hlt
      obtain rfl : j = acc.length := by omega
      have HF := Lib.hid (UtRel.fin (i := .int .i64 acc.length) ⟨acc.length, rfl, hj, HO.out, HB.out⟩ rfl .nilIface)
      clear ho hb hlt
      go_wp2
      go_ret2
      exact HF.out
set_option maxRecDepth 100000 in
set_option maxHeartbeats 16000000 in
theorem rtext_any (v : Value) (acc : List Nat) (w : World) (h : Rd (Own w) w v (intsD acc)) (ha : AllRight acc) (hl : acc.length ≤ 1000000) :
    Calls Tryz.prog 126 #[v] w (UtPost acc w (.int .i64 (-1))) := by
  obtain ⟨a, c, rfl, _, _, _⟩ := h.nats_inv
  have H := Lib.hid h; have HA := Lib.hid ha
  clear h ha
  have R0 : UtRel acc w (.slice (some ⟨w.heap.size, 0, none⟩) 0 0) (.int .i64 0) (w.alloc (.cells #[] 5)) := by
    refine ⟨0, rfl, Nat.zero_le _, ?_, ext_alloc (Below.refl _ _) _⟩
    have := World.ownsRow_lit (base := w.heap.size) (e := 5) (size := 1) w #[] 0 (Nat.le_refl _) (by decide) rfl
    exact this
  have HR0 := Lib.hid R0
  clear R0
  go_enter Tryz.func126, Tryz.ntmps126
  go_wp2_with fail
  go_loopw [4, 5] (UtRel acc w) (fun _ i _ => acc.length - (intOf i).toNat)
  case atStart => exact HR0.out
  case round =>
    obtain ⟨j, rfl, hj, ho, hb⟩ := hrel
    obtain ⟨ao, cap, rfl, _⟩ := aown_form ho
    have hsz := strOf_le (acc.take j)
    rw [List.length_take] at hsz
    have HO := Lib.hid ho; have HB := Lib.hid hb
    by_cases hlt : j < acc.length
    · have t1 : decide ((j : Int) < (acc.length : Int)) = true := decide_eq_true (by omega)
      have t1' : decide (j < acc.length) = true := decide_eq_true hlt
      obtain ⟨a', c', e1, _, _, hc⟩ := (H.out.ext hb).nats_inv
      cases e1
      obtain ⟨b, off, rfl, _, x0⟩ := hc (by omega)
      have x1 := x0 j hlt
      have hrt := HA.out.get hlt
      have HST := Lib.hid (fun v2 w2 => UtRel.step (w := w) (w2 := w2) (v2 := v2) HA.out hlt)
      have hcl := right_lt hrt
      have HUR := rright_any (acc[j] : Nat) wr
      rw [hrt] at HUR
      have HPT := rput_any acc[j] hcl wr
      have hpl := putN_len acc[j]
      have hpc := putC_len acc[j]
      have hvl : (putV acc[j]).toList = putC acc[j] := by simp [putV, putC]
      generalize acc[j] = ch at *
      have HUR := Lib.hid HUR; have HPT := Lib.hid HPT
      obtain ⟨L, hL⟩ : ∃ L, (putN ch).length = L := ⟨_, rfl⟩
      rw [hL] at HPT hpl hpc
      have HVL := Lib.hid hvl; have HPC := Lib.hid hpc
      have HOA := Lib.hid (ho.alloc (.cells (putV ch) 5))
      have hone : Hid (∀ u ∈ putC ch, u.oneCell' = true) := Lib.hid (by intro u hu; unfold putC at hu; obtain ⟨x, _, rfl⟩ := List.mem_map.1 hu; rfl)
      clear x0 hc ho hb hrt hvl hL hpc
      go_wp2_with fail
      refine HUR.out.mono ?_
      rintro e w1 ⟨rfl, rfl⟩
      go_wp2_with fail
      refine HPT.out.mono ?_
      rintro e w1 ⟨rfl, rfl⟩
      go_wp2_with (at_builtin; refine wpList_app (wr.alloc (.cells (putV ch) 5)) rfl _ _ 29 rfl w.heap.size elByte _ _ _ rfl HOA.out _ L L (putC ch) rfl ?c1 ?c2 ?c3 ?c4 ?c5 ?c6 ?c7 ?_)
      case c1 => rw [HPC.out]; simp
      case c2 => nofun
      case c3 => exact fun _ => ⟨_, _, rfl, fun q u hu => new_cells wr (putV ch) _ q u (by rw [HVL.out]; exact hu)⟩
      case c4 => exact hone.out
      case c5 => simp [maxLen]; omega
      case c6 => omega
      case c7 => have := HB.out.size; simp; omega
      intro v2 w2 ho2 hg
      rw [← HPC.out] at ho2
      have R := HST.out v2 w2 ho2 (grown_below (ext_alloc HB.out _) HOA.out hg (by have := HB.out.size; simp; omega) (Nat.le_refl _))
      have HR := Lib.hid R
      clear R ho2 hg
      go_wp2
      refine ⟨?_, by simp [intOf] <;> omega⟩
      have R := HR.out
      first | exact R | ((repeat apply Exists.intro); exact ⟨R, rfl⟩)
    · have t1 : decide ((j : Int) < (acc.length : Int)) = false := decide_eq_false (by omega)
      have t1' : decide (j < acc.length) = false := decide_eq_false hlt
      obtain rfl : j = acc.length := by omega
      have HF := Lib.hid (UtRel.fin (i := .int .i64 acc.length) ⟨acc.length, rfl, hj, HO.out, HB.out⟩ rfl (.int .i64 (-1)))
      clear ho hb hlt
      go_wp2
      go_ret2
      exact HF.out
end
section
open Go.RowKit Go.Sort
section
variable {d : Array Int}
end
end
end
section
section
open Go.RowKit
end
section
open Go.RowKit
end
end
section
section
open Go.RowKit
end
section
open Go.RowKit
end
end
section
open Go.RowKit
end
end Go.Proofs.YtbeodjipdpcaiaaGreatDoor
