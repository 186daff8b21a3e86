/- scan.Text: the walk. -/
import Derived.Test.YtcaiibkgajhohaaGreatDoorYQuo0f
import Derived.Test.YtcaiibkgajhohaaGreatDoorYTxtWs
import Derived.Test.YtcaiibkgajhohaaGreatDoorYChr1s
import Derived.Test.YtcaiibkgajhohaaGreatDoorYScan4s
import Derived.Test.YtcaiibkgajhohaaGreatDoorYOwn0s
namespace Go.Proofs.YtcaiibkgajhohaaGreatDoor
open Go.RowKit
def CsRel (B : ByteArray) (R : Sc (List Nat)) (w : World) (o i : Value) (wr : World) : Prop := ∃ (j : Nat) (acc : List Nat), i = .int .i64 j ∧ j ≤ B.size ∧ acc.length ≤ j ∧ wr.ownsRow w.heap.size 3 1 o acc.length (intsV acc) ∧ Below w.heap.size w wr ∧ charsS B j acc = R
theorem charS_dec {B : ByteArray} {i : Nat} (hi : i < B.size) : charS B i = if decU B i = (65533, 1) then .no 12 i else .ok (decU B i) := by
 unfold charS; rw [if_neg (by omega)]
def CsPost (w : World) (r : Sc (List Nat)) (e : Ending) (w' : World) : Prop := match r with
 | .ok l => ∃ v, e = .returned (.tuple #[v, .nilIface]) ∧ Rd (Fresh w w') w' v (intsD l) ∧ Below w.heap.size w w'
 | .no k i => ∃ u, e = .returned (.tuple #[.slice none 0 0, .iface 85 (.pointer (some u))]) ∧ Failed w k i (.iface 85 (.pointer (some u))) w'
set_option maxRecDepth 100000 in
set_option maxHeartbeats 16000000 in
theorem uchars_any (v : Value) (B : ByteArray) (w : World) (h : Rd (Own w) w v (bytesDB B)) (ht : Utf8T w) (hm : B.size ≤ 1100000) :
    Calls Tryz.prog 102 #[v] w (CsPost w (charsS B 0 [])) := by
 obtain ⟨R, hR⟩ : ∃ R, charsS B 0 [] = R := ⟨_, rfl⟩
 rw [hR]
 have HR := Lib.hid hR; have H := Lib.hid h; have HT := Lib.hid ht
 obtain ⟨a, c, rfl, _, _, _⟩ := h.by_inv
 clear h ht hR
 go_enter Tryz.func102, Tryz.ntmps102
 go_wp2_with fail
 go_loopw [4, 5] (CsRel B R w) (fun _ k _ => B.size - (intOf k).toNat)
 case atStart => exact ⟨0, [], rfl, Nat.zero_le _, Nat.zero_le _, World.ownsRow_nil _ _ _ _, Below.refl _ _, HR.out⟩
 case round =>
  obtain ⟨j, acc, rfl, hj, hA, ho, hb, hr⟩ := hrel
  obtain ⟨ao, cap, rfl, _⟩ := aown_form ho
  have HO := Lib.hid ho; have HB := Lib.hid hb
  by_cases hlt : j < B.size
  · have t1 : decide ((j : Int) < (B.size : Int)) = true := decide_eq_true (by omega)
    have t1' : decide (j < B.size) = true := decide_eq_true hlt
    have CN := unext_any _ B j wr (H.out.ext hb) (HT.out.ext hb) hm hlt
    rw [charS_dec hlt] at CN
    rw [charsS_step hlt] at hr
    have hz := decU_size hlt
    by_cases hd : decU B j = (65533, 1)
    · rw [if_pos hd] at hr CN
      have HRR := Lib.hid hr.symm
      have HCN := Lib.hid CN
      clear ho hb hr CN hd hz
      go_wp2_with fail
      refine HCN.out.mono ?_
      rintro e w1 ⟨u, rfl, hx⟩
      have HX := Lib.hid (hx.after HB.out)
      clear hx
      go_wp2
      go_ret2
      rw [HRR.out]
      exact ⟨_, rfl, HX.out⟩
    · rw [if_neg hd] at hr CN
      generalize decU B j = x at *
      obtain ⟨ch, n⟩ := x
      simp only at hr hz
      have HRR := Lib.hid hr
      have HCN := Lib.hid CN
      have q1 : IntKind.i64.wrap ((j : Int) + (n : Int)) = (j : Int) + (n : Int) := IntWalk.i64_in _ (by omega)
      clear ho hb hr CN hd
      go_wp2_with fail
      refine HCN.out.mono ?_
      rintro e w1 ⟨rfl, hb1⟩
      have HO1 := Lib.hid (aown_ext HO.out (fun g hg => hb1.block g (HO.out.lt g hg).2) (Nat.le_refl _))
      have HB1 := Lib.hid (ext_trans HB.out hb1)
      clear hb1
      go_wp2_with (at_builtin; refine wpList_app1 w1 _ _ rfl _ _ 106 rfl w.heap.size elInt _ _ _ rfl HO1.out rfl rfl ?c1 ?c2 ?c3 ?c4 ?_)
      case c1 => first | rfl | (intro u hu; simp at hu; subst hu; rfl)
      case c2 => simp [maxLen]; omega
      case c3 => omega
      case c4 => exact HB1.out.size
      intro v2 w2 ho2 hg2
      have R' : CsRel B R w v2 (.int .i64 (j + n)) w2 := by
       refine ⟨j + n, acc ++ [ch], by go_num, hz.2, by simp; omega, ?_, ?_, HRR.out⟩
       · simpa [intsV] using ho2
       · exact (ext_alloc HB1.out _).grown hg2 (ext_alloc HB1.out _).size (fun m hm => (HO1.out.lt m hm).1)
      have HRL := Lib.hid R'
      clear R' ho2 hg2
      go_wp2
      refine ⟨?_, by simp [intOf] <;> omega⟩
      have R := HRL.out
      first | exact R | ((repeat apply Exists.intro); exact ⟨R, rfl⟩)
  · have t1 : decide ((j : Int) < (B.size : Int)) = false := decide_eq_false (by omega)
    have t1' : decide (j < B.size) = false := decide_eq_false hlt
    rw [charsS_end hlt] at hr
    have HRR := Lib.hid hr.symm
    have HRD := Lib.hid (rd_owned (S := Fresh w wr) ho (intsV_rds acc) (fun g hg => ho.lt g hg))
    clear ho hb hr hlt
    go_wp2
    go_ret2
    rw [HRR.out]
    exact ⟨_, rfl, HRD.out, HB.out⟩
def VdPost (w : World) (r : Sc (List Nat)) (e : Ending) (w' : World) : Prop := match r with
 | .ok _ => e = .returned .nilIface ∧ Below w.heap.size w w'
 | .no k i => ∃ u, e = .returned (.iface 85 (.pointer (some u))) ∧ Failed w k i (.iface 85 (.pointer (some u))) w'
set_option maxRecDepth 100000 in
theorem uvalid_any (v : Value) (B : ByteArray) (w : World) (h : Rd (Own w) w v (bytesDB B)) (ht : Utf8T w) (hm : B.size ≤ 1100000) :
    Calls Tryz.prog 64 #[v] w (VdPost w (charsS B 0 [])) := by
 have hc := uchars_any v B w h ht hm
 obtain ⟨a, c, rfl, _, _, _⟩ := h.by_inv
 generalize charsS B 0 [] = R at hc ⊢
 have HC := Lib.hid hc
 clear h ht hc
 go_enter Tryz.func64, Tryz.ntmps64
 go_wp2_with fail
 refine HC.out.mono ?_
 intro e w1 hp
 cases R with
 | ok l =>
   obtain ⟨v1, rfl, _, hb⟩ := hp
   have HB := Lib.hid hb
   clear hb
   go_wp2
   go_ret
   exact ⟨rfl, HB.out⟩
 | no k p =>
   obtain ⟨u, rfl, hf⟩ := hp
   have HF := Lib.hid hf
   clear hf
   go_wp2
   go_ret
   exact ⟨_, rfl, HF.out⟩
def RcPost (w : World) (r : Sc (List Nat)) (e : Ending) (w' : World) : Prop := Below w.heap.size w w' ∧ match r with
 | .ok _ => ∃ v, e = .returned (.tuple #[v, .int .i64 (-1)])
 | .no _ i => ∃ v, e = .returned (.tuple #[v, .int .i64 i])
set_option maxRecDepth 100000 in
set_option maxHeartbeats 16000000 in
theorem rchars_any (v : Value) (B : ByteArray) (w : World) (h : Rd (Own w) w v (bytesDB B)) (hm : B.size ≤ 1100000) :
    Calls Tryz.prog 65 #[v] w (RcPost w (charsS B 0 [])) := by
 obtain ⟨R, hR⟩ : ∃ R, charsS B 0 [] = R := ⟨_, rfl⟩
 rw [hR]
 have HR := Lib.hid hR; have H := Lib.hid h
 have R0 : CsRel B R w (.slice (some ⟨w.heap.size, 0, none⟩) 0 0) (.int .i64 0) (w.alloc (.cells #[] 3)) := by
  refine ⟨0, [], rfl, Nat.zero_le _, Nat.zero_le _, ?_, ext_alloc (Below.refl _ _) _, hR⟩
  have := World.ownsRow_lit (base := w.heap.size) (e := 3) (size := 1) w #[] 0 (Nat.le_refl _) (by decide) rfl
  simpa [intsV] using this
 have HR0 := Lib.hid R0
 obtain ⟨a, c, rfl, _, _, _⟩ := h.by_inv
 clear h hR R0
 go_enter Tryz.func65, Tryz.ntmps65
 go_wp2_with fail
 go_loopw [4, 5] (CsRel B R w) (fun _ k _ => B.size - (intOf k).toNat)
 case atStart => exact HR0.out
 case round =>
  obtain ⟨j, acc, rfl, hj, hA, ho, hb, hr⟩ := hrel
  obtain ⟨ao, cap, rfl, _⟩ := aown_form ho
  have HO := Lib.hid ho; have HB := Lib.hid hb
  by_cases hlt : j < B.size
  · have t1 : decide ((j : Int) < (B.size : Int)) = true := decide_eq_true (by omega)
    have t1' : decide (j < B.size) = true := decide_eq_true hlt
    have CN := rnext_any _ B j wr (H.out.ext hb) hm hlt
    rw [charsS_step hlt] at hr
    have hz := decU_size hlt
    by_cases hd : decU B j = (65533, 1)
    · have hn : nxN B j = (0, 0) := by unfold nxN; rw [if_pos hd]
      rw [if_pos hd] at hr
      rw [hn] at CN
      have HRR := Lib.hid hr.symm
      have HCN := Lib.hid CN
      clear ho hb hr CN hd hz hn
      go_wp2_with fail
      refine HCN.out.mono ?_
      rintro e w1 ⟨rfl, hb1⟩
      have HB1 := Lib.hid (ext_trans HB.out hb1)
      clear hb1
      go_wp2
      go_ret2
      rw [HRR.out]
      exact ⟨ext_alloc HB1.out _, _, rfl⟩
    · have hn : nxN B j = decU B j := by unfold nxN; rw [if_neg hd]
      rw [if_neg hd] at hr
      rw [hn] at CN
      clear hn
      generalize decU B j = x at *
      obtain ⟨ch, n⟩ := x
      simp only at hr hz CN
      have HRR := Lib.hid hr
      have HCN := Lib.hid CN
      have t2 : ((n : Int) == 0) = false := beq_eq_false_iff_ne.2 (by omega)
      have q1 : IntKind.i64.wrap ((j : Int) + (n : Int)) = (j : Int) + (n : Int) := IntWalk.i64_in _ (by omega)
      clear ho hb hr CN hd
      go_wp2_with fail
      refine HCN.out.mono ?_
      rintro e w1 ⟨rfl, hb1⟩
      have HO1 := Lib.hid (aown_ext HO.out (fun g hg => hb1.block g (HO.out.lt g hg).2) (Nat.le_refl _))
      have HB1 := Lib.hid (ext_trans HB.out hb1)
      clear hb1
      go_wp2_with (at_builtin; refine wpList_app1 w1 _ _ rfl _ _ 106 rfl w.heap.size elInt _ _ _ rfl HO1.out rfl rfl ?c1 ?c2 ?c3 ?c4 ?_)
      case c1 => first | rfl | (intro u hu; simp at hu; subst hu; rfl)
      case c2 => simp [maxLen]; omega
      case c3 => omega
      case c4 => exact HB1.out.size
      intro v2 w2 ho2 hg2
      have R' : CsRel B R w v2 (.int .i64 (j + n)) w2 := by
       refine ⟨j + n, acc ++ [ch], by go_num, hz.2, by simp; omega, ?_, ?_, HRR.out⟩
       · simpa [intsV] using ho2
       · exact (ext_alloc HB1.out _).grown hg2 (ext_alloc HB1.out _).size (fun m hm => (HO1.out.lt m hm).1)
      have HRL := Lib.hid R'
      clear R' ho2 hg2
      go_wp2
      refine ⟨?_, by simp [intOf] <;> omega⟩
      have R := HRL.out
      first | exact R | ((repeat apply Exists.intro); exact ⟨R, rfl⟩)
  · have t1 : decide ((j : Int) < (B.size : Int)) = false := decide_eq_false (by omega)
    have t1' : decide (j < B.size) = false := decide_eq_false hlt
    rw [charsS_end hlt] at hr
    have HRR := Lib.hid hr.symm
    clear ho hb hr hlt
    go_wp2
    go_ret2
    rw [HRR.out]
    exact ⟨HB.out, _, rfl⟩
end Go.Proofs.YtcaiibkgajhohaaGreatDoor
namespace Go.Proofs.YtcaiibkgajhohaaGreatDoor
open Go.RowKit
/-- The list that the characters are told to lies at block L. -/
structure TeI (v : Value) (B : ByteArray) (w : World) (L : Nat) (acc : List Nat) (W : World) : Prop where
 reads : Rd (Own w) w v (bytesDB B)
 env : ScEnv w
 lt : w.heap.size ≤ L
 row : ∃ o, W.heap[L]? = some (.cells #[o] 106 (0, 0)) ∧ W.ownsRow (L + 1) 3 1 o acc.length (intsV acc)
 below : Below w.heap.size w W
theorem TeI.ext {v : Value} {B : ByteArray} {w W W' : World} {L : Nat} {acc : List Nat} (h : TeI v B w L acc W) (hb : Below W.heap.size W W') : TeI v B w L acc W' := by
 obtain ⟨o, h1, h2⟩ := h.row
 have hL : L < W.heap.size := (Array.getElem?_eq_some_iff.1 h1).1
 exact ⟨h.reads, h.env, h.lt, ⟨o, by rw [hb.block L hL]; exact h1, aown_ext h2 (fun g hg => hb.block g (h2.lt g hg).2) (Nat.le_refl _)⟩, ext_trans h.below hb⟩
theorem TeI.telling (v : Value) (B : ByteArray) (w : World) (L : Nat) : Telling v B (TeI v B w L) :=
 ⟨fun _ _ h => h.reads.ext h.below, fun _ _ h => (h.env.ext h.below).tabs, fun _ _ _ h hb => h.ext hb⟩
set_option maxRecDepth 100000 in
set_option maxHeartbeats 8000000 in
theorem txfn_any (v : Value) (B : ByteArray) (w : World) (L : Nat) (acc : List Nat) (c : Nat) (W : World) (hl : acc.length ≤ 1100000) (h : TeI v B w L acc W) :
    Calls Tryz.prog 156 #[.int .i64 c, .pointer (some ⟨L, 0, none⟩)] W fun e W' => e = .returned (.tuple #[]) ∧ TeI v B w L (acc ++ [c]) W' := by
 obtain ⟨o, h1, h2⟩ := h.row
 have hL : L < W.heap.size := (Array.getElem?_eq_some_iff.1 h1).1
 have hc : W.cell? ⟨L, 0, none⟩ = some o := by simp [World.cell?, h1]
 have hf : W.frozen? ⟨L, 0, none⟩ = false := Go.Joins.unfrozen_of_block h1 0
 obtain ⟨ao, cap, rfl, _⟩ := aown_form h2
 have H1 := Lib.hid h1; have H2 := Lib.hid h2; have H := Lib.hid h
 clear h1 h2 h
 go_enter Tryz.func156, Tryz.ntmps156
 go_wp2_with (at_builtin; refine wpList_app1 W _ _ rfl _ _ 106 rfl (L + 1) elInt _ _ _ rfl H2.out rfl rfl ?c1 ?c2 ?c3 ?c4 ?_)
 case c1 => first | rfl | (intro u hu; simp at hu; subst hu; rfl)
 case c2 => simp [maxLen]; omega
 case c3 => omega
 case c4 => exact hL
 intro v2 w2 ho2 hg2
 obtain ⟨ao2, cap2, rfl, _⟩ := aown_form ho2
 have hne : ∀ g, (Value.slice ao acc.length cap).ownBlock = some g → L < g := fun g hg => (H2.out.lt g hg).1
 have hblk : w2.heap[L]? = some (.cells #[.slice ao acc.length cap] 106 (0, 0)) := by
  rw [hg2.block L (by simp; omega) (fun e => by have := hne L e.symm; omega), Below.heap_alloc W _ L hL]; exact H1.out
 have hc2 : w2.cell? ⟨L, 0, none⟩ = some (.slice ao acc.length cap) := by simp [World.cell?, hblk]
 have hf2 : w2.frozen? ⟨L, 0, none⟩ = false := Go.Joins.unfrozen_of_block hblk 0
 have hst : (w2.setCell ⟨L, 0, none⟩ (.slice ao2 (acc.length + 1) cap2)).heap[L]? = some (.cells #[.slice ao2 (acc.length + 1) cap2] 106 (0, 0)) := by
  have := Go.Joins.block_setCell hblk (i := 0) (.slice ao2 (acc.length + 1) cap2)
  simpa using this
 have R : TeI v B w L (acc ++ [c]) (w2.setCell ⟨L, 0, none⟩ (.slice ao2 (acc.length + 1) cap2)) := by
  refine ⟨H.out.reads, H.out.env, H.out.lt, ⟨_, hst, ?_⟩, ?_⟩
  · have := aown_ext (w' := w2.setCell ⟨L, 0, none⟩ (.slice ao2 (acc.length + 1) cap2)) ho2 (fun g hg => Below.heap_setCell w2 ⟨L, 0, none⟩ _ g (by have := (ho2.lt g hg).1; simp; omega)) (Nat.le_refl _)
    simpa [intsV] using this
  · have hb := H.out.below; have hll := H.out.lt
    refine ((ext_alloc hb _).grown hg2 (ext_alloc hb _).size (fun g hg => ?_)).setCell (by simp; omega) _
    have := hne g hg; omega
 have HR := Lib.hid R
 clear R hst ho2 hg2 hblk hne hc hf
 go_wp2
 go_end0
 exact ⟨rfl, HR.out⟩
theorem TeI.ok (v : Value) (B : ByteArray) (w : World) (L : Nat) : TellOk (TeI v B w L) (.func (.func 156) #[] #[.pointer (some ⟨L, 0, none⟩)]) :=
 .fn L (fun acc c W hl hI _ => txfn_any v B w L acc c W hl hI)
def TtPost (w : World) (r : Option ByteArray) (f : Int) (e : Ending) (w' : World) : Prop := match r with
 | some s => e = .returned (.tuple #[.string s, .nilIface]) ∧ Below w.heap.size w w'
 | none => ∃ u, e = .returned (.tuple #[.string ⟨#[]⟩, .iface 85 (.pointer (some u))]) ∧ Failed w 32 f (.iface 85 (.pointer (some u))) w'
theorem textTok_no {B : ByteArray} {t : Tok} {k : Nat} {p : Int} (h : nextI B t.fr = .no k p) : textTok B t = none := by unfold textTok; rw [h]
theorem textTok_ne {B : ByteArray} {t x : Tok} (h : nextI B t.fr = .ok x) (hn : ¬ (x = t ∧ t.kind = 7)) : textTok B t = none := by unfold textTok; rw [h]; simp only; rw [if_neg hn]
theorem textTok_ok {B : ByteArray} {t : Tok} {p : Nat} {y : List Nat × Nat} (h : nextI B t.fr = .ok t) (h7 : t.kind = 7) (hp : t.fr = p) (hy : textS B (p + 1) [] = .ok y) : textTok B t = some (strOf y.1) := by
 unfold textTok; rw [h]; simp only; rw [if_pos ⟨trivial, h7⟩, hp, Int.toNat_natCast, hy]
theorem tok_parts {x t : Tok} (hn : ¬ (x = t ∧ t.kind = 7)) : (x.kind == t.kind) = false ∨ ((x.kind == t.kind) = true ∧ (x.fr == t.fr) = false) ∨ ((x.kind == t.kind) = true ∧ (x.fr == t.fr) = true ∧ (x.to == t.to) = false) ∨ (x = t ∧ (t.kind != 7) = true) := by
 by_cases h1 : x.kind = t.kind
 · by_cases h2 : x.fr = t.fr
   · by_cases h3 : x.to = t.to
     · have hx : x = t := by cases x; cases t; simp_all
       exact .inr (.inr (.inr ⟨hx, bne_iff_ne.2 (fun h => hn ⟨hx, h⟩)⟩))
     · exact .inr (.inr (.inl ⟨beq_iff_eq.2 h1, beq_iff_eq.2 h2, beq_eq_false_iff_ne.2 h3⟩))
   · exact .inr (.inl ⟨beq_iff_eq.2 h1, beq_eq_false_iff_ne.2 h2⟩)
 · exact .inl (beq_eq_false_iff_ne.2 h1)
set_option maxRecDepth 100000 in
set_option maxHeartbeats 16000000 in
theorem sctext_any (v : Value) (B : ByteArray) (t : Tok) (w : World) (h : Rd (Own w) w v (bytesDB B)) (he : ScEnv w) (hz : B.size ≤ 1100000) :
    Calls Tryz.prog 122 #[v, .agg #[.int .i64 t.kind, .int .i64 t.fr, .int .i64 t.to]] w (TtPost w (textTok B t) t.fr) := by
 have hb1 : ∀ o : Obj, Below w.heap.size w (w.alloc o) := fun o => ext_alloc (Below.refl _ _) o
 have N1 := Lib.hid (fun o : Obj => next_any v B t.fr (w.alloc o) (h.ext (hb1 o)) (he.ext (hb1 o)) hz)
 have H := Lib.hid h; have HE := Lib.hid he
 obtain ⟨a, c, rfl, _, _, _⟩ := h.by_inv
 clear h he hb1
 cases hx : nextI B t.fr with
 | no k p =>
   have hT := textTok_no hx
   rw [hx] at N1
   rw [hT]
   clear hx hT
   obtain ⟨tk, tf, tt⟩ := t
   go_enter Tryz.func122, Tryz.ntmps122
   go_wp2_with fail
   refine (N1.out _).mono ?_
   rintro e w2 ⟨u, rfl, hf⟩
   have hcb := bcell1 hf.2 (b := w.heap.size) (by simp)
   have hz2 : w.heap.size < w2.heap.size := by have := hf.2.size; simp at this; omega
   have HB := Lib.hid (ext_trans (ext_alloc (Below.refl _ w) _) hf.2)
   clear hf
   go_wp2_with fail
   refine (fails 32 tf _).mono ?_
   rintro e w3 ⟨u3, rfl, hf3⟩
   obtain ⟨p3, rfl⟩ := hf3.form
   have HF := Lib.hid (hf3.after (ext_alloc HB.out _))
   clear hf3
   go_wp2
   go_ret2
   exact ⟨_, rfl, HF.out⟩
 | ok x =>
   rw [hx] at N1
   by_cases hn : x = t ∧ t.kind = 7
   · obtain ⟨rfl, h7⟩ := hn
     obtain ⟨p, y, hp, hlt, hq, hy⟩ := tok_text hx h7
     rw [textTok_ok hx h7 hp hy]
     obtain ⟨tk, tf, tt⟩ := x
     simp only at h7 hp N1 hx
     subst h7; subst hp
     have HY := Lib.hid hy
     have q1 : IntKind.i64.wrap ((p : Int) + 1) = (p : Int) + 1 := IntWalk.i64_in _ (by omega)
     clear hx hy
     go_enter Tryz.func122, Tryz.ntmps122
     go_wp2_with fail
     refine (N1.out _).mono ?_
     rintro e w2 ⟨rfl, hb2⟩
     simp only [tokV]
     have hcb := bcell1 hb2 (b := w.heap.size) (by simp)
     have hz2 : w.heap.size < w2.heap.size := by have := hb2.size; simp at this; omega
     have HB := Lib.hid (ext_trans (ext_alloc (Below.refl _ w) _) hb2)
     clear hb2
     obtain ⟨W3, hW3⟩ : ∃ W, w2.alloc (.cells #[.int .i64 7, .int .i64 p, .int .i64 tt] 128) = W := ⟨_, rfl⟩
     have hz3 : W3.heap.size = w2.heap.size + 1 := by rw [← hW3]; simp
     have hB3 : Below w.heap.size w W3 := by rw [← hW3]; exact ext_alloc HB.out _
     have hI : TeI (.slice a B.size c) B w W3.heap.size [] (W3.alloc (.cells #[.slice none 0 0] 106)) :=
      ⟨H.out, HE.out, by have := hB3.size; omega, ⟨.slice none 0 0, by show (W3.heap.push _)[W3.heap.size]? = _; simp, World.ownsRow_nil _ _ _ _⟩, ext_alloc hB3 _⟩
     obtain ⟨L, hL⟩ : ∃ L, w2.heap.size + 1 = L := ⟨_, rfl⟩
     rw [hz3, hL] at hI
     have hT := text_any (.slice a B.size c) B (p + 1) (TeI (.slice a B.size c) B w L) (.func (.func 156) #[] #[.pointer (some ⟨L, 0, none⟩)]) [] _ (TeI.telling _ _ _ _) (TeI.ok _ _ _ _) hI hz (by omega) (Nat.zero_le _)
     rw [HY.out, show (((p + 1 : Nat)) : Int) = (p : Int) + 1 by omega] at hT
     have HT := Lib.hid hT; have HW3 := Lib.hid hW3; have HL := Lib.hid hL
     clear hI hT hB3 hW3 hL hz3
     go_wp2_with fail
     rw [HW3.out, HL.out]
     refine HT.out.mono ?_
     rintro e w4 ⟨rfl, hI⟩
     obtain ⟨o, hrow, hown⟩ := hI.row
     have hc4 : w4.cell? ⟨L, 0, none⟩ = some o := by simp [World.cell?, hrow]
     obtain ⟨ao, cap, rfl, _⟩ := aown_form hown
     have HU := Lib.hid (utext_any _ y.1 w4 (rd_owned hown (intsV_rds y.1) (fun g hg => (hown.lt g hg).2)) (textS_right HY.out) (by have := textS_len (by omega) HY.out; omega))
     have HB4 := Lib.hid hI.below
     clear hI hrow hown HT HW3 HL
     go_wp2_with fail
     refine HU.out.mono ?_
     rintro e w5 ⟨o2, rfl, hr2, hb5⟩
     have cv := conv_rd hr2
     obtain ⟨a2, c2, rfl, _, _, _⟩ := hr2.by_inv
     have HF := Lib.hid (ext_trans HB4.out hb5)
     clear hr2 hb5 HU
     go_wp2
     go_ret2
     exact ⟨rfl, HF.out⟩
   · rw [textTok_ne hx hn]
     have hq := tok_parts hn
     obtain ⟨xk, xf, xt⟩ := x
     obtain ⟨tk, tf, tt⟩ := t
     simp only at hq N1
     clear hn hx
     rcases hq with g1 | ⟨g1, g2⟩ | ⟨g1, g2, g3⟩ | ⟨g0, g1⟩
     all_goals (try (injection g0 with e1 e2 e3; rw [e1, e2, e3] at N1; clear e1 e2 e3))
     all_goals
      go_enter Tryz.func122, Tryz.ntmps122
      go_wp2_with fail
      refine (N1.out _).mono ?_
      rintro e w2 ⟨rfl, hb2⟩
      simp only [tokV]
      have hcb := bcell1 hb2 (b := w.heap.size) (by simp)
      have hz2 : w.heap.size < w2.heap.size := by have := hb2.size; simp at this; omega
      have HB := Lib.hid (ext_trans (ext_alloc (Below.refl _ w) _) hb2)
      clear hb2
      go_wp2_with fail
      refine (fails 32 tf _).mono ?_
      rintro e w3 ⟨u3, rfl, hf3⟩
      obtain ⟨p3, rfl⟩ := hf3.form
      have HF := Lib.hid (hf3.after (ext_alloc HB.out _))
      clear hf3
      go_wp2
      go_ret2
      exact ⟨_, rfl, HF.out⟩
end Go.Proofs.YtcaiibkgajhohaaGreatDoor
