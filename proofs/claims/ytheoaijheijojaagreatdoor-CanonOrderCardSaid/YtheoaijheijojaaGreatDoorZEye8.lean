/- The document's reader of chapter 6: text. -/
import Derived.Test.YtheoaijheijojaaGreatDoorZEye6s
import Derived.Test.YtheoaijheijojaaGreatDoorZChr1s
import Derived.Test.YtheoaijheijojaaGreatDoorZOwn0s
import Derived.Deep.RegionHeld3
import Derived.Deep.AppendLies
namespace Go.Proofs.YtheoaijheijojaaGreatDoor
open Go.RowKit
structure TeInv (E : Nat) (v : Value) (B : ByteArray) (w : World) (R : Sc (List Nat × Nat)) (s : St) (acc : List Nat) (o : Value) (wr : World) : Prop where
  at_ : EyeS wr E v s
  only : OnlyE E w wr
  le : s.i ≤ B.size
  own : wr.ownsRow w.heap.size 3 1 o acc.length (intsV acc)
  len : acc.length ≤ B.size + 1
  go : s.k = 0 → acc.length ≤ s.i ∧ textS B s.i acc = R
  no : s.k ≠ 0 → R = .no s.k s.a
def TeRel (E : Nat) (v : Value) (B : ByteArray) (w : World) (R : Sc (List Nat × Nat)) (o : Value) (wr : World) : Prop := ∃ s acc, TeInv E v B w R s acc o wr
def TeEnd (s : St) (acc : List Nat) : Sc (List Nat × Nat) → Prop
  | .ok x => x.1 = acc ∧ s.k = 0 ∧ s.i = x.2
  | .no k p => s.k = k ∧ s.a = p ∧ k ≠ 0
def TePost (E : Nat) (v : Value) (w : World) (R : Sc (List Nat × Nat)) (e : Ending) (w' : World) : Prop :=
  ∃ o acc s, e = .returned o ∧ Rd (Fresh w w') w' o (intsD acc) ∧ EyeS w' E v s ∧ OnlyE E w w' ∧ TeEnd s acc R
/-- A measure for the reader's loop. -/
def teM (E : Nat) (B : ByteArray) (w : World) : Nat := match w.cell? ⟨E, 2, none⟩ with | some (.int _ k) => if k = 0 then B.size + 1 - iOf E w else 0 | _ => 0
theorem teM_eq {w : World} {E : Nat} {v : Value} {B : ByteArray} {s : St} (h : EyeS w E v s) : teM E B w = if s.k = 0 then B.size + 1 - s.i else 0 := by
  unfold teM; rw [h.cell 2, iOf_eq h]
  show (if (s.k : Int) = 0 then _ else _) = _
  by_cases h0 : s.k = 0
  · rw [if_pos (by omega), if_pos h0]
  · rw [if_neg (by omega), if_neg h0]
section
variable {E : Nat} {v : Value} {B : ByteArray} {w wr : World} {R : Sc (List Nat × Nat)} {s : St} {acc : List Nat} {o : Value}
theorem TeInv.fin (h : TeInv E v B w R s acc o wr) (hE : TeEnd s acc R) : TePost E v w R (.returned o) wr :=
  ⟨o, acc, s, rfl, rd_owned h.own (intsV_rds acc) (fun g hg => h.own.lt g hg), h.at_, h.only, hE⟩
theorem TeInv.out (h : TeInv E v B w R s acc o wr) (hk : s.k ≠ 0) : TePost E v w R (.returned o) wr :=
  h.fin (by rw [h.no hk]; exact ⟨rfl, rfl, hk⟩)
theorem own_keep {W W' : World} {n : Nat} {xs : List Value} (h : W.ownsRow w.heap.size 3 1 o n xs) (hO : OnlyE E W W') (hE : E < w.heap.size) : W'.ownsRow w.heap.size 3 1 o n xs :=
  aown_ext h (fun g hg => hO.block g (h.lt g hg).2 (by have := (h.lt g hg).1; omega)) (Nat.le_refl _)
theorem TeInv.drewN (h : TeInv E v B w R s acc o wr) (hE : E < w.heap.size) (n : Nat) : TeInv E v B w R s acc o (wr.drewN n) :=
  ⟨h.at_.drewN n, h.only.trans (only_drewN E wr n), h.le, own_keep h.own (only_drewN E wr n) hE, h.len, h.go, h.no⟩
theorem TeInv.failed {k : Nat} {p : Int} {e : Ending} {w' : World} (h : TeInv E v B w R s acc o wr) (hE : E < w.heap.size) (hk : s.k = 0) (hp : EyPost E v wr (failE s k p) e w') (hk' : k ≠ 0) (hR : R = .no k p) : TePost E v w R (.returned o) w' := by
  have hf : failE s k p = ⟨s.i, k, p⟩ := by unfold failE; rw [if_pos hk]
  obtain ⟨_, h1, h2⟩ := hp
  rw [hf] at h1
  have hI : TeInv E v B w R ⟨s.i, k, p⟩ acc o w' := ⟨h1, h.only.trans h2, h.le, own_keep h.own h2 hE, h.len, fun h0 => absurd h0 hk', fun _ => hR⟩
  exact hI.out hk'
theorem TeInv.done {i : Nat} {a : Int} (h : TeInv E v B w R ⟨i, 0, a⟩ acc o wr) (hE : E < w.heap.size) (n : Nat) (hR : R = .ok (acc, i + 1)) : TePost E v w R (.returned o) ((wr.drewN n).setCell ⟨E, 1, none⟩ (.int .i64 ((i : Int) + 1))) := by
  have hd := h.drewN hE n
  have hs := EyeAt.stepped hd.at_
  refine ⟨o, acc, ⟨i + 1, 0, a⟩, rfl, ?_, hs.2.1, hd.only.trans hs.2.2, by rw [hR]; exact ⟨rfl, rfl, rfl⟩⟩
  have ho := own_keep hd.own hs.2.2 hE
  exact rd_owned ho (intsV_rds acc) (fun g hg => ho.lt g hg)
theorem TeInv.more {s' : St} {n : Nat} {v2 : Value} {W' w2 : World} {ob : Obj} (h : TeInv E v B w R s acc o wr) (hE : E < w.heap.size) (hs : EyeS W' E v s') (hO : OnlyE E wr W')
    (ho2 : w2.ownsRow w.heap.size 3 1 v2 (acc.length + 1) (intsV acc ++ [.int .i64 n])) (hg : (W'.alloc ob).grownBy w2 o.ownBlock)
    (hl : s'.i ≤ B.size) (h0 : s.k = 0) (hgo : s'.k = 0 → acc.length + 1 ≤ s'.i ∧ textS B s'.i (acc ++ [n]) = R) (hno : s'.k ≠ 0 → R = .no s'.k s'.a) : TeInv E v B w R s' (acc ++ [n]) v2 w2 := by
  have hne : ∀ g, o.ownBlock = some g → w.heap.size ≤ g := fun g hg => (h.own.lt g hg).1
  have hzw := h.only.size; have hzO := hO.size
  have hOw : OnlyE E w w2 := ((h.only.trans hO).alloc ob).grown hg (fun k hk hlt => by have := hne k hk; omega)
  refine ⟨hs.ext ?_, hOw, hl, ?_, ?_, by simpa using hgo, hno⟩
  · have h1 := hg.block E (by simp; omega) (fun e => by have := hne E e.symm; omega)
    rw [h1]
    exact Below.heap_alloc W' ob E (by omega)
  · simpa [intsV] using ho2
  · have := (h.go h0).1; have := h.le; simp; omega
theorem TeInv.below {w2 : World} (h : TeInv E v B w R s acc o wr) (hE : E < w.heap.size) (hb : Below wr.heap.size wr w2) : TeInv E v B w R s acc o w2 :=
  ⟨h.at_.below hb, h.only.trans (Only.of hb), h.le, own_keep h.own (Only.of hb) hE, h.len, h.go, h.no⟩
theorem TeInv.grownE {w2 w3 : World} {ob : Obj} (h : TeInv E v B w R s acc o w2) (hE : E < w.heap.size) (hg : (w2.alloc ob).grownBy w3 o.ownBlock) : EyeS w3 E v s ∧ OnlyE E w w3 := by
  have hne : ∀ g, o.ownBlock = some g → w.heap.size ≤ g := fun g hg => (h.own.lt g hg).1
  have hzw := h.only.size
  refine ⟨h.at_.ext ?_, (h.only.alloc ob).grown hg (fun k hk hlt => by have := hne k hk; omega)⟩
  have h1 := hg.block E (by simp; omega) (fun e => by have := hne E e.symm; omega)
  rw [h1]
  exact Below.heap_alloc w2 ob E (by omega)
theorem TeInv.moved {j z n : Nat} {a : Int} {v2 : Value} {w2 w3 : World} {ob : Obj} (h : TeInv E v B w R ⟨j, 0, a⟩ acc o w2) (hE : E < w.heap.size)
    (ho3 : w3.ownsRow w.heap.size 3 1 v2 (acc.length + 1) (intsV acc ++ [.int .i64 n])) (hg : (w2.alloc ob).grownBy w3 o.ownBlock)
    (hl : j + z ≤ B.size) (hl2 : acc.length + 1 ≤ j + z) (hT : textS B (j + z) (acc ++ [n]) = R) : TeInv E v B w R ⟨j + z, 0, a⟩ (acc ++ [n]) v2 (w3.setCell ⟨E, 1, none⟩ (.int .i64 ((j : Int) + (z : Int)))) := by
  obtain ⟨h1, h2⟩ := h.grownE hE hg
  have hst : OnlyE E w3 (w3.setCell ⟨E, 1, none⟩ (.int .i64 ((j : Int) + (z : Int)))) := (Only.refl (fun k => k = E) w3).set (p := ⟨E, 1, none⟩) (fun _ => rfl) _
  refine ⟨?_, h2.trans hst, hl, ?_, by simp; omega, fun _ => ⟨by simpa using hl2, hT⟩, fun h => absurd rfl h⟩
  · have := EyeAt.move h1 (j + z)
    rwa [show (((j + z : Nat) : Int)) = (j : Int) + (z : Int) by omega] at this
  · have := own_keep ho3 hst hE
    simpa [intsV] using this
theorem esc_next {i : Nat} {a : Int} (hlt : i < B.size) (h92 : byteAt B i = 92) (hR : textS B i acc = R) (hacc : acc.length ≤ i) :
    (escE B ⟨i, 0, a⟩).1.i ≤ B.size ∧ ((escE B ⟨i, 0, a⟩).1.k = 0 → i < (escE B ⟨i, 0, a⟩).1.i ∧ acc.length + 1 ≤ (escE B ⟨i, 0, a⟩).1.i ∧ textS B (escE B ⟨i, 0, a⟩).1.i (acc ++ [(escE B ⟨i, 0, a⟩).2]) = R) ∧ ((escE B ⟨i, 0, a⟩).1.k ≠ 0 → R = .no (escE B ⟨i, 0, a⟩).1.k (escE B ⟨i, 0, a⟩).1.a) := by
  have hT := esc_tells (B := B) a hlt
  refine ⟨esc_le hlt, ?_⟩
  rw [textS_step (Nat.le_of_lt hlt), if_neg (by omega), if_neg (by omega), if_neg (by omega)] at hR
  have hst : textStep B i = escapeS B i := by unfold textStep; rw [if_pos h92]
  rw [hst] at hR
  generalize escE B ⟨i, 0, a⟩ = x at *
  cases he : escapeS B i with
  | ok y =>
    rw [he] at hT hR
    have hp := escapeS_ok hlt he
    obtain ⟨e1, e2⟩ := hT
    rw [e1, e2]
    exact ⟨fun _ => ⟨by simp only; omega, by simp only; omega, hR⟩, fun h => absurd rfl h⟩
  | no k p =>
    rw [he] at hT hR
    obtain ⟨e1, e2, e3⟩ := hT
    rw [e1, e2]
    exact ⟨fun h => absurd h e3, fun _ => hR.symm⟩
theorem nx_next {i : Nat} (hlt : i < B.size) (h34 : byteAt B i ≠ 34) (h32 : ¬ byteAt B i < 32) (h92 : byteAt B i ≠ 92) (hR : textS B i acc = R) (hacc : acc.length ≤ i) :
    ((nxN B i).2 = 0 ∧ R = .no 12 i) ∨ (0 < (nxN B i).2 ∧ i + (nxN B i).2 ≤ B.size ∧ acc.length + 1 ≤ i + (nxN B i).2 ∧ textS B (i + (nxN B i).2) (acc ++ [(nxN B i).1]) = R) := by
  rw [textS_step (Nat.le_of_lt hlt), if_neg (by omega), if_neg h34, if_neg h32] at hR
  have hst : textStep B i = charS B i := by unfold textStep; rw [if_neg h92]
  rw [hst] at hR
  rcases nx_char hlt with ⟨h1, h2⟩ | ⟨h1, h2, h3⟩
  · rw [h1] at hR; exact .inl ⟨h2, hR.symm⟩
  · rw [h1] at hR; exact .inr ⟨h2, h3, by omega, hR⟩
end
set_option maxRecDepth 100000 in
set_option maxHeartbeats 16000000 in
theorem etext_any (E : Nat) (v : Value) (B : ByteArray) (i : Nat) (sa : Int) (w : World) (hz : B.size ≤ 1000000) (hs : i < B.size) (hq : byteAt B i = 34) (h : EyeS w E v ⟨i, 0, sa⟩) (hB : EyeB w E v B) :
    Calls Tryz.prog 107 #[.pointer (some ⟨E, 0, none⟩)] w (TePost E v w (textS B (i + 1) [])) := by
  obtain ⟨R, hR⟩ : ∃ R, textS B (i + 1) [] = R := ⟨_, rfl⟩
  rw [hR]
  have HB := Lib.hid (fun W (hO : OnlyE E w W) => hB.only hO)
  have HM := Lib.hid (fun W (hS : EyeS W E v ⟨i, 0, sa⟩) (hO : OnlyE E w W) => emust_any ⟨#[34]⟩ [34] (by rfl) (by decide) E v B ⟨i, 0, sa⟩ W hz (Nat.le_of_lt hs) hS (hB.only hO))
  have HE1 : Hid (mustE [34] B ⟨i, 0, sa⟩ = ⟨i + 1, 0, sa⟩) := Lib.hid (by rw [must_at, if_neg (by omega), if_pos (by rw [hq]; decide)])
  have HR := Lib.hid hR
  have HH := Lib.hid h
  have hlt := h.lt
  clear hR hq h hB
  go_enter Tryz.func107, Tryz.ntmps107
  go_wp2_with fail
  refine (HM.out _ (HH.out.below (ext_alloc (Below.refl _ w) _)) (Only.of (ext_alloc (Below.refl _ w) _))).mono ?_
  rintro e w1 ⟨rfl, g1, g2⟩
  rw [HE1.out] at g1
  have I0 : TeInv E v B w R ⟨i + 1, 0, sa⟩ [] (.slice (some ⟨w.heap.size, 0, none⟩) 0 0) w1 := by
    refine ⟨g1, (Only.of (ext_alloc (Below.refl _ w) _)).trans g2, hs, ?_, Nat.zero_le _, fun _ => ⟨Nat.zero_le _, HR.out⟩, fun h => absurd rfl h⟩
    have := World.ownsRow_lit (base := w.heap.size) (e := 3) (size := 1) w #[] 0 (Nat.le_refl _) (by decide) rfl
    exact own_keep (by simpa [intsV] using this) g2 hlt
  have HI0 := Lib.hid I0
  have HLT := Lib.hid hlt
  clear I0 g1 g2 HM HE1 HH hlt
  go_wp2_with fail
  go_loopw [3] (TeRel E v B w R) (fun _ wr => teM E B wr)
  case atStart => exact ⟨_, _, HI0.out⟩
  case round =>
    obtain ⟨s, acc, hI⟩ := hrel
    have HI := Lib.hid hI
    have hc := hI.at_.cell; have hf := hI.at_.frozen
    have HTM := Lib.hid (teM_eq (B := B) hI.at_)
    clear hI
    by_cases hk : s.k = 0
    · obtain ⟨j, k, a⟩ := s
      have hk' : k = 0 := hk
      subst hk'
      have HTM2 : Hid (teM E B wr = B.size + 1 - j) := Lib.hid (by rw [HTM.out]; rfl)
      clear hk
      have hjl : j ≤ B.size := HI.out.le
      have hgo := HI.out.go rfl
      have hacc : acc.length ≤ j := hgo.1
      have HTX := Lib.hid hgo.2
      have HF := Lib.hid (fun n (k : Nat) (p : Int) => efail_any E v ⟨j, 0, a⟩ k p (wr.drewN n) (HI.out.at_.drewN n))
      have HBR := Lib.hid (HB.out wr HI.out.only)
      clear hgo
      obtain ⟨av, c, rfl, _, hac, hx⟩ := HBR.out.by_inv
      obtain ⟨ao, cap, rfl, _⟩ := aown_form HI.out.own
      by_cases hend : j = B.size
      · have t1 : ((j : Int) == (B.size : Int)) = true := beq_iff_eq.2 (by omega)
        have HRR : Hid (R = .no 10 (j : Int)) := Lib.hid (by rw [← HTX.out, textS_step hjl, if_pos hend, hend])
        clear hx hend
        go_wp2
        go_quiet (fail)
        go_wp2_with fail
        refine (HF.out _ 10 j).mono ?_
        rintro e w2 hp
        have HP := Lib.hid ((HI.out.drewN HLT.out _).failed HLT.out rfl hp (by decide) HRR.out)
        obtain ⟨rfl, _, _⟩ := hp
        go_wp2
        go_ret
        exact HP.out
      · have hlt : j < B.size := by omega
        have t1 : ((j : Int) == (B.size : Int)) = false := beq_eq_false_iff_ne.2 (by omega)
        obtain ⟨b, off, rfl, hne, hx⟩ := hx (by omega)
        have x1 := hx j hlt
        have q8 : j < B.size := hlt
        have q4 : (j : Int) < (B.size : Int) := by omega
        obtain ⟨ch, hch⟩ : ∃ ch, byteAt B j = ch := ⟨_, rfl⟩
        rw [hch] at x1
        have HCH := Lib.hid hch
        have HLTJ := Lib.hid hlt
        have hcl : ch < 256 := by rw [← hch]; exact byteAt_lt B j
        clear hx hend hch hlt
        by_cases h34 : ch = 34
        · have t2 : ((ch : Int) == 34) = true := beq_iff_eq.2 (by omega)
          have q1 : IntKind.i64.wrap ((j : Int) + 1) = (j : Int) + 1 := IntWalk.i64_in _ (by omega)
          have HRR : Hid (R = .ok (acc, j + 1)) := Lib.hid (by rw [← HTX.out, textS_step hjl, if_neg (by have := HLTJ.out; omega), if_pos (by rw [HCH.out, h34])])
          have HD := Lib.hid (fun n => HI.out.done HLT.out n HRR.out)
          clear h34 hcl
          go_wp2
          go_quiet (fail)
          go_wp2
          go_quiet (fail)
          go_wp2
          go_ret
          exact HD.out _
        · have t2 : ((ch : Int) == 34) = false := beq_eq_false_iff_ne.2 (by omega)
          by_cases h32 : ch < 32
          · have t3 : decide ((ch : Int) < 32) = true := decide_eq_true (by omega)
            have HRR : Hid (R = .no 11 (j : Int)) := Lib.hid (by rw [← HTX.out, textS_step hjl, if_neg (by have := HLTJ.out; omega), if_neg (by rw [HCH.out]; exact h34), if_pos (by rw [HCH.out]; exact h32)])
            clear h34 h32 hcl
            go_wp2
            go_quiet (fail)
            go_wp2
            go_quiet (fail)
            go_wp2_with fail
            refine (HF.out _ 11 j).mono ?_
            rintro e w2 hp
            have HP := Lib.hid ((HI.out.drewN HLT.out _).failed HLT.out rfl hp (by decide) HRR.out)
            obtain ⟨rfl, _, _⟩ := hp
            go_wp2
            go_ret
            exact HP.out
          · have t3 : decide ((ch : Int) < 32) = false := decide_eq_false (by omega)
            by_cases h92 : ch = 92
            · have t4 : ((ch : Int) == 92) = true := beq_iff_eq.2 (by omega)
              have hN := esc_next (R := R) (a := a) HLTJ.out (by rw [HCH.out, h92]) HTX.out hacc
              have HES := Lib.hid (fun n => eescaped_any E _ B j a (wr.drewN n) hz HLTJ.out (HI.out.at_.drewN n) (HBR.out.only (only_drewN E wr n)))
              generalize escE B ⟨j, 0, a⟩ = x at *
              obtain ⟨s', n⟩ := x
              have HN := Lib.hid hN
              clear hN h34 h32 h92 hcl
              go_wp2
              go_quiet (fail)
              go_wp2
              go_quiet (fail)
              go_wp2_with fail
              refine (HES.out _).mono ?_
              rintro e w2 ⟨rfl, g1, g2⟩
              have HG1 := Lib.hid g1; have HG2 := Lib.hid g2
              have HO2 := Lib.hid (own_keep (HI.out.drewN HLT.out _).own g2 HLT.out)
              clear g1 g2
              have HZ2 : Hid (w.heap.size ≤ w2.heap.size) := Lib.hid (Nat.le_trans HI.out.only.size HG2.out.size)
              go_wp2_with (at_builtin; refine wpList_app1 w2 _ _ rfl _ _ 52 rfl w.heap.size elInt _ _ _ rfl HO2.out rfl rfl ?c1 ?c2 ?c3 ?c4 ?_)
              case c1 => first | rfl | (intro u hu; simp at hu; subst hu; rfl)
              case c2 => simp [maxLen]; omega
              case c3 => omega
              case c4 => exact HZ2.out
              intro v2 w3 ho3 hg3
              have hI3 : TeInv E _ B w R s' (acc ++ [n]) v2 w3 := (HI.out.drewN HLT.out _).more HLT.out HG1.out HG2.out ho3 hg3 HN.out.1 rfl (fun h0 => (HN.out.2.1 h0).2) HN.out.2.2
              have HRL : Hid (TeRel E (.slice (some ⟨b, off, none⟩) B.size c) B w R v2 w3 ∧ teM E B w3 < teM E B wr) := Lib.hid (by
                refine ⟨⟨s', _, hI3⟩, ?_⟩
                rw [HTM2.out, teM_eq hI3.at_]
                by_cases h0 : s'.k = 0
                · have h1 : j < s'.i := (HN.out.2.1 h0).1
                  have h2 : s'.i ≤ B.size := HN.out.1
                  rw [if_pos h0]; omega
                · rw [if_neg h0]; omega)
              clear hI3 ho3 hg3
              go_wp2
              refine ⟨?_, HRL.out.2⟩
              have R := HRL.out.1
              first | exact R | ((repeat apply Exists.intro); exact ⟨R, rfl⟩)
            · have t4 : ((ch : Int) == 92) = false := beq_eq_false_iff_ne.2 (by omega)
              have hN := nx_next (R := R) HLTJ.out (by rw [HCH.out]; exact h34) (by rw [HCH.out]; exact h32) (by rw [HCH.out]; exact h92) HTX.out hacc
              have HNX := Lib.hid (fun n => rnext_any _ B j (wr.drewN n) (Rd.wide (HBR.out.only (only_drewN E wr n)) (fun b hb => hb.2)) hz HLTJ.out)
              generalize nxN B j = x at *
              obtain ⟨n, z⟩ := x
              simp only at hN HNX
              have HN := Lib.hid hN
              have HEW : Hid (E < wr.heap.size) := Lib.hid (HI.out.at_.lt)
              clear hN h34 h32 h92 hcl
              go_wp2
              go_quiet (fail)
              go_wp2
              go_quiet (fail)
              go_wp2_with fail
              go_region_held3 (fun W => ∀ o, W.cell? ⟨E, o, none⟩ = wr.cell? ⟨E, o, none⟩) (first | assumption | (intro o; rfl)) (first | (go_at_call 130; refine (HNX.out _).mono ?_; rintro e w2 ⟨rfl, hb2⟩; have hkk : ∀ o, w2.cell? ⟨E, o, none⟩ = wr.cell? ⟨E, o, none⟩ := fun o => bcell1 hb2 HEW.out o))
              rename_i hHeld
              have HI2 := Lib.hid ((HI.out.drewN HLT.out _).below HLT.out hb2)
              have hc2 := HI2.out.at_.cell; have hf2 := HI2.out.at_.frozen
              clear hHeld hb2 hkk hc hf HNX HEW
              rcases HN.out with ⟨h0, hR0⟩ | ⟨h0, h1, h2, h3⟩
              · have t5 : ((z : Int) == 0) = true := beq_iff_eq.2 (by omega)
                have HRR := Lib.hid hR0
                clear h0 hR0
                go_wp2_with fail
                refine (efail_any E _ ⟨j, 0, a⟩ 12 j w2 HI2.out.at_).mono ?_
                rintro e w4 hp
                have HP := Lib.hid (HI2.out.failed HLT.out rfl hp (by decide) HRR.out)
                obtain ⟨rfl, _, _⟩ := hp
                go_wp2
                go_ret
                exact HP.out
              · have t5 : ((z : Int) == 0) = false := beq_eq_false_iff_ne.2 (by omega)
                have q1 : IntKind.i64.wrap ((j : Int) + (z : Int)) = (j : Int) + (z : Int) := IntWalk.i64_in _ (by omega)
                have H1 := Lib.hid h1; have H2 := Lib.hid h2; have H3 := Lib.hid h3; have H0 := Lib.hid h0
                have HO2 := Lib.hid HI2.out.own
                clear h0 h1 h2 h3
                have HZ2 : Hid (w.heap.size ≤ w2.heap.size) := Lib.hid HI2.out.only.size
                go_wp2_with (at_builtin; refine wpList_app1 w2 _ _ rfl _ _ 52 rfl w.heap.size elInt _ _ _ rfl HO2.out rfl rfl ?c1 ?c2 ?c3 ?c4 ?_)
                case c1 => first | rfl | (intro u hu; simp at hu; subst hu; rfl)
                case c2 => simp [maxLen]; omega
                case c3 => omega
                case c4 => exact HZ2.out
                intro v2 w3 ho3 hg3
                have hI3 := HI2.out.moved HLT.out ho3 hg3 H1.out H2.out H3.out
                have HE3 := Lib.hid (HI2.out.grownE HLT.out hg3).1
                have hc3 := HE3.out.cell; have hf3 := HE3.out.frozen
                have HRL : Hid (TeRel E (.slice (some ⟨b, off, none⟩) B.size c) B w R v2 (w3.setCell ⟨E, 1, none⟩ (.int .i64 ((j : Int) + (z : Int)))) ∧ teM E B (w3.setCell ⟨E, 1, none⟩ (.int .i64 ((j : Int) + (z : Int)))) < teM E B wr) := Lib.hid (by
                  refine ⟨⟨_, _, hI3⟩, ?_⟩
                  rw [HTM2.out, teM_eq hI3.at_]
                  have h1 := H1.out; have h0 := H0.out
                  show (if (0 : Nat) = 0 then B.size + 1 - (j + z) else 0) < _
                  rw [if_pos rfl]; omega)
                clear hI3 ho3 hg3 hc2 hf2
                go_wp2
                refine ⟨?_, HRL.out.2⟩
                have R := HRL.out.1
                first | exact R | ((repeat apply Exists.intro); exact ⟨R, rfl⟩)
    · have t1 : ((s.k : Int) == 0) = false := beq_eq_false_iff_ne.2 (by omega)
      have HF := Lib.hid (HI.out.out hk)
      clear hk
      go_wp2
      go_ret
      exact HF.out
end Go.Proofs.YtheoaijheijojaaGreatDoor
