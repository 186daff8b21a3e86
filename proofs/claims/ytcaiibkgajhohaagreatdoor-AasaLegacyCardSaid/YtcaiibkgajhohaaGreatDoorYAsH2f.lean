/- Texts put together. -/
import Derived.Test.YtcaiibkgajhohaaGreatDoorYAppAt0f
import Derived.Test.YtcaiibkgajhohaaGreatDoorYAsEf
import Derived.Test.YtcaiibkgajhohaaGreatDoorYTxtWs
namespace Go.Proofs.YtcaiibkgajhohaaGreatDoor
open Go.RowKit
def okVal (t : ByteArray) : Bool := !markedB t [36] && okGlobB t
def CvRel (l : List ByteArray) (R : Bool) (w : World) (k : Value) (wr : World) : Prop := ∃ j : Nat, k = .int .i64 j ∧ j ≤ l.length ∧ Below w.heap.size w wr ∧ (l.drop j).all okVal = R
theorem drop_get2 {α : Type} {l : List α} {j : Nat} {x : α} (h : l[j]? = some x) : l.drop j = x :: l.drop (j + 1) := by
 obtain ⟨hl, rfl⟩ := List.getElem?_eq_some_iff.1 h
 exact List.drop_eq_getElem_cons hl
set_option maxRecDepth 100000 in
set_option maxHeartbeats 16000000 in
/-- subst.CheckVar -/
theorem scheckVar_any (v : VaA) (u : Value) (w : World) (hE : SEnv w) (h : Rd (Own w) w u (.list 1 (v.values.map .str))) (hn : v.name.size ≤ 1100000) (hvs : ∀ t ∈ v.values, t.size ≤ 1100000) (hl : v.values.length ≤ 1100000) :
    Calls Tryz.prog 58 #[.agg #[.string v.name, u]] w (OkPost w (okVarB v)) := by
 obtain ⟨ao, cap, rfl, _, _, hcl⟩ := h.strs_inv
 have HX1 := heap_alloc_new w (.cells #[.string v.name, .slice ao v.values.length cap] 103)
 have HB1 := ext_alloc (Below.refl _ w) (.cells #[.string v.name, .slice ao v.values.length cap] 103)
 have hok : okVarB v = (decide (v.name ≠ noB) && decide (v.name.size ≤ 64) && !ownB v.name && !markedB v.name [36, 40, 41] && (utfE v.name).isEmpty && decide (v.values.length ≤ 256) && v.values.all okVal) := rfl
 rw [hok]
 have OW := Lib.hid (fun W (hW : SEnv W) => sOwn_any v.name W hW.cl)
 have MK := Lib.hid (fun W => smarked_any v.name ⟨#[36, 40, 41]⟩ W hn)
 have UV := Lib.hid (fun W (hW : SEnv W) => (show ∃ W0 cap, (convert 9 22 (.string v.name)).run Tryz.prog W = .ok (.slice (some ⟨W.heap.size, 0, none⟩) v.name.size cap) W0 ∧ Below W.heap.size W W0 ∧ Calls Tryz.prog 64 #[.slice (some ⟨W.heap.size, 0, none⟩) v.name.size cap] W0 (GcPost W0 (utfE v.name)) from by
  obtain ⟨W0, cap, hcv, hcap, hb0, hz0, hcell⟩ := bytes_of_string v.name W
  refine ⟨W0, cap, hcv, hb0, (uvalid_any _ v.name W0 (rd_of_cells (S := Own W0) (B := v.name) (b := W.heap.size) hz0 hcap hcell) (hW.ut.ext hb0) hn).mono (fun e w1 hp => ?_)⟩
  unfold utfE
  cases hR : charsS v.name 0 [] with
  | ok l =>
    rw [hR] at hp
    obtain ⟨rfl, hb⟩ := hp
    exact ⟨hb, _, rfl, ErA.nil⟩
  | no k p =>
    rw [hR] at hp
    obtain ⟨u, rfl, hf⟩ := hp
    exact ⟨hf.2, _, rfl, hf.1.wide (fun b hb => hb.2)⟩))
 have VK := Lib.hid (fun t (ht : t ∈ v.values) W => smarked_any t ⟨#[36]⟩ W (hvs t ht))
 have VG := Lib.hid (fun t (ht : t ∈ v.values) W (hW : SEnv W) => gcheck_any t W hW.ut (hvs t ht))
 have CL := Lib.hid hcl
 obtain ⟨Wa, hWa⟩ : ∃ Wa, w.alloc (.cells #[.string v.name, .slice ao v.values.length cap] 103) = Wa := ⟨_, rfl⟩
 rw [hWa] at HX1 HB1
 obtain ⟨b1, hb1⟩ : ∃ b, decide (v.name ≠ noB) = b := ⟨_, rfl⟩
 obtain ⟨b2, hb2⟩ : ∃ b, decide (v.name.size ≤ 64) = b := ⟨_, rfl⟩
 obtain ⟨b3, hb3⟩ : ∃ b, ownB v.name = b := ⟨_, rfl⟩
 obtain ⟨b4, hb4⟩ : ∃ b, markedB v.name [36, 40, 41] = b := ⟨_, rfl⟩
 obtain ⟨b6, hb6⟩ : ∃ b, decide (v.values.length ≤ 256) = b := ⟨_, rfl⟩
 have k1 : (v.name.toList == []) = !b1 := by
  rw [← hb1]
  by_cases e : v.name = noB
  · rw [decide_eq_false (fun h => h e), e, ByteArray.toList_eq]; rfl
  · rw [decide_eq_true e]
    have h := beqS_f (a := v.name) (b := noB) e
    rwa [show noB.toList = [] by rw [ByteArray.toList_eq]; rfl] at h
 have k2 : decide ((64 : Int) < (v.name.size : Int)) = !b2 := by
  rw [← hb2]
  by_cases e : v.name.size ≤ 64
  · rw [decide_eq_true e]; exact decide_eq_false (by omega)
  · rw [decide_eq_false e]; exact decide_eq_true (by omega)
 have k2' : decide (64 < v.name.size) = !b2 := by rw [← k2]; congr 1; simp; omega
 have k6 : decide ((256 : Int) < (v.values.length : Int)) = !b6 := by
  rw [← hb6]
  by_cases e : v.values.length ≤ 256
  · rw [decide_eq_true e]; exact decide_eq_false (by omega)
  · rw [decide_eq_false e]; exact decide_eq_true (by omega)
 have k6' : decide (256 < v.values.length) = !b6 := by rw [← k6]; congr 1; simp; omega
 rw [hb1, hb2, hb3, hb4, hb6]
 have OW := Lib.hid (show ∀ W, SEnv W → Calls Tryz.prog 97 #[.string v.name] W fun e w' => e = .returned (.bool b3) ∧ Below W.heap.size W w' from by rw [← hb3]; exact OW.out)
 have MK := Lib.hid (show ∀ W, Calls Tryz.prog 98 #[.string v.name, .string ⟨#[36, 40, 41]⟩] W fun e w' => e = .returned (.bool b4) ∧ Below W.heap.size W w' from by rw [← hb4]; exact MK.out)
 obtain ⟨q5, hq5⟩ : ∃ q, utfE v.name = q := ⟨_, rfl⟩
 rw [hq5] at UV ⊢
 have HE := Lib.hid (hE.ext HB1)
 have HBC := Lib.hid HB1
 have HXC := HX1
 have c0 := Lib.cell_of_heap HXC 0; have c1 := Lib.cell_of_heap HXC 1
 have HXC := Lib.hid HXC
 have HWA := Lib.hid hWa
 obtain ⟨nm, hnm⟩ : ∃ nm, v.name = nm := ⟨_, rfl⟩
 obtain ⟨vs, hvv⟩ : ∃ vs, v.values = vs := ⟨_, rfl⟩
 rw [hnm] at OW MK UV c0 k1 k2 k2' hWa HWA HXC ⊢
 rw [hvv] at VK VG CL c1 k6 k6' hl hWa HWA HXC ⊢
 rw [hnm] at c1
 obtain ⟨n, hN⟩ : ∃ n, vs.length = n := ⟨_, rfl⟩
 have HN := Lib.hid hN
 rw [hN] at c1 k6 k6' hl hWa HWA HXC ⊢
 obtain ⟨R, hR⟩ : ∃ R, vs.all okVal = R := ⟨_, rfl⟩
 rw [hR]
 have HR := Lib.hid hR
 clear hR
 clear h hcl hE hn hvs HX1 HB1 hok hb1 hb2 hb3 hb4 hb6 hq5 hnm hvv hN
 cases b1
 case' false =>
  go_enter Tryz.func58, Tryz.ntmps58
  go_wp2_with fail
 case' true =>
  cases b2
  case' false =>
   go_enter Tryz.func58, Tryz.ntmps58
   go_wp2_with fail
  case' true =>
   go_enter Tryz.func58, Tryz.ntmps58
   go_wp2_with fail
   refine (OW.out Wa HE.out).mono ?_
   rintro e wc ⟨rfl, hbc⟩
   have HE := Lib.hid (HE.out.ext hbc)
   have HBC := Lib.hid (ext_trans HBC.out hbc)
   have HXC := (hbc.block _ (heap_lt HXC.out)).trans HXC.out
   have c0 := Lib.cell_of_heap HXC 0; have c1 := Lib.cell_of_heap HXC 1
   have HXC := Lib.hid HXC
   clear hbc
   cases b3
   case' true => go_wp2_with fail
   case' false =>
    go_wp2_with fail
    refine (MK.out wc).mono ?_
    rintro e wd ⟨rfl, hbc⟩
    have HE := Lib.hid (HE.out.ext hbc)
    have HBC := Lib.hid (ext_trans HBC.out hbc)
    have HXC := (hbc.block _ (heap_lt HXC.out)).trans HXC.out
    have c0 := Lib.cell_of_heap HXC 0; have c1 := Lib.cell_of_heap HXC 1
    have HXC := Lib.hid HXC
    clear hbc
    cases b4
    case' true => go_wp2_with fail
    case' false =>
     obtain ⟨W5, cap5, hcv, hb5, hu5⟩ := UV.out wd HE.out
     have HU5 := Lib.hid hu5
     have HE := Lib.hid (HE.out.ext hb5)
     have HBC := Lib.hid (ext_trans HBC.out hb5)
     have HXC := Lib.hid ((hb5.block _ (heap_lt HXC.out)).trans HXC.out)
     clear hb5 hu5
     go_wp2_with fail
     refine HU5.out.mono ?_
     rintro e w6 ⟨hbc, u6, rfl, he6⟩
     have HE := Lib.hid (HE.out.ext hbc)
     have HBC := Lib.hid (ext_trans HBC.out hbc)
     have HXC := (hbc.block _ (heap_lt HXC.out)).trans HXC.out
     have c0 := Lib.cell_of_heap HXC 0; have c1 := Lib.cell_of_heap HXC 1
     have HXC := Lib.hid HXC
     clear hbc
     obtain ⟨h5, rfl⟩ | ⟨h5, p5, rfl⟩ := erA_inv he6
     case' inr =>
      have HQ5 := Lib.hid h5
      clear he6 h5
      go_wp2_with fail
     case' inl =>
      subst h5
      clear he6
      cases b6
      case' false => go_wp2_with fail
      case' true =>
       go_wp2_with fail
       go_loopw [35] (CvRel vs R w6) (fun k _ => n - (intOf k).toNat)
       case atStart => exact ⟨0, rfl, Nat.zero_le _, Below.refl _ _, by rw [List.drop_zero]; exact HR.out⟩
       case' round =>
        obtain ⟨j, rfl, hj, hb, hr⟩ := hrel
        rw [HN.out] at hj
        by_cases hlt : j < n
        case' neg =>
         have t1 : decide ((j : Int) < (n : Int)) = false := decide_eq_false (by omega)
         have t1' : decide (j < n) = false := decide_eq_false hlt
         rw [List.drop_eq_nil_of_le (by rw [HN.out]; omega)] at hr
         have hR1 : true = R := hr
         clear hr
         subst hR1
         have HB := Lib.hid (ext_trans HBC.out hb)
         clear hb
         go_wp2
         go_ret
         exact ⟨[], ⟨HB.out, _, rfl, ErA.nil⟩, by simp⟩
        case' pos =>
         have t1 : decide ((j : Int) < (n : Int)) = true := decide_eq_true (by omega)
         have t1' : decide (j < n) = true := decide_eq_true hlt
         have q1 : IntKind.i64.wrap ((j : Int) + 1) = (j : Int) + 1 := IntWalk.i64_in _ (by omega)
         obtain ⟨t, ht⟩ := get_ex vs j (by rw [HN.out]; exact hlt)
         rw [drop_get2 ht, List.all_cons] at hr
         have hmem := List.mem_of_getElem? ht
         obtain ⟨b, off, rfl, hbo, hcc⟩ := CL.out (by rw [HN.out]; omega)
         have e0 := (bcell1 (ext_trans HBC.out hb) hbo _).trans (hcc j t ht)
         have VKt := VK.out t hmem wr
         have VGt := VG.out t hmem
         obtain ⟨mk, hmk⟩ : ∃ mk, markedB t [36] = mk := ⟨_, rfl⟩
         obtain ⟨ge, hge⟩ : ∃ ge, globE t = ge := ⟨_, rfl⟩
         rw [show okVal t = (!mk && ge.isEmpty) by unfold okVal okGlobB; rw [hmk, hge]] at hr
         change Calls Tryz.prog _ _ _ (fun e w' => e = .returned (.bool (markedB t [36])) ∧ _) at VKt
         rw [hmk] at VKt
         rw [hge] at VGt
         have VKt := Lib.hid VKt; have VGt := Lib.hid VGt; have HRR := Lib.hid hr; have HB := Lib.hid hb
         clear hr hb ht hmem hmk hge hbo hcc
         go_wp2_with fail
         refine VKt.out.mono ?_
         rintro e w7 ⟨rfl, hb7⟩
         have HB7 := Lib.hid (ext_trans HB.out hb7)
         have HE := Lib.hid (HE.out.ext HB7.out)
         have HBC := Lib.hid (ext_trans HBC.out HB7.out)
         clear hb7
         cases mk
         case' true =>
          obtain rfl : false = R := HRR.out
          go_wp2_with fail
         case' false =>
          go_wp2_with fail
          refine (VGt.out w7 HE.out).mono ?_
          rintro e w8 ⟨hb8, u8, rfl, he8⟩
          have HBC := Lib.hid (ext_trans HBC.out hb8)
          obtain ⟨h5, rfl⟩ | ⟨h5, p5, rfl⟩ := erA_inv he8
          case' inl =>
           subst h5
           have RL := Lib.hid (show CvRel vs R w6 (.int .i64 ((j : Int) + 1)) w8 from ⟨j + 1, by go_num, by rw [HN.out]; omega, ext_trans HB7.out hb8, by have h := HRR.out; simpa using h⟩)
           clear he8 hb8
           go_wp2
           refine ⟨?_, by simp [intOf]; omega⟩
           have R := RL.out
           first | exact R | ((repeat apply Exists.intro); exact ⟨R, rfl⟩)
          case' inr =>
           obtain rfl : false = R := by
            have h := HRR.out
            cases ge with
            | nil => exact absurd rfl h5
            | cons x q => simpa using h
           have WR := Lib.hid (wrap_any 11 j _ ge w8 he8)
           have HER := Lib.hid (Rd.fault (k := 11) (a := j) he8)
           clear he8 hb8 h5
           go_wp2_with fail
           refine WR.out.mono ?_
           rintro e w9 ⟨rfl, rfl⟩
           go_wp2
           go_ret
           exact ⟨_, ⟨ext_alloc HBC.out _, _, rfl, HER.out⟩, by simp⟩
 all_goals (
  go_at_call 42
  refine (fail_any _ _ _).mono ?_
  rintro e w9 ⟨rfl, rfl⟩
  go_wp2
  go_ret
  exact ⟨_, ⟨ext_alloc HBC.out _, _, rfl, Rd.failed _ _ _⟩, by first | (simp; done) | (have h := HQ5.out; simp [h])⟩)
end Go.Proofs.YtcaiibkgajhohaaGreatDoor
namespace Go.Proofs.YtcaiibkgajhohaaGreatDoor
open Go.RowKit
theorem PView.kids_len {w : World} {base D T : Nat} {s : PS} {nodes : Int} {tv : Value} {ns : List ANode} (h : PView w base D T s nodes tv ns) (id : Nat) : (kids s.ups id).length ≤ 100000 := by
 have h1 := kids_le s.ups id
 have h2 : s.ups.length = ns.length := h.d.good.len.symm
 have h3 := h.d.len
 have := h.jl
 omega
theorem PView.mem_len {w : World} {base D T : Nat} {s : PS} {nodes : Int} {tv : Value} {ns : List ANode} (h : PView w base D T s nodes tv ns) (id : Nat) : (membersS s.js (kids s.ups id)).length ≤ 100000 :=
 Nat.le_trans (List.length_filter_le _ _) (h.kids_len id)
theorem drop_get {α : Type} {l : List α} {j : Nat} {x : α} (h : l[j]? = some x) : l.drop j = x :: l.drop (j + 1) := by
 obtain ⟨hl, rfl⟩ := List.getElem?_eq_some_iff.1 h
 exact List.drop_eq_getElem_cons hl
theorem Only.drew {T : Nat → Prop} {a b : World} (h : Only T a b) : Only T a b.drew := ⟨h.os, h.tape, h.output, h.size, h.block⟩
section
variable {W0 Wv wr w' : World} {vv vI : Value} {L D X : Nat} {st st' : RdSt} {x : RuA} {base T : Nat} {s : PS} {nodes : Int} {tv : Value} {ns : List ANode}
theorem QSt.drew (h : QSt W0 Wv vv L D X st x vI wr) : QSt W0 Wv vv L D X st x vI wr.drew := h.ext (Below.drew (Below.refl _ wr))
theorem Only.row {Tt : Nat → Prop} {a b c : World} (h : Only (fun b => Tt b ∨ b = X) a b) (k : Only (fun b => b = X ∨ a.heap.size ≤ b) b c) : Only (fun b => Tt b ∨ b = X) a c :=
 ((h.wide (T' := fun b => (Tt b ∨ b = X) ∨ a.heap.size ≤ b) (fun _ _ h => .inl h)).trans (k.wide (fun _ _ h => by rcases h with h | h; exact .inl (.inr h); exact .inr h))).wide (fun j hj h => by rcases h with h | h; exact h; omega)
theorem QSt.cell6 (h : QSt W0 Wv vv L D X st x vI wr) : wr.cell? ⟨X, 6, none⟩ = some vI := h.cell 6
theorem QSt.far {w2 : World} {o : Obj} (h : QSt W0 Wv vv L D X st x vI wr) (hg : (wr.alloc o).grownBy w2 vI.ownBlock) : w2.cell? ⟨X, 6, none⟩ = some vI ∧ w2.frozen? ⟨X, 6, none⟩ = false := by
 have hx : w2.heap[X]? = some (.cells (ruC x vI) 40 (0, 0)) := by
  have h2 := h.hi
  have hl := heap_lt h.rule
  rw [hg.block X (by simp; omega) (fun e => by have := (h.row.lt X e.symm).1; omega), Below.heap_alloc _ _ _ hl]
  exact h.rule
 exact ⟨Lib.cell_of_heap hx 6, Go.Joins.unfrozen_of_block hx 6⟩
/-- What the reader's query leaves. -/
def QPost (W0 Wv : World) (vv : Value) (w : World) (D X : Nat) (r : RuA × RdSt) (e : Ending) (w' : World) : Prop := e = .returned (.tuple #[]) ∧ Only (fun b => b = W0.heap.size ∨ b = X) w w' ∧ ∃ v, QSt W0 Wv vv w.heap.size D X r.2 r.1 v w'
def QRel (W0 Wv : World) (vv : Value) (js : List JN) (_w w2 : World) (D X : Nat) (x : RuA) (ms : List Nat) (R : List ItA × RdSt) (k : Value) (wr : World) : Prop := ∃ (j : Nat) (s1 : RdSt) (its : List ItA) (v : Value), k = .int .i64 j ∧ j ≤ ms.length ∧ its.length ≤ j ∧ QSt W0 Wv vv w2.heap.size D X s1 { x with items := its } v wr ∧ Only (fun b => b = W0.heap.size ∨ b = X) w2 wr ∧ itemsF asK js (ms.drop j) s1 its = R
theorem QSt.lower {L' : Nat} (h : QSt W0 Wv vv L D X st x vI wr) (h1 : L' ≤ L) (h2 : X < L') : QSt W0 Wv vv L' D X st x vI wr := ⟨h.re, h.rule, aown_ext h.row (fun _ _ => rfl) h1, h.low, h2⟩
theorem Only.cellX {Tt : Nat → Prop} {a b : World} (h : Only Tt a b) {k : Nat} (hk : k < a.heap.size) (hT : ¬ Tt k) : ∀ o, b.cell? ⟨k, o, none⟩ = a.cell? ⟨k, o, none⟩ := fun _ => cell_keep (h.block k hk hT)
set_option maxRecDepth 100000 in
set_option maxHeartbeats 16000000 in
/-- aasa.reader.query -/
theorem rquery_any (hV : PView W0 base D T s nodes tv ns) (hS : SEnv W0) (hT : ∀ id, (txtA0 s.js id).size ≤ 1100000) (st : RdSt) (id : Nat) (x : RuA) (w : World) (hx : x.items = []) (hX : X < w.heap.size) (h : QSt W0 Wv vv w.heap.size D X st x (.slice none 0 0) w) :
    Calls Tryz.prog 162 #[ptrV W0.heap.size, .int .i64 id, .pointer (some ⟨X, 0, none⟩)] w (QPost W0 Wv vv w D X (queryA asK s.js s.ups st id x)) := by
 have ME := Lib.hid (rmember_any hV st id kQu w h.re)
 have hne := h.ne
 unfold queryA
 cases hm : memA s.js s.ups st id kQu with
 | none =>
   rw [hm] at ME
   unfold memV at ME
   have H := Lib.hid h
   clear hm h hV hS hT
   go_enter Tryz.func162, Tryz.ntmps162
   go_wp2_with fail
   refine ME.out.mono ?_
   rintro e w2 ⟨rfl, hb2⟩
   have HP : Hid (QPost W0 Wv vv w D X (x, st) (.returned (.tuple #[])) w2) := Lib.hid ⟨rfl, Only.of hb2, _, H.out.ext hb2⟩
   clear hb2
   go_wp2
   go_end0
   exact HP.out
 | some k =>
   rw [hm] at ME
   unfold memV at ME
   dsimp only
   have KD := Lib.hid (fun W (hR : ReA W0 Wv vv W D st) => rkind_any hV st k W hR)
   have H := Lib.hid h
   by_cases hk : kindA s.js k = 6
   · rw [if_neg (fun h => h hk)]
     rw [hk] at KD
     have hms := hV.mem_len k
     have hc := (chk_kind s.js k 6 (by decide)).2 (.inl hk)
     have MS := Lib.hid (fun W (hR : ReA W0 Wv vv W D st) => members_p (hR.view hV) k)
     rw [Int.toNat_natCast] at MS
     have KEY := Lib.hid (fun (s1 : RdSt) (m : Nat) W (hR : ReA W0 Wv vv W D s1) => rkeyA_any hV s1 m W hR)
     have CK := Lib.hid (fun (s1 : RdSt) (m : Nat) W (hR : ReA W0 Wv vv W D s1) => rchecked_any hV hS hT s1 m W hR)
     obtain ⟨ms, hmse⟩ : ∃ ms, membersS s.js (kids s.ups k) = ms := ⟨_, rfl⟩
     rw [hmse] at MS hms ⊢
     rw [hx]
     obtain ⟨R, hR⟩ : ∃ R, itemsF asK s.js ms st [] = R := ⟨_, rfl⟩
     rw [hR]
     have HC := Lib.hid hc; have HR := Lib.hid hR
     have HXX := Lib.hid hx
     clear hm h hV hS hT hk hc hmse hR hx
     go_enter Tryz.func162, Tryz.ntmps162
     go_wp2_with fail
     refine ME.out.mono ?_
     rintro e w2 ⟨rfl, hb2⟩
     have Q2 := Lib.hid (H.out.ext hb2)
     have B2 := Lib.hid hb2
     have KD2 := Lib.hid (KD.out w2 Q2.out.re)
     clear hb2
     go_wp2_with fail
     refine KD2.out.mono ?_
     rintro e w3 ⟨rfl, hb3⟩
     have Q3 := Lib.hid (Q2.out.ext hb3)
     have B3 := Lib.hid (ext_trans B2.out hb3)
     obtain ⟨ev, c0, c1, c2, _, _⟩ := Q3.out.re.cells
     have MS3 := Lib.hid (MS.out w3 Q3.out.re)
     clear hb3
     go_wp2_with fail
     refine MS3.out.mono ?_
     intro e w4 hp
     obtain ⟨v, u, rfl, he, hg, _, hb4⟩ := hp
     obtain rfl := he.none HC.out
     have hl := hg HC.out
     obtain ⟨ao, c, rfl, _, _, hcl⟩ := hl.nats_inv
     have B4 := Lib.hid (ext_trans B3.out hb4)
     have hX4 : X < w3.heap.size := by have := B3.out.size; omega
     have h34 := hb4.size
     have Q4 : Hid (QSt W0 Wv vv w4.heap.size D X st x (.slice none 0 0) w4) := Lib.hid (by
      have q := Q3.out.ext hb4
      exact ⟨q.re, q.rule, by rw [HXX.out]; exact World.ownsRow_nil _ _ _ _, q.low, by omega⟩)
     have CL : Hid (∀ (j m : Nat), ms[j]? = some m → ∃ b o, ao = some ⟨b, o, none⟩ ∧ b ≠ W0.heap.size ∧ b ≠ X ∧ b < w4.heap.size ∧ w4.cell? ⟨b, o + j, none⟩ = some (.int .i64 m)) := Lib.hid (fun j m hm => by
      obtain ⟨hj, rfl⟩ := List.getElem?_eq_some_iff.1 hm
      obtain ⟨b, o, h1, h2, h3⟩ := hcl (by omega)
      have := Q3.out.re.lt
      exact ⟨b, o, h1, by have := h2.1; omega, by have := h2.1; omega, h2.2, h3 j hj⟩)
     obtain ⟨n, hn⟩ : ∃ n, ms.length = n := ⟨_, rfl⟩
     have HN := Lib.hid hn
     rw [hn] at hms ⊢
     clear hb4 he hg hl hcl hn c0 c1 c2
     go_wp2_with fail
     go_loopw [44] (QRel W0 Wv vv s.js w w4 D X x ms R) (fun k _ => n - (intOf k).toNat)
     case atStart => exact ⟨0, st, [], _, rfl, Nat.zero_le _, Nat.zero_le _, by have := Q4.out; rw [← HXX.out]; exact this, Only.refl _ _, by rw [List.drop_zero]; exact HR.out⟩
     case round =>
      obtain ⟨j, s1, its, vJ, rfl, hj, hil, hq, ho, hr⟩ := hrel
      rw [HN.out] at hj
      by_cases hlt : j < n
      · have t1 : decide ((j : Int) < (n : Int)) = true := decide_eq_true (by omega)
        have t1' : decide (j < n) = true := decide_eq_true hlt
        have q1 : IntKind.i64.wrap ((j : Int) + 1) = (j : Int) + 1 := IntWalk.i64_in _ (by omega)
        obtain ⟨m, hm⟩ := get_ex ms j (by rw [HN.out]; exact hlt)
        rw [drop_get hm, itemsF] at hr
        obtain ⟨b, o, rfl, h1, h2, h3, h4⟩ := CL.out j m hm
        have e0 := (ho.cellX h3 (by rintro (h | h) <;> omega) (o + j)).trans h4
        have KEYm := Lib.hid (KEY.out s1 m); have CKm := Lib.hid (CK.out s1 m)
        obtain ⟨key, hkey⟩ : ∃ key, keyA s.js m = key := ⟨_, rfl⟩
        obtain ⟨ck, hck⟩ : ∃ ck, checkedA asK s.js s1 m = ck := ⟨_, rfl⟩
        rw [hkey] at KEYm hr
        rw [hck] at CKm hr
        obtain ⟨i0, hi0, hz0, hz1, hz2⟩ := info_parts elIt.hi
        have HQ := Lib.hid hq.drew; have HO := Lib.hid ho.drew; have HRR := Lib.hid hr
        have cX := hq.cell 6
        have hvl : its.length + 1 ≤ 100001 := by omega
        have zX : X < wr.heap.size := heap_lt hq.rule
        have zl : w4.heap.size ≤ wr.drew.heap.size := ho.size
        simp only [ruC, List.getElem?_toArray, List.getElem?_cons_succ, List.getElem?_cons_zero] at cX
        clear hkey hck hr hq ho hm h1 h2 h3 h4
        go_wp2_with fail
        go_region_law (first
         | (go_simp; go_at_call 56; refine (KEYm.out _ HQ.out.re).mono ?_; rintro e w5 ⟨rfl, hb5⟩; have HO := Lib.hid (HO.out.trans (Only.of hb5)); have HQ := Lib.hid (HQ.out.ext hb5); have cX := HQ.out.cell6; have zX := heap_lt HQ.out.rule; clear hb5)
         | (go_simp; go_at_call 182; refine (CKm.out _ HQ.out.re).mono ?_; rintro e w6 ⟨rfl, hp⟩; have HO := Lib.hid (HO.out.trans (hp.only.wide (fun _ _ h => .inl h))); have HQ := Lib.hid (HQ.out.call hp); have cX := HQ.out.cell6; have zX := heap_lt HQ.out.rule; clear hp)
         | (refine step_append_lies _ (by rfl) _ _ _ (by rfl) w4.heap.size 92 i0 _ 3 40 Tryz.underlying38 hi0 hz0 hz1 hz2 rfl (by omega) vJ its.length _ (by rfl) (HQ.out.row.alloc _) ⟨_, 0, none⟩ 1 1 (itC ⟨key, ck.1⟩) (by rfl) (by rfl) (World.news_of_block (cs := (itC ⟨key, ck.1⟩).toArray) (t := 92) (fr := (0, 0)) (heap_alloc_new _ _)) (by simp [Value.oneCell', itC]) (by omega) (by unfold maxLen; omega) (by omega) (by have := HO.out.size; simp; omega) _ rfl ?_
            intro g' cap' w7 hown7 hgrow hat hlt7
            have hps := HQ.out.push ⟨key, ck.1⟩ hown7 hgrow
            have cX := (HQ.out.far hgrow).1
            have fX := (HQ.out.far hgrow).2
            have RL := Lib.hid (show QRel W0 Wv vv s.js w w4 D X x ms R (.int .i64 ((j : Int) + 1)) _ from ⟨j + 1, ck.2, its ++ [⟨key, ck.1⟩], _, by go_num, by rw [HN.out]; omega, by simp; omega, hps.1, HO.out.row hps.2, HRR.out⟩)
            clear hown7 hgrow hat hlt7 hps))
        all_goals (
         go_wp2
         refine ⟨?_, by simp [intOf]; omega⟩
         have R := RL.out
         first | exact R | ((repeat apply Exists.intro); exact ⟨R, rfl⟩))
      · have t1 : decide ((j : Int) < (n : Int)) = false := decide_eq_false (by omega)
        have t1' : decide (j < n) = false := decide_eq_false hlt
        rw [List.drop_eq_nil_of_le (by rw [HN.out]; omega), itemsF] at hr
        subst hr
        have HP : Hid (QPost W0 Wv vv w D X ({ x with items := its }, s1) (.returned (.tuple #[])) wr) := Lib.hid ⟨rfl, (Only.of B4.out).trans ho, _, hq.lower B4.out.size hX⟩
        clear hq ho hlt
        go_wp2
        go_end0
        exact HP.out
   · rw [if_pos hk]
     have CK := Lib.hid (fun W (hR : ReA W0 Wv vv W D st) => rchecked_any hV hS hT st k W hR)
     obtain ⟨kk, hkk⟩ : ∃ kk, kindA s.js k = kk := ⟨_, rfl⟩
     obtain ⟨ck, hck⟩ : ∃ ck, checkedA asK s.js st k = ck := ⟨_, rfl⟩
     rw [hkk] at KD hk
     rw [hck] at CK ⊢
     have t1 : ((kk : Int) == 6) = false := by simpa using hk
     have t2 : (kk = 6) = False := eq_false hk
     have t3 : (kk != 6) = true := by simpa using hk
     clear hm h hV hS hT hk hkk hck hx
     go_enter Tryz.func162, Tryz.ntmps162
     go_wp2_with fail
     refine ME.out.mono ?_
     rintro e w2 ⟨rfl, hb2⟩
     have Q2 := Lib.hid (H.out.ext hb2)
     have B2 := Lib.hid hb2
     have KD2 := Lib.hid (KD.out w2 Q2.out.re)
     clear hb2
     go_wp2_with fail
     refine KD2.out.mono ?_
     rintro e w3 ⟨rfl, hb3⟩
     have Q3 := Lib.hid (Q2.out.ext hb3)
     have B3 := Lib.hid (ext_trans B2.out hb3)
     have CK3 := Lib.hid (CK.out w3 Q3.out.re)
     clear hb3
     go_wp2_with fail
     refine CK3.out.mono ?_
     rintro e w4 ⟨rfl, hp⟩
     have Q4 := Q3.out.call hp
     have O4 := ((Only.of (T := fun b => b = W0.heap.size ∨ b = X) B3.out).trans (hp.only.wide (fun _ _ h => .inl h)))
     have c1 := Q4.cell 1; have c4 := Q4.cell 4; have f1 := Q4.fz 1; have f4 := Q4.fz 4
     simp only [ruC, List.getElem?_toArray, List.getElem?_cons_succ, List.getElem?_cons_zero] at c1 c4
     have Q5 := (Q4.put 1 (.string ck.1) (x' := { x with query := ck.1 }) rfl rfl).put 4 (.bool true) (x' := { x with query := ck.1, hasQuery := true }) rfl rfl
     have HP : Hid (QPost W0 Wv vv w D X ({ x with query := ck.1, hasQuery := true }, ck.2) (.returned (.tuple #[])) ((w4.setCell ⟨X, 1, none⟩ (.string ck.1)).setCell ⟨X, 4, none⟩ (.bool true))) := Lib.hid ⟨rfl, (O4.set (p := ⟨X, 1, none⟩) (fun _ => .inr rfl) _).set (p := ⟨X, 4, none⟩) (fun _ => .inr rfl) _, _, Q5⟩
     clear hp Q4 O4 Q5
     go_wp2
     go_end0
     exact HP.out
end
end Go.Proofs.YtcaiibkgajhohaaGreatDoor
