/- Texts put together. -/
import Derived.Test.YtcaiibkgajhohaaGreatDoorYAsD
import Derived.Test.YtcaiibkgajhohaaGreatDoorYJrP0sf
import Derived.Test.YtcaiibkgajhohaaGreatDoorYAsCf
namespace Go.Proofs.YtcaiibkgajhohaaGreatDoor
open Go.RowKit
/-- What patterns want of the world. -/
structure SEnv (w : World) : Prop where
 ut : Utf8T w
 mx : MaxT w
 cl : ClassT w
theorem SEnv.ext {w w' : World} (h : SEnv w) (hb : Below w.heap.size w w') : SEnv w' := ⟨h.ut.ext hb, h.mx.ext hb, h.cl.ext hb⟩
/-- An error, or none, as something is right, or not. -/
def OkPost (w : World) (ok : Bool) (e : Ending) (w' : World) : Prop := ∃ c, GcPost w c e w' ∧ (c = [] ↔ ok = true)
def okPc (vars : List VaA) (p : Pc) : Bool := !p.var || ownB p.text || vars.any fun v => decide (v.name = p.text)
def ChkRel (vars : List VaA) (ps : List Pc) (R : Bool) (w : World) (k : Value) (wr : World) : Prop := ∃ j : Nat, k = .int .i64 j ∧ j ≤ ps.length ∧ Below w.heap.size w wr ∧ (ps.drop j).all (okPc vars) = R
theorem erA_inv {w : World} {u : Value} {c : List (Int × Int)} (h : ErA w u c) : c = [] ∧ u = .nilIface ∨ c ≠ [] ∧ ∃ p, u = .iface 85 (.pointer (some p)) := by
 cases c with
 | nil => exact .inl ⟨rfl, by unfold ErA at h; simp only [errD] at h; exact h.nilI_inv⟩
 | cons x c =>
   obtain ⟨k, a⟩ := x
   unfold ErA at h
   simp only [errD] at h
   obtain ⟨u2, rfl, h2⟩ := h.iface_inv
   obtain ⟨b, off, rfl, _⟩ := h2.ptr_inv
   exact .inr ⟨by simp, _, rfl⟩
theorem pc_cells {w : World} {base g n cap : Nat} {ps : List Pc} (ho : w.ownsRow base 298 3 (.slice (some ⟨g, 0, none⟩) n cap) n (ps.flatMap pcC)) {j : Nat} {p : Pc} (hp : ps[j]? = some p) :
    w.cell? ⟨g, j * 3, none⟩ = some (.string p.text) ∧ w.cell? ⟨g, j * 3 + 1, none⟩ = some (.bool p.var) ∧ w.cell? ⟨g, j * 3 + 2, none⟩ = some (.int .i64 p.at_) :=
 ⟨row_cell (enc := pcC) (k := 3) (j := 0) (fun _ => rfl) ho hp (by decide), row_cell (enc := pcC) (k := 3) (fun _ => rfl) ho hp (by decide), row_cell (enc := pcC) (k := 3) (fun _ => rfl) ho hp (by decide)⟩
set_option maxRecDepth 100000 in
set_option maxHeartbeats 8000000 in
/-- subst.Check -/
theorem scheck_any (s : ByteArray) (vars : List VaA) (vv : Value) (w : World) (hE : SEnv w) (hV : RowV w vv vars) (hs : s.size ≤ 1100000) : Calls Tryz.prog 190 #[.string s, vv] w (OkPost w (okPatB s vars)) := by
 have GC := Lib.hid (gcheck_any s w hE.ut hs)
 by_cases hg : globE s = []
 · have hok : okPatB s vars = ((piecesB s).1.all (okPc vars) && decide ((piecesB s).2 < 0)) := by
     unfold okPatB okGlobB
     rw [hg]; rfl
   rw [hok]
   rw [hg] at GC
   have PC := Lib.hid (fun W (hW : Below w.heap.size w W) => spieces_any s W (hE.mx.ext hW) hs)
   obtain ⟨R, hR⟩ : ∃ R, piecesB s = R := ⟨_, rfl⟩
   rw [hR] at PC ⊢
   obtain ⟨A, hA⟩ : ∃ A, R.1.all (okPc vars) = A := ⟨_, rfl⟩
   rw [hA]
   have HE := Lib.hid hE; have HV := Lib.hid hV
   clear hE hV hg hok hR
   go_enter Tryz.func190, Tryz.ntmps190
   go_wp2_with fail
   refine GC.out.mono ?_
   rintro e w1 ⟨hb1, u, rfl, he⟩
   obtain ⟨_, rfl⟩ | ⟨h, _⟩ := erA_inv he
   · have B1 := Lib.hid hb1
     clear he hb1
     go_wp2_with fail
     refine (PC.out w1 B1.out).mono ?_
     rintro e w2 ⟨v, rfl, ho, hb2, hl⟩
     obtain ⟨ao, cap, rfl, hao⟩ := aown_form ho
     have B2 := Lib.hid (ext_trans B1.out hb2)
     have HO := Lib.hid ho
     obtain ⟨n, hn⟩ : ∃ n, R.1.length = n := ⟨_, rfl⟩
     have HN := Lib.hid hn
     rw [hn] at hl hao HO ⊢
     clear ho hb2
     go_wp2_with fail
     go_loopw [24] (ChkRel vars R.1 A w2) (fun k _ => n - (intOf k).toNat)
     case atStart => exact ⟨0, rfl, Nat.zero_le _, Below.refl _ _, by rw [List.drop_zero]; exact hA⟩
     case round =>
      obtain ⟨j, rfl, hj, hb, hr⟩ := hrel
      rw [HN.out] at hj
      by_cases hlt : j < n
      · have t1 : decide ((j : Int) < (n : Int)) = true := decide_eq_true (by omega)
        have t1' : decide (j < n) = true := decide_eq_true hlt
        have q1 : IntKind.i64.wrap ((j : Int) + 1) = (j : Int) + 1 := IntWalk.i64_in _ (by omega)
        obtain ⟨p, hp⟩ := get_ex R.1 j (by rw [HN.out]; exact hlt)
        have hdr : R.1.drop j = p :: R.1.drop (j + 1) := by
         rw [List.drop_eq_getElem_cons (by rw [HN.out]; exact hlt)]
         congr 1
         exact (List.getElem?_eq_some_iff.1 hp).2
        rw [hdr, List.all_cons] at hr
        rcases hao with ⟨h0, _⟩ | ⟨g, rfl, hg1, hg2⟩
        · omega
        · obtain ⟨d0, d1, d2⟩ := pc_cells HO.out hp
          have e0 := (bcell1 hb hg2 (j * 3)).trans d0
          have e1 := (bcell1 hb hg2 (j * 3 + 1)).trans d1
          have e2 := (bcell1 hb hg2 (j * 3 + 2)).trans d2
          obtain ⟨pt, pv, pa⟩ := p
          dsimp only at e0 e1 e2
          have HB := Lib.hid hb; have HR := Lib.hid hr; have HP := Lib.hid hp
          have hwr := hb.size
          have hX := heap_alloc_new wr (.cells #[.string pt, .bool pv, .int .i64 pa] 298)
          have BX := Lib.hid (ext_alloc (Below.refl _ wr) (.cells #[.string pt, .bool pv, .int .i64 pa] 298))
          have EX := Lib.hid ((HE.out.ext (ext_trans B2.out hb)).ext BX.out)
          have VX := Lib.hid ((HV.out.ext (ext_trans B2.out hb)).ext BX.out)
          have HX := Lib.hid hX
          clear hb hr hp hdr d0 d1 d2 hX
          cases pv with
          | false =>
            have RL : ChkRel vars R.1 A w2 (.int .i64 ((j : Int) + 1)) (wr.alloc (.cells #[.string pt, .bool false, .int .i64 pa] 298)) := ⟨j + 1, by go_num, by rw [HN.out]; omega, ext_trans HB.out BX.out, by have h := HR.out; simpa [okPc] using h⟩
            have HRL := Lib.hid RL
            clear RL
            go_wp2
            refine ⟨?_, by simp [intOf]; omega⟩
            have R := HRL.out
            first | exact R | ((repeat apply Exists.intro); exact ⟨R, rfl⟩)
          | true =>
            have OW := Lib.hid (sOwn_any pt _ EX.out.cl)
            have VA := Lib.hid (fun W (hW : Below (wr.alloc (.cells #[.string pt, .bool true, .int .i64 pa] 298)).heap.size (wr.alloc (.cells #[.string pt, .bool true, .int .i64 pa] 298)) W) => svalues_any vars vv pt W (VX.out.ext hW))
            obtain ⟨Wx, hWx⟩ : ∃ Wx, (wr.alloc (.cells #[.string pt, .bool true, .int .i64 pa] 298)) = Wx := ⟨_, rfl⟩
            rw [hWx] at BX EX VX HX OW VA
            obtain ⟨q, hq⟩ : ∃ q, ownB pt = q := ⟨_, rfl⟩
            obtain ⟨q2, hq2⟩ : ∃ q2, (vars.any fun v => decide (v.name = pt)) = q2 := ⟨_, rfl⟩
            have hr := HR.out
            rw [show okPc vars ⟨pt, true, pa⟩ = (q || q2) by unfold okPc; dsimp only; rw [hq, hq2]; rfl] at hr
            rw [hq] at OW
            rw [hq2] at VA
            have HR := Lib.hid hr
            have HW := Lib.hid hWx
            clear hq hq2 hr hWx
            go_wp2_with fail
            rw [HW.out]
            refine OW.out.mono ?_
            rintro e w3 ⟨rfl, hb3⟩
            have B3 := Lib.hid (ext_trans BX.out hb3)
            have Y9 := (hb3.block _ (heap_lt HX.out)).trans HX.out
            have f0 := Lib.cell_of_heap Y9 0; have f1 := Lib.cell_of_heap Y9 1; have f2 := Lib.cell_of_heap Y9 2
            have VA3 := Lib.hid (VA.out w3 hb3)
            have Y9 := Lib.hid Y9
            clear hb3 VA
            cases q with
            | true =>
              have RL : ChkRel vars R.1 A w2 (.int .i64 ((j : Int) + 1)) w3 := ⟨j + 1, by go_num, by rw [HN.out]; omega, ext_trans HB.out B3.out, by have h := HR.out; simpa using h⟩
              have HRL := Lib.hid RL
              clear RL
              go_wp2
              refine ⟨?_, by simp [intOf]; omega⟩
              have R := HRL.out
              first | exact R | ((repeat apply Exists.intro); exact ⟨R, rfl⟩)
            | false =>
              go_wp2_with fail
              refine VA3.out.mono ?_
              rintro e w4 ⟨⟨u4, rfl⟩, hb4⟩
              have B4 := Lib.hid (ext_trans B3.out hb4)
              have Z9 := (hb4.block _ (heap_lt Y9.out)).trans Y9.out
              have g0 := Lib.cell_of_heap Z9 0; have g1 := Lib.cell_of_heap Z9 1; have g2 := Lib.cell_of_heap Z9 2
              clear Z9 hb4 f0 f1 f2
              cases q2 with
              | true =>
                have RL : ChkRel vars R.1 A w2 (.int .i64 ((j : Int) + 1)) w4 := ⟨j + 1, by go_num, by rw [HN.out]; omega, ext_trans HB.out B4.out, by have h := HR.out; simpa using h⟩
                have HRL := Lib.hid RL
                clear RL
                go_wp2
                refine ⟨?_, by simp [intOf]; omega⟩
                have R := HRL.out
                first | exact R | ((repeat apply Exists.intro); exact ⟨R, rfl⟩)
              | false =>
                have hA2 : A = false := by have h := HR.out; simpa using h.symm
                subst hA2
                have BB := Lib.hid (ext_trans B2.out (ext_trans HB.out B4.out))
                go_wp2_with fail
                go_at_call 42
                refine (fail_any _ _ _).mono ?_
                rintro e w5 ⟨rfl, rfl⟩
                have HF := Lib.hid (Rd.failed 30 pa w4)
                have HBF := Lib.hid (ext_alloc BB.out (.cells #[.int .i64 30, .int .i64 pa, .nilIface] 89))
                go_wp2
                go_ret
                exact ⟨_, ⟨HBF.out, _, rfl, HF.out⟩, by simp⟩
      · have t1 : decide ((j : Int) < (n : Int)) = false := decide_eq_false (by omega)
        have t1' : decide (j < n) = false := decide_eq_false hlt
        have hA2 : A = true := by
         rw [List.drop_eq_nil_of_le (by rw [HN.out]; omega)] at hr
         exact hr.symm
        subst hA2
        have BB := Lib.hid (ext_trans B2.out hb)
        clear hb hr
        by_cases hbad : R.2 < 0
        · have HBAD := Lib.hid hbad
          have t2 : decide ((0 : Int) ≤ R.2) = false := decide_eq_false (by omega)
          clear hbad
          go_wp2
          go_ret
          exact ⟨[], ⟨BB.out, _, rfl, ErA.nil⟩, by simp [HBAD.out]⟩
        · have HBAD := Lib.hid hbad
          have t2 : decide ((0 : Int) ≤ R.2) = true := decide_eq_true (by omega)
          clear hbad
          go_wp2_with fail
          go_at_call 42
          refine (fail_any _ _ _).mono ?_
          rintro e w5 ⟨rfl, rfl⟩
          have HF := Lib.hid (Rd.failed 10 R.2 wr)
          have HBF := Lib.hid (ext_alloc BB.out (.cells #[.int .i64 10, .int .i64 R.2, .nilIface] 89))
          go_wp2
          go_ret
          exact ⟨_, ⟨HBF.out, _, rfl, HF.out⟩, by have h := HBAD.out; simp; omega⟩
   · exact absurd rfl h
 · have hok : okPatB s vars = false := by
     unfold okPatB okGlobB
     cases h : globE s with
     | nil => exact absurd h hg
     | cons x c => rfl
   rw [hok]
   obtain ⟨c, hc⟩ : ∃ c, globE s = c := ⟨_, rfl⟩
   rw [hc] at GC hg
   clear hE hV hok hc
   go_enter Tryz.func190, Tryz.ntmps190
   go_wp2_with fail
   refine GC.out.mono ?_
   rintro e w1 ⟨hb1, u, rfl, he⟩
   obtain ⟨h, _⟩ | ⟨_, p, rfl⟩ := erA_inv he
   · exact absurd h hg
   · have HE := Lib.hid he; have HB := Lib.hid hb1
     have HG := Lib.hid hg
     clear he hb1 hg
     go_wp2
     go_ret
     exact ⟨c, ⟨HB.out, _, rfl, HE.out⟩, by simp [HG.out]⟩
end Go.Proofs.YtcaiibkgajhohaaGreatDoor
namespace Go.Proofs.YtcaiibkgajhohaaGreatDoor
open Go.RowKit
theorem txtA_size {js : List JN} (hT : ∀ id, (txtA0 js id).size ≤ 1100000) (st : RdSt) (id : Nat) : (txtA js st id).1.size ≤ 1100000 := by
 unfold txtA
 split
 · exact hT id
 · exact Nat.zero_le _
section
variable {W0 Wv : World} {vv : Value} {base D T : Nat} {s : PS} {nodes : Int} {tv : Value} {ns : List ANode}
set_option maxRecDepth 100000 in
set_option maxHeartbeats 4000000 in
/-- aasa.reader.checked -/
theorem rchecked_any (hV : PView W0 base D T s nodes tv ns) (hS : SEnv W0) (hT : ∀ id, (txtA0 s.js id).size ≤ 1100000) (st : RdSt) (id : Nat) (w : World) (h : ReA W0 Wv vv w D st) :
    Calls Tryz.prog 182 #[ptrV W0.heap.size, .int .i64 id] w fun e w' => e = .returned (.string (checkedA asK s.js st id).1) ∧ RePost W0 Wv vv w D (checkedA asK s.js st id).2 w' := by
 have TX := Lib.hid (rtextA_any hV st id w h)
 have hz := txtA_size hT st id
 unfold checkedA
 obtain ⟨r, hr⟩ : ∃ r, txtA s.js st id = r := ⟨_, rfl⟩
 rw [hr] at TX hz ⊢
 obtain ⟨t, s1⟩ := r
 dsimp only at TX hz ⊢
 cases hb : s1.bad with
 | true =>
   rw [if_pos rfl]
   unfold noB
   clear hr h hV hS hT hz
   have HBD := Lib.hid hb
   clear hb
   go_enter Tryz.func182, Tryz.ntmps182
   go_wp2_with fail
   refine TX.out.mono ?_
   rintro e w2 ⟨rfl, hp⟩
   have HP := Lib.hid hp
   obtain ⟨ev, c0, c1, c2, _, hev⟩ := hp.re.cells
   rw [HBD.out] at hev
   obtain ⟨h, _⟩ | ⟨_, b, rfl⟩ := hev
   · cases h
   clear hp
   go_wp2
   go_ret
   exact ⟨rfl, HP.out⟩
 | false =>
   rw [if_neg (by decide), Bool.false_or]
   have FL := Lib.hid (fun W x (hR : ReA W0 Wv vv W D s1) => rfail_any hV s1 id 85 x W hR)
   have CK := Lib.hid (fun W (hR : ReA W0 Wv vv W D s1) => scheck_any t s1.vars vv W (hS.ext hR.below) hR.rowV hz)
   obtain ⟨q, hq⟩ : ∃ q, okPatB t s1.vars = q := ⟨_, rfl⟩
   rw [hq] at CK
   rw [show asK.okPat t s1.vars = q from hq]
   have HST := Lib.hid (show (q = true → (⟨!q, s1.vars⟩ : RdSt) = s1) ∧ (q = false → (⟨!q, s1.vars⟩ : RdSt) = s1.fail) from ⟨fun e => by subst e; cases s1; cases hb; rfl, fun e => by subst e; rfl⟩)
   have HBD := Lib.hid hb
   clear hr h hV hS hT hz hq hb
   go_enter Tryz.func182, Tryz.ntmps182
   go_wp2_with fail
   refine TX.out.mono ?_
   rintro e w2 ⟨rfl, hp⟩
   have HP := Lib.hid hp
   obtain ⟨ev, c0, c1, c2, _, hev⟩ := hp.re.cells
   rw [HBD.out] at hev
   obtain ⟨_, rfl⟩ | ⟨h, _⟩ := hev
   · have CK2 := Lib.hid (CK.out w2 hp.re)
     clear hp
     go_wp2_with fail
     refine CK2.out.mono ?_
     rintro e w3 ⟨c, ⟨hb3, u, rfl, he⟩, hok⟩
     have HP3 := Lib.hid (HP.out.more hb3)
     obtain ⟨rfl, rfl⟩ | ⟨hc, p, rfl⟩ := erA_inv he
     · have hq := hok.1 rfl
       have HQ := Lib.hid hq
       clear hb3 he hok hq c0 c1 c2
       go_wp2
       go_ret
       exact ⟨rfl, by rw [HST.out.1 HQ.out]; exact HP3.out⟩
     · have hq : q = false := by
         cases q with
         | false => rfl
         | true => exact absurd (hok.2 rfl) hc
       have HQ := Lib.hid hq
       have WR := Lib.hid (wrap_any 11 0 _ c w3 he)
       have HB4 := Lib.hid (ext_alloc (Below.refl _ w3) (.cells #[.int .i64 11, .int .i64 0, .iface 85 (.pointer (some p))] 89))
       have FL4 := Lib.hid (FL.out _ (.pointer (some ⟨w3.heap.size, 0, none⟩)) (HP3.out.re.ext HB4.out))
       clear hb3 he hok hq hc c0 c1 c2
       go_wp2_with fail
       refine WR.out.mono ?_
       rintro e w4 ⟨rfl, rfl⟩
       go_wp2_with fail
       refine FL4.out.mono ?_
       rintro e w5 ⟨rfl, hp⟩
       have HP5 := Lib.hid ((HP3.out.more HB4.out).trans hp)
       clear hp
       go_wp2
       go_ret
       exact ⟨rfl, by rw [HST.out.2 HQ.out]; exact HP5.out⟩
   · cases h
set_option maxRecDepth 100000 in
set_option maxHeartbeats 4000000 in
/-- aasa.reader.pattern -/
theorem rpatternA_any (hV : PView W0 base D T s nodes tv ns) (hS : SEnv W0) (hT : ∀ id, (txtA0 s.js id).size ≤ 1100000) (st : RdSt) (id : Nat) (key : ByteArray) (w : World) (h : ReA W0 Wv vv w D st) :
    Calls Tryz.prog 161 #[ptrV W0.heap.size, .int .i64 id, .string key] w fun e w' => e = .returned (.tuple #[.string (patternA asK s.js s.ups st id key).1.1, .bool (patternA asK s.js s.ups st id key).1.2]) ∧ RePost W0 Wv vv w D (patternA asK s.js s.ups st id key).2 w' := by
 have ME := Lib.hid (rmember_any hV st id key w h)
 unfold patternA
 cases hm : memA s.js s.ups st id key with
 | none =>
   rw [hm] at ME
   unfold memV at ME
   unfold noB
   have H := Lib.hid h
   clear hm h hV hS hT
   go_enter Tryz.func161, Tryz.ntmps161
   go_wp2_with fail
   refine ME.out.mono ?_
   rintro e w2 ⟨rfl, hb2⟩
   have HP := Lib.hid (RePost.of H.out hb2)
   clear hb2
   go_wp2
   go_ret2
   exact ⟨rfl, HP.out⟩
 | some k =>
   rw [hm] at ME
   unfold memV at ME
   dsimp only
   have CK := Lib.hid (fun W (hR : ReA W0 Wv vv W D st) => rchecked_any hV hS hT st k W hR)
   obtain ⟨r, hr⟩ : ∃ r, checkedA asK s.js st k = r := ⟨_, rfl⟩
   rw [hr] at CK ⊢
   have H := Lib.hid h
   clear hm h hV hS hT hr
   go_enter Tryz.func161, Tryz.ntmps161
   go_wp2_with fail
   refine ME.out.mono ?_
   rintro e w2 ⟨rfl, hb2⟩
   have HP := Lib.hid (RePost.of H.out hb2)
   clear hb2
   go_wp2_with fail
   refine (CK.out w2 HP.out.re).mono ?_
   rintro e w3 ⟨rfl, hp⟩
   have HP3 := Lib.hid (HP.out.trans hp)
   clear hp
   go_wp2
   go_ret2
   exact ⟨rfl, HP3.out⟩
end
end Go.Proofs.YtcaiibkgajhohaaGreatDoor
namespace Go.Proofs.YtcaiibkgajhohaaGreatDoor
open Go.RowKit
def itC (i : ItA) : List Value := [.string i.name, .string i.value, .bool true]
def ruC (x : RuA) (vI : Value) : Array Value := #[.string x.path, .string x.query, .string x.frag, .bool x.hasPath, .bool x.hasQuery, .bool x.hasFrag, vI, .bool x.exclude, .bool x.fold, .bool x.decoded]
theorem elIt : ElemTy Tryz.prog 38 92 3 40 (.agg #[.string ⟨#[]⟩, .string ⟨#[]⟩, .bool false]) := ⟨Tryz.underlying38, by kernel_rfl, rfl, by decide⟩
/-- The reader, and the rule that it is at work on. L: where its items' row lies from. -/
structure QSt (W0 Wv : World) (vv : Value) (L D X : Nat) (st : RdSt) (x : RuA) (vI : Value) (wr : World) : Prop where
 re : ReA W0 Wv vv wr D st
 rule : wr.heap[X]? = some (.cells (ruC x vI) 40 (0, 0))
 row : wr.ownsRow L 92 3 vI x.items.length (x.items.flatMap itC)
 low : Wv.heap.size ≤ X
 hi : X < L
section
variable {W0 Wv wr w' : World} {vv vI : Value} {L D X : Nat} {st st' : RdSt} {x : RuA}
theorem QSt.call (h : QSt W0 Wv vv L D X st x vI wr) (hp : RePost W0 Wv vv wr D st' w') : QSt W0 Wv vv L D X st' x vI w' := by
 have h0 := h.re.vars.lt
 have h1 := h.low
 have h2 := h.hi
 exact ⟨hp.re, oblock hp.only h.rule (by omega), aown_ext h.row (fun g hg => hp.only.block g (h.row.lt g hg).2 (by have := (h.row.lt g hg).1; omega)) (Nat.le_refl _), h.low, h.hi⟩
theorem QSt.ext (h : QSt W0 Wv vv L D X st x vI wr) (hb : Below wr.heap.size wr w') : QSt W0 Wv vv L D X st x vI w' := h.call (RePost.of h.re hb)
theorem QSt.cell (h : QSt W0 Wv vv L D X st x vI wr) (j : Nat) : wr.cell? ⟨X, j, none⟩ = (ruC x vI)[j]? := Lib.cell_of_heap h.rule j
theorem QSt.fz (h : QSt W0 Wv vv L D X st x vI wr) (j : Nat) : wr.frozen? ⟨X, j, none⟩ = false := Go.Joins.unfrozen_of_block h.rule j
theorem QSt.ne (h : QSt W0 Wv vv L D X st x vI wr) : W0.heap.size ≠ X := by have := h.re.vars.lt; have := h.low; omega
/-- A cell of the rule is stored, but not the items. -/
theorem QSt.put (h : QSt W0 Wv vv L D X st x vI wr) (j : Nat) (u : Value) {x' : RuA} (hc : (ruC x vI).setIfInBounds j u = ruC x' vI) (hi : x'.items = x.items) : QSt W0 Wv vv L D X st x' vI (wr.setCell ⟨X, j, none⟩ u) := by
 have h2 := h.hi
 refine ⟨h.re.set h.low j u, ?_, ?_, h.low, h.hi⟩
 · have := Go.Joins.block_setCell h.rule (i := j) u
   rw [← hc]; exact this
 · rw [hi]
   exact aown_ext h.row (fun g hg => Below.heap_setCell wr ⟨X, j, none⟩ u g (by have := (h.row.lt g hg).1; show g ≠ X; omega)) (Nat.le_refl _)
/-- An item is appended, and the row stored. -/
theorem QSt.push (h : QSt W0 Wv vv L D X st x vI wr) (it : ItA) {o : Obj} {v2 : Value} {w2 : World} (ho : w2.ownsRow L 92 3 v2 (x.items.length + 1) (x.items.flatMap itC ++ itC it)) (hg : (wr.alloc o).grownBy w2 vI.ownBlock) :
    QSt W0 Wv vv L D X st { x with items := x.items ++ [it] } v2 (w2.setCell ⟨X, 6, none⟩ v2) ∧ Only (fun b => b = X ∨ L ≤ b) wr (w2.setCell ⟨X, 6, none⟩ v2) := by
 have h0 := h.re.vars.lt
 have h1 := h.low
 have h2 := h.hi
 have hoW : Only (fun b => L ≤ b) (wr.alloc o) w2 := ⟨hg.os, hg.tape, hg.output, hg.size, fun k hk hn => hg.block k hk (fun e => hn ((h.row.lt k e.symm).1))⟩
 have hoA : Only (fun b => L ≤ b) wr w2 := (Only.of (ext_alloc (Below.refl _ wr) o)).trans hoW
 have hX : w2.heap[X]? = some (.cells (ruC x vI) 40 (0, 0)) := oblock hoA h.rule (by omega)
 have hre : ReA W0 Wv vv w2 D st := h.re.turn hoA (fun k hk => by omega)
 refine ⟨⟨hre.set h.low 6 v2, ?_, ?_, h.low, h.hi⟩, (hoA.wide (fun k _ hk => .inr hk)).set (p := ⟨X, 6, none⟩) (fun _ => .inl rfl) v2⟩
 · have := Go.Joins.block_setCell hX (i := 6) v2
   exact this
 · have e : ({ x with items := x.items ++ [it] } : RuA).items.flatMap itC = x.items.flatMap itC ++ itC it := by simp
   have el : ({ x with items := x.items ++ [it] } : RuA).items.length = x.items.length + 1 := by simp
   rw [e, el]
   exact aown_ext ho (fun g hg2 => Below.heap_setCell w2 ⟨X, 6, none⟩ v2 g (by have := (ho.lt g hg2).1; show g ≠ X; omega)) (Nat.le_refl _)
end
end Go.Proofs.YtcaiibkgajhohaaGreatDoor
