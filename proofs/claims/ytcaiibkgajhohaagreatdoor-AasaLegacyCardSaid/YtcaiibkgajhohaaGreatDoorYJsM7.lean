/- jsonp.Parse: the walk. -/
import Derived.Test.YtcaiibkgajhohaaGreatDoorYJsM6
namespace Go.Proofs.YtcaiibkgajhohaaGreatDoor
open Go.RowKit
theorem failed_alloc {w w' : World} {k : Nat} {i : Int} {u : Value} (h : Failed w k i u w') (o : Obj) : Failed w k i u (w'.alloc o) :=
 ⟨(h.1.alloc (fun b hb => hb.2) o).wide (fun b hb => ⟨hb.1, by have := hb.2; simp; omega⟩), ext_alloc h.2 o⟩
structure DocAt (w : World) (base D : Nat) (s : PS) (nodes : Int) (T : Nat) (tv : Value) (ns : List ANode) : Prop where
 doc : w.heap[D]? = some (.cells #[ptrV T] 119 (0, 0))
 tree : TreeAt w T tv ns nodes
 good : GoodN ns s.ups
 wf : WfUps s.ups
 vals : ns.map ANode.val = s.js.map JN.val
 lowD : base ≤ D
 lowT : base ≤ T
theorem PAt.docAt {w : World} {base P D T : Nat} {bv tv sv : Value} {m : Bd} {s : PS} {os : List Nat} {ns : List ANode} (h : PAt w base P D T bv m s tv sv os ns) : DocAt w base D s m.nodes T tv ns := ⟨h.doc, h.tree, h.good, h.wf, h.vals, h.lowD, h.lowT⟩
theorem push3 {A : Array Obj} {n : Nat} (h : A.size = n + 1) {x y z : Obj} : (((A.push x).push y).push z)[n + 1]? = some x ∧ (((A.push x).push y).push z)[n + 2]? = some y ∧ (((A.push x).push y).push z)[n + 3]? = some z := by
 refine ⟨?_, ?_, ?_⟩
 · rw [Array.getElem?_push, if_neg (by simp; omega), Array.getElem?_push, if_neg (by simp; omega), Array.getElem?_push, if_pos h.symm]
 · rw [Array.getElem?_push, if_neg (by simp; omega), Array.getElem?_push, if_pos (by simp; omega)]
 · rw [Array.getElem?_push, if_pos (by simp; omega)]
theorem push3_size {A : Array Obj} {n : Nat} (h : A.size = n + 1) {x y z : Obj} : (((A.push x).push y).push z).size = n + 4 := by simp; omega
theorem PA.start {wc : World} {n : Nat} {bv : Value} {m : Bd} (hz : wc.heap.size = n + 4) (hT : wc.heap[n + 1]? = some (.cells #[.slice none 0 0, .int .i64 m.nodes] 172 (0, 0))) (hD : wc.heap[n + 2]? = some (.cells #[ptrV (n + 1)] 119 (0, 0)))
    (hP : wc.heap[n + 3]? = some (.cells #[bv, .int .i64 m.bytes, .int .i64 m.deep, .int .i64 m.nodes, ptrV (n + 2), .slice (some ⟨n + 5, 0, none⟩) 1 1] 122 (0, 0))) :
    PA ((wc.alloc (.cells #[.int .i64 (-1), .bool false, .int .i64 1, .string ⟨#[]⟩] 126)).alloc (.cells #[ptrV (n + 4)] 123)) n (n + 3) (n + 2) (n + 1) bv m ps0 := by
 have e1 : ∀ k, k < n + 4 → ((wc.alloc (.cells #[.int .i64 (-1), .bool false, .int .i64 1, .string ⟨#[]⟩] 126)).alloc (.cells #[ptrV (n + 4)] 123)).heap[k]? = wc.heap[k]? := fun k hk => by
  rw [Below.heap_alloc _ _ k (by simp; omega), Below.heap_alloc _ _ k (by omega)]
 have e2 : ((wc.alloc (.cells #[.int .i64 (-1), .bool false, .int .i64 1, .string ⟨#[]⟩] 126)).alloc (.cells #[ptrV (n + 4)] 123)).heap[n + 4]? = some (.cells #[.int .i64 (-1), .bool false, .int .i64 1, .string ⟨#[]⟩] 126 (0, 0)) := by
  rw [Below.heap_alloc _ _ _ (by simp; omega), ← hz]; exact heap_alloc_new wc _
 have e3 : ((wc.alloc (.cells #[.int .i64 (-1), .bool false, .int .i64 1, .string ⟨#[]⟩] 126)).alloc (.cells #[ptrV (n + 4)] 123)).heap[n + 5]? = some (.cells #[ptrV (n + 4)] 123 (0, 0)) := by
  have := heap_alloc_new (wc.alloc (.cells #[.int .i64 (-1), .bool false, .int .i64 1, .string ⟨#[]⟩] 126)) (.cells #[ptrV (n + 4)] 123)
  rw [show (wc.alloc (.cells #[.int .i64 (-1), .bool false, .int .i64 1, .string ⟨#[]⟩] 126)).heap.size = n + 5 by simp; omega] at this
  exact this
 generalize (wc.alloc (.cells #[.int .i64 (-1), .bool false, .int .i64 1, .string ⟨#[]⟩] 126)).alloc (.cells #[ptrV (n + 4)] 123) = W at *
 refine ⟨.slice none 0 0, .slice (some ⟨n + 5, 0, none⟩) 1 1, [n + 4], [], ⟨?_, ?_, ⟨?_, World.ownsRow_nil _ _ _ _⟩, ⟨rfl, ?_, ?_, ?_, ?_, ?_, ?_, ?_, ?_⟩, ?_, rfl, ?_, rfl, ?_, by simp, by omega, by omega, by omega, ?_, fun _ => rfl⟩⟩
 · rw [e1 _ (by omega)]; exact hP
 · rw [e1 _ (by omega)]; exact hD
 · rw [e1 _ (by omega)]; exact hT
 · intro i a h; simp at h
 · intro i a h; simp at h
 · intro i a h; simp at h
 · intro i a h; simp at h
 · intro i u a _ h; simp [ps0] at h
 · intro a h; simp at h
 · intro a h; simp at h
 · intro i u a b _ h; simp [ps0] at h
 · intro i u _ h; simp [ps0] at h
 · refine ⟨rfl, .inr ⟨n + 5, 1, #[ptrV (n + 4)], rfl, by omega, e3, Nat.le_refl _, by simp [maxLen], rfl, rfl⟩⟩
 · intro i b o hb ho
   cases i with
   | zero =>
     simp [ps0] at hb ho
     subst hb; subst ho
     exact e2
   | succ i => simp at hb
 · intro b hb; simp at hb; omega
def PsPost (w : World) (nodes : Int) (r : Sc PS) (e : Ending) (w' : World) : Prop := match r with
 | .ok s => ∃ D T tv ns, e = .returned (.tuple #[ptrV D, .nilIface]) ∧ DocAt w' w.heap.size D s nodes T tv ns ∧ Below w.heap.size w w'
 | .no k i => ∃ u, e = .returned (.tuple #[.pointer none, .iface 85 (.pointer (some u))]) ∧ Failed w k i (.iface 85 (.pointer (some u))) w'
def PsRel (B : ByteArray) (m : Bd) (R : Sc PS) (w : World) (P D T : Nat) (bv k : Value) (wr : World) : Prop := ∃ (i : Nat) (s : PS), k = .int .i64 i ∧ i ≤ B.size ∧ PA wr w.heap.size P D T bv m s ∧ Below w.heap.size w wr ∧ PI s ∧ s.js.length ≤ i ∧ s.stack.length ≤ i + 1 ∧ runS B m i s = R
set_option maxRecDepth 100000 in
set_option maxHeartbeats 16000000 in
theorem parse_any (w : World) (bv : Value) (B : ByteArray) (m : Bd) (h : Rd (Own w) w bv (bytesDB B)) (he : ScEnv w) (hz : B.size ≤ 200000) :
    Calls Tryz.prog 24 #[bv, .agg #[.int .i64 m.bytes, .int .i64 m.deep, .int .i64 m.nodes]] w (PsPost w m.nodes (parseS B m)) := by
 obtain ⟨W1, hW1⟩ : ∃ W, w.alloc (.cells #[.int .i64 m.bytes, .int .i64 m.deep, .int .i64 m.nodes] 65) = W := ⟨_, rfl⟩
 have b1 : Below w.heap.size w W1 := by rw [← hW1]; exact ext_alloc (Below.refl _ _) _
 have cx : ∀ j, W1.cell? ⟨w.heap.size, j, none⟩ = (#[.int .i64 m.bytes, .int .i64 m.deep, .int .i64 m.nodes] : Array Value)[j]? := fun j => by rw [← hW1]; simp
 have z1 : W1.heap.size = w.heap.size + 1 := by rw [← hW1]; simp
 have HH := Lib.hid h; have HE := Lib.hid he; have HB1 := Lib.hid b1
 obtain ⟨a, c, hbv, _, hcap, _⟩ := h.by_inv
 have HBV := Lib.hid hbv
 unfold parseS
 by_cases hb : m.bytes < B.size
 · rw [if_pos hb]
   have t1 : decide (m.bytes < (B.size : Int)) = true := decide_eq_true hb
   have FL := Lib.hid (fun k => fails 14 k W1)
   obtain ⟨mb, md, mn⟩ := m
   simp only at cx hW1 t1
   clear h he b1 hb
   subst hbv
   go_enter Tryz.func24, Tryz.ntmps24
   go_wp2_with fail
   refine (FL.out (max mb 0)).mono ?_
   rintro e w2 ⟨u, rfl, hf⟩
   obtain ⟨p, rfl⟩ := hf.form
   have HF := Lib.hid (hf.after HB1.out)
   clear hf
   go_wp2
   go_ret2
   exact ⟨p, rfl, HF.out⟩
 · rw [if_neg hb]
   have t1 : decide (m.bytes < (B.size : Int)) = false := decide_eq_false hb
   obtain ⟨R, hR⟩ : ∃ R, runS B m 0 ps0 = R := ⟨_, rfl⟩
   rw [hR]
   have HR := Lib.hid hR
   have NW := Lib.hid (fun n => new_any m.nodes (W1.drewN n))
   obtain ⟨mb, md, mn⟩ := m
   simp only at cx hW1 t1 NW
   clear h he b1 hb hR
   have hbs : ∃ bs, bs = (B.size : Int) := ⟨_, rfl⟩
   subst hbv
   go_enter Tryz.func24, Tryz.ntmps24
   go_upto_region 3 with (fail)
   clear hW1
   go_cut [6] (fun s6 wx => s6 = ptrV (w.heap.size + 3) ∧ wx.heap.size = w.heap.size + 4 ∧ Below w.heap.size w wx ∧ wx.heap[w.heap.size + 1]? = some (.cells #[.slice none 0 0, .int .i64 mn] 172 (0, 0)) ∧ wx.heap[w.heap.size + 2]? = some (.cells #[ptrV (w.heap.size + 1)] 119 (0, 0)) ∧ wx.heap[w.heap.size + 3]? = some (.cells #[.slice a B.size c, .int .i64 mb, .int .i64 md, .int .i64 mn, ptrV (w.heap.size + 2), .slice none 0 0] 122 (0, 0)))
   case first =>
    have hbl : ∀ (W : World) (o1 o2 o3 : Obj), W.heap = W1.heap → W.os = W1.os → W.tape = W1.tape → W.output = W1.output → Below w.heap.size w (((W.alloc o1).alloc o2).alloc o3) := fun W o1 o2 o3 h1 h2 h3 h4 => by
     have : Below w.heap.size w W := ⟨h2.trans HB1.out.os, h3.trans HB1.out.tape, h4.trans HB1.out.output, by rw [h1]; exact HB1.out.size, fun k hk => by rw [h1]; exact HB1.out.block k hk⟩
     exact ext_alloc (ext_alloc (ext_alloc this _) _) _
    have HBL := Lib.hid hbl
    clear hbl
    go_region_with (go_at_call 48; refine (NW.out _).mono ?_; rintro e w2 ⟨rfl, rfl⟩)
    all_goals
     go_wp2
     go_meet
     exact ⟨rfl, push3_size z1, HBL.out _ _ _ _ rfl rfl rfl rfl, (push3 z1).1, (push3 z1).2.1, (push3 z1).2.2⟩
   case rest =>
    obtain ⟨rfl, hsz, hbc, hT, hD, hP⟩ := hcut
    have hset := Go.Joins.block_setCell hP (i := 5) (.slice (some ⟨w.heap.size + 5, 0, none⟩) 1 1)
    have hPA := PA.start (m := ⟨mb, md, mn⟩) (wc := wc.setCell ⟨w.heap.size + 3, 5, none⟩ (.slice (some ⟨w.heap.size + 5, 0, none⟩) 1 1)) (by simpa using hsz) (by rw [Below.heap_setCell _ _ _ _ (by simp)]; exact hT) (by rw [Below.heap_setCell _ _ _ _ (by simp)]; exact hD) (by simpa using hset)
    have R0 : PsRel B ⟨mb, md, mn⟩ R w (w.heap.size + 3) (w.heap.size + 2) (w.heap.size + 1) (.slice a B.size c) (.int .i64 0) _ := ⟨0, ps0, rfl, Nat.zero_le _, hPA, ext_alloc (ext_alloc (hbc.setCell (p := ⟨w.heap.size + 3, 5, none⟩) (by simp) _) _) _, pi0, by simp [ps0], by simp [ps0], HR.out⟩
    have HR0 := Lib.hid R0
    have k5 : wc.cell? ⟨w.heap.size + 3, 5, none⟩ = some (.slice none 0 0) := by simp [World.cell?, hP]
    have fz5 : wc.frozen? ⟨w.heap.size + 3, 5, none⟩ = false := Go.Joins.unfrozen_of_block hP 5
    clear hPA R0 hT hD hP hbc cx hset
    go_wp2_with fail
    go_loopw [7] (PsRel B ⟨mb, md, mn⟩ R w (w.heap.size + 3) (w.heap.size + 2) (w.heap.size + 1) (.slice a B.size c)) (fun k _ => B.size + 1 - (intOf k).toNat)
    case atStart =>
     have := HR0.out
     simpa [hsz] using this
    case round =>
     obtain ⟨i, s, rfl, hi, hp, hbw, hpi, hjl, hsl, hr⟩ := hrel
     have HBV2 := HBV.out
     have HPC : Hid (PC w wr (.slice a B.size c) B) := Lib.hid ⟨HE.out, HH.out, hbw⟩
     have NX := next_any _ B i wr (HH.out.ext hbw) (HE.out.ext hbw) (by omega)
     rw [runS_step] at hr
     have HP := Lib.hid hp; have HB := Lib.hid hbw; have HPI := Lib.hid hpi
     have hwz := hbw.size
     clear hp hbw hpi k5 fz5 HR0 hsz
     cases hx : nextI B i with
     | no k p =>
       rw [hx] at NX hr
       have NX := Lib.hid NX
       have HRR := Lib.hid (show (.no k p : Sc PS) = R from hr)
       clear hr hx
       go_wp2_with fail
       refine NX.out.mono ?_
       rintro e w2 ⟨u, rfl, hf⟩
       have HF := Lib.hid (hf.after HB.out)
       clear hf
       go_wp2
       go_ret2
       rw [← HRR.out]
       exact ⟨u, rfl, failed_alloc HF.out _⟩
     | ok t =>
       rw [hx] at NX hr
       have hsh := tok_shape hx
       have HX := Lib.hid hx
       simp only [Sc.bind_ok] at hr
       clear hx
       obtain ⟨tk, tf, tt⟩ := t
       have NX2 : Calls Tryz.prog 49 #[.slice a B.size c, .int .i64 (i : Nat)] wr fun e w' => e = .returned (.tuple #[.agg #[.int .i64 tk, .int .i64 tf, .int .i64 tt], .nilIface]) ∧ Below wr.heap.size wr w' := NX
       have NX := Lib.hid NX2
       clear NX2
       have TK := Lib.hid (fun W (hW : Below wr.heap.size wr W) => take_any w W (w.heap.size + 3) (w.heap.size + 2) (w.heap.size + 1) (.slice a B.size c) B ⟨mb, md, mn⟩ s ⟨tk, tf, tt⟩ (HP.out.below hW) (HPC.out.step (hW.mono hwz)) HPI.out (by omega) (by omega) (by omega) ⟨_, HX.out⟩)
       generalize hty : takeS B ⟨mb, md, mn⟩ s ⟨tk, tf, tt⟩ = ty at hr TK
       have HTY := Lib.hid hty
       clear hty
       simp only at hsh
       cases ty with
       | no k p =>
         have HRR := Lib.hid (show (.no k p : Sc PS) = R from hr)
         clear hr
         go_wp2_with fail
         refine NX.out.mono ?_
         rintro e w2 ⟨rfl, hb2⟩
         have TK2 := Lib.hid (fun ob => TK.out _ (ext_alloc hb2 ob))
         clear hb2
         go_wp2_with fail
         refine (TK2.out _).mono ?_
         rintro e w3 ⟨u, rfl, hf⟩
         have HF := Lib.hid hf
         clear hf
         go_wp2
         go_ret2
         rw [← HRR.out]
         exact ⟨u, rfl, HF.out⟩
       | ok s' =>
         simp only [Sc.bind_ok] at hr
         obtain ⟨hpi', hj1, hs1, _⟩ := take_inv HPI.out HTY.out
         go_wp2_with fail
         refine NX.out.mono ?_
         rintro e w2 ⟨rfl, hb2⟩
         have TK2 := Lib.hid (fun ob => TK.out _ (ext_alloc hb2 ob))
         have HB2 := Lib.hid (fun ob => HB.out.trans ((ext_alloc hb2 ob).mono hwz))
         have HNB := Lib.hid (heap_alloc_new w2 (.cells #[.int .i64 tk, .int .i64 tf, .int .i64 tt] 128))
         clear hb2
         go_wp2_with fail
         refine (TK2.out _).mono ?_
         rintro e w3 ⟨rfl, hp3, hb3, ht3⟩
         have hX := ht3 _ _ _ HNB.out
         have cb : ∀ j, w3.cell? ⟨w2.heap.size, j, none⟩ = (#[.int .i64 tk, .int .i64 tf, .int .i64 tt] : Array Value)[j]? := fun j => by simp [World.cell?, hX]
         have hbw3 := (HB2.out _).trans hb3
         have HB3 := Lib.hid hbw3
         have HP3 := Lib.hid hp3
         by_cases h0 : tk = 0
         · have t0 : (tk == 0) = true := beq_iff_eq.2 h0
           rw [if_pos h0] at hr
           have HRR := Lib.hid (show (.ok s' : Sc PS) = R from hr)
           obtain ⟨tv, sv, os, ns, hpat⟩ := hp3
           have c4 := hpat.c4
           have HDA := Lib.hid hpat.docAt
           clear hr hpat hb3 ht3 hX hbw3 h0 hsh hi hjl hsl hj1 hs1 hpi'
           go_wp2
           go_ret2
           rw [← HRR.out]
           exact ⟨_, _, tv, ns, rfl, HDA.out, HB3.out⟩
         · have t0 : (tk == 0) = false := beq_eq_false_iff_ne.2 h0
           rw [if_neg h0] at hr
           have hft : tf < tt := by omega
           obtain ⟨n, rfl⟩ : ∃ n : Nat, tt = n := ⟨tt.toNat, by omega⟩
           have R1 : PsRel B ⟨mb, md, mn⟩ R w (w.heap.size + 3) (w.heap.size + 2) (w.heap.size + 1) (.slice a B.size c) (.int .i64 n) w3 := ⟨n, s', rfl, by omega, hp3, hbw3, hpi', by omega, by omega, hr⟩
           have HR1 := Lib.hid R1
           have hin : i < n := by omega
           have hnB : n ≤ B.size := by omega
           clear hr hb3 ht3 hX hbw3 h0 hsh hi hjl hsl hj1 hs1 hpi' R1 hp3 hft
           go_wp2
           refine ⟨?_, by simp [intOf]; omega⟩
           have R := HR1.out
           first | exact R | ((repeat apply Exists.intro); exact ⟨R, rfl⟩)
open Go.RowKit
section
variable {w w' : World} {base D T : Nat} {s : PS} {nodes : Int} {tv : Value} {ns : List ANode}
theorem DocAt.below (h : DocAt w base D s nodes T tv ns) (hb : Below w.heap.size w w') : DocAt w' base D s nodes T tv ns :=
 ⟨by rw [hb.block D (heap_lt h.doc)]; exact h.doc, h.tree.below hb, h.good, h.wf, h.vals, h.lowD, h.lowT⟩
theorem DocAt.len (h : DocAt w base D s nodes T tv ns) : ns.length = s.js.length := by
 have := congrArg List.length h.vals
 simpa using this
theorem DocAt.cD (h : DocAt w base D s nodes T tv ns) : w.cell? ⟨D, 0, none⟩ = some (ptrV T) := by simp [World.cell?, h.doc]
theorem DocAt.node {g cap i : Nat} {x : JN} (h : DocAt w base D s nodes T (.slice (some ⟨g, 0, none⟩) ns.length cap) ns) (hx : s.js[i]? = some x) :
    w.cell? ⟨g, i * 10, none⟩ = some (.int .i64 x.kind) ∧ w.cell? ⟨g, i * 10 + 1, none⟩ = some (.string x.key) ∧ w.cell? ⟨g, i * 10 + 2, none⟩ = some (.string x.text) ∧ w.cell? ⟨g, i * 10 + 3, none⟩ = some (.int .i64 x.at_) := by
 have hl := h.len
 have hi := (List.getElem?_eq_some_iff.1 hx).1
 obtain ⟨a, ha⟩ := get_ex ns i (by omega)
 have hv : a.val = x.val := by
  have := congrArg (fun l => l[i]?) h.vals
  simp only [List.getElem?_map, ha, hx, Option.map_some, Option.some.injEq] at this
  exact this
 have hc : jcells a = [.int .i64 x.kind, .string x.key, .string x.text, .int .i64 x.at_] ++ [.int .i64 a.up, .int .i64 a.first, .int .i64 a.last, .int .i64 a.next, .int .i64 a.deep, .int .i64 a.count] := by
  unfold jcells
  rw [hv]; rfl
 have hn := fun j hj => h.tree.node ha j hj
 rw [hc] at hn
 exact ⟨hn 0 (by decide), hn 1 (by decide), hn 2 (by decide), hn 3 (by decide)⟩
end
theorem below_four {w w1 : World} (h : Below w.heap.size w w1) (a b c d : Value) : Below w.heap.size w ((((w1.setCell ⟨w.heap.size, 0, none⟩ a).setCell ⟨w.heap.size, 1, none⟩ b).setCell ⟨w.heap.size, 2, none⟩ c).setCell ⟨w.heap.size, 3, none⟩ d) :=
 (((h.setCell (Nat.le_refl _) a).setCell (Nat.le_refl _) b).setCell (Nat.le_refl _) c).setCell (Nat.le_refl _) d
def jz : JN := ⟨0, ⟨#[]⟩, ⟨#[]⟩, 0⟩
/-- What Value gives: the value, and whether there is one. -/
def VlPost (w : World) (js : List JN) (id : Int) (e : Ending) (w' : World) : Prop :=
 (∃ (i : Nat) (x : JN), id = i ∧ js[i]? = some x ∧ e = .returned (.tuple #[.agg #[.int .i64 x.kind, .string x.key, .string x.text, .int .i64 x.at_], .bool true]) ∧ Below w.heap.size w w') ∨
 (¬ (0 ≤ id ∧ id < js.length) ∧ e = .returned (.tuple #[.agg #[.int .i64 0, .string ⟨#[]⟩, .string ⟨#[]⟩, .int .i64 0], .bool false]) ∧ Below w.heap.size w w')
set_option maxRecDepth 100000 in
set_option maxHeartbeats 4000000 in
theorem tvalue_any (w : World) (base D T : Nat) (s : PS) (nodes : Int) (tv : Value) (ns : List ANode) (id : Int) (h : DocAt w base D s nodes T tv ns) (hj : s.js.length ≤ 1100000) :
    Calls Tryz.prog 124 #[ptrV T, .int .i64 id] w (VlPost w s.js id) := by
 have hl := h.len
 have HAS := Lib.hid (fun ob => has_id T tv ns nodes id (w.alloc ob) ((h.below (ext_alloc (Below.refl _ _) ob)).tree))
 have HB := Lib.hid (fun ob : Obj => ext_alloc (Below.refl _ w) ob)
 by_cases hid : 0 ≤ id ∧ id < s.js.length
 · obtain ⟨i, rfl⟩ : ∃ i : Nat, id = i := ⟨id.toNat, by omega⟩
   obtain ⟨x, hx⟩ := get_ex s.js i (by omega)
   obtain ⟨g, cap, rfl, hTg, hgw⟩ := h.tree.form1 (by omega)
   obtain ⟨n0, n1, n2, n3⟩ := h.node hx
   have c0 := h.tree.cell0
   have hTw := h.tree.lt
   have e : decide (0 ≤ (i : Int) ∧ (i : Int) < (ns.length : Int)) = true := decide_eq_true (by omega)
   rw [e] at HAS
   have hin : i < ns.length := by omega
   have HX := Lib.hid hx
   have HL := Lib.hid hl
   have HV : Hid (∀ w', Below w.heap.size w w' → VlPost w s.js i (.returned (.tuple #[.agg #[.int .i64 x.kind, .string x.key, .string x.text, .int .i64 x.at_], .bool true])) w') := Lib.hid (fun w' hb => .inl ⟨i, x, rfl, hx, rfl, hb⟩)
   clear h hl hid e hx
   go_enter Tryz.func124, Tryz.ntmps124
   go_wp2_with fail
   refine (HAS.out _).mono ?_
   rintro e w1 ⟨rfl, rfl⟩
   go_wp2
   refine bodyPost_ret (v := .tuple #[.agg #[.int .i64 x.kind, .string x.key, .string x.text, .int .i64 x.at_], .bool true]) (by simp [results, Tryz.results124, go_sem]) rfl (HV.out _ (HB.out _))
 · have e : decide (0 ≤ id ∧ id < (ns.length : Int)) = false := decide_eq_false (by omega)
   rw [e] at HAS
   have HV : Hid (∀ w', Below w.heap.size w w' → VlPost w s.js id (.returned (.tuple #[.agg #[.int .i64 0, .string ⟨#[]⟩, .string ⟨#[]⟩, .int .i64 0], .bool false])) w') := Lib.hid (fun w' hb => .inr ⟨hid, rfl, hb⟩)
   clear h hl hid e
   go_enter Tryz.func124, Tryz.ntmps124
   go_wp2_with fail
   refine (HAS.out _).mono ?_
   rintro e w1 ⟨rfl, rfl⟩
   go_wp2
   refine bodyPost_ret (v := .tuple #[.agg #[.int .i64 0, .string ⟨#[]⟩, .string ⟨#[]⟩, .int .i64 0], .bool false]) (by simp [results, Tryz.results124, go_sem]) rfl (HV.out _ (HB.out _))
set_option maxRecDepth 100000 in
set_option maxHeartbeats 4000000 in
theorem node_any (w : World) (base D T : Nat) (s : PS) (nodes : Int) (tv : Value) (ns : List ANode) (id : Int) (h : DocAt w base D s nodes T tv ns) (hj : s.js.length ≤ 1100000) :
    Calls Tryz.prog 90 #[ptrV D, .int .i64 id] w (VlPost w s.js id) := by
 have cD := h.cD
 have hDw := heap_lt h.doc
 have VL := Lib.hid (fun ob => tvalue_any (w.alloc ob) base D T s nodes tv ns id (h.below (ext_alloc (Below.refl _ _) ob)) hj)
 have HB := Lib.hid (fun ob : Obj => ext_alloc (Below.refl _ w) ob)
 clear h
 go_enter Tryz.func90, Tryz.ntmps90
 go_wp2_with fail
 refine (VL.out _).mono ?_
 intro e w2 hp
 rcases hp with ⟨i, x, rfl, hx, rfl, hb⟩ | ⟨hn, rfl, hb⟩
 · have hcb := bcell1 hb (b := w.heap.size) (by simp)
   have hz2 : w.heap.size < w2.heap.size := by have := hb.size; simp at this; omega
   have hfb := bfrozen1 hb (b := w.heap.size) (by simp)
   have HF := Lib.hid (ext_trans (HB.out _) hb)
   have HX := Lib.hid hx
   clear hb hx
   go_wp2
   refine bodyPost_ret (v := .tuple #[.agg #[.int .i64 x.kind, .string x.key, .string x.text, .int .i64 x.at_], .bool true]) (by simp [results, Tryz.results90, go_sem, hcb]) rfl (.inl ⟨i, x, rfl, HX.out, rfl, below_four HF.out _ _ _ _⟩)
 · have hcb := bcell1 hb (b := w.heap.size) (by simp)
   have hz2 : w.heap.size < w2.heap.size := by have := hb.size; simp at this; omega
   have hfb := bfrozen1 hb (b := w.heap.size) (by simp)
   have HF := Lib.hid (ext_trans (HB.out _) hb)
   have HN := Lib.hid hn
   clear hb hn
   go_wp2
   refine bodyPost_ret (v := .tuple #[.agg #[.int .i64 0, .string ⟨#[]⟩, .string ⟨#[]⟩, .int .i64 0], .bool false]) (by simp [results, Tryz.results90, go_sem, hcb]) rfl (.inr ⟨HN.out, rfl, ?_⟩)
   first | exact below_four HF.out _ _ _ _ | exact HF.out
/-- A value's key; none beyond the values. -/
def keyA (js : List JN) (k : Nat) : ByteArray := match js[k]? with
 | some x => x.key
 | none => ⟨#[]⟩
set_option maxRecDepth 100000 in
set_option maxHeartbeats 4000000 in
theorem dkey_any (w : World) (base D T : Nat) (s : PS) (nodes : Int) (tv : Value) (ns : List ANode) (k : Nat) (h : DocAt w base D s nodes T tv ns) (hj : s.js.length ≤ 1100000) :
    Calls Tryz.prog 93 #[ptrV D, .int .i64 k] w fun e w' => e = .returned (.string (keyA s.js k)) ∧ Below w.heap.size w w' := by
 have cD := h.cD
 have VL := Lib.hid (tvalue_any w base D T s nodes tv ns k h hj)
 clear h
 go_enter Tryz.func93, Tryz.ntmps93
 go_wp2_with fail
 refine VL.out.mono ?_
 intro e w2 hp
 rcases hp with ⟨i, x, hi, hx, rfl, hb⟩ | ⟨hn, rfl, hb⟩
 · obtain rfl : k = i := by omega
   have hk : keyA s.js k = x.key := by unfold keyA; rw [hx]
   have HK := Lib.hid hk
   have HF := Lib.hid (fun ob => ext_alloc hb ob)
   clear hb hx hk hi
   go_wp2
   go_ret
   exact ⟨by rw [HK.out]; rfl, HF.out _⟩
 · have hk : keyA s.js k = ⟨#[]⟩ := by
     unfold keyA
     rw [List.getElem?_eq_none (by omega)]
   have HK := Lib.hid hk
   have HF := Lib.hid (fun ob => ext_alloc hb ob)
   clear hb hn hk
   go_wp2
   go_ret
   exact ⟨by rw [HK.out]; rfl, HF.out _⟩
open Go.RowKit
theorem failed_four {w a b : World} {k : Nat} {i : Int} {u : Value} (hb : Below w.heap.size w a) (h : Failed a k i u b) (h2 : w.heap.size < a.heap.size) (c0 c1 c2 c3 : Value) : Failed w k i u ((((b.setCell ⟨w.heap.size, 0, none⟩ c0).setCell ⟨w.heap.size, 1, none⟩ c1).setCell ⟨w.heap.size, 2, none⟩ c2).setCell ⟨w.heap.size, 3, none⟩ c3) := by
 refine ⟨?_, below_four (hb.trans (h.2.mono hb.size)) _ _ _ _⟩
 refine Rd.wide (S := fun c => a.heap.size ≤ c ∧ c < b.heap.size) ?_ (fun c hc => ⟨by have := hb.size; omega, by simpa using hc.2⟩)
 have hne : ∀ c, (a.heap.size ≤ c ∧ c < b.heap.size) → c ≠ w.heap.size := fun c hc => by omega
 exact (((h.1.set (p := ⟨w.heap.size, 0, none⟩) hne c0).set (p := ⟨w.heap.size, 1, none⟩) hne c1).set (p := ⟨w.heap.size, 2, none⟩) hne c2).set (p := ⟨w.heap.size, 3, none⟩) hne c3
def OfPost (w : World) (js : List JN) (id : Int) (ks : List Int) (e : Ending) (w' : World) : Prop :=
 (∃ (i : Nat) (x : JN), id = i ∧ js[i]? = some x ∧ (x.kind ∈ ks ∧ e = .returned (.tuple #[.agg #[.int .i64 x.kind, .string x.key, .string x.text, .int .i64 x.at_], .nilIface]) ∧ Below w.heap.size w w' ∨
   x.kind ∉ ks ∧ ∃ u, e = .returned (.tuple #[.agg #[.int .i64 0, .string ⟨#[]⟩, .string ⟨#[]⟩, .int .i64 0], .iface 85 (.pointer (some u))]) ∧ Failed w 32 x.at_ (.iface 85 (.pointer (some u))) w')) ∨
 (¬ (0 ≤ id ∧ id < js.length) ∧ ∃ u, e = .returned (.tuple #[.agg #[.int .i64 0, .string ⟨#[]⟩, .string ⟨#[]⟩, .int .i64 0], .iface 85 (.pointer (some u))]) ∧ Failed w 30 id (.iface 85 (.pointer (some u))) w')
def OfRel (ks : List Int) (kd : Int) (W : World) (k : Value) (wr : World) : Prop := wr = W ∧ ∃ j : Nat, k = .int .i64 j ∧ j ≤ ks.length ∧ ∀ m, m < j → ks[m]? ≠ some kd
set_option maxRecDepth 100000 in
set_option maxHeartbeats 8000000 in
theorem of_any (w : World) (base D T : Nat) (s : PS) (nodes : Int) (tv : Value) (ns : List ANode) (id : Int) (kv : Value) (ks : List Int) (h : DocAt w base D s nodes T tv ns) (hj : s.js.length ≤ 1100000) (hk : Rd (Own w) w kv (.list 1 (ks.map (.int .i64)))) (hkl : ks.length ≤ 1000) :
    Calls Tryz.prog 91 #[ptrV D, .int .i64 id, kv] w (OfPost w s.js id ks) := by
 have cD := h.cD
 have hDw := heap_lt h.doc
 have VL := Lib.hid (fun ob => tvalue_any (w.alloc ob) base D T s nodes tv ns id (h.below (ext_alloc (Below.refl _ _) ob)) hj)
 have HB := Lib.hid (fun ob : Obj => ext_alloc (Below.refl _ w) ob)
 obtain ⟨a, c, rfl, _, _, hcells⟩ := hk.ints_inv
 have HCL := Lib.hid hcells
 clear h hk hcells
 go_enter Tryz.func91, Tryz.ntmps91
 go_wp2_with fail
 refine (VL.out _).mono ?_
 intro e w2 hp
 rcases hp with ⟨i, x, rfl, hx, rfl, hb⟩ | ⟨hn, rfl, hb⟩
 · have hcb := bcell1 hb (b := w.heap.size) (by simp)
   have hz2 : w.heap.size < w2.heap.size := by have := hb.size; simp at this; omega
   have hblk : w2.heap[w.heap.size]? = some (.cells #[.int .i64 0, .string ⟨#[]⟩, .string ⟨#[]⟩, .int .i64 0] 117 (0, 0)) := (hb.block _ (by simp)).trans (heap_alloc_new w _)
   have hfb := bfrozen1 hb (b := w.heap.size) (by simp)
   have HF := Lib.hid (ext_trans (HB.out _) hb)
   have HX := Lib.hid hx
   clear hb hx
   obtain ⟨W3, hW3⟩ : ∃ W, w2.alloc (.cells #[.int .i64 x.kind, .string x.key, .string x.text, .int .i64 x.at_] 117) = W := ⟨_, rfl⟩
   have cn : ∀ j, W3.cell? ⟨w2.heap.size, j, none⟩ = (#[.int .i64 x.kind, .string x.key, .string x.text, .int .i64 x.at_] : Array Value)[j]? := fun j => by rw [← hW3]; simp
   have h3 : Below w.heap.size w W3 := by rw [← hW3]; exact ext_alloc HF.out _
   have hc3 : ∀ j, W3.cell? ⟨w.heap.size, j, none⟩ = (w.alloc (.cells #[.int .i64 0, .string ⟨#[]⟩, .string ⟨#[]⟩, .int .i64 0] 117)).cell? ⟨w.heap.size, j, none⟩ := fun j => by rw [← hW3, cell_keep (Below.heap_alloc w2 _ _ hz2)]; exact hcb j
   have hz3 : w.heap.size < W3.heap.size := by rw [← hW3]; simp; omega
   have hblk3 : W3.heap[w.heap.size]? = some (.cells #[.int .i64 0, .string ⟨#[]⟩, .string ⟨#[]⟩, .int .i64 0] 117 (0, 0)) := by rw [← hW3, Below.heap_alloc w2 _ _ hz2]; exact hblk
   have fz3 : ∀ j, W3.frozen? ⟨w.heap.size, j, none⟩ = false := fun j => Go.Joins.unfrozen_of_block hblk3 j
   have HBK := Lib.hid hblk3
   clear hblk hblk3
   have hz23 : w2.heap.size < W3.heap.size := by rw [← hW3]; simp
   have hw2n : ∀ W : World, W.heap.size = w2.heap.size → True := fun _ _ => trivial
   have HF3 := Lib.hid h3
   have hca : ∀ (j : Nat) (hj : j < ks.length), ∃ b off, a = some ⟨b, off, none⟩ ∧ W3.cell? ⟨b, off + j, none⟩ = some (.int .i64 ks[j]) := fun j hj => by
    obtain ⟨b, off, hab, hS, hc⟩ := HCL.out (by omega)
    exact ⟨b, off, hab, (bcell1 h3 hS _).trans (hc j _ (List.getElem?_eq_getElem hj))⟩
   have HCA := Lib.hid hca
   clear h3 hca hcb
   go_wp2_with fail
   clear hW3
   go_loopw [28] (OfRel ks x.kind W3) (fun k _ => ks.length - (intOf k).toNat)
   case atStart => exact ⟨rfl, 0, rfl, Nat.zero_le _, fun m hm => by omega⟩
   case round =>
    obtain ⟨rfl, j, rfl, hjl, hno⟩ := hrel
    have HNO := Lib.hid hno
    clear hno
    by_cases hlt : j < ks.length
    · obtain ⟨b, off, rfl, hc⟩ := HCA.out j hlt
      have t1 : decide ((j : Int) < (ks.length : Int)) = true := decide_eq_true (by omega)
      have t1' : decide (j < ks.length) = true := decide_eq_true hlt
      have q1 : IntKind.i64.wrap ((j : Int) + 1) = (j : Int) + 1 := IntWalk.i64_in _ (by omega)
      have hg : ks[j]? = some ks[j] := List.getElem?_eq_getElem hlt
      generalize ks[j] = y at *
      have HG := Lib.hid hg
      clear hg
      by_cases hy : x.kind = y
      · have t2 : (x.kind == y) = true := beq_iff_eq.2 hy
        have hmem : x.kind ∈ ks := by rw [hy]; exact List.mem_of_getElem? HG.out
        have HM := Lib.hid hmem
        clear hy hmem
        go_wp2
        (try simp only [Exit.inBlock, Exit.then])
        refine bodyPost_ret (v := .tuple #[.agg #[.int .i64 x.kind, .string x.key, .string x.text, .int .i64 x.at_], .nilIface]) (by simp [results, Tryz.results91, go_sem, hc3]) rfl (.inl ⟨i, x, rfl, HX.out, .inl ⟨HM.out, rfl, below_four HF3.out _ _ _ _⟩⟩)
      · have t2 : (x.kind == y) = false := beq_eq_false_iff_ne.2 hy
        have R : OfRel ks x.kind wr (.int .i64 ((j : Int) + 1)) wr := ⟨rfl, j + 1, by go_num, hlt, fun m hm => by
         by_cases e : m = j
         · subst e; rw [HG.out]; exact fun h => hy (Option.some.inj h).symm
         · exact HNO.out m (by omega)⟩
        have HR := Lib.hid R
        clear R hy
        go_wp2
        refine ⟨?_, by simp [intOf]; omega⟩
        have R := HR.out
        first | exact R | ((repeat apply Exists.intro); exact ⟨R, rfl⟩)
    · have t1 : decide ((j : Int) < (ks.length : Int)) = false := decide_eq_false (by omega)
      have t1' : decide (j < ks.length) = false := decide_eq_false hlt
      have hnm : x.kind ∉ ks := fun hm => by
       obtain ⟨m, hmm⟩ := List.mem_iff_getElem?.1 hm
       exact HNO.out m (by have := (List.getElem?_eq_some_iff.1 hmm).1; omega) hmm
      have FL := Lib.hid (fails 32 x.at_ wr)
      have HM := Lib.hid hnm
      clear hnm hlt
      go_wp2_with fail
      refine FL.out.mono ?_
      rintro e w5 ⟨u, rfl, hf⟩
      obtain ⟨p, rfl⟩ := hf.form
      have hc5 := fun j => (bcell1 hf.2 hz3 j).trans (hc3 j)
      have hf5 := hf.2.size
      have fz5 : ∀ j, w5.frozen? ⟨w.heap.size, j, none⟩ = false := fun j => Go.Joins.unfrozen_of_block ((hf.2.block _ hz3).trans HBK.out) j
      have HFA := Lib.hid hf
      clear hf
      go_wp2
      (try simp only [Exit.inBlock, Exit.then])
      refine bodyPost_ret (v := .tuple #[.agg #[.int .i64 0, .string ⟨#[]⟩, .string ⟨#[]⟩, .int .i64 0], .iface 85 (.pointer (some p))]) (by simp [results, Tryz.results91, go_sem, hc5]) rfl (.inl ⟨i, x, rfl, HX.out, .inr ⟨HM.out, p, rfl, ?_⟩⟩)
      first | exact failed_four HF3.out HFA.out hz3 _ _ _ _ | exact HFA.out.after HF3.out
 · have hcb := bcell1 hb (b := w.heap.size) (by simp)
   have hz2 : w.heap.size < w2.heap.size := by have := hb.size; simp at this; omega
   have hblk : w2.heap[w.heap.size]? = some (.cells #[.int .i64 0, .string ⟨#[]⟩, .string ⟨#[]⟩, .int .i64 0] 117 (0, 0)) := (hb.block _ (by simp)).trans (heap_alloc_new w _)
   have HF := Lib.hid (ext_trans (HB.out _) hb)
   have HN := Lib.hid hn
   obtain ⟨W3, hW3⟩ : ∃ W, w2.alloc (.cells #[.int .i64 0, .string ⟨#[]⟩, .string ⟨#[]⟩, .int .i64 0] 117) = W := ⟨_, rfl⟩
   have h3 : Below w.heap.size w W3 := by rw [← hW3]; exact ext_alloc HF.out _
   have hc3 : ∀ j, W3.cell? ⟨w.heap.size, j, none⟩ = (w.alloc (.cells #[.int .i64 0, .string ⟨#[]⟩, .string ⟨#[]⟩, .int .i64 0] 117)).cell? ⟨w.heap.size, j, none⟩ := fun j => by rw [← hW3, cell_keep (Below.heap_alloc w2 _ _ hz2)]; exact hcb j
   have hz3 : w.heap.size < W3.heap.size := by rw [← hW3]; simp; omega
   have hblk3 : W3.heap[w.heap.size]? = some (.cells #[.int .i64 0, .string ⟨#[]⟩, .string ⟨#[]⟩, .int .i64 0] 117 (0, 0)) := by rw [← hW3, Below.heap_alloc w2 _ _ hz2]; exact hblk
   have fz3 : ∀ j, W3.frozen? ⟨w.heap.size, j, none⟩ = false := fun j => Go.Joins.unfrozen_of_block hblk3 j
   have HBK := Lib.hid hblk3
   clear hblk hblk3
   have HF3 := Lib.hid h3
   have FL := Lib.hid (fails 30 id W3)
   have HW3 := Lib.hid hW3
   clear hb hn hcb h3 hW3
   go_wp2_with fail
   rw [HW3.out]
   refine FL.out.mono ?_
   rintro e w5 ⟨u, rfl, hf⟩
   obtain ⟨p, rfl⟩ := hf.form
   have hc5 := fun j => (bcell1 hf.2 hz3 j).trans (hc3 j)
   have hf5 := hf.2.size
   have fz5 : ∀ j, w5.frozen? ⟨w.heap.size, j, none⟩ = false := fun j => Go.Joins.unfrozen_of_block ((hf.2.block _ hz3).trans HBK.out) j
   have HFA := Lib.hid hf
   clear hf
   go_wp2
   (try simp only [Exit.inBlock, Exit.then])
   refine bodyPost_ret (v := .tuple #[.agg #[.int .i64 0, .string ⟨#[]⟩, .string ⟨#[]⟩, .int .i64 0], .iface 85 (.pointer (some p))]) (by simp [results, Tryz.results91, go_sem, hc5]) rfl (.inr ⟨HN.out, p, rfl, ?_⟩)
   first | exact failed_four HF3.out HFA.out hz3 _ _ _ _ | exact HFA.out.after HF3.out
end Go.Proofs.YtcaiibkgajhohaaGreatDoor
