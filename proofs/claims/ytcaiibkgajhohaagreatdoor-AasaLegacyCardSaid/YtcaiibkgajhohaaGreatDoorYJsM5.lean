/- The parser's value: the walk. -/
import Derived.Test.YtcaiibkgajhohaaGreatDoorYJsM3s
import Derived.Deep.DeepCutAuto
import Derived.Deep.CutBlock
namespace Go.Proofs.YtcaiibkgajhohaaGreatDoor
open Go.RowKit
theorem byteAt_extract {B : ByteArray} {f g j : Nat} (h : f + j < g) : byteAt (B.extract f g) j = byteAt B (f + j) := by
 unfold byteAt
 rw [ByteArray.data_extract, Array.getElem?_extract]
 split
 · rfl
 · rw [Array.getElem?_eq_none (by omega)]
structure VSt (w0 w : World) (P D T : Nat) (bv : Value) (m : Bd) (s : PS) (tv sv : Value) (os : List Nat) (ns : List ANode) (X N : Nat) (t : Tok) (nd : JN) (W : World) : Prop where
 pat : PAt W w0.heap.size P D T bv m s tv sv os ns
 bl : Below w0.heap.size w W
 tok : W.heap[X]? = some (.cells #[.int .i64 t.kind, .int .i64 t.fr, .int .i64 t.to] 128 (0, 0))
 node : W.heap[N]? = some (.cells #[.int .i64 nd.kind, .string nd.key, .string nd.text, .int .i64 nd.at_] 117 (0, 0))
 lowN : w0.heap.size ≤ N
 low : w0.heap.size ≤ W.heap.size
 tkp : TKept w W
section
variable {w0 w W W' : World} {P D T X N : Nat} {bv tv sv : Value} {m : Bd} {s : PS} {os : List Nat} {ns : List ANode} {t : Tok} {nd nd' : JN}
theorem VSt.below (h : VSt w0 w P D T bv m s tv sv os ns X N t nd W) (hb : Below W.heap.size W W') : VSt w0 w P D T bv m s tv sv os ns X N t nd W' :=
 ⟨h.pat.below hb, h.bl.trans (hb.mono h.low), by rw [hb.block X (heap_lt h.tok)]; exact h.tok, by rw [hb.block N (heap_lt h.node)]; exact h.node, h.lowN, Nat.le_trans h.low hb.size, h.tkp.trans (.of hb)⟩
theorem VSt.put (h : VSt w0 w P D T bv m s tv sv os ns X N t nd W) (j : Nat) (u : Value) (hc : (#[.int .i64 nd'.kind, .string nd'.key, .string nd'.text, .int .i64 nd'.at_] : Array Value) = (#[.int .i64 nd.kind, .string nd.key, .string nd.text, .int .i64 nd.at_] : Array Value).setIfInBounds j u) :
    VSt w0 w P D T bv m s tv sv os ns X N t nd' (W.setCell ⟨N, j, none⟩ u) := by
 have hk : ∀ k, k ≠ N → (W.setCell ⟨N, j, none⟩ u).heap[k]? = W.heap[k]? := fun k hk => Below.heap_setCell _ _ _ _ hk
 have hN := h.node
 have p := h.pat
 refine ⟨⟨?_, ?_, p.tree_keep hN hk (by decide) (by decide), p.good, p.wf, p.vals, p.row_keep hN hk (by decide), p.len, fun i c q hci hq => ?_, p.nd, p.lowP, p.lowD, p.lowT, p.lowO, p.nil0⟩, h.bl.setCell (p := ⟨N, j, none⟩) h.lowN u, ?_, ?_, h.lowN, by simpa using h.low, h.tkp.set (p := ⟨N, j, none⟩) hN (by decide) u⟩
 · rw [hk P (ne_type p.box hN (by decide))]; exact p.box
 · rw [hk D (ne_type p.doc hN (by decide))]; exact p.doc
 · have ho := p.ops i c q hci hq
   unfold OpAt at *
   rw [hk c (ne_type ho hN (by decide))]; exact ho
 · rw [hk X (ne_type h.tok hN (by decide))]; exact h.tok
 · have := Go.Joins.block_setCell hN (i := j) u
   rw [hc]; simpa using this
theorem VSt.pc {B : ByteArray} (h : VSt w0 w P D T bv m s tv sv os ns X N t nd W) (hc : PC w0 w bv B) : PC w0 W bv B := hc.step h.bl
theorem VSt.tk (h : VSt w0 w P D T bv m s tv sv os ns X N t nd W) (j : Nat) : W.cell? ⟨X, j, none⟩ = (#[.int .i64 t.kind, .int .i64 t.fr, .int .i64 t.to] : Array Value)[j]? := by simp [World.cell?, h.tok]
theorem VSt.nk (h : VSt w0 w P D T bv m s tv sv os ns X N t nd W) (j : Nat) : W.cell? ⟨N, j, none⟩ = (#[.int .i64 nd.kind, .string nd.key, .string nd.text, .int .i64 nd.at_] : Array Value)[j]? := by simp [World.cell?, h.node]
theorem VSt.nf (h : VSt w0 w P D T bv m s tv sv os ns X N t nd W) (j : Nat) : W.frozen? ⟨N, j, none⟩ = false := Go.Joins.unfrozen_of_block h.node j
end
theorem node_num {B : ByteArray} {o : Op} {f g : Nat} : nodeS B o 3 ⟨8, f, g⟩ = ⟨3, if o.obj then o.key else ⟨#[]⟩, B.extract f g, f⟩ := by simp [nodeS, textN]
theorem elPtr : ElemTy Tryz.prog 120 123 1 8 (.pointer none) := ⟨Tryz.underlying120, by kernel_rfl, rfl, by decide⟩
section
variable {w0 w W : World} {P D T X N : Nat} {bv tv sv : Value} {m : Bd} {s : PS} {os : List Nat} {ns : List ANode} {t : Tok} {nd : JN}
theorem PAt.js_len {w : World} {base : Nat} (h : PAt w base P D T bv m s tv sv os ns) : ns.length = s.js.length := by
 have := congrArg List.length h.vals
 simpa using this
theorem VSt.many (h : VSt w0 w P D T bv m s tv sv os ns X N t nd W) {u : Int} (hu : 0 ≤ u ∧ u < s.js.length ∨ u = -1 ∧ s.js = []) (hm : m.nodes ≤ s.js.length) :
    Calls Tryz.prog 123 #[.pointer (some ⟨T, 0, none⟩), .int .i64 u, .agg #[.int .i64 nd.kind, .string nd.key, .string nd.text, .int .i64 nd.at_]] W (AddNo W) := by
 have hl := h.pat.js_len
 refine add_many T tv ns m.nodes u nd W h.pat.tree ?_ (by omega)
 rcases hu with h1 | ⟨h1, h2⟩
 · exact .inl (by omega)
 · refine .inr ⟨h1, ?_⟩
   rw [h2] at hl
   exact List.length_eq_zero_iff.1 hl
theorem VSt.added {tv' : Value} {ns' : List ANode} {w' : World} {js : List JN} {ups : List Nat} (h : VSt w0 w P D T bv m s tv sv os ns X N t nd W) (ht : TreeAt w' T tv' ns' m.nodes) (ho : Only (TB T tv) W w') (hg : GoodN ns' ups) (hw : WfUps ups) (hv : ns'.map ANode.val = js.map JN.val) (hne : js ≠ []) :
    VSt w0 w P D T bv m ⟨js, ups, s.stack⟩ tv' sv os ns' X N t nd w' := by
 have hb : Below w0.heap.size W w' := ho.below h.low (fun k hk => by
  rcases hk with rfl | hk
  · exact h.pat.lowT
  · have := (h.pat.tree.own.lt k hk).1; have := h.pat.lowT; omega)
 exact ⟨h.pat.new ht ho hg hw hv hne, h.bl.trans hb, add_other h.pat ho h.tok (by decide) (by decide), add_other h.pat ho h.node (by decide) (by decide), h.lowN, Nat.le_trans h.low hb.size, h.tkp.trans (fun k cs f hk => add_other h.pat ho hk (by decide) (by decide))⟩
theorem VSt.add (h : VSt w0 w P D T bv m s tv sv os ns X N t nd W) {u : Int} (hu : 0 ≤ u ∧ u < s.js.length ∨ u = -1 ∧ s.js = []) (hm : ¬ m.nodes ≤ s.js.length) (hj : s.js.length ≤ 1100000) :
    Calls Tryz.prog 123 #[.pointer (some ⟨T, 0, none⟩), .int .i64 u, .agg #[.int .i64 nd.kind, .string nd.key, .string nd.text, .int .i64 nd.at_]] W fun e w' => ∃ tv' ns', e = .returned (.tuple #[.int .i64 s.js.length, .nilIface]) ∧ VSt w0 w P D T bv m ⟨s.js ++ [nd], s.ups ++ [u.toNat], s.stack⟩ tv' sv os ns' X N t nd w' := by
 have hl := h.pat.js_len
 have hgl := h.pat.good.len
 rcases hu with ⟨h0, h1⟩ | ⟨rfl, h2⟩
 · obtain ⟨k, rfl⟩ : ∃ k : Nat, u = k := ⟨u.toNat, by omega⟩
   refine (add_ok T tv ns s.ups m.nodes k nd W h.pat.tree h.pat.good h.pat.wf (by omega) (by omega) (by omega)).mono ?_
   rintro e w' ⟨tv', rfl, ht, ho, _⟩
   refine ⟨tv', _, by rw [hl], h.added ht ho (by simpa using goodN_add nd.val h.pat.wf h.pat.good (by omega)) (by simpa using wfUps_snoc h.pat.wf (by omega)) ?_ (by simp)⟩
   rw [addN_vals (by omega), h.pat.vals, List.map_append]; rfl
 · have hn : ns = [] := List.length_eq_zero_iff.1 (by rw [hl, h2]; rfl)
   have hu0 : s.ups = [] := List.length_eq_zero_iff.1 (by rw [← hgl, hn]; rfl)
   have hT := h.pat.tree
   rw [hn] at hT
   obtain rfl := h.pat.nil0 h2
   refine (add_root T m.nodes nd W hT (by rw [h2] at hm; simp at hm; omega)).mono ?_
   rintro e w' ⟨tv', rfl, ht, ho, _⟩
   refine ⟨tv', _, by rw [h2]; rfl, h.added ht ho (by rw [hu0]; exact goodN_root _) (by rw [hu0]; intro i x hi hx; cases i <;> simp at hi hx) ?_ (by simp)⟩
   rw [h2]; rfl
end
set_option maxRecDepth 100000 in
set_option maxHeartbeats 16000000 in
theorem pvalue_any (w0 w : World) (P D T : Nat) (bv : Value) (B : ByteArray) (m : Bd) (s : PS) (o : Op) (r : List Op) (t : Tok) (h : PA w w0.heap.size P D T bv m s) (hc : PC w0 w bv B) (hs : s.stack = o :: r) (hl : s.stack.length ≤ 1100000) (hz : B.size ≤ 1100000) (hj : s.js.length ≤ 1100000)
    (ht : ∃ i, nextI B i = .ok t) (hid : 0 ≤ o.id ∧ o.id < s.js.length ∨ o.id = -1 ∧ s.js = []) :
    Calls Tryz.prog 88 #[ptrV P, .agg #[.int .i64 t.kind, .int .i64 t.fr, .int .i64 t.to]] w (StPost w0 w P D T bv m (valueS B m s o r t)) := by
 obtain ⟨W1, hW1⟩ : ∃ W, w.alloc (.cells #[.int .i64 t.kind, .int .i64 t.fr, .int .i64 t.to] 128) = W := ⟨_, rfl⟩
 have b1 : Below w.heap.size w W1 := by rw [← hW1]; exact ext_alloc (Below.refl _ _) _
 have hwz := hc.bl.size
 have hbw1 : Below w0.heap.size w W1 := b1.mono hwz
 have bx : W1.heap[w.heap.size]? = some (.cells #[.int .i64 t.kind, .int .i64 t.fr, .int .i64 t.to] 128 (0, 0)) := by rw [← hW1]; exact heap_alloc_new w _
 have cx : ∀ j, W1.cell? ⟨w.heap.size, j, none⟩ = (#[.int .i64 t.kind, .int .i64 t.fr, .int .i64 t.to] : Array Value)[j]? := fun j => by rw [← hW1]; simp
 have z1 : w.heap.size < W1.heap.size := by rw [← hW1]; simp
 have KD := kind_tok t W1
 have H1 := Lib.hid (h.below b1)
 have HS := Lib.hid hs; have HC := Lib.hid hc; have HB1 := Lib.hid hbw1; have HBX := Lib.hid bx; have HT1 := Lib.hid (TKept.of b1)
 have hlp := hl
 unfold valueS
 cases hk : kindS t.kind with
 | none =>
   obtain ⟨k, hw⟩ := wrong_is (α := PS) t
   rw [hk] at KD
   simp only
   rw [hw]
   have HK := Lib.hid hw
   have KD := Lib.hid KD
   obtain ⟨tk, tf, tt⟩ := t
   simp only at cx hW1 HK
   clear h hs hc b1 hbw1 hk bx hw ht hid
   go_enter Tryz.func88, Tryz.ntmps88
   go_wp2_with fail
   clear hW1
   refine KD.out.mono ?_
   rintro e w2 ⟨rfl, hb2⟩
   have cx2 := fun j => (bcell1 hb2 z1 j).trans (cx j)
   have WR := wrong_st (P := P) (D := D) (T := T) (bv := bv) (m := m) ⟨tk, tf, tt⟩ ((HC.out.bl.trans HB1.out).trans (hb2.mono (by omega)))
   rw [HK.out] at WR
   have WR := Lib.hid WR
   clear hb2
   simp only [Option.getD_none, Option.isSome_none]
   go_wp2_with fail
   refine WR.out.mono ?_
   rintro e w4 ⟨u, rfl, hf⟩
   have HF := Lib.hid hf
   clear hf
   go_wp2
   go_ret
   exact ⟨u, rfl, HF.out⟩
 | some k =>
   rw [hk] at KD
   simp only
   obtain ⟨R, hR⟩ : ∃ R, (if m.nodes ≤ (s.js.length : Int) then (.no 15 t.fr : Sc PS) else if k < 5 then .ok (addS B s o k t (afterS (o :: r))) else if m.deep < ((o :: r).length : Nat) then .no 13 t.fr else .ok (addS B s o k t (⟨s.js.length, k == 6, 0, ⟨#[]⟩⟩ :: o :: r))) = R := ⟨_, rfl⟩
   rw [hR]
   have HR := Lib.hid hR
   clear hR
   have KD := Lib.hid KD
   have HK := Lib.hid hk
   have HT := Lib.hid ht
   obtain ⟨tk, tf, tt⟩ := t
   simp only at cx hW1 HBX HK
   clear h hs hc b1 hbw1 hk bx ht
   go_enter Tryz.func88, Tryz.ntmps88
   go_wp2_with fail
   clear hW1
   refine KD.out.mono ?_
   rintro e w2 ⟨rfl, hb2⟩
   have HBX2 : Hid (w2.heap[w.heap.size]? = some (.cells #[.int .i64 tk, .int .i64 tf, .int .i64 tt] 128 (0, 0))) := Lib.hid ((hb2.block _ z1).trans HBX.out)
   have TP := Lib.hid (top_pa (H1.out.below hb2) HS.out hlp)
   have HB2 := Lib.hid (HB1.out.trans (hb2.mono (by omega)))
   have HT2 := Lib.hid (HT1.out.trans (TKept.of hb2))
   have z2 : w.heap.size < w2.heap.size := Nat.lt_of_lt_of_le z1 hb2.size
   have cx2 := fun j => (bcell1 hb2 z1 j).trans (cx j)
   clear hb2
   simp only [Option.getD_some, Option.isSome_some]
   go_wp2_with fail
   refine TP.out.mono ?_
   rintro e w3 ⟨b, tv, sv, q, ns, rfl, hp, hb3⟩
   have cx3 := fun j => (bcell1 hb3 z2 j).trans (cx2 j)
   have z3 : w.heap.size < w3.heap.size := Nat.lt_of_lt_of_le z2 hb3.size
   have HBX3 : Hid (w3.heap[w.heap.size]? = some (.cells #[.int .i64 tk, .int .i64 tf, .int .i64 tt] 128 (0, 0))) := Lib.hid ((hb3.block _ z2).trans HBX2.out)
   have HB3 := Lib.hid (HB2.out.trans (hb3.mono (by omega)))
   have HT3 := Lib.hid (HT2.out.trans (TKept.of hb3))
   obtain ⟨N, hN⟩ : ∃ N, w3.heap.size = N := ⟨_, rfl⟩
   obtain ⟨W4, hW4⟩ : ∃ W, w3.alloc (.cells #[.int .i64 k, .string ⟨#[]⟩, .string ⟨#[]⟩, .int .i64 tf] 117) = W := ⟨_, rfl⟩
   have b4 : Below w3.heap.size w3 W4 := by rw [← hW4]; exact ext_alloc (Below.refl _ _) _
   have hV4 : VSt w0 w P D T bv m s tv sv (b :: q) ns w.heap.size N ⟨tk, tf, tt⟩ ⟨k, ⟨#[]⟩, ⟨#[]⟩, tf⟩ W4 :=
    ⟨hp.below b4, HB3.out.trans (b4.mono (by omega)), by rw [b4.block _ z3]; exact HBX3.out, by rw [← hW4, ← hN]; exact heap_alloc_new w3 _, by omega, by have := b4.size; omega, HT3.out.trans (TKept.of b4)⟩
   have HV4 := Lib.hid hV4
   have ho4 := hV4.pat.ops 0 b o rfl (by rw [HS.out]; rfl)
   have HO4 := Lib.hid ho4
   have e1 := ho4.c1
   have e3 := ho4.c3
   have eb := heap_lt ho4
   have n1 := hV4.nk 1
   have f1 := hV4.nf 1
   have tk4 := hV4.tk
   have eN := heap_lt hV4.node
   have eX := heap_lt hV4.tok
   clear hb3 hp b4 hV4 ho4 HBX HBX2 HBX3 HB2 H1 KD TP HB1
   simp only at tk4 n1
   go_upto_if 29 with (fail)
   go_cut [] (fun wx => VSt w0 w P D T bv m s tv sv (b :: q) ns w.heap.size N ⟨tk, tf, tt⟩ ⟨k, if o.obj then o.key else ⟨#[]⟩, ⟨#[]⟩, tf⟩ wx)
   case first =>
    have hV5 := HV4.out.put (nd' := ⟨k, o.key, ⟨#[]⟩, tf⟩) 1 (.string o.key) rfl
    have HV5 := Lib.hid hV5
    clear hV5
    cases ho : o.obj with
    | true =>
      rw [ho] at e1
      go_wp2
      go_meet
      rw [ho, if_pos rfl]
      exact HV5.out
    | false =>
      rw [ho] at e1
      go_wp2
      go_meet
      rw [ho, if_neg (by decide)]
      exact HV4.out
   case rest =>
    have HV5 := Lib.hid hcut
    clear hcut e1 e3 n1 f1 eb cx cx2 cx3 tk4 HV4 HO4 eN eX
    obtain ⟨a, c, hbv, _, hcap, hbc⟩ := HC.out.rd.by_inv
    have HBV := Lib.hid hbv
    have HBC := Lib.hid hbc
    clear hbv hbc
    go_upto_block 0 with (fail)
    go_cut [] (fun wx => VSt w0 w P D T bv m s tv sv (b :: q) ns w.heap.size N ⟨tk, tf, tt⟩ (nodeS B o k ⟨tk, tf, tt⟩) wx)
    case first =>
     generalize hkey : (if o.obj = true then o.key else (⟨#[]⟩ : ByteArray)) = ky at HV5
     have HKEY := Lib.hid hkey
     clear hkey
     have hv := HV5.out
     have tk5 := hv.tk
     have n2 := hv.nk 2
     have f2 := hv.nf 2
     have cP := hv.pat.c0
     have zP := heap_lt hv.pat.box
     have zX := heap_lt hv.tok
     have zN := heap_lt hv.node
     have hneNX : N ≠ w.heap.size := fun e => ne_type hv.node (e ▸ hv.tok) (by decide) rfl
     simp only at tk5 n2
     by_cases k4 : k = 4
     · subst k4
       have h7 : tk = 7 := by
        have := HK.out
        unfold kindS at this
        repeat' split at this
        all_goals first | assumption | (cases this)
       subst h7
       obtain ⟨i, hi⟩ := HT.out
       obtain ⟨x, hx⟩ := text_is hi rfl
       have TX := Lib.hid (fun n => by
        have := ((hv.pc HC.out).step (drewN_below _ n)).text hz ⟨7, tf, tt⟩
        rw [hx] at this
        exact this)
       have HX := Lib.hid hx
       clear hi hx hv
       go_wp2_with fail
       go_region_with (go_at_call 122; refine (TX.out _).mono ?_; rintro e w4 ⟨rfl, hb4⟩; have k1 := (bcell1 hb4 zP 0).trans cP; have k2 := fun j => (bcell1 hb4 zX j).trans (tk5 j); have k3 := (bcell1 hb4 zN 2).trans n2; have k4 := (bfrozen1 hb4 zN 2).trans f2; have HB4 := Lib.hid hb4; clear hb4)
       all_goals
        have hv6 := ((HV5.out.below (drewN_below _ _)).below HB4.out).put (nd' := ⟨4, ky, x, tf⟩) 2 (.string x) rfl
        have HV6 := Lib.hid hv6
        clear hv6 HB4
        go_wp2
        go_meet
        have := HV6.out.below (drewN_below _ 1)
        unfold nodeS textN
        rw [if_pos rfl, HX.out, HKEY.out]
        first | exact HV6.out | exact this
     · by_cases k3 : k = 3
       · subst k3
         have h8 : tk = 8 := by
          have := HK.out
          unfold kindS at this
          repeat' split at this
          all_goals first | assumption | (cases this)
         subst h8
         obtain ⟨i, hi⟩ := HT.out
         obtain ⟨_, _, hto, hsz, _, hk0⟩ := tok_shape hi
         have hft : tf < tt := by
          rcases hk0 with ⟨h, _⟩ | ⟨_, h⟩
          · cases h
          · exact h
         have hf0 : 0 ≤ tf := by
          have := tok_shape hi
          simp only at this
          omega
         simp only at hsz
         obtain ⟨f, rfl⟩ : ∃ f : Nat, tf = f := ⟨tf.toNat, by omega⟩
         obtain ⟨g, rfl⟩ : ∃ g : Nat, tt = g := ⟨tt.toNat, by omega⟩
         have hfg : f < g := by omega
         have hgB : g ≤ B.size := by omega
         have hrd := (hv.pc HC.out).rd
         have hbl := (hv.pc HC.out).bl
         obtain ⟨bb, off, ha, hbbl, hcells⟩ := HBC.out (by omega)
         have HBV2 := HBV.out
         rw [ha] at HBV2
         have hcv := fun W (hW : ∀ j, W.cell? ⟨bb, j, none⟩ = wc.cell? ⟨bb, j, none⟩) => bytes_back W bb (off + f) (g - f) (c - f) (B.extract f g) (by rw [ByteArray.size_extract]; omega) (fun j hj => by
          rw [hW, bcell1 hbl hbbl, show off + f + j = off + (f + j) by omega, hcells (f + j) (by omega)]
          rw [byteAt_extract (by omega)])
         have HCV := Lib.hid hcv
         have q0 : ¬ c = f := by omega
         have q1 : (f : Int) ≤ (g : Int) := by omega
         have q2 : (g : Int) ≤ (c : Int) := by omega
         have hv6 := HV5.out.put (nd' := ⟨3, ky, B.extract f g, f⟩) 2 (.string (B.extract f g)) rfl
         have HV6 := Lib.hid hv6
         rw [HBV2] at cP
         clear HBV2
         have cvx := hcv wc (fun _ => rfl)
         have cvx' : ∀ n, (convert 22 9 (.slice (some ⟨bb, off + f, none⟩) (g - f) (c - f))).run Tryz.prog (wc.drewN n) = .ok (.string (B.extract f g)) (wc.drewN n) := fun n => hcv (wc.drewN n) (fun _ => rfl)
         have cvx1 := hcv wc.drew (fun _ => rfl)
         have cvx2 := hcv wc.drew.drew (fun _ => rfl)
         clear hi hv hv6 hcv hcells hbl hrd hto hsz hk0 hft
         go_wp2_with fail
         go_region
         all_goals
          go_wp2
          go_meet
          rw [node_num, HKEY.out]
          exact HV6.out.below (drewN_below _ 1)
       · have e4 : (k == 4) = false := beq_eq_false_iff_ne.2 k4
         have e3 : (k == 3) = false := beq_eq_false_iff_ne.2 k3
         clear hv
         go_wp2
         go_meet
         unfold nodeS textN
         rw [if_neg k4, if_neg k3, HKEY.out]
         exact HV5.out
    case rest =>
     have HV6 := Lib.hid hcut
     generalize hnd : nodeS B o k ⟨tk, tf, tt⟩ = nd at HV6
     have HND := Lib.hid hnd
     clear hcut hnd KD
     have hv := HV6.out
     have nk := hv.nk
     have tk6 := hv.tk
     have c4 := hv.pat.c4
     have cD := hv.pat.cD
     have zP := heap_lt hv.pat.box
     have zD := heap_lt hv.pat.doc
     have zX := heap_lt hv.tok
     have zN := heap_lt hv.node
     have ho6 := hv.pat.ops 0 b o rfl (by rw [HS.out]; rfl)
     have zb := heap_lt ho6
     have c0 := ho6.c0
     have hkk : 0 ≤ k ∧ k ≤ 6 := by
      have := HK.out
      unfold kindS at this
      repeat' split at this
      all_goals first | (cases this; decide) | (cases this)
     by_cases hm : m.nodes ≤ s.js.length
     · have AD := Lib.hid (fun n => (hv.below (drewN_below _ n)).many hid hm)
       have hR := HR.out
       rw [if_pos hm] at hR
       have HR2 := Lib.hid hR
       clear hv ho6 hid hm hkk HR hR
       go_wp2_with fail
       go_region_held3 (fun W => W.cell? ⟨P, 4, none⟩ = some (ptrV D) ∧ W.cell? ⟨D, 0, none⟩ = some (ptrV T) ∧ W.cell? ⟨b, 0, none⟩ = some (.int .i64 o.id) ∧ ∀ j, W.cell? ⟨N, j, none⟩ = (#[.int .i64 nd.kind, .string nd.key, .string nd.text, .int .i64 nd.at_] : Array Value)[j]?) (first | assumption | exact ⟨c4, cD, c0, nk⟩) (first | (go_at_call 123; refine (AD.out _).mono ?_; rintro e w7 ⟨p7, rfl, hb7⟩; have hkk : w7.cell? ⟨P, 4, none⟩ = some (ptrV D) ∧ w7.cell? ⟨D, 0, none⟩ = some (ptrV T) ∧ w7.cell? ⟨b, 0, none⟩ = some (.int .i64 o.id) ∧ ∀ j, w7.cell? ⟨N, j, none⟩ = (#[.int .i64 nd.kind, .string nd.key, .string nd.text, .int .i64 nd.at_] : Array Value)[j]? := ⟨(bcell1 hb7 zP 4).trans c4, (bcell1 hb7 zD 0).trans cD, (bcell1 hb7 zb 0).trans c0, fun j => (bcell1 hb7 zN j).trans (nk j)⟩))
       rename_i hHeld
       have k1 := fun j => (bcell1 hb7 zX j).trans (tk6 j)
       have hv7 := (HV6.out.below (drewN_below _ _)).below hb7
       have FL := Lib.hid (fail_st (P := P) (D := D) (T := T) (bv := bv) (m := m) (k := 15) (i := tf) (HC.out.bl.trans hv7.bl))
       clear hHeld hkk hb7 hv7
       go_wp2_with fail
       refine FL.out.mono ?_
       rintro e w8 ⟨u, rfl, hf⟩
       have HF := Lib.hid hf
       clear hf
       go_wp2
       go_ret
       rw [← HR2.out]
       exact ⟨u, rfl, HF.out⟩
     · have AD := Lib.hid (fun n => (hv.below (drewN_below _ n)).add hid hm hj)
       have hR := HR.out
       rw [if_neg hm] at hR
       have HR2 := Lib.hid hR
       have HKK := Lib.hid hkk
       clear hv ho6 hid hm hkk HR hR
       go_wp2_with fail
       go_region_held3 (fun W => W.cell? ⟨P, 4, none⟩ = some (ptrV D) ∧ W.cell? ⟨D, 0, none⟩ = some (ptrV T) ∧ W.cell? ⟨b, 0, none⟩ = some (.int .i64 o.id) ∧ ∀ j, W.cell? ⟨N, j, none⟩ = (#[.int .i64 nd.kind, .string nd.key, .string nd.text, .int .i64 nd.at_] : Array Value)[j]?) (first | assumption | exact ⟨c4, cD, c0, nk⟩) (first | (go_at_call 123; refine (AD.out _).mono ?_; rintro e w7 ⟨tv7, ns7, rfl, hv7⟩; have hkk : w7.cell? ⟨P, 4, none⟩ = some (ptrV D) ∧ w7.cell? ⟨D, 0, none⟩ = some (ptrV T) ∧ w7.cell? ⟨b, 0, none⟩ = some (.int .i64 o.id) ∧ ∀ j, w7.cell? ⟨N, j, none⟩ = (#[.int .i64 nd.kind, .string nd.key, .string nd.text, .int .i64 nd.at_] : Array Value)[j]? := ⟨hv7.pat.c4, hv7.pat.cD, (hv7.pat.ops 0 b o rfl (by show s.stack[0]? = _; rw [HS.out]; rfl)).c0, hv7.nk⟩))
       rename_i hHeld
       clear hHeld hkk nk tk6 c4 cD zP zD zX zN zb c0 AD
       have k1 := hv7.tk
       have HV7 := Lib.hid hv7
       obtain ⟨js7, hjs⟩ : ∃ j, s.js ++ [nd] = j := ⟨_, rfl⟩
       obtain ⟨up7, hup⟩ : ∃ j, s.ups ++ [o.id.toNat] = j := ⟨_, rfl⟩
       have hadd : ∀ st, addS B s o k ⟨tk, tf, tt⟩ st = ⟨js7, up7, st⟩ := fun st => by unfold addS; rw [HND.out, hjs, hup]
       rw [hjs, hup] at HV7
       have HADD := Lib.hid hadd
       clear hv7 hjs hup hadd HND HV6
       by_cases k5 : k < 5
       · have hR := HR2.out
         rw [if_pos k5, HADD.out] at hR
         have HR3 := Lib.hid hR
         have t5 : (k != 5) = true := bne_iff_ne.2 (by omega)
         have t6 : (k != 6) = true := bne_iff_ne.2 (by omega)
         have AF := after_any w7 w0.heap.size P D T bv m ⟨js7, up7, s.stack⟩ o r ⟨_, _, _, _, HV7.out.pat⟩ HS.out hlp
         rw [show (⟨js7, up7, s.stack⟩ : PS).stack = o :: r from HS.out] at AF
         have AF := Lib.hid AF
         clear hR k5 HR2 k1
         go_wp2_with fail
         refine AF.out.mono ?_
         rintro e w8 ⟨rfl, hp8, hb8, ht8⟩
         have HT8 := Lib.hid (HV7.out.tkp.trans ht8)
         have HP8 := Lib.hid hp8
         have HB8 := Lib.hid (HV7.out.bl.trans hb8)
         clear hp8 hb8 ht8
         go_wp2
         go_ret
         rw [← HR3.out]
         exact ⟨rfl, HP8.out, HB8.out, HT8.out⟩
       · have hR := HR2.out
         rw [if_neg k5] at hR
         have HR3 := Lib.hid hR
         obtain ⟨g, cap, hsv, _, _, _⟩ := HV7.out.pat.slice
         have c5 := HV7.out.pat.c5
         have c2 := HV7.out.pat.c2
         rw [hsv] at c5
         have hql : q.length + 1 = (o :: r).length := by have := HV7.out.pat.len; rw [show (⟨js7, up7, s.stack⟩ : PS).stack = o :: r from HS.out] at this; simpa using this
         have h56 : k = 5 ∨ k = 6 := by have := HKK.out; omega
         have HSV := Lib.hid hsv
         have HQL := Lib.hid hql
         have hlim : q.length ≤ 1100000 := by rw [HS.out] at hlp; omega
         clear hR HR2 k5 hsv hql
         by_cases hd : m.deep < ((o :: r).length : Nat)
         · have hR := HR3.out
           rw [if_pos hd] at hR
           have HR4 := Lib.hid hR
           have t9 : decide (m.deep < (q.length : Int) + 1) = true := decide_eq_true (by rw [← HQL.out] at hd; omega)
           have FL := Lib.hid (fun n => fail_st (w := w7.drewN n) (P := P) (D := D) (T := T) (bv := bv) (m := m) (k := 13) (i := tf) (HC.out.bl.trans (HV7.out.bl.trans (drewN_below _ n))))
           have k2 : ∀ n j, (w7.drewN n).cell? ⟨w.heap.size, j, none⟩ = (#[.int .i64 tk, .int .i64 tf, .int .i64 tt] : Array Value)[j]? := fun n j => k1 j
           clear hR HR3 hd
           rcases h56 with rfl | rfl
           all_goals
            go_wp2
            go_quiet (fail)
            go_wp2_with fail
            refine (FL.out _).mono ?_
            rintro e w8 ⟨u, rfl, hf⟩
            have HF := Lib.hid hf
            clear hf
            go_wp2
            go_ret
            rw [← HR4.out]
            exact ⟨u, rfl, HF.out⟩
         · have hR := HR3.out
           rw [if_neg hd, HADD.out] at hR
           have HR4 := Lib.hid hR
           have t9 : decide (m.deep < (q.length : Int) + 1) = false := decide_eq_false (by rw [← HQL.out] at hd; omega)
           clear hR HR3 hd
           have hrow := HV7.out.pat.row
           rw [HSV.out] at hrow
           have hzn : ∀ n ob, ((w7.drewN n).alloc ob).heap.size = w7.heap.size + 1 := fun n ob => by show (w7.heap.push ob).size = _; simp
           have HROW : Hid (∀ n ob ob2, (((w7.drewN n).alloc ob).alloc ob2).ownsRow w0.heap.size 123 1 (.slice (some ⟨g, 0, none⟩) (q.length + 1) cap) (q.length + 1) ((List.map ptrV (b :: q)).reverse)) := Lib.hid (fun n ob ob2 => aown_ext hrow (fun k hk => by
            have := (hrow.lt k hk).2
            rw [Below.heap_alloc _ ob2 k (by rw [hzn]; omega)]
            exact Below.heap_alloc (w7.drewN n) ob k this) (Nat.le_refl _))
           have HCELL : Hid (∀ n ob j u, [ptrV w7.heap.size][j]? = some u → (((w7.drewN n).alloc ob).alloc (.cells #[ptrV w7.heap.size] 123)).cell? ⟨w7.heap.size + 1, 0 + j, none⟩ = some u) := Lib.hid (fun n ob j u hu => by
            have := new_cells ((w7.drewN n).alloc ob) #[ptrV w7.heap.size] 123 j u hu
            rwa [hzn] at this)
           have HONE : Hid (∀ u ∈ [ptrV w7.heap.size], u.oneCell' = true) := Lib.hid (by intro u hu; simp at hu; subst hu; rfl)
           have HM1 : Hid (q.length + 1 + 1 ≤ maxLen) := Lib.hid (by simp [maxLen]; omega)
           have HM2 : Hid ((q.length + 1 + 1) * 8 ≤ 140737488355328) := Lib.hid (by omega)
           have zlow := HV7.out.low
           have HZN := Lib.hid hzn
           have HBS : Hid (∀ n ob ob2, w0.heap.size ≤ (((w7.drewN n).alloc ob).alloc ob2).heap.size) := Lib.hid (fun n ob ob2 => by show _ ≤ (((w7.drewN n).alloc ob).heap.push ob2).size; rw [Array.size_push, hzn]; omega)
           have HPX := Lib.hid HV7.out.pat.box
           have HBN : Hid (∀ n ob ob2, (((w7.drewN n).alloc ob).alloc ob2).heap[w7.heap.size]? = some ob) := Lib.hid (fun n ob ob2 => (Below.heap_alloc ((w7.drewN n).alloc ob) ob2 w7.heap.size (by rw [hzn]; omega)).trans (heap_alloc_new (w7.drewN n) ob))
           clear hrow hzn
           rcases h56 with rfl | rfl
           · go_wp2
             go_quiet (fail)
             go_wp2_with (at_builtin; refine wpList_app _ rfl _ _ 120 rfl w0.heap.size elPtr _ _ _ rfl (HROW.out _ _ _) _ 1 1 [ptrV w7.heap.size] rfl rfl nofun (fun _ => ⟨_, _, rfl, HCELL.out _ _⟩) HONE.out HM1.out HM2.out (HBS.out _ _ _) ?_)
             intro v8 w8 ho8 hg8
             obtain ⟨a8, cap8, rfl, _⟩ := aown_form ho8
             have hba : ∀ n ob ob2, Below w7.heap.size w7 (((w7.drewN n).alloc ob).alloc ob2) := fun n ob ob2 => ext_alloc (ext_alloc (drewN_below _ _) _) _
             have hpush := PAt.push (o := ⟨s.js.length, false, 0, ⟨#[]⟩⟩) (bn := w7.heap.size) HV7.out.pat (hba _ _ _) (HBN.out _ _ _) (Nat.le_refl _) zlow (by rw [HSV.out]; exact hg8) (by simpa using ho8)
             have hbx : ∃ cs, w8.heap[P]? = some (.cells cs 122 (0, 0)) ∧ cs.size = 6 := by
              refine ⟨_, (hg8.block P (Nat.lt_of_lt_of_le (heap_lt HPX.out) (hba _ _ _).size) (fun e => ?_)).trans (((hba _ _ _).block P (heap_lt HPX.out)).trans HPX.out), rfl⟩
              obtain ⟨cur, hc⟩ := own_type (HROW.out 0 (.cells #[] 0) (.cells #[] 0)) e.symm
              rw [(hba 0 (.cells #[] 0) (.cells #[] 0)).block P (heap_lt HPX.out)] at hc
              exact ne_type HPX.out hc (by decide) rfl
             obtain ⟨cs, hbx, hcs⟩ := hbx
             have d5 : ∃ u, w8.cell? ⟨P, 5, none⟩ = some u := ⟨cs[5], by simp [World.cell?, hbx]⟩
             obtain ⟨u5, d5⟩ := d5
             have f5 : w8.frozen? ⟨P, 5, none⟩ = false := Go.Joins.unfrozen_of_block hbx 5
             have hfr : Below w0.heap.size w7 w8 := ((hba _ _ _).mono zlow).grown hg8 (HBS.out _ _ _) (fun k hk => ((HROW.out 0 (.cells #[] 0) (.cells #[] 0)).lt k hk).1)
             have HF := Lib.hid ((HV7.out.bl.trans hfr).setCell (p := ⟨P, 5, none⟩) HV7.out.pat.lowP (.slice a8 (q.length + 1 + 1) cap8))
             have htk : TKept w w8 := (HV7.out.tkp.trans (.of (hba _ _ _))).trans (fun k cs f hk => by
              rw [hg8.block k (heap_lt hk) (fun e => ?_)]; exact hk
              obtain ⟨cur, hc⟩ := own_type (HROW.out _ _ _) e.symm
              exact ne_type hk hc (by decide) rfl)
             have HTF := Lib.hid (htk.set (p := ⟨P, 5, none⟩) hbx (by decide) (.slice a8 (q.length + 1 + 1) cap8))
             clear htk
             have HPU := Lib.hid (show PA _ w0.heap.size P D T bv m _ from ⟨_, _, _, _, hpush⟩)
             clear hpush hfr hbx hcs hg8 ho8 hba c5 c2
             go_wp2
             go_ret
             rw [← HR4.out]
             refine ⟨rfl, ?_, HF.out, HTF.out⟩
             have := HPU.out
             rw [show (⟨js7, up7, s.stack⟩ : PS).stack = o :: r from HS.out] at this
             exact this
           · go_wp2
             go_quiet (fail)
             go_wp2_with (at_builtin; refine wpList_app _ rfl _ _ 120 rfl w0.heap.size elPtr _ _ _ rfl (HROW.out _ _ _) _ 1 1 [ptrV w7.heap.size] rfl rfl nofun (fun _ => ⟨_, _, rfl, HCELL.out _ _⟩) HONE.out HM1.out HM2.out (HBS.out _ _ _) ?_)
             intro v8 w8 ho8 hg8
             obtain ⟨a8, cap8, rfl, _⟩ := aown_form ho8
             have hba : ∀ n ob ob2, Below w7.heap.size w7 (((w7.drewN n).alloc ob).alloc ob2) := fun n ob ob2 => ext_alloc (ext_alloc (drewN_below _ _) _) _
             have hpush := PAt.push (o := ⟨s.js.length, true, 0, ⟨#[]⟩⟩) (bn := w7.heap.size) HV7.out.pat (hba _ _ _) (HBN.out _ _ _) (Nat.le_refl _) zlow (by rw [HSV.out]; exact hg8) (by simpa using ho8)
             have hbx : ∃ cs, w8.heap[P]? = some (.cells cs 122 (0, 0)) ∧ cs.size = 6 := by
              refine ⟨_, (hg8.block P (Nat.lt_of_lt_of_le (heap_lt HPX.out) (hba _ _ _).size) (fun e => ?_)).trans (((hba _ _ _).block P (heap_lt HPX.out)).trans HPX.out), rfl⟩
              obtain ⟨cur, hc⟩ := own_type (HROW.out 0 (.cells #[] 0) (.cells #[] 0)) e.symm
              rw [(hba 0 (.cells #[] 0) (.cells #[] 0)).block P (heap_lt HPX.out)] at hc
              exact ne_type HPX.out hc (by decide) rfl
             obtain ⟨cs, hbx, hcs⟩ := hbx
             have d5 : ∃ u, w8.cell? ⟨P, 5, none⟩ = some u := ⟨cs[5], by simp [World.cell?, hbx]⟩
             obtain ⟨u5, d5⟩ := d5
             have f5 : w8.frozen? ⟨P, 5, none⟩ = false := Go.Joins.unfrozen_of_block hbx 5
             have hfr : Below w0.heap.size w7 w8 := ((hba _ _ _).mono zlow).grown hg8 (HBS.out _ _ _) (fun k hk => ((HROW.out 0 (.cells #[] 0) (.cells #[] 0)).lt k hk).1)
             have HF := Lib.hid ((HV7.out.bl.trans hfr).setCell (p := ⟨P, 5, none⟩) HV7.out.pat.lowP (.slice a8 (q.length + 1 + 1) cap8))
             have htk : TKept w w8 := (HV7.out.tkp.trans (.of (hba _ _ _))).trans (fun k cs f hk => by
              rw [hg8.block k (heap_lt hk) (fun e => ?_)]; exact hk
              obtain ⟨cur, hc⟩ := own_type (HROW.out _ _ _) e.symm
              exact ne_type hk hc (by decide) rfl)
             have HTF := Lib.hid (htk.set (p := ⟨P, 5, none⟩) hbx (by decide) (.slice a8 (q.length + 1 + 1) cap8))
             clear htk
             have HPU := Lib.hid (show PA _ w0.heap.size P D T bv m _ from ⟨_, _, _, _, hpush⟩)
             clear hpush hfr hbx hcs hg8 ho8 hba c5 c2
             go_wp2
             go_ret
             rw [← HR4.out]
             refine ⟨rfl, ?_, HF.out, HTF.out⟩
             have := HPU.out
             rw [show (⟨js7, up7, s.stack⟩ : PS).stack = o :: r from HS.out] at this
             exact this
end Go.Proofs.YtcaiibkgajhohaaGreatDoor
