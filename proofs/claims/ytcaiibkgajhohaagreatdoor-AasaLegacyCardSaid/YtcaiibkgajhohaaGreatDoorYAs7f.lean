/- Texts put together. -/
import Derived.Test.YtcaiibkgajhohaaGreatDoorYAsBf
namespace Go.Proofs.YtcaiibkgajhohaaGreatDoor
open Go.RowKit
theorem chk_kind (js : List JN) (id : Nat) (k : Int) (hk : k ≠ 0) : (checkS js (id : Int) k).1 = 0 ↔ (kindA js id = k ∨ k = 2 ∧ kindA js id = 1) := by
 cases hx : js[id]? with
 | some x =>
   have e : kindA js id = x.kind := by unfold kindA; rw [hx]
   rw [checkS_in hx, e]
   by_cases h : x.kind = k ∨ k = 2 ∧ x.kind = 1
   · rw [if_pos h]; exact ⟨fun _ => h, fun _ => rfl⟩
   · rw [if_neg h]; exact ⟨fun h0 => absurd h0 (by show ¬ (32 : Int) = 0; decide), fun h0 => absurd h0 h⟩
 | none =>
   have hl := List.getElem?_eq_none_iff.1 hx
   have e : kindA js id = 0 := by unfold kindA; rw [hx]
   rw [checkS_out (by omega), e]
   refine ⟨fun h0 => absurd h0 (by show ¬ (30 : Int) = 0; decide), fun h => ?_⟩
   rcases h with h | ⟨_, h⟩
   · exact absurd h.symm hk
   · cases h
theorem ErrIs.form {w : World} {u : Value} {p : Int × Int} (h : ErrIs w u p) (hp : p.1 ≠ 0) : ∃ b off, u = .iface 85 (.pointer (some ⟨b, off, none⟩)) := by
 rcases h with ⟨h, _⟩ | ⟨_, h⟩
 · exact absurd h hp
 · obtain ⟨b, off, u2, e, _⟩ := fault_inv h
   exact ⟨b, off, e⟩
theorem ErrIs.none {w : World} {u : Value} {p : Int × Int} (h : ErrIs w u p) (hp : p.1 = 0) : u = .nilIface := by
 rcases h with ⟨_, h⟩ | ⟨h, _⟩
 · exact h
 · exact absurd hp h
def memV (r : Option Nat) : Value := match r with
 | some k => .tuple #[.int .i64 (k : Nat), .bool true]
 | none => .tuple #[.int .i64 0, .bool false]
theorem lastK_pos (js : List JN) (key : ByteArray) : ∀ (l : List Nat) (a : Int), 0 ≤ a → 0 ≤ l.foldl (fun a k => if keyA js k = key then (k : Int) else a) a
 | [], _, h => h
 | k :: l, a, h => by
   rw [List.foldl_cons]
   refine lastK_pos js key l _ ?_
   split
   · omega
   · exact h
section
variable {W0 Wv : World} {vv : Value} {base D T : Nat} {s : PS} {nodes : Int} {tv : Value} {ns : List ANode}
set_option maxRecDepth 100000 in
set_option maxHeartbeats 4000000 in
/-- aasa.reader.member -/
theorem rmember_any (hV : PView W0 base D T s nodes tv ns) (st : RdSt) (id : Nat) (key : ByteArray) (w : World) (h : ReA W0 Wv vv w D st) :
    Calls Tryz.prog 27 #[ptrV W0.heap.size, .int .i64 id, .string key] w fun e w' => e = .returned (memV (memA s.js s.ups st id key)) ∧ Below w.heap.size w w' := by
 obtain ⟨ev, c0, c1, c2, f2, hev⟩ := h.cells
 rcases hev with ⟨hb, rfl⟩ | ⟨hb, b, rfl⟩
 · have MB := Lib.hid (member_p (h.view hV) id key)
   have hcase : ∀ e w', MuPost w s id key e w' → ∃ (one : Int) (u : Value), e = .returned (.tuple #[.int .i64 one, u]) ∧ Below w.heap.size w w' ∧ ((u = .nilIface ∧ memV (memA s.js s.ups st id key) = .tuple #[.int .i64 one, .bool true]) ∨ ∃ b off, u = .iface 85 (.pointer (some ⟨b, off, none⟩)) ∧ memV (memA s.js s.ups st id key) = .tuple #[.int .i64 one, .bool false]) := fun e w' hp => by
    obtain ⟨one, u, h1, h2, h3, h4⟩ := hp
    refine ⟨one, u, h1, h2, ?_⟩
    have hc := chk_kind s.js id 6 (by decide)
    unfold memA
    rw [hb, if_neg (by decide)]
    by_cases h6 : kindA s.js id = 6
    · have h0 := hc.2 (.inl h6)
      obtain ⟨rfl, he⟩ := h4 h0
      rw [Int.toNat_natCast] at he ⊢
      by_cases ha : anyK s.js (kids s.ups id) key = true
      · rw [if_pos ha] at he
        rw [if_pos ⟨h6, ha⟩]
        refine .inl ⟨he.none rfl, ?_⟩
        unfold memV
        dsimp only
        have hpos : 0 ≤ lastK s.js (kids s.ups id) key := lastK_pos s.js key _ 0 (Int.le_refl 0)
        rw [show (((lastK s.js (kids s.ups id) key).toNat : Nat) : Int) = lastK s.js (kids s.ups id) key by omega]
      · rw [if_neg ha] at he
        rw [if_neg (fun h => ha h.2)]
        obtain ⟨b, off, hu⟩ := he.form (by show (30 : Int) ≠ 0; decide)
        refine .inr ⟨b, off, hu, ?_⟩
        rw [lastK_none (by simpa using ha)]; rfl
    · have h0 : (checkS s.js (id : Int) 6).1 ≠ 0 := fun e => by
        rcases hc.1 e with h | ⟨h, _⟩
        · exact h6 h
        · cases h
      obtain ⟨rfl, he⟩ := h3 h0
      rw [if_neg (fun h => h6 h.1)]
      obtain ⟨b, off, hu⟩ := he.form h0
      exact .inr ⟨b, off, hu, rfl⟩
   obtain ⟨V, hVV⟩ : ∃ V, memV (memA s.js s.ups st id key) = V := ⟨_, rfl⟩
   rw [hVV] at hcase ⊢
   have HC := Lib.hid hcase
   clear hcase hVV hb h hV
   go_enter Tryz.func27, Tryz.ntmps27
   go_wp2_with fail
   refine MB.out.mono ?_
   intro e w2 hp
   obtain ⟨one, u, rfl, hb2, hu⟩ := HC.out e w2 hp
   have HB := Lib.hid hb2
   clear hp hb2
   rcases hu with ⟨rfl, rfl⟩ | ⟨b, off, rfl, rfl⟩
   · go_wp2
     go_quiet (fail)
     go_wp2
     go_ret2
     exact ⟨rfl, ext_drewN _ HB.out⟩
   · go_wp2
     go_quiet (fail)
     go_wp2
     go_ret2
     exact ⟨rfl, ext_drewN _ HB.out⟩
 · have hm : memA s.js s.ups st id key = none := by unfold memA; rw [if_pos hb]
   rw [hm]
   unfold memV
   clear hm hb h hV
   go_enter Tryz.func27, Tryz.ntmps27
   go_wp2
   go_ret2
   exact ⟨rfl, Below.refl _ _⟩
set_option maxRecDepth 100000 in
set_option maxHeartbeats 4000000 in
/-- aasa.reader.text -/
theorem rtextA_any (hV : PView W0 base D T s nodes tv ns) (st : RdSt) (id : Nat) (w : World) (h : ReA W0 Wv vv w D st) :
    Calls Tryz.prog 96 #[ptrV W0.heap.size, .int .i64 id] w fun e w' => e = .returned (.string (txtA s.js st id).1) ∧ RePost W0 Wv vv w D (txtA s.js st id).2 w' := by
 have IS := Lib.hid (ris_any hV st id 4 w h)
 have hI : (isA s.js st id 4).1 = true → kindA s.js id = 4 := fun h => by
  unfold isA at h
  simp at h
  exact h.2
 unfold txtA
 obtain ⟨r, hr⟩ : ∃ r, isA s.js st id 4 = r := ⟨_, rfl⟩
 rw [hr] at IS hI ⊢
 cases hr1 : r.1 with
 | false =>
   rw [hr1] at IS
   rw [if_neg (by decide)]
   unfold noB
   clear hI hr hr1 h hV
   go_enter Tryz.func96, Tryz.ntmps96
   go_wp2_with fail
   refine IS.out.mono ?_
   rintro e w2 ⟨rfl, hp⟩
   have HP := Lib.hid hp
   clear hp
   go_wp2
   go_ret
   exact ⟨rfl, HP.out⟩
 | true =>
   have hk := hI hr1
   have hc := (chk_kind s.js id 4 (by decide)).2 (.inl hk)
   rw [hr1] at IS
   rw [if_pos rfl]
   have TX := Lib.hid (fun W (hR : ReA W0 Wv vv W D r.2) => text_p (hR.view hV) id)
   have hn := (node_kind s.js id).2.2
   have HN := Lib.hid hn; have HCK := Lib.hid hc
   clear hI hr hr1 hk hc hn h hV
   go_enter Tryz.func96, Tryz.ntmps96
   go_wp2_with fail
   refine IS.out.mono ?_
   rintro e w2 ⟨rfl, hp⟩
   have HP := Lib.hid hp
   obtain ⟨ev, c0, c1, c2, f2, _⟩ := hp.re.cells
   have TX2 := Lib.hid (TX.out w2 hp.re)
   clear hp
   go_wp2_with fail
   refine TX2.out.mono ?_
   intro e w3 hp
   obtain ⟨v, u, rfl, he, hg, _, hb3⟩ := hp
   obtain rfl := hg HCK.out
   obtain rfl := he.none HCK.out
   have HP3 := Lib.hid (HP.out.more hb3)
   rw [HN.out]
   clear he hg hb3
   go_wp2
   go_ret
   exact ⟨rfl, HP3.out⟩
end
end Go.Proofs.YtcaiibkgajhohaaGreatDoor
namespace Go.Proofs.YtcaiibkgajhohaaGreatDoor
open Go.RowKit
section
variable {W0 Wv : World} {vv : Value} {base D T : Nat} {s : PS} {nodes : Int} {tv : Value} {ns : List ANode}
theorem flag_bad (st : RdSt) (b : Bool) : (⟨st.bad || b, st.vars⟩ : RdSt) = if b = true then st.fail else st := by
 cases st with
 | mk bad vars => cases b <;> cases bad <;> rfl
set_option maxRecDepth 100000 in
set_option maxHeartbeats 4000000 in
/-- aasa.reader.flag -/
theorem rflag_any (hV : PView W0 base D T s nodes tv ns) (st : RdSt) (id : Nat) (key : ByteArray) (plain : Bool) (w : World) (h : ReA W0 Wv vv w D st) :
    Calls Tryz.prog 94 #[ptrV W0.heap.size, .int .i64 id, .string key, .bool plain] w fun e w' => e = .returned (.bool (flagA s.js s.ups st id key plain).1) ∧ RePost W0 Wv vv w D (flagA s.js s.ups st id key plain).2 w' := by
 have ME := Lib.hid (rmember_any hV st id key w h)
 unfold flagA
 cases hm : memA s.js s.ups st id key with
 | none =>
   rw [hm] at ME
   unfold memV at ME
   have H := Lib.hid h
   clear hm h hV
   go_enter Tryz.func94, Tryz.ntmps94
   go_wp2_with fail
   refine ME.out.mono ?_
   rintro e w2 ⟨rfl, hb2⟩
   have HP := Lib.hid (RePost.of H.out hb2)
   clear hb2
   go_wp2
   go_ret
   exact ⟨rfl, HP.out⟩
 | some k =>
   rw [hm] at ME
   unfold memV at ME
   dsimp only
   have hc := chk_kind s.js k 2 (by decide)
   have hn := (node_kind s.js k).1
   have FL := Lib.hid (fun W (hR : ReA W0 Wv vv W D st) => flag_p (hR.view hV) k)
   have WR := Lib.hid (fun W (hR : ReA W0 Wv vv W D st) => rwrong_any hV st k 32 W hR)
   have H := Lib.hid h
   rw [flag_bad]
   by_cases hk : kindA s.js k = 2 ∨ 2 = 2 ∧ kindA s.js k = 1
   · have h0 := hc.2 (by rcases hk with h | ⟨_, h⟩; exact .inl h; exact .inr ⟨rfl, h⟩)
     have hb : (!(decide (kindA s.js k = 1) || decide (kindA s.js k = 2))) = false := by
      rcases hk with h | ⟨_, h⟩ <;> rw [h] <;> rfl
     rw [hb, if_neg (by decide)]
     have HN : Hid (((nodeA s.js (k : Int)).kind == 2) = decide (kindA s.js k = 2)) := Lib.hid (by rw [hn, Bool.eq_iff_iff]; simp)
     have H0 := Lib.hid h0
     clear hm hc hn hk hb h0 h hV WR
     go_enter Tryz.func94, Tryz.ntmps94
     go_wp2_with fail
     refine ME.out.mono ?_
     rintro e w2 ⟨rfl, hb2⟩
     have hr2 := H.out.ext hb2
     obtain ⟨ev, c0, c1, c2, f2, _⟩ := hr2.cells
     have FL2 := Lib.hid (FL.out w2 hr2)
     have HB2 := Lib.hid hb2
     clear hb2 hr2
     go_wp2_with fail
     refine FL2.out.mono ?_
     intro e w3 hp
     obtain ⟨v, u, rfl, he, hg, _, hb3⟩ := hp
     obtain rfl := hg H0.out
     obtain rfl := he.none H0.out
     have HP := Lib.hid (RePost.of H.out (ext_trans HB2.out hb3))
     rw [HN.out]
     clear he hg hb3
     go_wp2
     go_ret
     exact ⟨rfl, HP.out⟩
   · have h0 : (checkS s.js (k : Int) 2).1 ≠ 0 := fun e => hk (by rcases hc.1 e with h | ⟨_, h⟩; exact .inl h; exact .inr ⟨rfl, h⟩)
     have h1 : ¬ kindA s.js k = 1 := fun e => hk (.inr ⟨rfl, e⟩)
     have h2 : ¬ kindA s.js k = 2 := fun e => hk (.inl e)
     rw [decide_eq_false h1, decide_eq_false h2, show (!(false || false)) = true from rfl, if_pos rfl]
     have H0 := Lib.hid h0
     clear hm hc hn hk h0 h1 h2 h hV
     go_enter Tryz.func94, Tryz.ntmps94
     go_wp2_with fail
     refine ME.out.mono ?_
     rintro e w2 ⟨rfl, hb2⟩
     have hr2 := H.out.ext hb2
     obtain ⟨ev, c0, c1, c2, f2, _⟩ := hr2.cells
     have FL2 := Lib.hid (FL.out w2 hr2)
     have HB2 := Lib.hid hb2
     clear hb2 hr2
     go_wp2_with fail
     refine FL2.out.mono ?_
     intro e w3 hp
     obtain ⟨v, u, rfl, he, _, hg, hb3⟩ := hp
     obtain rfl := hg H0.out
     obtain ⟨b, off, rfl⟩ := he.form H0.out
     have hb13 := ext_trans HB2.out hb3
     have WR3 := Lib.hid (WR.out w3 (H.out.ext hb13))
     have HB3 := Lib.hid hb13
     clear he hg hb3 hb13
     go_wp2_with fail
     refine WR3.out.mono ?_
     rintro e w4 ⟨rfl, hp⟩
     have HP := Lib.hid ((RePost.of H.out HB3.out).trans hp)
     clear hp
     go_wp2
     go_ret
     exact ⟨rfl, HP.out⟩
set_option maxRecDepth 100000 in
set_option maxHeartbeats 4000000 in
/-- aasa.reader.few -/
theorem rfew_any (hV : PView W0 base D T s nodes tv ns) (st : RdSt) (id : Nat) (a : Option Addr) (n c most : Nat) (w : World) (h : ReA W0 Wv vv w D st) :
    Calls Tryz.prog 60 #[ptrV W0.heap.size, .int .i64 id, .slice a n c, .int .i64 most] w fun e w' => e = .returned (.bool (fewA st n most).1) ∧ RePost W0 Wv vv w D (fewA st n most).2 w' := by
 have H := Lib.hid h
 obtain ⟨ev, c0, c1, c2, f2, hev⟩ := h.cells
 unfold fewA
 rw [flag_bad]
 have WR := Lib.hid (rwrong_any hV st id 15 w h)
 have HP0 := Lib.hid (RePost.of h (Below.refl _ _))
 rcases hev with ⟨hb, rfl⟩ | ⟨hb, b, rfl⟩
 · rw [hb]
   by_cases hm : most < n
   · have t1 : decide ((most : Int) < (n : Int)) = true := decide_eq_true (by omega)
     have t1' : decide (most < n) = true := decide_eq_true hm
     rw [t1', if_pos rfl]
     clear hm hb h hV
     go_enter Tryz.func60, Tryz.ntmps60
     go_wp2_with fail
     refine WR.out.mono ?_
     rintro e w3 ⟨rfl, hp⟩
     have HP := Lib.hid hp
     obtain ⟨ev3, d0, d1, d2, g2, hev3⟩ := hp.re.cells
     rcases hev3 with ⟨hb3, _⟩ | ⟨_, b3, rfl⟩
     · cases hb3
     · clear hp c0 c1 c2
       go_wp2
       go_ret
       exact ⟨rfl, HP.out⟩
   · have t1 : decide ((most : Int) < (n : Int)) = false := decide_eq_false (by omega)
     have t1' : decide (most < n) = false := decide_eq_false hm
     rw [t1', if_neg (by decide)]
     clear hm hb h hV
     go_enter Tryz.func60, Tryz.ntmps60
     go_wp2
     go_ret
     exact ⟨rfl, HP0.out⟩
 · rw [hb, Bool.true_or]
   have hf : (if decide (most < n) = true then st.fail else st) = st := by split; exact fail_bad hb; rfl
   rw [hf]
   clear hf hb h hV
   go_enter Tryz.func60, Tryz.ntmps60
   go_wp2
   go_ret
   exact ⟨rfl, HP0.out⟩
end
end Go.Proofs.YtcaiibkgajhohaaGreatDoor
