/- Texts put together. -/
import Derived.Test.YtbeodjipdpcaiaaGreatDoorYLab0s
import Derived.Test.YtbeodjipdpcaiaaGreatDoorYPnw1s
import Derived.Test.YtbeodjipdpcaiaaGreatDoorYScan4sf
import Derived.Test.YtbeodjipdpcaiaaGreatDoorYQuo3sf
set_option maxRecDepth 100000
set_option maxHeartbeats 4000000
namespace Go.Proofs.YtbeodjipdpcaiaaGreatDoor
open Go.RowKit
def EnRel1 (cs : List Nat) (b : Nat) (w : World) (jv : Value) (wr : World) : Prop := ∃ j : Nat, jv = .int .i64 j ∧ j ≤ cs.length ∧ BIs b b (u8L (basicL (cs.take j))) wr ∧ Below w.heap.size w wr ∧ b < wr.heap.size
theorem basicL_snoc (cs : List Nat) (j c : Nat) (h : cs[j]? = some c) : basicL (cs.take (j + 1)) = basicL (cs.take j) ++ (if c < 128 then [c] else []) := by
 unfold basicL
 rw [List.take_add_one, h, List.filter_append]
 by_cases hc : c < 128
 · rw [if_pos hc]; simp [hc]
 · rw [if_neg hc]; simp [hc]
theorem bis_move {B b g : Nat} {l : List UInt8} {w w' : World} (h : BIs B b l w) (hb : b < w.heap.size) (hk : ∀ k, k < w.heap.size → k ≠ g → w'.heap[k]? = w.heap[k]?) (hne : g ≠ b) (ht : ∀ cs, w.heap[g]? ≠ some (.cells cs 5 (0, 0))) : BIs B b l w' := by
 have one : ∀ p, BAt B b p l w → BAt B b p l w' := fun p h => by
  obtain ⟨hB, v, hbk, hown, hnb⟩ := h
  refine ⟨hB, v, by rw [hk b hb (Ne.symm hne)]; exact hbk, ?_, hnb⟩
  rcases hown.2 with h2 | ⟨q, cap, cur, rfl, h3, hq, h4⟩
  · exact ⟨hown.1, .inl h2⟩
  · have hqg : q ≠ g := fun e => by subst e; exact ht _ hq
    exact ⟨hown.1, .inr ⟨q, cap, cur, rfl, h3, by rw [hk q (Array.getElem?_eq_some_iff.1 hq).1 hqg]; exact hq, h4⟩⟩
 exact h.imp (one _) (one _)
theorem int_not_byte {w : World} {g n cap : Nat} {l : List Int} (h : IRow w g n cap l) : ∀ cs, w.heap[g]? ≠ some (.cells cs 5 (0, 0)) := fun cs e => by
 obtain ⟨cur, hb, _⟩ := h.blk
 rw [hb] at e
 have := Option.some.inj e
 injection this with _ h2 _
 exact absurd h2 (by decide)
theorem kept_ints {b g : Nat} {w w' : World} {cur : Array Value} (hk : Kept b w w') (hne : g ≠ b) (hlt : g < w.heap.size) (hb : w.heap[g]? = some (.cells cur 3 (0, 0))) : w'.heap[g]? = w.heap[g]? :=
 hk g hne hlt (fun cs e => by
  rw [hb] at e
  have := Option.some.inj e
  injection this with _ h2 _
  exact absurd h2 (by decide))
structure EnAt (cs : List Nat) (L : List Int) (b g cap : Nat) (w : World) (i n : Nat) (s SF : ESt) (wr : World) : Prop where
 il : i ≤ L.length
 n128 : 128 ≤ n
 nle : n ≤ 1114112
 next : ∀ c ∈ cs, n ≤ c → (c : Int) ∈ L.drop i
 low : ∀ x ∈ L.drop i, 128 ≤ x → (n : Int) ≤ x
 enc : encG (basicL cs).length cs n s = SF
 delta : s.delta ≤ 600 * n
 bias : s.bias ≤ 1800000036
 h : s.h = (cs.filter fun c => decide (c < n)).length
 out : s.out.length ≤ 300 + 10 * s.h
 bis : BIs b b (u8L s.out) wr
 below : Below w.heap.size w wr
 row : IRow wr g L.length cap L
 lt : b < wr.heap.size
def EnRel2 (cs : List Nat) (L : List Int) (b g cap : Nat) (w : World) (SF : ESt) (nv bv dv hv iv : Value) (wr : World) : Prop := ∃ (i n : Nat) (s : ESt), nv = .int .i64 n ∧ bv = .int .i64 s.bias ∧ dv = .int .i64 s.delta ∧ hv = .int .i64 s.h ∧ iv = .int .i64 i ∧ EnAt cs L b g cap w i n s SF wr
def EnRel3 (cs : List Nat) (L : List Int) (b g cap m : Nat) (w : World) (s0 : ESt) (bv dv hv jv : Value) (wr : World) : Prop := ∃ j : Nat, jv = .int .i64 j ∧ j ≤ cs.length ∧ bv = .int .i64 (encIn (basicL cs).length m (cs.take j) s0).bias ∧ dv = .int .i64 (encIn (basicL cs).length m (cs.take j) s0).delta ∧ hv = .int .i64 (encIn (basicL cs).length m (cs.take j) s0).h ∧
 BIs b b (u8L (encIn (basicL cs).length m (cs.take j) s0).out) wr ∧ Below w.heap.size w wr ∧ IRow wr g L.length cap L ∧ b < wr.heap.size
theorem encode_long (v : Value) (cs : List Nat) (w : World) (h : Rd (Own w) w v (intsD cs)) (hl : cs.length ≤ 1000000) (h256 : 256 < cs.length) :
    Calls Tryz.prog 176 #[v] w fun e w' => (∃ u, e = .returned (.tuple #[.string ⟨#[]⟩, u]) ∧ Er w' u [(14, 256)]) ∧ Below w.heap.size w w' := by
 obtain ⟨a, c, rfl, _, _, _⟩ := h.nats_inv
 have t1 : decide ((256 : Int) < (cs.length : Int)) = true := dcT (by omega)
 clear h h256 hl
 go_enter Tryz.func176, Tryz.ntmps176
 go_wp2_with fail
 go_at_call 44
 refine (fail_any _ _ _).mono ?_
 rintro e w3 ⟨rfl, rfl⟩
 have HF := hid (failed_er (failed_of (w := w) (w0 := w) (k := 14) (i := 256) (Below.refl _ _) rfl))
 go_wp2
 go_ret2
 exact ⟨⟨_, rfl, HF.out.1⟩, HF.out.2⟩
theorem str_u8L (l : List Nat) : (⟨(u8L l).toArray⟩ : ByteArray) = bytesL l := rfl
theorem encode_ok (v : Value) (cs : List Nat) (w : World) (h : Rd (Own w) w v (intsD cs)) (hr : AllRight cs) (h256 : cs.length ≤ 256) :
    Calls Tryz.prog 176 #[v] w fun e w' => e = .returned (.tuple #[.string (bytesL (encL cs)), .nilIface]) ∧ Below w.heap.size w w' := by
 have H := hid h
 obtain ⟨a, c, rfl, _, hcap, hx⟩ := h.nats_inv
 have HX := hid hx; have HAR := hid hr
 obtain ⟨S, hS⟩ : ∃ S, bytesL (encL cs) = S := ⟨_, rfl⟩
 rw [hS]
 have HS := hid hS
 obtain ⟨n0, hn0⟩ : ∃ n, cs.length = n := ⟨_, rfl⟩
 have HN := hid hn0
 rw [hn0] at hcap h256 ⊢
 have t1 : decide ((256 : Int) < (n0 : Int)) = false := dcF (by omega)
 obtain ⟨b, hb⟩ : ∃ b, w.heap.size = b := ⟨_, rfl⟩
 obtain ⟨W2, hW2⟩ : ∃ W, w.alloc (.cells #[.pointer none, .slice none 0 0] 150) = W := ⟨_, rfl⟩
 have I0 : BIs b b [] W2 := by rw [← hW2, ← hb]; exact Lib.fresh_isBuilder _ _ w
 have hz2 : b < W2.heap.size := by rw [← hW2, ← hb]; simp
 have HB2 := hid (show Below w.heap.size w W2 by rw [← hW2]; exact ext_alloc (Below.refl _ _) _)
 have HI0 := hid I0
 have HE2 := hid hW2
 have HEb := hid hb
 clear I0 hW2 hb h hr hx hS hn0
 go_enter Tryz.func176, Tryz.ntmps176
 go_wp2_with fail
 rw [HEb.out, HE2.out]
 clear t1 HE2
 go_loopw [23] (EnRel1 cs b w) (fun j _ => n0 - (intOf j).toNat)
 case atStart => exact ⟨0, rfl, Nat.zero_le _, HI0.out, HB2.out, hz2⟩
 case round =>
  obtain ⟨j, rfl, hj, hI, hB, hbz⟩ := hrel
  rw [HN.out] at hj
  have HI := hid hI; have HB := hid hB
  clear hI hB
  by_cases hlt : j < n0
  · obtain ⟨t1, t1'⟩ := ltT j n0 hlt
    have q1 := inc j (by omega)
    obtain ⟨b1, o1, rfl, hb1, hc1⟩ := HX.out (by rw [HN.out]; omega)
    obtain ⟨x, hx⟩ := get_ex cs j (by rw [HN.out]; exact hlt)
    have hxv : cs[j]'(by rw [HN.out]; exact hlt) = x := (List.getElem?_eq_some_iff.1 hx).2
    have c0 : wr.cell? ⟨b1, o1 + j, none⟩ = some (.int .i64 (x : Int)) := by
     have := hc1 j (by rw [HN.out]; exact hlt)
     rw [hxv] at this
     exact (bcell1 HB.out hb1 _).trans this
    have hrx := HAR.out x (List.mem_of_getElem? hx)
    have PR := pright_any (x : Int) wr
    rw [hrx] at PR
    have PR := hid PR
    have HSN := hid (basicL_snoc cs j x hx)
    have hx3 := (right_iff _).1 hrx
    have HLT := hid hlt
    clear hc1 hx hxv hrx hb1 hlt
    by_cases h128 : x < 128
    · have t2 : decide ((x : Int) < 128) = true := dcT (by omega)
      rw [if_pos h128] at HSN
      obtain ⟨u, hu1, hu2⟩ := u8_of (n := x) (by omega)
      have qw : IntKind.u8.wrap (x : Int) = ((u.toNat : Nat) : Int) := by rw [hu1]; exact IntWalk.u8_in _ (by omega)
      have HU2 := hid hu2
      have hbl : (basicL (cs.take j)).length ≤ 256 := by
       have : (basicL (cs.take j)).length ≤ (cs.take j).length := List.length_filter_le _ _
       rw [List.length_take, HN.out] at this; omega
      have HBL := hid hbl
      clear h128 hu1 hu2 hx3 hbl
      go_wp2_with fail
      refine PR.out.mono ?_
      rintro e w1 ⟨rfl, hb1⟩
      have hI1 := bis_keep HI.out (fun k hk => hb1.block k hk)
      have WB := hid (writeByte_any b b _ u w1 hI1 (by simp [u8L]; have := HBL.out; omega) (Nat.le_of_lt (Nat.lt_of_lt_of_le hbz hb1.size)))
      have HB1 := hid (xT HB.out hb1)
      have hz1 := hb1.size
      clear hb1 hI1
      go_wp2_with fail
      refine WB.out.mono ?_
      rintro e w3 ⟨rfl, h3, hb3, hk3⟩
      have R1 : EnRel1 cs b w (.int .i64 ((j : Int) + 1)) w3 := ⟨j + 1, by go_num, by rw [HN.out]; exact HLT.out, by
       rw [HSN.out, u8L_app]
       have : u8L [x] = [u] := by show [UInt8.ofNat x] = _; rw [HU2.out]
       rw [this]; exact h3, HB1.out.trans (hb3.mono (by have := HEb.out; omega)), Nat.lt_of_lt_of_le hbz (Nat.le_trans hz1 hb3.size)⟩
      have HRR := hid R1
      clear R1 h3 hb3 hk3
      go_wp2
      refine ⟨?_, by have := HLT.out; simp [intOf]; omega⟩
      first | exact HRR.out | ((repeat apply Exists.intro); exact ⟨HRR.out, rfl⟩)
    · have t2 : decide ((x : Int) < 128) = false := dcF (by omega)
      rw [if_neg h128, List.append_nil] at HSN
      clear h128 hx3
      go_wp2_with fail
      refine PR.out.mono ?_
      rintro e w1 ⟨rfl, hb1⟩
      have hI1 := bis_keep HI.out (fun k hk => hb1.block k hk)
      have R1 : EnRel1 cs b w (.int .i64 ((j : Int) + 1)) w1 := ⟨j + 1, by go_num, by rw [HN.out]; exact HLT.out, by rw [HSN.out]; exact hI1, xT HB.out hb1, Nat.lt_of_lt_of_le hbz hb1.size⟩
      have HRR := hid R1
      clear R1 hb1 hI1
      go_wp2
      refine ⟨?_, by have := HLT.out; simp [intOf]; omega⟩
      first | exact HRR.out | ((repeat apply Exists.intro); exact ⟨HRR.out, rfl⟩)
  · obtain ⟨t1, t1'⟩ := ltF j n0 hlt
    have hjn : cs.take j = cs := List.take_of_length_le (by rw [HN.out]; omega)
    have hIB := HI.out
    rw [hjn] at hIB
    have HIB := hid hIB
    have LN := Tryz.Builder_Len b b (Lib.byteCells (u8L (basicL cs))) wr hIB
    rw [Lib.byteCells_length] at LN
    have hbl : (basicL cs).length ≤ cs.length := List.length_filter_le _ _
    rw [HN.out] at hbl
    have hul : (u8L (basicL cs)).length = (basicL cs).length := by simp [u8L]
    rw [hul] at LN
    obtain ⟨bl, hbl2⟩ : ∃ bl, (basicL cs).length = bl := ⟨_, rfl⟩
    rw [hbl2] at LN hbl hul
    have HBL := hid hbl2
    have LN := hid LN
    clear hjn hIB hbl2 hlt hj HI
    go_wp2_with fail
    refine LN.out.mono ?_
    rintro e w1 ⟨rfl, hw1⟩
    have hw1' := hw1.symm
    subst hw1'
    clear t1 t1' LN hw1
    have HUL := hid hul
    clear hul
    obtain ⟨tb, htb⟩ : ∃ tb, decide (0 < bl) = tb := ⟨_, rfl⟩
    have htb2 : decide ((0 : Int) < (bl : Int)) = tb := by rw [← htb]; exact decide_eq_decide.2 (by omega)
    have HTB := hid htb
    go_upto_if 41 with (fail)
    clear htb htb2
    go_cut [] (fun wx => BIs b b (u8L (basicL cs ++ dashL (basicL cs))) wx ∧ Below w.heap.size w wx ∧ b < wx.heap.size)
    case first =>
     cases tb with
     | true =>
       have hb0 : 0 < bl := of_decide_eq_true HTB.out
       have WB := hid (writeByte_any b b _ 45 wr HIB.out (by rw [HUL.out]; omega) (Nat.le_of_lt hbz))
       have HD : Hid (dashL (basicL cs) = [45]) := hid (by unfold dashL; rw [HBL.out, if_pos hb0])
       clear hb0
       go_wp2_with fail
       refine WB.out.mono ?_
       rintro e w3 ⟨rfl, h3, hb3, hk3⟩
       have HRR : Hid (BIs b b (u8L (basicL cs ++ dashL (basicL cs))) w3 ∧ Below w.heap.size w w3 ∧ b < w3.heap.size) := hid ⟨by rw [HD.out, u8L_app]; exact h3, HB.out.trans (hb3.mono (by have := HEb.out; omega)), Nat.lt_of_lt_of_le hbz hb3.size⟩
       clear h3 hb3 hk3
       go_wp2
       go_meet
       exact HRR.out
     | false =>
       have hb0 : ¬ 0 < bl := of_decide_eq_false HTB.out
       have HRR : Hid (BIs b b (u8L (basicL cs ++ dashL (basicL cs))) wr ∧ Below w.heap.size w wr ∧ b < wr.heap.size) := hid ⟨by
        have hd : dashL (basicL cs) = [] := by unfold dashL; rw [HBL.out, if_neg hb0]
        rw [hd, List.append_nil]; exact HIB.out, HB.out, hbz⟩
       clear hb0
       go_wp2
       go_meet
       exact HRR.out
    case rest =>
     obtain ⟨hI4, hB4, hz4⟩ := hcut
     have HI4 := hid hI4; have HB4 := hid hB4
     have CL := clone_ints _ cs wc (by have := H.out.ext hB4; rw [HN.out] at this; exact this) (by rw [HN.out]; omega)
     rw [HN.out] at CL
     have CL := hid CL
     clear hI4 hB4 hbz HB HIB
     go_wp2_with fail
     refine CL.out.mono ?_
     rintro e w5 ⟨v5, rfl, ho5, hb5⟩
     have HI5 := hid (bis_keep HI4.out (fun k hk => hb5.block k hk))
     have HB5 := hid (xT HB4.out hb5)
     have hz5 : b < w5.heap.size := Nat.lt_of_lt_of_le hz4 hb5.size
     have hzc := hb5.size
     obtain ⟨SF, hSF⟩ : ∃ SF, encG (basicL cs).length cs 128 ⟨0, 72, (basicL cs).length, basicL cs ++ dashL (basicL cs)⟩ = SF := ⟨_, rfl⟩
     have HSF := hid hSF
     have HSO : Hid (bytesL SF.out = S) := hid (by rw [← hSF]; exact HS.out)
     by_cases hnil : v5 = .slice none 0 0
     · subst hnil
       have hn00 : n0 = 0 := by
        rcases ho5.2 with ⟨_, h0⟩ | ⟨g, cap, cur, hv, _⟩
        · exact h0
        · cases hv
       have hcs : cs = [] := List.eq_nil_of_length_eq_zero (by rw [HN.out]; exact hn00)
       have hS2 : bytesL (basicL cs ++ dashL (basicL cs)) = S := by
        rw [← HSO.out, ← hSF, hcs]; rfl
       have SG := Tryz.Builder_String_any b b _ w5 HI5.out (Nat.le_of_lt hz5)
       rw [str_u8L, hS2] at SG
       have SG := hid SG
       have ZS := hid (fun W => Tryz.slices_Sort_int_none none 0 W)
       have ZC := hid (fun W => Tryz.slices_Compact_int_empty none 0 W)
       subst hn00
       clear ho5 hb5 CL hSF hcs hS2
       go_wp2_with fail
       refine (ZS.out _).mono ?_
       rintro e w6 ⟨rfl, hw6⟩
       have hw6' := hw6.symm
       subst hw6'
       go_wp2_with fail
       refine (ZC.out _).mono ?_
       rintro e w7 ⟨rfl, hw7⟩
       have hw7' := hw7.symm
       subst hw7'
       clear hw6 hw7
       go_wp2_with fail
       go_loopw [51] (fun i wr => i = .int .i64 0 ∧ wr = w5) (fun _ _ => 0)
       case atStart => exact ⟨rfl, rfl⟩
       case round =>
        obtain ⟨rfl, hwr⟩ := hrel
        subst hwr
        go_wp2_with fail
        refine SG.out.mono ?_
        rintro e w8 ⟨rfl, hb8⟩
        have HF := hid (HB5.out.trans (hb8.mono (by have := HEb.out; omega)))
        clear hb8
        go_wp2
        go_ret2
        exact ⟨rfl, HF.out⟩
     · obtain ⟨g, cap, rfl, hrow, hgb⟩ := irow_own ho5 hnil
       have hrow' : IRow w5 g cs.length cap (natZ cs) := by rw [HN.out]; exact hrow
       have SR := sort_ints g cap cs w5 hrow' (by rw [HN.out]; omega)
       rw [HN.out] at SR
       have SR := hid SR
       have HNB := hid (int_not_byte hrow)
       have hgne : g ≠ b := by omega
       have HGE : Hid (w.heap.size ≤ g) := hid (Nat.le_trans (Nat.le_trans HB4.out.size (Nat.le_refl _)) hgb)
       clear hrow hrow' ho5 hb5 CL hSF hnil
       go_wp2_with fail
       refine SR.out.mono ?_
       rintro e w6 ⟨rfl, zs, hps, hpm, hr6, hz6, hk6, ho6, ht6, hu6⟩
       have CP := hid (compact_ints g cap n0 zs w6 hr6 hps (by omega))
       have HB6 : Hid (Below w.heap.size w w6) := hid ⟨by rw [ho6]; exact HB5.out.os, by rw [ht6]; exact HB5.out.tape, by rw [hu6]; exact HB5.out.output, Nat.le_trans HB5.out.size hz6, fun k hk => by
        rw [hk6 k (by have := HGE.out; omega) (Nat.lt_of_lt_of_le hk HB5.out.size)]; exact HB5.out.block k hk⟩
       have HPM := hid hpm
       have HNB6 := hid (int_not_byte hr6)
       have hz6' := hz6
       have hz56 := hz5
       have HI6 : Hid (BIs b b (u8L (basicL cs ++ dashL (basicL cs))) w6) := hid (bis_move HI5.out hz5 (fun k hk hne => hk6 k hne hk) hgne HNB.out)
       clear hr6 hps hpm hz6 hk6 ho6 ht6 hu6 SR HI4 HI5 HB5 hz4
       go_wp2_with fail
       refine CP.out.mono ?_
       rintro e w7 ⟨L, rfl, hlt7, hmem7, hlen7, hr7, hk7, hz7, ho7, ht7, hu7⟩
       have HB7 : Hid (Below w.heap.size w w7) := hid ⟨by rw [ho7]; exact HB6.out.os, by rw [ht7]; exact HB6.out.tape, by rw [hu7]; exact HB6.out.output, Nat.le_trans HB6.out.size hz7, fun k hk => by
        rw [hk7 k (by have := HGE.out; omega)]; exact HB6.out.block k hk⟩
       have hz6b : b < w7.heap.size := Nat.lt_of_lt_of_le hz56 (Nat.le_trans hz6' hz7)
       have HI7 : Hid (BIs b b (u8L (basicL cs ++ dashL (basicL cs))) w7) := hid (bis_move HI6.out (Nat.lt_of_lt_of_le hz56 hz6') (fun k _ hne => hk7 k hne) hgne HNB6.out)
       have hmemL : ∀ x, x ∈ L ↔ ∃ c ∈ cs, (c : Int) = x := fun x => by
        rw [hmem7 x, HPM.out.mem_iff]
        unfold natZ
        rw [List.mem_map]
       have HML := hid hmemL; have HLT7 := hid hlt7; have HR7 := hid hr7
       have hLl : L.length ≤ 256 := by omega
       have E0 : EnRel2 cs L b g cap w SF (.int .i64 128) (.int .i64 72) (.int .i64 0) (.int .i64 bl) (.int .i64 0) w7 := ⟨0, 128, ⟨0, 72, (basicL cs).length, basicL cs ++ dashL (basicL cs)⟩, rfl, rfl, rfl, by rw [HBL.out], rfl, ⟨Nat.zero_le _, Nat.le_refl _, by omega, fun c hc _ => (HML.out _).2 ⟨c, hc, rfl⟩, fun x _ h => h, HSF.out, Nat.zero_le _, (by decide : 72 ≤ 1800000036), rfl, by
        show (basicL cs ++ dashL (basicL cs)).length ≤ 300 + 10 * (basicL cs).length
        have : (dashL (basicL cs)).length ≤ 1 := by unfold dashL; split <;> simp
        rw [List.length_append]; omega, HI7.out, HB7.out, hr7, hz6b⟩⟩
       have HE0 := hid E0
       clear E0 hmemL hlt7 hmem7 hr7 hk7 hz7 ho7 ht7 hu7 CP HI6 HB6 hz56 hz6' hz6b
       go_wp2_with fail
       go_loopw [9, 10, 11, 12, 51] (EnRel2 cs L b g cap w SF) (fun _ _ _ _ i _ => L.length - (intOf i).toNat)
       case atStart => exact HE0.out
       case round =>
        obtain ⟨i, n, st, rfl, rfl, rfl, rfl, rfl, hA⟩ := hrel
        have HA := hid hA
        have hil := hA.il
        have hn1 := hA.n128
        have hn2 := hA.nle
        clear hA
        by_cases hlt : i < L.length
        · obtain ⟨t1, t1'⟩ := ltT i L.length hlt
          have q1 := inc i (by omega)
          have hxL : L[i]? = some L[i] := List.getElem?_eq_getElem hlt
          have c0 := HA.out.row.cell hxL
          obtain ⟨m, hm, hmi⟩ := (HML.out L[i]).1 (List.getElem_mem hlt)
          rw [← hmi] at c0
          have hdr : L.drop i = (m : Int) :: L.drop (i + 1) := by rw [List.drop_eq_getElem_cons hlt, ← hmi]
          have HDR := hid hdr; have HM := hid hm; have HLT := hid hlt
          have hm3 := (right_iff _).1 (HAR.out m hm)
          have hmono : ∀ x ∈ L.drop (i + 1), (m : Int) < x := fun x hx => by
           obtain ⟨j, hj, rfl⟩ := List.mem_iff_getElem.1 hx
           rw [List.getElem_drop, hmi]
           rw [List.length_drop] at hj
           exact List.pairwise_iff_getElem.1 HLT7.out i (i + 1 + j) hlt (by omega) (by omega)
          have HMO := hid hmono
          clear hxL hmi hdr hm hmono
          by_cases h128 : m < 128
          · have t2 : decide ((m : Int) < 128) = true := dcT (by omega)
            have R1 : EnRel2 cs L b g cap w SF (.int .i64 n) (.int .i64 st.bias) (.int .i64 st.delta) (.int .i64 st.h) (.int .i64 ((i : Int) + 1)) wr := ⟨i + 1, n, st, rfl, rfl, rfl, rfl, by go_num, ⟨hlt, hn1, hn2, fun c hc hnc => by
             have := HA.out.next c hc hnc
             rw [HDR.out] at this
             rcases List.mem_cons.1 this with h | h
             · omega
             · exact h, fun x hx => HA.out.low x (by rw [HDR.out]; exact List.mem_cons_of_mem _ hx), HA.out.enc, HA.out.delta, HA.out.bias, HA.out.h, HA.out.out, HA.out.bis, HA.out.below, HA.out.row, HA.out.lt⟩⟩
            have HR1 := hid R1
            clear R1 h128
            go_wp2
            refine ⟨?_, by have := HLT.out; simp [intOf]; omega⟩
            first | exact HR1.out | ((repeat apply Exists.intro); exact ⟨HR1.out, rfl⟩)
          · have t2 : decide ((m : Int) < 128) = false := dcF (by omega)
            have hnm : n ≤ m := by
             have := HA.out.low (m : Int) (by rw [HDR.out]; simp) (by omega)
             omega
            have hnext : nextN cs n = some m := nextN_of HM.out hnm (fun c hc hnc => by
             have := HA.out.next c hc hnc
             rw [HDR.out] at this
             rcases List.mem_cons.1 this with h | h
             · omega
             · have := HMO.out _ h; omega)
            have HNX := hid hnext
            have hd1 := HA.out.delta
            have hbi := HA.out.bias
            have hh := HA.out.h
            have hhl : (cs.filter fun c => decide (c < n)).length ≤ cs.length := List.length_filter_le _ _
            rw [← hh, HN.out] at hhl
            have hol := HA.out.out
            obtain ⟨a1, ha1⟩ : ∃ a1, m - n = a1 := ⟨_, rfl⟩
            obtain ⟨p, hp⟩ : ∃ p, a1 * (st.h + 1) = p := ⟨_, rfl⟩
            have hpl : p ≤ a1 * 257 := by rw [← hp]; exact Nat.mul_le_mul_left _ (by omega)
            obtain ⟨d0, hd0⟩ : ∃ d0, st.delta + p = d0 := ⟨_, rfl⟩
            have hd0l : d0 ≤ 600 * m := by omega
            obtain ⟨s0, hs0⟩ : ∃ s0, addD st p = s0 := ⟨_, rfl⟩
            have e1 : s0.delta = d0 := by rw [← hs0]; exact hd0
            have e2 : s0.bias = st.bias := by rw [← hs0]; rfl
            have e3 : s0.h = st.h := by rw [← hs0]; rfl
            have e4 : s0.out = st.out := by rw [← hs0]; rfl
            have HENC : Hid (encG (basicL cs).length cs (m + 1) (addD (encIn (basicL cs).length m cs s0) 1) = SF) := hid (by
             have := HA.out.enc
             rw [encG_some hnext, ha1, hp, hs0] at this
             exact this)
            have r1 : IntKind.i64.wrap ((m : Int) - (n : Int)) = (a1 : Int) := by rw [i64n _ (by omega)]; omega
            have r2 : IntKind.i64.wrap ((st.h : Int) + 1) = (st.h : Int) + 1 := i64n _ (by omega)
            have hpi : (a1 : Int) * ((st.h : Int) + 1) = (p : Int) := by rw [← hp]; push_cast; rfl
            have r3 : IntKind.i64.wrap ((a1 : Int) * ((st.h : Int) + 1)) = (p : Int) := by rw [hpi]; exact i64n _ (by omega)
            have r4 : IntKind.i64.wrap ((st.delta : Int) + (p : Int)) = (d0 : Int) := by rw [i64n _ (by omega)]; omega
            have HH0 : Hid (s0.h = (cs.filter fun c => decide (c < n)).length) := hid (e3.trans hh)
            have E3 : EnRel3 cs L b g cap m w s0 (.int .i64 st.bias) (.int .i64 d0) (.int .i64 st.h) (.int .i64 0) wr := ⟨0, rfl, Nat.zero_le _, by rw [List.take_zero]; show _ = Value.int .i64 (s0.bias : Nat); rw [e2], by rw [List.take_zero]; show _ = Value.int .i64 (s0.delta : Nat); rw [e1], by rw [List.take_zero]; show _ = Value.int .i64 (s0.h : Nat); rw [e3], by rw [List.take_zero]; show BIs b b (u8L s0.out) wr; rw [e4]; exact HA.out.bis, HA.out.below, HA.out.row, HA.out.lt⟩
            have HE3 := hid E3
            have HD0 : Hid (s0.delta ≤ 600 * m) := hid (by rw [e1]; exact hd0l)
            have HBI : Hid (s0.bias ≤ 1800000036) := hid (by rw [e2]; exact hbi)
            have HOL : Hid (s0.out.length ≤ 300 + 10 * s0.h) := hid (by rw [e4, e3]; exact hol)
            have hm4 : m < 1114112 := by omega
            clear hnext hh ha1 hp hpl hd0 hd0l hs0 e1 e2 e3 e4 hpi E3 h128 hm3 hd1 hbi hol hhl hnm
            go_wp2_with fail
            generalize wr = wo at *
            clear c0 r1 r2 r3 r4 t2
            go_loopw [10, 11, 12, 68] (EnRel3 cs L b g cap m w s0) (fun _ _ _ j _ => n0 - (intOf j).toNat)
            case atStart => exact HE3.out
            case round =>
             obtain ⟨j, rfl, hj, rfl, rfl, rfl, hbis, hbel, hrow, hblt⟩ := hrel
             rw [HN.out] at hj
             have hle := encIn_hle (basicL cs).length m n cs s0 j HNX.out HH0.out
             have hge := encIn_hge (basicL cs).length m (cs.take j) s0
             have hdl := encIn_delta (basicL cs).length m (cs.take j) s0
             have hbl9 := encIn_bias (basicL cs).length m (cs.take j) s0 900000000 (by have := HBI.out; omega) (by have := HD0.out; rw [List.length_take]; omega)
             have hou := encIn_out (basicL cs).length m (cs.take j) s0 (by have := HD0.out; rw [List.length_take]; omega)
             have hd0 := HD0.out; have hol := HOL.out
             have HBE := hid hbel; have HRO := hid hrow; have HBS := hid hbis
             rw [HN.out] at hle
             rw [List.length_take] at hdl
             clear hbel hrow hbis
             by_cases hjl : j < n0
             · obtain ⟨t3, t3'⟩ := ltT j n0 hjl
               have q2 := inc j (by omega)
               obtain ⟨b1, o1, rfl, hb1, hc1⟩ := HX.out (by rw [HN.out]; omega)
               obtain ⟨x, hx⟩ := get_ex cs j (by rw [HN.out]; exact hjl)
               have hxv : cs[j]'(by rw [HN.out]; exact hjl) = x := (List.getElem?_eq_some_iff.1 hx).2
               have c0 : wr.cell? ⟨b1, o1 + j, none⟩ = some (.int .i64 (x : Int)) := by
                have := hc1 j (by rw [HN.out]; exact hjl)
                rw [hxv] at this
                exact (bcell1 HBE.out hb1 _).trans this
               have hnx := encIn_next (basicL cs).length m cs s0 j x hx
               have HJL := hid hjl
               obtain ⟨sj, hsj⟩ : ∃ sj, encIn (basicL cs).length m (cs.take j) s0 = sj := ⟨_, rfl⟩
               rw [hsj] at hnx hle hge hdl hbl9 hou HBS ⊢
               have HNX2 := hid hnx
               clear hc1 hx hxv hnx hsj hb1 hjl
               by_cases hxm : x < m
               · obtain ⟨t4, t4'⟩ := ltT x m hxm
                 have q3 : IntKind.i64.wrap ((sj.delta : Int) + 1) = (sj.delta : Int) + 1 := i64n _ (by omega)
                 have hst : encIn (basicL cs).length m (cs.take (j + 1)) s0 = ⟨sj.delta + 1, sj.bias, sj.h, sj.out⟩ := by rw [HNX2.out]; unfold encStep; rw [if_pos hxm]
                 have R1 : EnRel3 cs L b g cap m w s0 (.int .i64 sj.bias) (.int .i64 ((sj.delta : Int) + 1)) (.int .i64 sj.h) (.int .i64 ((j : Int) + 1)) wr := ⟨j + 1, by go_num, by rw [HN.out]; exact HJL.out, by rw [hst], by rw [hst]; go_num, by rw [hst], by rw [hst]; exact HBS.out, HBE.out, HRO.out, hblt⟩
                 have HR1 := hid R1
                 clear R1 hst hxm
                 go_wp2
                 refine ⟨?_, by have := HJL.out; simp [intOf]; omega⟩
                 first | exact HR1.out | ((repeat apply Exists.intro); exact ⟨HR1.out, rfl⟩)
               · obtain ⟨t4, t4'⟩ := ltF x m hxm
                 by_cases hxe : x = m
                 · subst hxe
                   have t5 : ((x : Int) == (x : Int)) = true := by simp
                   have NM := hid (pnumber_any b b (u8L sj.out) sj.delta sj.bias wr HBS.out (by omega) (by omega) (by simp [u8L]; omega) (Nat.le_of_lt hblt))
                   have q3 : IntKind.i64.wrap ((sj.h : Int) + 1) = (sj.h : Int) + 1 := i64n _ (by omega)
                   have te : ((sj.h : Int) == (bl : Int)) = decide (sj.h = (basicL cs).length) := by
                    rw [HBL.out]
                    by_cases e : sj.h = bl
                    · rw [dcT e, e]; simp
                    · rw [dcF e]; simp; omega
                   obtain ⟨tf, htf⟩ : ∃ tf, decide (sj.h = (basicL cs).length) = tf := ⟨_, rfl⟩
                   rw [htf] at te
                   have AD := fun W => adapt_any sj.delta (sj.h + 1) tf W (by omega) (by omega) (by omega)
                   have hst : encIn (basicL cs).length x (cs.take (j + 1)) s0 = ⟨0, adaptN sj.delta (sj.h + 1) tf, sj.h + 1, sj.out ++ pnumL sj.delta sj.bias 36⟩ := by rw [HNX2.out]; unfold encStep; rw [if_neg hxm, if_pos rfl, htf]
                   have AD := hid AD
                   have HST := hid hst
                   clear hst htf hxm
                   go_wp2_with fail
                   refine NM.out.mono ?_
                   rintro e w8 ⟨rfl, h8, hb8, hk8, hz8⟩
                   have HROW8 : Hid (IRow w8 g L.length cap L) := hid (HRO.out.keep (by
                    obtain ⟨cur, hbq, _⟩ := HRO.out.blk
                    exact kept_ints hk8 hgne HRO.out.lt hbq))
                   have HB8 := hid (HBE.out.trans (hb8.mono (by have := HEb.out; omega)))
                   have H8 := hid h8
                   clear hb8 hk8 h8
                   go_wp2_with fail
                   refine (AD.out _).mono ?_
                   rintro e w9 ⟨rfl, hw9⟩
                   have hw9' := hw9.symm
                   subst hw9'
                   have R1 : EnRel3 cs L b g cap x w s0 (.int .i64 (adaptN sj.delta (sj.h + 1) tf : Nat)) (.int .i64 0) (.int .i64 ((sj.h : Int) + 1)) (.int .i64 ((j : Int) + 1)) w8 := ⟨j + 1, by go_num, by rw [HN.out]; exact HJL.out, by rw [HST.out], by rw [HST.out]; rfl, by rw [HST.out]; go_num, by rw [HST.out, u8L_app]; exact H8.out, HB8.out, HROW8.out, Nat.lt_of_lt_of_le hblt hz8⟩
                   have HR1 := hid R1
                   clear R1 hw9
                   generalize adaptN sj.delta (sj.h + 1) tf = ad at *
                   go_wp2
                   refine ⟨?_, by have := HJL.out; simp [intOf]; omega⟩
                   first | exact HR1.out | ((repeat apply Exists.intro); exact ⟨HR1.out, rfl⟩)
                 · have t5 : ((x : Int) == (m : Int)) = false := by simp; omega
                   have hst : encIn (basicL cs).length m (cs.take (j + 1)) s0 = sj := by rw [HNX2.out]; unfold encStep; rw [if_neg hxm, if_neg hxe]
                   have R1 : EnRel3 cs L b g cap m w s0 (.int .i64 sj.bias) (.int .i64 sj.delta) (.int .i64 sj.h) (.int .i64 ((j : Int) + 1)) wr := ⟨j + 1, by go_num, by rw [HN.out]; exact HJL.out, by rw [hst], by rw [hst], by rw [hst], by rw [hst]; exact HBS.out, HBE.out, HRO.out, hblt⟩
                   have HR1 := hid R1
                   clear R1 hst hxm hxe
                   go_wp2
                   refine ⟨?_, by have := HJL.out; simp [intOf]; omega⟩
                   first | exact HR1.out | ((repeat apply Exists.intro); exact ⟨HR1.out, rfl⟩)
             · obtain ⟨t3, t3'⟩ := ltF j n0 hjl
               have htk : cs.take j = cs := List.take_of_length_le (by rw [HN.out]; omega)
               rw [htk] at hle hge hdl hbl9 hou HBS ⊢
               obtain ⟨s1, hs1⟩ : ∃ s1, encIn (basicL cs).length m cs s0 = s1 := ⟨_, rfl⟩
               have hhe := encIn_h (basicL cs).length m cs s0
               rw [hs1] at hle hge hdl hbl9 hou HBS hhe HENC ⊢
               have q3 : IntKind.i64.wrap ((s1.delta : Int) + 1) = (s1.delta : Int) + 1 := i64n _ (by omega)
               have q4 := inc m (by omega)
               have hfl := filter_lt_succ HNX.out
               have hnm2 := (nextN_some HNX.out).2.1
               have R1 : EnRel2 cs L b g cap w SF (.int .i64 ((m : Int) + 1)) (.int .i64 s1.bias) (.int .i64 ((s1.delta : Int) + 1)) (.int .i64 s1.h) (.int .i64 ((i : Int) + 1)) wr := ⟨i + 1, m + 1, addD s1 1, by go_num, rfl, by show _ = Value.int .i64 ((s1.delta + 1 : Nat) : Int); go_num, rfl, by go_num, ⟨HLT.out, by omega, by omega, fun c hc hmc => by
                have := HA.out.next c hc (by have := (nextN_some HNX.out).2.1; omega)
                rw [HDR.out] at this
                rcases List.mem_cons.1 this with h | h
                · omega
                · exact h, fun x hx _ => by have := HMO.out x hx; push_cast; omega, HENC.out, by show s1.delta + 1 ≤ _; omega, by show s1.bias ≤ _; omega, by
                show s1.h = _
                rw [hhe, HH0.out, hfl], by show s1.out.length ≤ 300 + 10 * s1.h; omega, HBS.out, HBE.out, HRO.out, hblt⟩⟩
               have HR1 := hid R1
               clear R1 hs1 hhe hfl htk hjl hnm2
               go_wp2
               refine ⟨?_, by have := HLT.out; simp [intOf]; omega⟩
               first | exact HR1.out | ((repeat apply Exists.intro); exact ⟨HR1.out, rfl⟩)
        · obtain ⟨t1, t1'⟩ := ltF i L.length hlt
          have hnone : nextN cs n = none := nextN_no (fun c hc => Nat.lt_of_not_le (fun hnc => by
           have := HA.out.next c hc hnc
           rw [List.drop_eq_nil_of_le (by omega)] at this
           simp at this))
          have henc := HA.out.enc
          rw [encG_none hnone] at henc
          have hbis := HA.out.bis
          rw [henc] at hbis
          have SG := Tryz.Builder_String_any b b _ wr hbis (Nat.le_of_lt HA.out.lt)
          rw [str_u8L, HSO.out] at SG
          have SG := hid SG
          clear hnone henc hbis hlt
          go_wp2_with fail
          refine SG.out.mono ?_
          rintro e w8 ⟨rfl, hb8⟩
          have HF := hid (HA.out.below.trans (hb8.mono (by have := HEb.out; omega)))
          clear hb8
          go_wp2
          go_ret2
          exact ⟨rfl, HF.out⟩
end Go.Proofs.YtbeodjipdpcaiaaGreatDoor
