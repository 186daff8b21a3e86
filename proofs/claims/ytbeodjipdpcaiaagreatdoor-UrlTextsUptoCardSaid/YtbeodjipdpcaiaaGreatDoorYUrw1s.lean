/- Texts put together. -/
import Derived.Test.YtbeodjipdpcaiaaGreatDoorYUrp0s
import Derived.Test.YtbeodjipdpcaiaaGreatDoorYIdent1s
import Derived.Test.YtbeodjipdpcaiaaGreatDoorYHsw1s
import Derived.Test.YtbeodjipdpcaiaaGreatDoorYHsw4sf
import Derived.Test.YtbeodjipdpcaiaaGreatDoorYPnw1s
import Derived.Test.YtbeodjipdpcaiaaGreatDoorYPnw3
import Derived.Test.YtbeodjipdpcaiaaGreatDoorYUrl0s
namespace Go.Proofs.YtbeodjipdpcaiaaGreatDoor
section
open Go.RowKit
set_option maxRecDepth 100000 in
set_option maxHeartbeats 4000000 in
theorem sch1_any (i c : Nat) (w : World) (_ : i ≤ 1000000) : Calls Tryz.prog 150 #[.int .i64 i, .int .u8 c] w fun e w' => e = .returned (.bool (schB i c)) ∧ w = w' := by
 unfold schB
 have k0 : ∃ b, decide (0 < i) = b ∧ decide ((0 : Int) < (i : Int)) = b := ⟨decide (0 < i), rfl, decide_eq_decide.2 (by omega)⟩
 have k1 : ∃ b, decide (c = 43) = b ∧ ((c : Int) == 43) = b := ⟨decide (c = 43), rfl, by by_cases h : c = 43 <;> simp [h]; omega⟩
 have k2 : ∃ b, decide (c = 45) = b ∧ ((c : Int) == 45) = b := ⟨decide (c = 45), rfl, by by_cases h : c = 45 <;> simp [h]; omega⟩
 have k3 : ∃ b, decide (c = 46) = b ∧ ((c : Int) == 46) = b := ⟨decide (c = 46), rfl, by by_cases h : c = 46 <;> simp [h]; omega⟩
 obtain ⟨b0, e0, t0⟩ := k0
 obtain ⟨b1, e1, t1⟩ := k1
 obtain ⟨b2, e2, t2⟩ := k2
 obtain ⟨b3, e3, t3⟩ := k3
 have t0' := e0
 rw [e0, e1, e2, e3]
 clear e0 e1 e2 e3
 cases hg : letterB c with
 | true =>
   go_enter Tryz.func150, Tryz.ntmps150
   go_wp2_with fail
   refine (letter_any c _).mono ?_
   rintro e w1 ⟨rfl, rfl⟩
   rw [hg]
   go_wp2
   go_ret
   exact ⟨rfl, rfl⟩
 | false =>
   cases b0 with
   | false =>
     go_enter Tryz.func150, Tryz.ntmps150
     go_wp2_with fail
     refine (letter_any c _).mono ?_
     rintro e w1 ⟨rfl, rfl⟩
     rw [hg]
     go_wp2
     go_ret
     exact ⟨rfl, rfl⟩
   | true =>
     cases hd : digitB c <;> cases b1 <;> cases b2 <;> cases b3
     all_goals
      go_enter Tryz.func150, Tryz.ntmps150
      go_wp2_with fail
      refine (letter_any c _).mono ?_
      rintro e w1 ⟨rfl, rfl⟩
      rw [hg]
      go_wp2_with fail
      refine (digit_any c _).mono ?_
      rintro e w1 ⟨rfl, rfl⟩
      rw [hd]
      go_wp2
      go_ret
      exact ⟨rfl, rfl⟩
theorem schFits : Fits 150 schB := ⟨enters_id Tryz.func150 (by kernel_rfl) rfl, fun i c w hi _ => sch1_any i c w hi⟩
/-- What is wrong with a scheme, as a chain of errors. -/
def schR (s : ByteArray) : List (Int × Int) := match schE (bytesN s) with
 | (0, _) => []
 | (k + 1, p) => [(((k + 1 : Nat) : Int), (p : Int))]
set_option maxRecDepth 100000 in
set_option maxHeartbeats 2000000 in
/-- ident.Scheme -/
theorem ischeme_any (s : ByteArray) (w : World) (hs : s.size ≤ 1000000) : Calls Tryz.prog 86 #[.string s] w fun e w' => ∃ v, e = .returned v ∧ Er w' v (schR s) ∧ Below w.heap.size w w' := by
 have RD := read_any 150 schB schFits s 64 (decide (0 < s.size)) w hs (by decide)
 rw [readR_schE] at RD
 have t1 : s.toList.isEmpty = !(decide (0 < s.size)) := by
  by_cases h : s.size = 0
  · rw [empty_of h, ByteArray.toList_eq]; rfl
  · rw [str_ne h, decide_eq_true (Nat.pos_of_ne_zero h)]; rfl
 obtain ⟨t, ht⟩ : ∃ t, decide (0 < s.size) = t := ⟨_, rfl⟩
 rw [ht] at RD t1
 have RDH := Lib.hid RD
 clear RD ht
 go_enter Tryz.func86, Tryz.ntmps86
 go_wp2_with fail
 refine RDH.out.mono ?_
 rintro e w1 ⟨v, rfl, hr, hb⟩
 have HR : Hid (Er w1 v (schR s)) := Lib.hid (hr.wide (fun b h => h.2))
 have HB := Lib.hid hb
 have hf : v = .nilIface ∨ ∃ u, v = .iface 119 u := by
  have hE := HR.out
  cases hc : schR s with
  | nil => rw [hc] at hE; exact .inl (Er.of_nil hE)
  | cons x r => rw [hc] at hE; obtain ⟨b, off, u2, e, _⟩ := fault_inv (k := x.1) (a := x.2) hE; exact .inr ⟨_, e⟩
 clear hr hb
 rcases hf with rfl | ⟨u, rfl⟩
 all_goals
  go_wp2
  go_ret
  exact ⟨_, rfl, HR.out, HB.out⟩
set_option maxRecDepth 100000 in
set_option maxHeartbeats 2000000 in
/-- url.place -/
theorem uplace_any (u : Value) (k a : Int) (r : List (Int × Int)) (w : World) (hg : Glob w) (h : Er w u ((k, a) :: r)) : Calls Tryz.prog 88 #[u] w fun e w' => e = .returned (.int .i64 a) ∧ Below w.heap.size w w' := by
 obtain ⟨b, off, u2, rfl, hS, c0, c1, c2, h2⟩ := fault_inv h
 have A := Lib.hid (as_box ⟨b, off, none⟩ w hg)
 have hS' : b < w.heap.size := hS
 clear h hg hS h2
 go_enter Tryz.func88, Tryz.ntmps88
 go_wp2_with fail
 refine A.out.mono ?_
 rintro e w1 ⟨rfl, hc, hz, hb⟩
 rw [← bcell1 hb hS'] at c1
 have HB := Lib.hid hb; clear hb
 go_wp2
 go_ret
 exact ⟨rfl, HB.out⟩
theorem http_eq (s : ByteArray) : (s.toList == [104, 116, 116, 112]) = decide (bytesN s = httpL) := by
 rw [ByteArray.toList_eq, Bool.eq_iff_iff, beq_iff_eq, decide_eq_true_eq]
 constructor
 · intro h; unfold bytesN; rw [h]; rfl
 · intro h
   have h2 := bytesL_bytesN s
   rw [h] at h2
   rw [← h2]; rfl
theorem https_eq (s : ByteArray) : (s.toList == [104, 116, 116, 112, 115]) = decide (bytesN s = httpsL) := by
 rw [ByteArray.toList_eq, Bool.eq_iff_iff, beq_iff_eq, decide_eq_true_eq]
 constructor
 · intro h; unfold bytesN; rw [h]; rfl
 · intro h
   have h2 := bytesL_bytesN s
   rw [h] at h2
   rw [← h2]; rfl
set_option maxRecDepth 100000 in
set_option maxHeartbeats 2000000 in
/-- url.Web -/
theorem uweb_any (s : ByteArray) (w : World) : Calls Tryz.prog 34 #[.string s] w fun e w' => e = .returned (.bool (webL (bytesN s))) ∧ w' = w := by
 have t1 := http_eq s
 have t2 := https_eq s
 unfold webL
 obtain ⟨b1, h1⟩ : ∃ b, decide (bytesN s = httpL) = b := ⟨_, rfl⟩
 obtain ⟨b2, h2⟩ : ∃ b, decide (bytesN s = httpsL) = b := ⟨_, rfl⟩
 rw [h1] at t1
 rw [h2] at t2
 rw [h1, h2]
 clear h1 h2
 cases b1 <;> cases b2
 all_goals
  go_enter Tryz.func34, Tryz.ntmps34
  go_wp2
  go_ret
  exact ⟨rfl, rfl⟩
set_option maxRecDepth 100000 in
set_option maxHeartbeats 2000000 in
/-- url.own -/
theorem uown_any (s : ByteArray) (w : World) : Calls Tryz.prog 77 #[.string s] w fun e w' => e = .returned (.int .i64 (ownP (bytesN s))) ∧ w' = w := by
 have t1 := http_eq s
 have t2 := https_eq s
 unfold ownP
 by_cases h1 : bytesN s = httpL
 · rw [decide_eq_true h1] at t1
   rw [if_pos h1]
   clear h1 t2
   go_enter Tryz.func77, Tryz.ntmps77
   go_wp2
   go_ret
   exact ⟨rfl, rfl⟩
 · rw [decide_eq_false h1] at t1
   rw [if_neg h1]
   by_cases h2 : bytesN s = httpsL
   · rw [decide_eq_true h2] at t2
     rw [if_pos h2]
     clear h1 h2
     go_enter Tryz.func77, Tryz.ntmps77
     go_wp2
     go_ret
     exact ⟨rfl, rfl⟩
   · rw [decide_eq_false h2] at t2
     rw [if_neg h2]
     clear h1 h2
     go_enter Tryz.func77, Tryz.ntmps77
     go_wp2
     go_ret
     exact ⟨rfl, rfl⟩
end
section
open Go.RowKit
theorem plainC_N (c : Nat) : plainC c = plainN c := by
 unfold plainC plainN
 rw [Bool.eq_iff_iff]
 simp only [Bool.or_eq_true, decide_eq_true_eq]
 try omega
def escBy (c : Nat) : List Nat := [37, HXN (c / 16), HXN (c % 16)]
theorem normL_len : ∀ (ev : List (Nat × Bool)), (normL ev).length ≤ 3 * ev.length
 | [] => Nat.zero_le _
 | x :: ev => by
   have := normL_len ev
   show (evL x ++ normL ev).length ≤ _
   have h : (evL x).length ≤ 3 := by unfold evL; split <;> simp
   rw [List.length_append, List.length_cons]; omega
theorem normL_snoc (ev : List (Nat × Bool)) (x : Nat × Bool) : normL (ev ++ [x]) = normL ev ++ evL x := by
 unfold normL
 rw [List.flatMap_append]; simp
set_option maxRecDepth 100000 in
set_option maxHeartbeats 2000000 in
/-- percent.written -/
theorem pwritten_any (c : Nat) (w : World) (hc : c < 256) : Calls Tryz.prog 203 #[.int .u8 c] w fun e w' => e = .returned (.string (bytesL (escBy c))) ∧ Below w.heap.size w w' := by
 have HD := fun W => hexdig2_any c W hc
 have hz : (⟨#[37]⟩ : ByteArray) ++ (⟨#[UInt8.ofNat (hexU (c / 16)), UInt8.ofNat (hexU (c % 16))]⟩ : ByteArray) = bytesL (escBy c) := by
  apply toList_inj
  rw [ByteArray.toList_eq, ByteArray.toList_eq]
  simp [bytesL, ByteArray.data_append, escBy, hexU, HXN]
 have hzz : (⟨#[UInt8.ofNat (hexU (c / 16)), UInt8.ofNat (hexU (c % 16))]⟩ : ByteArray).size ≤ 1000 := by show (2 : Nat) ≤ 1000; omega
 obtain ⟨H, hH⟩ : ∃ H, (⟨#[UInt8.ofNat (hexU (c / 16)), UInt8.ofNat (hexU (c % 16))]⟩ : ByteArray) = H := ⟨_, rfl⟩
 obtain ⟨Z, hZ⟩ : ∃ Z, bytesL (escBy c) = Z := ⟨_, rfl⟩
 rw [hH] at HD hz hzz
 rw [hZ] at hz ⊢
 have HDH := Lib.hid HD
 have q1 : IntKind.u64.wrap (c : Int) = (c : Int) := IntWalk.u64_in _ (by omega)
 clear HD hH hZ hc
 go_enter Tryz.func203, Tryz.ntmps203
 go_wp2_with fail
 refine (HDH.out _).mono ?_
 rintro e w1 ⟨rfl, hb⟩
 have HB := Lib.hid hb
 clear hb
 go_wp2
 go_ret
 exact ⟨rfl, HB.out⟩
/-- The builder in which the normal form lies stands at block L. -/
structure NrI (L : Nat) (w : World) (acc : List (Nat × Bool)) (W : World) : Prop where
 lt : w.heap.size ≤ L
 bis : BIs L L (u8L (normL acc)) W
 below : Below w.heap.size w W
 sz : L < W.heap.size
theorem bis_ext {B b : Nat} {l : List UInt8} {w w' : World} (h : BIs B b l w) (hk : ∀ k, k < w.heap.size → w'.heap[k]? = w.heap[k]?) : BIs B b l w' := by
 have one : ∀ p, BAt B b p l w → BAt B b p l w' := fun p h => by
  obtain ⟨hB, v, hbk, hown, hnb⟩ := h
  refine ⟨hB, v, by rw [hk b (Array.getElem?_eq_some_iff.1 hbk).1]; exact hbk, ?_, hnb⟩
  rcases hown.2 with h2 | ⟨q, cap, cur, rfl, h3, hq, h4⟩
  · exact ⟨hown.1, .inl h2⟩
  · exact ⟨hown.1, .inr ⟨q, cap, cur, rfl, h3, by rw [hk q (Array.getElem?_eq_some_iff.1 hq).1]; exact hq, h4⟩⟩
 exact h.imp (one _) (one _)
theorem NrI.ext {L : Nat} {w : World} : PeExt (NrI L w) := fun _acc _W _W' h hb =>
 ⟨h.lt, bis_ext h.bis hb.block, ext_trans h.below hb, Nat.lt_of_lt_of_le h.sz hb.size⟩
theorem u8n_of {c : Nat} (h : c < 256) : (UInt8.ofNat c).toNat = c := by simp; omega
set_option maxRecDepth 100000 in
set_option maxHeartbeats 4000000 in
theorem nrfn_any (L : Nat) (w : World) (acc : List (Nat × Bool)) (c : Nat) (b : Bool) (W : World) (hl : acc.length ≤ 1000000) (h : NrI L w acc W) (hc : c < 256) :
    Calls Tryz.prog 201 #[.int .u8 c, .bool b, .pointer (some ⟨L, 0, none⟩)] W fun e W' => e = .returned (.tuple #[]) ∧ NrI L w (acc ++ [(c, b)]) W' := by
 have hlen : (u8L (normL acc)).length ≤ 3000000 := by
  have := normL_len acc
  unfold u8L; rw [List.length_map]; omega
 have PL := Lib.hid (fun W => pplain_any c W hc)
 obtain ⟨tp, htp⟩ : ∃ t, plainC c = t := ⟨_, rfl⟩
 rw [htp] at PL
 have hpn : plainN c = tp := by rw [← plainC_N, htp]
 have hLW := h.sz
 have hll := h.lt
 have fin : ∀ W', BIs L L (u8L (normL (acc ++ [(c, b)]))) W' → Below L W W' → NrI L w (acc ++ [(c, b)]) W' := fun W' h1 h2 => ⟨h.lt, h1, h.below.trans (h2.mono hll), Nat.lt_of_lt_of_le hLW h2.size⟩
 have WB := writeByte_any L L _ (UInt8.ofNat c) W h.bis (by omega) (by omega)
 rw [u8n_of hc] at WB
 have hplain : evL (c, b) = [c] → Calls Tryz.prog 204 #[.pointer (some ⟨L, 0, none⟩), .int .u8 c] W fun e w' => e = .returned .nilIface ∧ NrI L w (acc ++ [(c, b)]) w' := fun he => by
  refine WB.mono ?_
  rintro e w' ⟨rfl, h1, h2, _⟩
  refine ⟨rfl, fin w' ?_ h2⟩
  rw [normL_snoc, he, u8L_app]; exact h1
 have HPL := Lib.hid hplain
 clear hplain WB
 cases b with
 | false =>
   have C := Lib.hid (HPL.out (by unfold evL; rw [if_neg (by simp)]))
   clear h hlen fin hLW hll hpn htp hl
   go_enter Tryz.func201, Tryz.ntmps201
   go_wp2_with fail
   refine C.out.mono ?_
   rintro e w1 ⟨rfl, hF⟩
   have HF := Lib.hid hF
   clear hF
   go_wp2
   go_end0
   exact ⟨rfl, HF.out⟩
 | true =>
   cases tp with
   | true =>
     have C := Lib.hid (HPL.out (by unfold evL; rw [if_neg (by simp [hpn])]))
     clear h hlen fin hLW hll hpn htp hl
     go_enter Tryz.func201, Tryz.ntmps201
     go_wp2_with fail
     refine (PL.out _).mono ?_
     rintro e w0 ⟨rfl, hw⟩
     have hw' := hw.symm
     subst hw'
     clear hw
     go_wp2_with fail
     refine C.out.mono ?_
     rintro e w1 ⟨rfl, hF⟩
     have HF := Lib.hid hF
     clear hF
     go_wp2
     go_end0
     exact ⟨rfl, HF.out⟩
   | false =>
     have he : evL (c, true) = escBy c := by unfold evL escBy; rw [if_pos ⟨rfl, hpn⟩]
     have hez : (bytesL (escBy c)).size ≤ 3 := by rw [bytesL_size]; exact Nat.le_refl _
     have hed : (bytesL (escBy c)).data.toList = u8L (escBy c) := by unfold bytesL u8L; rfl
     have PW := fun W => pwritten_any c W hc
     obtain ⟨E, hE⟩ : ∃ E, bytesL (escBy c) = E := ⟨_, rfl⟩
     rw [hE] at PW hez hed
     have WS : ∀ W1, Below W.heap.size W W1 → Calls Tryz.prog 122 #[.pointer (some ⟨L, 0, none⟩), .string E] W1 fun e w' => ∃ n, e = .returned (.tuple #[.int .i64 n, .nilIface]) ∧ NrI L w (acc ++ [(c, true)]) w' := fun W1 hb => by
      refine (writeString_any L L _ E W1 (bis_ext h.bis hb.block) (by omega) (by have := hb.size; omega)).mono ?_
      rintro e w' ⟨rfl, h1, h2, _⟩
      refine ⟨_, rfl, fin w' ?_ ((hb.mono (by omega)).trans h2)⟩
      rw [normL_snoc, he, u8L_app, ← hed]; exact h1
     have PWH := Lib.hid PW; have WSH := Lib.hid WS
     clear h hlen fin hLW hll hpn htp he hez hed PW WS hE hl HPL
     go_enter Tryz.func201, Tryz.ntmps201
     go_wp2_with fail
     refine (PL.out _).mono ?_
     rintro e w0 ⟨rfl, hw⟩
     have hw' := hw.symm
     subst hw'
     clear hw
     go_wp2_with fail
     refine (PWH.out _).mono ?_
     rintro e w1 ⟨rfl, hb1⟩
     have HC := Lib.hid (WSH.out w1 hb1)
     clear hb1
     go_wp2_with fail
     refine HC.out.mono ?_
     rintro e w2 ⟨n, rfl, hF⟩
     have HF := Lib.hid hF
     clear hF
     go_wp2
     go_end0
     exact ⟨rfl, HF.out⟩
def NmPost (w : World) (r : Sc (List (Nat × Bool))) (e : Ending) (w' : World) : Prop := Below w.heap.size w w' ∧ match r with
 | .ok l => e = .returned (.tuple #[.string (bytesL (normL l)), .nilIface])
 | .no k i => ∃ u, e = .returned (.tuple #[.string ⟨#[]⟩, u]) ∧ Er w' u [((k : Int), i)]
set_option maxRecDepth 100000 in
set_option maxHeartbeats 4000000 in
/-- percent.Normal -/
theorem pnormal_any (s : ByteArray) (w : World) (hs : s.size ≤ 1000000) : Calls Tryz.prog 145 #[.string s] w (NmPost w (pctL (bytesN s))) := by
 obtain ⟨L, hL⟩ : ∃ L, w.heap.size = L := ⟨_, rfl⟩
 obtain ⟨W1, hW1⟩ : ∃ W, w.alloc (.cells #[.pointer none, .slice none 0 0] 150) = W := ⟨_, rfl⟩
 have hI : NrI L w [] W1 := by
  rw [← hW1]
  exact ⟨Nat.le_of_eq hL, by rw [← hL]; exact Lib.fresh_isBuilder _ _ w, ext_alloc (Below.refl _ _) _, by rw [← hL]; simp⟩
 have CE := Lib.hid (each_any s (NrI L w) _ W1 NrI.ext (.norm L (fun acc c b W hl h hc => nrfn_any L w acc c b W hl h hc)) hI hs)
 have HW1 := Lib.hid hW1; have HL := Lib.hid hL
 obtain ⟨r, hr⟩ : ∃ r, pctL (bytesN s) = r := ⟨_, rfl⟩
 rw [hr] at CE ⊢
 clear hI hW1 hL hr
 go_enter Tryz.func145, Tryz.ntmps145
 go_wp2_with fail
 rw [HW1.out, HL.out]
 refine CE.out.mono ?_
 intro e w2 hp
 cases r with
 | no k p =>
   obtain ⟨u, acc, rfl, hI, hEr⟩ := hp
   obtain ⟨b, off, u2, rfl, _⟩ := fault_inv hEr
   have HEr := Lib.hid hEr; have HB := Lib.hid hI.below
   clear hEr hI
   go_wp2
   go_ret2
   exact ⟨HB.out, _, rfl, HEr.out⟩
 | ok l =>
   obtain ⟨rfl, hI⟩ := hp
   have SG := Tryz.Builder_String_any L L _ w2 hI.bis (Nat.le_of_lt hI.sz)
   obtain ⟨Z, hZ⟩ : ∃ Z, (⟨(u8L (normL l)).toArray⟩ : ByteArray) = Z := ⟨_, rfl⟩
   have hZ2 : bytesL (normL l) = Z := hZ
   rw [hZ] at SG
   have SGH := Lib.hid SG; have HZ := Lib.hid hZ2; have HI := Lib.hid hI
   clear SG hZ hZ2 hI
   go_wp2_with fail
   refine SGH.out.mono ?_
   rintro e w6 ⟨rfl, hb6⟩
   have HF := Lib.hid (HI.out.below.trans (hb6.mono HI.out.lt))
   clear hb6
   go_wp2
   go_ret2
   exact ⟨HF.out, by show _ = Ending.returned (.tuple #[.string (bytesL (normL l)), .nilIface]); rw [HZ.out]; rfl⟩
end
end Go.Proofs.YtbeodjipdpcaiaaGreatDoor
