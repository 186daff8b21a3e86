/- scan.Quote: the walk. -/
import Derived.Test.YtmhfbdeeebbloaaDoorQuo5
import Derived.Test.YtmhfbdeeebbloaaDoorTxt1
namespace Go.Proofs.YtmhfbdeeebbloaaDoor
open Go.RowKit
/-- What '[]byte(s)' lays, with its mark. -/
theorem bytes_of_marked (s : ByteArray) (w : World) : ∃ (W0 : World) (cap : Nat), (convert 9 26 (.string s)).run Tryd.prog w = .ok (.slice (some ⟨w.heap.size, 0, none⟩) s.size cap) W0 ∧ s.size ≤ cap ∧ Below w.heap.size w W0 ∧ w.heap.size < W0.heap.size ∧
    (∀ i, i < s.size → W0.cell? ⟨w.heap.size, i, none⟩ = some (.int .u8 (byteAt s i))) ∧ ∀ cs, W0.heap[w.heap.size]? ≠ some (.cells cs 5 (0, 0)) := by
  have hcv := run_bytes_of_string (P := Tryd.prog) w 9 26 5 s Tryd.underlying9 Tryd.underlying26 Tryd.underlying5
  have hx : (w.drew.alloc (.cells (bytesRow s (grownCap w s.size 0 5)) 5 ((bytesRow s (grownCap w s.size 0 5)).size, (bytesRow s (grownCap w s.size 0 5)).size + 1))).heap[w.heap.size]? = some (.cells (bytesRow s (grownCap w s.size 0 5)) 5 ((bytesRow s (grownCap w s.size 0 5)).size, (bytesRow s (grownCap w s.size 0 5)).size + 1)) := heap_alloc_new w.drew _
  refine ⟨_, _, hcv, ?_, ⟨rfl, rfl, rfl, by simp, fun k hk => Below.heap_alloc w.drew _ k hk⟩, by simp, fun i hi => ?_, fun cs e => ?_⟩
  · exact grownCap_ge _ _ _ _
  · have hi' : i < s.data.size := hi
    have := bytesRow_at s (grownCap w s.size 0 5) i hi'
    rw [byteAt, Array.getElem?_eq_getElem hi']
    rw [cell_of_row _ w.heap.size i _ _ _ hx]
    simpa using this
  · rw [hx] at e
    simp at e
/-- What the token holds ahead of the j-th byte. -/
def qL (B : ByteArray) (j : Nat) : List UInt8 := (34 :: ((bytesN B).take j).flatMap escB).map UInt8.ofNat
theorem qL_next {B : ByteArray} {j : Nat} (hj : j < B.size) : qL B (j + 1) = qL B j ++ (escB (byteAt B j)).map UInt8.ofNat := by
  unfold qL
  rw [take_more hj, List.flatMap_append]
  simp
theorem qL_len {B : ByteArray} {j : Nat} : (qL B j).length = offQ B j := by simp [qL, offQ]; omega
theorem offQ_le {B : ByteArray} : ∀ j, j ≤ B.size → offQ B j ≤ 1 + 6 * j
  | 0, _ => by rw [offQ_zero]; omega
  | j + 1, h => by
    have := offQ_le (B := B) j (by omega)
    have h2 := offQ_next (B := B) (i := j) (by omega)
    have := (escB_len (byteAt B j)).2
    omega
theorem qL_full (B : ByteArray) : (⟨(qL B B.size ++ [34]).toArray⟩ : ByteArray) = quoteB B := by
  unfold quoteB quoteL qL
  rw [List.take_of_length_le (by rw [bytesN_len]; exact Nat.le_refl _)]
  simp
theorem bis_keep {B b : Nat} {l : List UInt8} {w w' : World} (h : BIs B b l w) (hk : ∀ k, k < w.heap.size → w'.heap[k]? = w.heap[k]?) : BIs B b l w' := by
  have one : ∀ p, BAt B b p l w → BAt B b p l w' := fun p h => by
    have hlt := Lib.BuilderAt.lt h
    obtain ⟨hB, v, hb, hown, hne⟩ := h
    exact ⟨hB, v, by rw [hk b hlt]; exact hb, aown_ext hown (fun g hg => hk g (hown.lt g hg).2) (Nat.le_refl _), hne⟩
  exact h.imp (one _) (one _)
def QtRel (s : ByteArray) (w : World) (b X : Nat) (W1 : World) (k : Value) (wr : World) : Prop := ∃ j : Nat, k = .int .i64 j ∧ j ≤ s.size ∧ BIs b b (qL s j) wr ∧ Below w.heap.size w wr ∧ wr.heap[X]? = W1.heap[X]? ∧ X < wr.heap.size ∧ b ≤ wr.heap.size
def QtPost (s : ByteArray) (w : World) (e : Ending) (w' : World) : Prop := match charsS s 0 [] with
  | .ok _ => e = .returned (.tuple #[.string (quoteB s), .nilIface]) ∧ Below w.heap.size w w'
  | .no k i => ∃ u, e = .returned (.tuple #[.string ⟨#[]⟩, .iface 119 (.pointer (some u))]) ∧ Failed w k i (.iface 119 (.pointer (some u))) w'
def u8At (s : ByteArray) (j : Nat) : UInt8 := s.data[j]?.getD 0
theorem u8At_nat (s : ByteArray) (j : Nat) : (u8At s j).toNat = byteAt s j := rfl
set_option maxRecDepth 100000 in
set_option maxHeartbeats 16000000 in
theorem quote_any (s : ByteArray) (w : World) (he : ScEnv w) (hm : s.size ≤ 100000) :
    Calls Tryd.prog 17 #[.string s] w (QtPost s w) := by
  obtain ⟨W0, c0, cv0, hc0, hb0, hz0, hx0, _⟩ := bytes_of_marked s w
  have r0 : Rd (Own W0) W0 (.slice (some ⟨w.heap.size, 0, none⟩) s.size c0) (bytesDB s) := rd_of_cells (by exact hz0) hc0 hx0
  have VD := uvalid_any _ s W0 r0 (he.tabs.ext hb0) (by omega)
  unfold QtPost
  have HB0 := Lib.hid hb0
  clear he hx0 r0 hc0 hb0 hz0
  cases hch : charsS s 0 [] with
  | no k p =>
    rw [hch] at VD
    have HV := Lib.hid VD
    clear VD hch
    go_enter Tryd.func17, Tryd.ntmps17
    go_wp2_with fail
    refine HV.out.mono ?_
    rintro e w1 ⟨u, rfl, hf⟩
    have HF := Lib.hid (hf.after HB0.out)
    clear hf
    go_wp2
    go_ret2
    exact ⟨u, rfl, HF.out⟩
  | ok cs =>
    rw [hch] at VD
    have HV := Lib.hid VD
    clear VD hch
    go_enter Tryd.func17, Tryd.ntmps17
    go_wp2_with fail
    refine HV.out.mono ?_
    rintro e w1 ⟨rfl, hb1⟩
    have HB1 := Lib.hid (ext_trans HB0.out hb1)
    clear hb1
    obtain ⟨b, hb⟩ : ∃ b, w1.heap.size = b := ⟨_, rfl⟩
    obtain ⟨W2, hW2⟩ : ∃ W, w1.alloc (.cells #[.pointer none, .slice none 0 0] 87) = W := ⟨_, rfl⟩
    have I0 : BIs b b [] W2 := by rw [← hW2, ← hb]; exact Lib.fresh_isBuilder _ _ w1
    have hz2 : b < W2.heap.size := by rw [← hW2, ← hb]; simp
    have HB2 := Lib.hid (show Below w.heap.size w W2 by rw [← hW2]; exact ext_alloc HB1.out _)
    have WB0 := Lib.hid (writeByte_any b b [] 34 W2 I0 (by simp) (by omega))
    have HE2 := Lib.hid hW2
    have HEb := Lib.hid hb
    clear I0 hW2 hb
    go_wp2_with fail
    rw [HEb.out, HE2.out]
    refine WB0.out.mono ?_
    rintro e w3 ⟨rfl, hI, hb3, _⟩
    have hwb : w.heap.size ≤ b := by rw [← HEb.out]; exact HB1.out.size
    have HB3 := Lib.hid (HB2.out.trans (hb3.mono hwb))
    have hz3 : b < w3.heap.size := Nat.lt_of_lt_of_le hz2 (by have := hb3.size; exact this)
    have HI := Lib.hid hI
    clear hI hb3 WB0 HE2 HEb
    obtain ⟨W4, c4, cv4, hc4, hb4, hz4, hx4, hmk⟩ := bytes_of_marked s w3
    have HB4 := Lib.hid (ext_trans HB3.out hb4)
    have hbz : b < w3.heap.size := hz3
    have hI4 : BIs b b (qL s 0) W4 := by
      have h3 := HI.out
      have hbk : ∀ k, k < w3.heap.size → W4.heap[k]? = w3.heap[k]? := fun k hk => hb4.block k hk
      exact bis_keep h3 hbk
    have HX4 : Hid (∀ cs, W4.heap[w3.heap.size]? ≠ some (.cells cs 5 (0, 0))) := Lib.hid hmk
    have HC4 := Lib.hid hx4
    have R0 : QtRel s w b w3.heap.size W4 (.int .i64 0) W4 := ⟨0, rfl, Nat.zero_le _, hI4, HB4.out, rfl, hz4, by have := hb4.size; omega⟩
    have HR0 := Lib.hid R0
    obtain ⟨X, hX⟩ : ∃ X, w3.heap.size = X := ⟨_, rfl⟩
    rw [hX] at HR0 HX4 HC4 cv4 hz4
    have hXb : X ≠ b := by omega
    clear hx4 hmk hb4 hI4 R0 HI HV
    go_wp2_with fail
    go_loopw [19] (QtRel s w b X W4) (fun k _ => s.size - (intOf k).toNat)
    case atStart => exact HR0.out
    case round =>
      obtain ⟨j, rfl, hj, hI, hB, hxx, hxz, hbr⟩ := hrel
      have HB := Lib.hid hB
      have HXX := Lib.hid hxx
      have hlen : (qL s j).length ≤ 700000 := by rw [qL_len]; have := offQ_le j hj; omega
      by_cases hlt : j < s.size
      · have hst : ∀ W, BIs b b (qL s (j + 1)) W → Below b wr W → Kept b wr W → QtRel s w b X W4 (.int .i64 ((j : Int) + 1)) W := fun W h1 h2 h3 => by
          refine ⟨j + 1, by go_num, hlt, h1, HB.out.trans (h2.mono hwb), ?_, Nat.lt_of_lt_of_le hxz h2.size, Nat.le_trans hbr h2.size⟩
          rw [h3 X hXb hxz (fun cs => by rw [HXX.out]; exact HX4.out cs), HXX.out]
        have HST := Lib.hid hst
        have cx : wr.cell? ⟨X, j, none⟩ = some (.int .u8 ((u8At s j).toNat : Nat)) := by
          rw [cell_keep HXX.out]; exact HC4.out j hlt
        have hqn := qL_next hlt
        have hx256 := byteAt_lt s j
        have he := escB_short ⟨byteAt s j, hx256⟩
        have heu := escB_unit ⟨byteAt s j, hx256⟩
        have hep : valL.contains (byteAt s j) = false → 32 ≤ byteAt s j → escB (byteAt s j) = [byteAt s j] := fun h1 h2 => by unfold escB; rw [h1, if_neg (by decide), if_neg (by omega)]
        have hes : valL.contains (byteAt s j) = true → escB (byteAt s j) = [92, namL[valL.idxOf (byteAt s j)]?.getD 0] := fun h1 => by unfold escB; rw [h1, if_pos rfl]
        have heh : valL.contains (byteAt s j) = false → byteAt s j < 32 → escB (byteAt s j) = [92, 117, 48, 48, hexU (byteAt s j / 16), hexU (byteAt s j % 16)] := fun h1 h2 => by unfold escB; rw [h1, if_neg (by decide), if_pos h2]
        clear he heu
        rw [← u8At_nat] at hqn hx256 hep hes heh
        have IB := Lib.hid (ib_any ⟨#[34, 92, 8, 12, 10, 13, 9]⟩ valL rfl (u8At s j).toNat hx256 wr)
        have t1 : decide ((j : Int) < (s.size : Int)) = true := decide_eq_true (by omega)
        have t1' : decide (j < s.size) = true := decide_eq_true hlt
        have q1 : IntKind.i64.wrap ((j : Int) + 1) = (j : Int) + 1 := IntWalk.i64_in _ (by omega)
        have HI := Lib.hid hI
        have HL := Lib.hid hlen
        have HMS := Lib.hid (show intOf (.int .i64 ((j : Int) + 1)) = (j : Int) + 1 from rfl)
        clear hst hI hB hxx hlen
        generalize hxe : u8At s j = x at *
        clear hxe
        cases hct : valL.contains x.toNat with
        | true =>
          have e1 := hes hct
          have hidx : valL.idxOf x.toNat < 7 := by
            have := List.idxOf_lt_length_iff.2 (List.contains_iff_mem.1 hct)
            exact this
          have hibv : ibV valL x.toNat = (valL.idxOf x.toNat : Int) := by unfold ibV; rw [if_pos hct]
          rw [hibv] at IB
          generalize valL.idxOf x.toNat = n at *
          rw [e1] at hqn
          have HQN := Lib.hid hqn
          clear hct hes hep heh e1 hibv hqn
          obtain ⟨S, hS⟩ : ∃ S : ByteArray, (⟨#[34, 92, 98, 102, 110, 114, 116]⟩ : ByteArray) = S := ⟨_, rfl⟩
          have hzS : S.size = 7 := by rw [← hS]; rfl
          have hi1 : n < S.size := by omega
          have hgx : Hid (S[n]'hi1 = UInt8.ofNat (namL[n]?.getD 0)) := Lib.hid (by
            revert hi1
            subst hS
            intro hi1
            have hj : n = 0 ∨ n = 1 ∨ n = 2 ∨ n = 3 ∨ n = 4 ∨ n = 5 ∨ n = 6 := by omega
            rcases hj with rfl | rfl | rfl | rfl | rfl | rfl | rfl <;> rfl)
          have hi2 : (n : Int) < (S.size : Int) := by omega
          rw [hS]
          clear hS hzS
          have t2 : decide ((0 : Int) ≤ (n : Int)) = true := decide_eq_true (by omega)
          have WB1 := Lib.hid (writeByte_any b b (qL s j) 92 wr HI.out (by have := HL.out; omega) hbr)
          go_wp2_with fail
          refine IB.out.mono ?_
          rintro e w5 ⟨rfl, rfl⟩
          go_wp2_with fail
          refine WB1.out.mono ?_
          rintro e w5 ⟨rfl, h5, hb5, hk5⟩
          have WB2 := Lib.hid (writeByte_any b b _ (S[n]'hi1) w5 h5 (by have := HL.out; simp; omega) (Nat.le_trans hbr hb5.size))
          have HB5 := Lib.hid hb5; have HK5 := Lib.hid hk5
          clear h5 hb5 hk5
          go_wp2_with fail
          refine WB2.out.mono ?_
          rintro e w6 ⟨rfl, h6, hb6, hk6⟩
          have R := HST.out w6 (by
            rw [HQN.out]
            have := h6
            rw [hgx.out] at this
            simpa using this) (HB5.out.trans hb6) (HK5.out.trans HB5.out.size hk6)
          have HR := Lib.hid R
          clear R h6 hb6 hk6
          go_wp2
          refine ⟨?_, by simp [intOf]; omega⟩
          have R := HR.out
          first | exact R | ((repeat apply Exists.intro); exact ⟨R, rfl⟩)
        | false =>
          have hibv : ibV valL x.toNat = -1 := by unfold ibV; rw [hct]; rfl
          rw [hibv] at IB
          by_cases h32 : x.toNat < 32
          · have e1 := heh hct h32
            rw [e1] at hqn
            have HQN := Lib.hid hqn
            have t2 : decide (x.toNat < 32) = true := decide_eq_true h32
            have t3 : decide ((x.toNat : Int) < 32) = true := decide_eq_true (by omega)
            have HD := Lib.hid (hexdig2_any x.toNat wr hx256)
            have q2 : IntKind.u64.wrap (x.toNat : Int) = (x.toNat : Int) := IntWalk.u64_in _ (by omega)
            clear hct hes hep heh e1 hibv hqn h32
            go_wp2_with fail
            refine IB.out.mono ?_
            rintro e w5 ⟨rfl, rfl⟩
            go_wp2_with fail
            refine HD.out.mono ?_
            rintro e w5 ⟨rfl, hb5⟩
            generalize hdg : (⟨#[UInt8.ofNat (hexU (x.toNat / 16)), UInt8.ofNat (hexU (x.toNat % 16))]⟩ : ByteArray) = D
            have hzD : D.size = 2 := by rw [← hdg]; rfl
            have h5 := bis_keep HI.out (fun k hk => hb5.block k hk)
            have WS := Lib.hid (writeString_any b b (qL s j) (⟨#[92, 117, 48, 48]⟩ ++ D) w5 h5 (by have := HL.out; rw [ByteArray.size_append, hzD]; have : (⟨#[92, 117, 48, 48]⟩ : ByteArray).size = 4 := rfl; omega) (Nat.le_trans hbr hb5.size))
            have HB5 := Lib.hid hb5; have HDG := Lib.hid hdg
            clear h5 hb5 hdg
            obtain ⟨E, hE⟩ : ∃ E : ByteArray, (⟨#[92, 117, 48, 48]⟩ : ByteArray) ++ D = E := ⟨_, rfl⟩
            rw [hE] at WS
            go_wp2_with fail
            refine WS.out.mono ?_
            rintro e w6 ⟨rfl, h6, hb6, hk6⟩
            have R := HST.out w6 (by
              rw [HQN.out]
              have := h6
              rw [← hE, ← HDG.out] at this
              simpa [ByteArray.data_append] using this) ((HB5.out.mono hbr).trans hb6) (Kept.trans (fun k _ hk _ => HB5.out.block k hk) HB5.out.size hk6)
            have HR := Lib.hid R
            clear R h6 hb6 hk6 hE
            go_wp2
            refine ⟨?_, by simp [intOf]; omega⟩
            have R := HR.out
            first | exact R | ((repeat apply Exists.intro); exact ⟨R, rfl⟩)
          · have e1 := hep hct (by omega)
            rw [e1] at hqn
            have HQN := Lib.hid hqn
            have t2 : decide (x.toNat < 32) = false := decide_eq_false h32
            have t3 : decide ((x.toNat : Int) < 32) = false := decide_eq_false (by omega)
            have WB1 := Lib.hid (writeByte_any b b (qL s j) x wr HI.out (by have := HL.out; omega) hbr)
            clear hct hes hep heh e1 hibv hqn h32
            go_wp2_with fail
            refine IB.out.mono ?_
            rintro e w5 ⟨rfl, rfl⟩
            go_wp2_with fail
            refine WB1.out.mono ?_
            rintro e w6 ⟨rfl, h6, hb6, hk6⟩
            have R := HST.out w6 (by
              rw [HQN.out]
              simpa using h6) hb6 hk6
            have HR := Lib.hid R
            clear R h6 hb6 hk6
            go_wp2
            refine ⟨?_, by simp [intOf]; omega⟩
            have R := HR.out
            first | exact R | ((repeat apply Exists.intro); exact ⟨R, rfl⟩)
      · have t1 : decide ((j : Int) < (s.size : Int)) = false := decide_eq_false (by omega)
        have t1' : decide (j < s.size) = false := decide_eq_false hlt
        obtain rfl : j = s.size := by omega
        have WB1 := Lib.hid (writeByte_any b b (qL s s.size) 34 wr hI (by omega) hbr)
        clear hI hB hxx hlen
        go_wp2_with fail
        refine WB1.out.mono ?_
        rintro e w5 ⟨rfl, h5, hb5, _⟩
        have SG := Tryd.Builder_String_any b b _ w5 h5 (Nat.le_trans hbr hb5.size)
        rw [qL_full] at SG
        have SG := Lib.hid SG
        have HB5 := Lib.hid hb5
        clear h5 hb5
        go_wp2_with fail
        refine SG.out.mono ?_
        rintro e w6 ⟨rfl, hb6⟩
        have HF := Lib.hid (HB.out.trans ((HB5.out.trans hb6).mono hwb))
        clear hb6
        go_wp2
        go_ret2
        exact ⟨rfl, HF.out⟩
end Go.Proofs.YtmhfbdeeebbloaaDoor
