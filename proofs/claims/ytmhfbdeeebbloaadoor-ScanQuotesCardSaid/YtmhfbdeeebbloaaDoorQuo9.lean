/- The law ScanQuotes: the walk. -/
import Derived.Test.YtmhfbdeeebbloaaDoorQuo8
import Derived.Test.YtmhfbdeeebbloaaDoorScan9
namespace Go.Proofs.YtmhfbdeeebbloaaDoor
open Go.RowKit
theorem charsF_no (B : ByteArray) : ∀ f i acc k p, charsF B f i acc = .no k p → k = 12 ∧ 0 ≤ p
  | 0, i, acc, k, p, h => by
    rw [charsF] at h
    split at h
    · cases h; exact ⟨rfl, by omega⟩
    · cases h
  | f + 1, i, acc, k, p, h => by
    rw [charsF] at h
    split at h
    · split at h
      · cases h; exact ⟨rfl, by omega⟩
      · exact charsF_no B f _ _ _ _ h
    · cases h
theorem charsS_no {B : ByteArray} {k : Nat} {p : Int} (h : charsS B 0 [] = .no k p) : k = 12 ∧ 0 ≤ p := charsF_no _ _ _ _ _ _ h
theorem quote_tok {s : ByteArray} {cs : List Nat} (h : charsS s 0 [] = .ok cs) : textTok (quoteB s) ⟨7, 0, (quoteB s).size⟩ = some s := by
  have hq := (all_quote h).1
  have hz := offQ_end s
  have h34 : byteAt (quoteB s) 0 = 34 := quoteB_at (by unfold quoteL; rfl)
  have hn : nextI (quoteB s) 0 = .ok ⟨7, 0, (quoteB s).size⟩ := by
    have := nextI_at (B := quoteB s) (i := 0) (Nat.zero_le _) (fun _ => by rw [h34]; rfl)
    rw [show ((0 : Nat) : Int) = 0 from rfl] at this
    rw [this]
    unfold tokenS
    rw [if_neg (by omega), h34, if_neg (by decide), if_pos rfl, hq]; rfl
  have hp := chars_put (B := s) s.size 0 [] cs (by omega) (Nat.zero_le _) h
  have hs : strOf cs = s := by
    unfold strOf
    rw [hp]
    cases s with
    | mk d =>
      congr 1
      simp [bytesN, Function.comp_def]
  unfold textTok
  rw [hn]
  simp only [and_self, if_true]
  rw [show (0 : Int).toNat + 1 = 1 from rfl, hq]
  simp only [hs]
set_option maxRecDepth 100000 in
set_option maxHeartbeats 16000000 in
theorem scanQuotes_any (s : ByteArray) (w : World) (he : ScEnv w) (hg : Glob w) :
    Calls Tryd.prog 5 #[.string s] w fun e w' => e = .returned (.bool true) ∧ Below w.heap.size w w' := by
  have SP := Lib.hid (speaks06 w he)
  have HE := Lib.hid he; have HG := Lib.hid hg
  clear he hg
  by_cases hbig : 2000 < s.size
  · have q : decide ((2000 : Int) < (s.size : Int)) = true := decide_eq_true (by omega)
    clear hbig
    go_enter Tryd.func5, Tryd.ntmps5
    go_wp2_with fail
    refine SP.out.mono ?_
    rintro e w1 ⟨rfl, hb⟩
    have HB := Lib.hid hb; clear hb
    go_wp2
    go_ret
    exact ⟨rfl, HB.out⟩
  · have t1 : decide ((2000 : Int) < (s.size : Int)) = false := decide_eq_false (by omega)
    have hB : s.size ≤ 2000 := by omega
    have Q1 := Lib.hid (fun W (hW : Below w.heap.size w W) => quote_any s W (HE.out.ext hW) (by omega))
    clear hbig
    go_enter Tryd.func5, Tryd.ntmps5
    go_wp2_with fail
    refine SP.out.mono ?_
    rintro e w1 ⟨rfl, hb⟩
    have HB1 := Lib.hid hb; clear hb
    go_wp2_with fail
    refine (Q1.out _ HB1.out).mono ?_
    intro e w2 hp
    unfold QtPost at hp
    have RC := fun W c (hr : Rd (Own W) W (.slice (some ⟨w2.heap.size, 0, none⟩) s.size c) (bytesDB s)) => rchars_any _ s W hr (by omega)
    cases hch : charsS s 0 [] with
    | no k p =>
      obtain ⟨rfl, hp0⟩ := charsS_no hch
      rw [hch] at hp RC
      obtain ⟨u, rfl, hf⟩ := hp
      have HB2 := Lib.hid (ext_trans HB1.out hf.2)
      have HU := Lib.hid (hf.1.wide (S' := Own w2) (fun b hb => hb.2))
      obtain ⟨W0, c0, cv0, hc0, hb0, hz0, hx0, _⟩ := bytes_of_marked s w2
      have HRC := Lib.hid (RC W0 c0 (rd_of_cells hz0 hc0 hx0))
      have HB3 := Lib.hid (ext_trans HB2.out hb0)
      have HU3 := Lib.hid (HU.out.ext hb0)
      have t2 : decide ((0 : Int) ≤ p) = true := decide_eq_true hp0
      clear hf hch RC hx0 hb0 hz0 hc0 Q1 HU HB2
      go_wp2_with fail
      refine HRC.out.mono ?_
      rintro e w4 ⟨hb4, v4, rfl⟩
      have HB4 := Lib.hid (ext_trans HB3.out hb4)
      have HTD := Lib.hid (by
        have := told06_any _ [(((12 : Nat) : Int), p)] ((12 : Nat) : Int) p w4 (HG.out.ext HB4.out) (HU3.out.ext hb4)
        rw [show ((kindI [(((12 : Nat) : Int), p)] == ((12 : Nat) : Int)) && (([(((12 : Nat) : Int), p)] : List (Int × Int)).isEmpty || (atI [(((12 : Nat) : Int), p)] == p))) = true by simp [kindI, atI]] at this
        exact this)
      clear hb4
      go_wp2_with fail
      refine HTD.out.mono ?_
      rintro e w5 ⟨rfl, hb⟩
      have HF := Lib.hid (ext_trans HB4.out hb); clear hb
      go_wp2
      go_ret
      exact ⟨rfl, HF.out⟩
    | ok cs =>
      rw [hch] at hp RC
      obtain ⟨rfl, hb2⟩ := hp
      have HB2 := Lib.hid (ext_trans HB1.out hb2)
      obtain ⟨W0, c0, cv0, hc0, hb0, hz0, hx0, _⟩ := bytes_of_marked s w2
      have HRC := Lib.hid (RC W0 c0 (rd_of_cells hz0 hc0 hx0))
      have HB3 := Lib.hid (ext_trans HB2.out hb0)
      have HQA := Lib.hid (all_quote hch).2
      have HQT := Lib.hid (quote_tok hch)
      have hzq : (quoteB s).size ≤ 100000 := by rw [offQ_end]; have := offQ_le (B := s) s.size (Nat.le_refl _); omega
      have HRQ := Lib.hid (fun W => rquote_any s W (by omega))
      generalize quoteB s = Q at *
      clear hch RC hx0 hb0 hz0 hc0 Q1 HB2 hb2
      go_wp2_with fail
      refine HRC.out.mono ?_
      rintro e w4 ⟨hb4, v4, rfl⟩
      have HB4 := Lib.hid (ext_trans HB3.out hb4)
      obtain ⟨W5, c5, cv5, hc5, hb5, hz5, hx5, _⟩ := bytes_of_marked Q w4
      have HB5 := Lib.hid (ext_trans HB4.out hb5)
      have AL := all_any _ Q W5 (rd_of_cells hz5 hc5 hx5) (HE.out.ext HB5.out) (by omega)
      rw [HQA.out] at AL
      have HAL := Lib.hid AL
      clear hb4 hb5 hz5 hx5 hc5 AL HRC cv0
      go_wp2_with fail
      refine HAL.out.mono ?_
      rintro e w6 ⟨v6, rfl, hr6, hb6⟩
      obtain ⟨a6, c6, rfl, _, _, hx⟩ := hr6.toks_inv
      obtain ⟨b6, o6, rfl, hS6, hc⟩ := hx (Nat.zero_lt_succ _)
      obtain ⟨x0, y0, z0⟩ := hc 0 _ rfl
      have hbw : b6 < w6.heap.size := hS6.2
      have HB6 := Lib.hid (ext_trans HB5.out hb6)
      simp only [Nat.zero_mul, Nat.add_zero] at x0 y0 z0
      clear hr6 hx hc hb6 hS6 HAL cv5
      go_wp2_with fail
      refine (HRQ.out _).mono ?_
      rintro e w7 ⟨rfl, hb7⟩
      have hcb := bcell1 hb7 hbw
      have hbw7 : b6 < w7.heap.size := Nat.lt_of_lt_of_le hbw hb7.size
      have HB7 := Lib.hid (ext_trans HB6.out hb7)
      obtain ⟨W8, c8, cv8, hc8, hb8, hz8, hx8, _⟩ := bytes_of_marked Q w7
      have hcb8 := bcell1 hb8 hbw7
      have hbw8 : b6 < W8.heap.size := Nat.lt_of_lt_of_le hbw7 hb8.size
      have HB8 := Lib.hid (ext_trans HB7.out hb8)
      have TX := sctext_any _ Q ⟨7, 0, Q.size⟩ W8 (rd_of_cells hz8 hc8 hx8) (HE.out.ext HB8.out) (by omega)
      rw [HQT.out] at TX
      have HTX := Lib.hid TX
      clear hb7 hb8 hz8 hx8 hc8 TX HRQ HQA HQT
      go_wp2_with fail
      refine HTX.out.mono ?_
      rintro e w9 ⟨rfl, hb9⟩
      have hcb9 := bcell1 hb9 hbw8
      have HF := Lib.hid (ext_trans HB8.out hb9)
      clear hb9 HTX
      go_wp2
      go_ret
      exact ⟨rfl, HF.out⟩
end Go.Proofs.YtmhfbdeeebbloaaDoor
