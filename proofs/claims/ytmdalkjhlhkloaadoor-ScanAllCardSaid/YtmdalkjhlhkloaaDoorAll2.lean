/- The law ScanAll: the walk. -/
import Derived.Test.YtmdalkjhlhkloaaDoorAll1
import Derived.Test.YtmdalkjhlhkloaaDoorScan9
namespace Go.Proofs.YtmdalkjhlhkloaaDoor
open Go.RowKit
def LaRel (n : Nat) (w : World) (i : Value) (wr : World) : Prop := ∃ j : Nat, i = .int .i64 j ∧ j ≤ n ∧ Below w.heap.size w wr
theorem tok_cells {S : Nat → Prop} {w : World} {a : Option Addr} {c : Nat} {l : List Tok} (h : Rd S w (.slice a l.length c) (toksD l)) {j : Nat} (hj : j < l.length) :
    ∃ b off, a = some ⟨b, off, none⟩ ∧ w.cell? ⟨b, off + j * 3, none⟩ = some (.int .i64 l[j].kind) ∧ w.cell? ⟨b, off + j * 3 + 1, none⟩ = some (.int .i64 l[j].fr) ∧ w.cell? ⟨b, off + j * 3 + 2, none⟩ = some (.int .i64 l[j].to) := by
  obtain ⟨a', c', e, _, _, hx⟩ := h.toks_inv
  cases e
  obtain ⟨b, off, rfl, _, hx⟩ := hx (by omega)
  exact ⟨b, off, rfl, hx j l[j] (List.getElem?_eq_getElem hj)⟩
theorem allF_len {B : ByteArray} : ∀ f i l, i ≤ B.size → allF B f i = .ok l → l.length ≤ B.size - i + 1
  | 0, _, _, _, h => by cases h
  | f + 1, i, l, hi, h => by
    rw [allF] at h
    obtain ⟨t, h1, h2⟩ := Sc.bind_eq_ok h
    obtain ⟨k, a, e, rfl, q1, q2, q3, q4⟩ := nextS_ok hi h1
    split at h2
    · cases h2; simp
    · rename_i hk
      obtain ⟨l', h3, h4⟩ := Sc.bind_eq_ok h2
      cases h4
      have := allF_len f _ l' (by rw [Int.toNat_natCast]; exact q3) h3
      rw [Int.toNat_natCast] at this
      simp only at hk
      have := q4 (by omega)
      simp only [List.length_cons]; omega
set_option maxRecDepth 100000 in
set_option maxHeartbeats 32000000 in
theorem scanAll_any (v1 : Value) (B : ByteArray) (w : World) (he : ScEnv w) (hg : Glob w) (h1 : Rd (Own w) w v1 (bytesDB B)) :
    Calls Tryd.prog 8 #[v1] w fun e w' => e = .returned (.bool true) ∧ Below w.heap.size w w' := by
  obtain ⟨a1, c1, rfl, _, _, _⟩ := h1.by_inv
  have SP := Lib.hid (speaks06 w he)
  have HE := Lib.hid he; have HG := Lib.hid hg; have H1 := Lib.hid h1
  clear he hg h1
  by_cases hbig : 3000 < B.size
  · have q : decide ((3000 : Int) < (B.size : Int)) = true := decide_eq_true (by omega)
    clear hbig
    go_enter Tryd.func8, Tryd.ntmps8
    go_wp2_with fail
    refine SP.out.mono ?_
    rintro e w1 ⟨rfl, hb⟩
    have HB := Lib.hid hb; clear hb
    go_wp2
    go_ret
    exact ⟨rfl, HB.out⟩
  · have t1 : decide ((3000 : Int) < (B.size : Int)) = false := decide_eq_false (by omega)
    have hB : B.size ≤ 3000 := by omega
    have A1 := Lib.hid (fun W (hW : Below w.heap.size w W) => all_any _ B W (H1.out.ext hW) (HE.out.ext hW) (by omega))
    have A2 := Lib.hid (fun W (hW : Below w.heap.size w W) => rall_any _ B W (H1.out.ext hW) (by omega))
    have S1 := Lib.hid (fun t W (hW : Below w.heap.size w W) => sctext_any _ B t W (H1.out.ext hW) (HE.out.ext hW) (by omega))
    have S2 := Lib.hid (fun t W (hW : Below w.heap.size w W) => rftext_any _ B t W (H1.out.ext hW) (by omega))
    clear hbig
    go_enter Tryd.func8, Tryd.ntmps8
    go_wp2_with fail
    refine SP.out.mono ?_
    rintro e w1 ⟨rfl, hb⟩
    have HB1 := Lib.hid hb; clear hb
    go_wp2_with fail
    refine (A1.out _ HB1.out).mono ?_
    intro e w2 hp
    cases hx : allS B 0 with
    | no k p =>
      rw [hx] at hp
      obtain ⟨u, rfl, hf⟩ := hp
      have HB2 := Lib.hid (ext_trans HB1.out hf.2)
      have HU := Lib.hid (hf.1.wide (S' := Own w2) (fun b hb => hb.2))
      have A2' := A2.out w2 HB2.out
      rw [hx] at A2'
      have A2' := Lib.hid A2'
      clear hf hx A1 A2 S1 S2
      go_wp2_with fail
      refine A2'.out.mono ?_
      rintro e w3 ⟨v3, rfl, hr3, hb3⟩
      obtain ⟨a3, c3, rfl, _, _, _⟩ := hr3.toks_inv
      have HB3 := Lib.hid (ext_trans HB2.out hb3)
      have HTD := Lib.hid (by
        have := told06_any _ [((k : Int), p)] (k : Int) p w3 (HG.out.ext HB3.out) (HU.out.ext hb3)
        rw [show ((kindI [((k : Int), p)] == (k : Int)) && (([((k : Int), p)] : List (Int × Int)).isEmpty || (atI [((k : Int), p)] == p))) = true by simp [kindI, atI]] at this
        exact this)
      clear hb3 hr3 A2'
      go_wp2_with fail
      refine HTD.out.mono ?_
      rintro e w4 ⟨rfl, hb⟩
      have HB4 := Lib.hid (ext_trans HB3.out hb); clear hb
      go_wp2_with fail
      go_loopw [43] (LaRel 0 w) (fun i _ => 0 - (intOf i).toNat)
      case atStart => exact ⟨0, rfl, Nat.le_refl _, HB4.out⟩
      case round =>
        obtain ⟨j, rfl, hj, hb⟩ := hrel
        obtain rfl : j = 0 := by omega
        have HBB := Lib.hid hb; clear hb
        go_wp2
        go_ret
        exact ⟨rfl, HBB.out⟩
    | ok l =>
      rw [hx] at hp
      obtain ⟨v2, rfl, hr2, hb2⟩ := hp
      have HB2 := Lib.hid (ext_trans HB1.out hb2)
      have HR2 := Lib.hid (hr2.wide (S' := Own w2) (fun b hb => hb.2))
      have A2' := A2.out w2 HB2.out
      rw [hx] at A2'
      have A2' := Lib.hid A2'
      have hll := allF_len _ _ _ (Nat.zero_le _) (show allF B _ 0 = .ok l from hx)
      clear hx A1 A2 hr2 hb2
      obtain ⟨a2, c2, rfl, _, _, _⟩ := HR2.out.toks_inv
      go_wp2_with fail
      refine A2'.out.mono ?_
      rintro e w3 ⟨v3, rfl, hr3, hb3⟩
      obtain ⟨a3, c3, rfl, _, _, _⟩ := hr3.toks_inv
      have HB3 := Lib.hid (ext_trans HB2.out hb3)
      have HL2 := Lib.hid (HR2.out.ext hb3)
      have HL3 := Lib.hid (hr3.wide (S' := Own w3) (fun b hb => hb.2))
      have HTD := Lib.hid (by
        have := told06_any .nilIface [] 0 0 w3 (HG.out.ext HB3.out) (by show Rd _ _ _ .nilI; exact .nilI)
        rw [show ((kindI [] == 0) && (([] : List (Int × Int)).isEmpty || (atI [] == 0))) = true from rfl] at this
        exact this)
      clear hb3 hr3 A2' HR2
      go_wp2_with fail
      refine HTD.out.mono ?_
      rintro e w4 ⟨rfl, hb⟩
      have HB4 := Lib.hid (ext_trans HB3.out hb)
      have HM2 := Lib.hid (HL2.out.ext hb); have HM3 := Lib.hid (HL3.out.ext hb)
      clear hb HL2 HL3
      go_wp2_with fail
      go_loopw [43] (LaRel l.length w4) (fun i _ => l.length - (intOf i).toNat)
      case atStart => exact ⟨0, rfl, Nat.zero_le _, Below.refl _ _⟩
      case round =>
        obtain ⟨j, rfl, hj, hb⟩ := hrel
        have HBB := Lib.hid hb
        by_cases hlt : j < l.length
        · have t2 : decide ((j : Int) < (l.length : Int)) = true := decide_eq_true (by omega)
          have t2' : decide (j < l.length) = true := decide_eq_true hlt
          have HBW := Lib.hid (ext_trans HB4.out hb)
          obtain ⟨b, off, rfl, x0, x1, x2⟩ := tok_cells (HM2.out.ext hb) hlt
          obtain ⟨b', off', rfl, y0, y1, y2⟩ := tok_cells (HM3.out.ext hb) hlt
          have HC2 : Hid (∀ W, Below w4.heap.size w4 W → W.cell? ⟨b, off + j * 3, none⟩ = some (.int .i64 l[j].kind) ∧ W.cell? ⟨b, off + j * 3 + 1, none⟩ = some (.int .i64 l[j].fr) ∧ W.cell? ⟨b, off + j * 3 + 2, none⟩ = some (.int .i64 l[j].to)) := Lib.hid (fun W hW => by
            obtain ⟨_, _, e, z⟩ := tok_cells (HM2.out.ext hW) hlt
            cases e; exact z)
          have HC3 : Hid (∀ W, Below w4.heap.size w4 W → W.cell? ⟨b', off' + j * 3, none⟩ = some (.int .i64 l[j].kind) ∧ W.cell? ⟨b', off' + j * 3 + 1, none⟩ = some (.int .i64 l[j].fr) ∧ W.cell? ⟨b', off' + j * 3 + 2, none⟩ = some (.int .i64 l[j].to)) := Lib.hid (fun W hW => by
            obtain ⟨_, _, e, z⟩ := tok_cells (HM3.out.ext hW) hlt
            cases e; exact z)
          have S1' := Lib.hid (fun W (hW : Below w.heap.size w W) => S1.out l[j] W hW)
          have S2' := Lib.hid (fun W (hW : Below w.heap.size w W) => S2.out l[j] W hW)
          have HRL := Lib.hid (fun W (hW : Below w4.heap.size w4 W) => (⟨j + 1, by go_num, hlt, hW⟩ : LaRel l.length w4 (.int .i64 (j + 1)) W))
          obtain ⟨t, ht⟩ : ∃ t, l[j] = t := ⟨_, rfl⟩
          rw [ht] at x0 x1 x2 y0 y1 y2 HC2 HC3 S1' S2'
          obtain ⟨tk, tf, tt⟩ := t
          simp only at x0 x1 x2 y0 y1 y2 HC2 HC3 S1' S2'
          generalize textTok B ⟨tk, tf, tt⟩ = r at *
          have q2 : (j : Int) < (l.length : Int) := by omega
          clear hb ht
          go_wp2
          go_quiet (fail)
          go_wp2_with fail
          refine (S1'.out _ (ext_drewN _ HBW.out)).mono ?_
          intro e w5 hp
          cases r with
          | some s =>
            obtain ⟨rfl, hb5⟩ := hp
            have hb45 := ext_trans (ext_drewN _ HBB.out) hb5
            obtain ⟨g0, g1, g2⟩ := HC2.out _ hb45
            obtain ⟨k0, k1, k2⟩ := HC3.out _ hb45
            have HB5 := Lib.hid hb45
            have HBW5 := Lib.hid (ext_trans (ext_drewN _ HBW.out) hb5)
            clear hb5 hb45 x0 x1 x2 y0 y1 y2
            go_wp2_with fail
            refine (S2'.out _ HBW5.out).mono ?_
            rintro e w6 ⟨rfl, hb6⟩
            have HB6 := Lib.hid (ext_trans HB5.out hb6)
            simp only [Option.getD_some, Option.isSome_some]
            clear hb6 g0 g1 g2 k0 k1 k2
            go_wp2
            refine ⟨?_, by simp [intOf] <;> omega⟩
            have R := HRL.out _ HB6.out
            first | exact R | ((repeat apply Exists.intro); exact ⟨R, rfl⟩)
          | none =>
            obtain ⟨u, rfl, hf⟩ := hp
            have hb5 := hf.2
            have hb45 := ext_trans (ext_drewN _ HBB.out) hb5
            obtain ⟨g0, g1, g2⟩ := HC2.out _ hb45
            obtain ⟨k0, k1, k2⟩ := HC3.out _ hb45
            have HB5 := Lib.hid hb45
            have HBW5 := Lib.hid (ext_trans (ext_drewN _ HBW.out) hb5)
            have HU5 : Hid (Rd (Own w5) w5 _ (errD 109 [(((32 : Nat) : Int), tf)])) := Lib.hid (hf.1.wide (fun b hb => hb.2))
            clear hb5 hb45 x0 x1 x2 y0 y1 y2 hf
            go_wp2_with fail
            refine (S2'.out _ HBW5.out).mono ?_
            rintro e w6 ⟨rfl, hb6⟩
            have hb46 := ext_trans HB5.out hb6
            have HTD := Lib.hid (by
              have := told06_any _ [(((32 : Nat) : Int), tf)] ((32 : Nat) : Int) tf w6 (HG.out.ext (ext_trans HBW5.out hb6)) (HU5.out.ext hb6)
              rw [show ((kindI [(((32 : Nat) : Int), tf)] == ((32 : Nat) : Int)) && (([(((32 : Nat) : Int), tf)] : List (Int × Int)).isEmpty || (atI [(((32 : Nat) : Int), tf)] == tf))) = true by simp [kindI, atI]] at this
              exact this)
            obtain ⟨m0, m1, m2⟩ := HC2.out _ hb46
            have HB6 := Lib.hid hb46
            simp only [Option.getD_none, Option.isSome_none]
            clear hb6 hb46 g0 g1 g2 k0 k1 k2
            go_wp2_with fail
            refine HTD.out.mono ?_
            rintro e w7 ⟨rfl, hb7⟩
            have HB7 := Lib.hid (ext_trans HB6.out hb7); clear hb7 m0 m1 m2
            go_wp2
            refine ⟨?_, by simp [intOf] <;> omega⟩
            have R := HRL.out _ HB7.out
            first | exact R | ((repeat apply Exists.intro); exact ⟨R, rfl⟩)
        · have t2 : decide ((j : Int) < (l.length : Int)) = false := decide_eq_false (by omega)
          have t2' : decide (j < l.length) = false := decide_eq_false hlt
          have HF := Lib.hid (ext_trans HB4.out hb)
          clear hb hlt
          go_wp2
          go_ret
          exact ⟨rfl, HF.out⟩
end Go.Proofs.YtmdalkjhlhkloaaDoor
