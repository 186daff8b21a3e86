/- The law ScanNumbers: the walk. -/
import Derived.Test.YtmdalkjhlhkloaaDoorNum1
import Derived.Deep.DeepCutAuto
import Derived.Deep.RegionWith
namespace Go.Proofs.YtmdalkjhlhkloaaDoor
open Go.RowKit
theorem rd_of_cells {S : Nat → Prop} {w : World} {b cap : Nat} {B : ByteArray} (hS : S b) (hcap : B.size ≤ cap) (h : ∀ i, i < B.size → w.cell? ⟨b, i, none⟩ = some (.int .u8 (byteAt B i))) : Rd S w (.slice (some ⟨b, 0, none⟩) B.size cap) (bytesDB B) := by
  by_cases h0 : B.size = 0
  · have e := empty_of h0
    subst e
    exact .list0 _ _ _ nofun
  · refine .list b 0 B.size cap 1 _ (fun j => .int .u8 (byteAt B j)) hS (by omega) hcap (by simp) (fun j hj => ?_) (fun j hj => ?_)
    · rw [Nat.zero_add]; exact h j (by simpa using hj)
    · have hj' : j < B.data.size := by simpa using hj
      have e : (B.data.toList.map fun x => Dat.int .u8 ((x.toNat : Nat) : Int))[j] = Dat.int .u8 (byteAt B j) := by
        simp only [List.getElem_map, Array.getElem_toList]
        unfold byteAt; rw [Array.getElem?_eq_getElem hj']; rfl
      rw [e]; exact .int _ _
def tailsL : List ByteArray := [⟨#[]⟩, ⟨#[44]⟩, ⟨#[93]⟩, ⟨#[32, 49]⟩, ⟨#[120]⟩]
theorem tails_end : ∀ R ∈ tailsL, Ends [48, 49, 50, 51, 52, 53, 54, 55, 56, 57, 46, 101, 69] R ∧ R.size ≤ 2 := by
  intro R hR
  simp only [tailsL, List.mem_cons, List.not_mem_nil, or_false] at hR
  rcases hR with rfl | rfl | rfl | rfl | rfl
  all_goals exact ⟨fun _ => by decide, by decide⟩
def ExpP (p : ByteArray) : Prop := (byteAt p 0 = 101 ∨ byteAt p 0 = 69) ∧ (p.size = 1 ∨ (p.size = 2 ∧ (byteAt p 1 = 43 ∨ byteAt p 1 = 45)))
instance (p : ByteArray) : Decidable (ExpP p) := by unfold ExpP; infer_instance
theorem exp_mk {p T : ByteArray} (hT : NumText T) (hp : ExpP p) : ExpT (p ++ T) ∧ (T.size ≤ 10 → (p ++ T).size ≤ 12) := by
  refine ⟨.inr ⟨p, T, rfl, hT, hp.1, hp.2⟩, fun h => ?_⟩
  rw [ByteArray.size_append]
  have := hp.2
  omega
theorem below_da {w wc w' : World} {o : Obj} (h : Below w.heap.size w wc) (hb : Below (wc.alloc o).drew.heap.size (wc.alloc o).drew w') : Below w.heap.size w w' := ext_trans (ext_alloc h o) ⟨hb.os, hb.tape, hb.output, hb.size, hb.block⟩
theorem below_db {w wc w' : World} {o : Obj} (h : Below w.heap.size w wc) (hb : Below wc.drew.heap.size wc.drew w') : Below w.heap.size w (w'.alloc o) := ext_alloc (ext_trans h ⟨hb.os, hb.tape, hb.output, hb.size, hb.block⟩) o
set_option maxRecDepth 20000 in
theorem and3n : ∀ X : Fin 256, bits .and .u8 ((X.val : Nat) : Int) 3 = ((X.val % 4 : Nat) : Int) := by decide
structure NumParts (S : ByteArray) : Prop where
  parts : ∃ sg A fr ex : ByteArray, S = ((sg ++ A) ++ fr) ++ ex ∧ SignT sg ∧ NumText A ∧ FracT fr ∧ ExpT ex
  small : S.size ≤ 100
theorem num_next {S R : ByteArray} (h : NumParts S) (hR : R ∈ tailsL) : nextI (S ++ R) 0 = .ok ⟨8, 0, (S.size : Nat)⟩ := by
  obtain ⟨sg, A, fr, ex, rfl, h1, h2, h3, h4⟩ := h.parts
  have := next_number (R := R) h1 h2 h3 h4 (tails_end R hR).1
  simp only [ByteArray.append_assoc, ByteArray.size_append] at this ⊢
  simpa [Nat.add_assoc] using this
def TlRel (W : World) (k : Value) (wr : World) : Prop := ∃ j : Nat, k = .int .i64 j ∧ j ≤ 5 ∧ Below W.heap.size W wr
set_option maxRecDepth 100000 in
set_option maxHeartbeats 16000000 in
theorem scanNumbers_any (a b c sh : Nat) (w : World) (he : ScEnv w) (ha : a < 4294967296) (hb : b < 4294967296) (hc : c < 4294967296) (hsh : sh < 256) :
    Calls Tryd.prog 4 #[.int .u32 a, .int .u32 b, .int .u32 c, .int .u8 sh] w fun e w' => e = .returned (.bool true) ∧ Below w.heap.size w w' := by
  have HE := Lib.hid he
  have SP := Lib.hid (speaks06 w he)
  have DA := Lib.hid (fun W => digitsOf_any a W ha)
  have DB := Lib.hid (fun W => digitsOf_any b W hb)
  have DC := Lib.hid (fun W => digitsOf_any c W hc)
  clear he ha hb hc
  go_enter Tryd.func4, Tryd.ntmps4
  go_wp2_with fail
  refine SP.out.mono ?_
  rintro e w1 ⟨rfl, hb1⟩
  have HB1 := Lib.hid hb1; clear hb1
  go_wp2_with fail
  refine (DA.out w1).mono ?_
  rintro e w2 ⟨A, rfl, hA, hsA, hb2⟩
  have HB2 := Lib.hid (ext_trans HB1.out hb2); have HA := Lib.hid hA
  clear hb2 hA
  go_upto_if 22 with (fail)
  go_cut [10] (fun s10 wx => ∃ sg : ByteArray, SignT sg ∧ s10 = .string (sg ++ A) ∧ w2 = wx)
  case first =>
    cases hq : (bits .and .u8 (sh : Int) 1 == 1) with
    | true =>
      go_wp2
      go_meet
      exact ⟨⟨#[45]⟩, .inr ⟨rfl, rfl⟩, rfl, rfl⟩
    | false =>
      go_wp2
      go_meet
      exact ⟨⟨#[]⟩, .inl rfl, by rw [empty_app rfl], rfl⟩
  case rest =>
    obtain ⟨sg, hsg, rfl, rfl⟩ := hcut
    have hQs : (sg ++ A).size ≤ 11 := by
      rw [ByteArray.size_append]
      rcases hsg with h | ⟨h, _⟩ <;> omega
    have HSG := Lib.hid hsg
    clear hsg
    generalize hQ : sg ++ A = Q at *
    have HQ := Lib.hid hQ
    clear hQ
    go_upto_if 27 with (fail)
    go_cut [10] (fun s10 wx => ∃ fr : ByteArray, FracT fr ∧ fr.size ≤ 11 ∧ s10 = .string (Q ++ fr) ∧ Below w2.heap.size w2 wx)
    case first =>
      cases hq : (bits .and .u8 (sh : Int) 2 == 2) with
      | true =>
        go_wp2_with fail
        refine (DB.out w2).mono ?_
        rintro e w3 ⟨T, rfl, hT, hsT, hb3⟩
        have HT := Lib.hid hT; have HB3 := Lib.hid hb3
        clear hT hb3
        go_wp2
        go_meet
        exact ⟨⟨#[46]⟩ ++ T, .inr ⟨⟨#[46]⟩, T, rfl, rfl, rfl, HT.out⟩, by rw [ByteArray.size_append]; show 1 + T.size ≤ 11; omega, rfl, HB3.out⟩
      | false =>
        go_wp2
        go_meet
        exact ⟨⟨#[]⟩, .inl rfl, by decide, by rw [show (⟨#[]⟩ : ByteArray) = ByteArray.empty from rfl, ByteArray.append_empty], Below.refl _ _⟩
    case rest =>
      obtain ⟨fr, hfr, hfs, rfl, hb3⟩ := hcut
      have HB3 := Lib.hid (ext_trans HB2.out hb3); have HFR := Lib.hid hfr
      clear hb3 hfr
      have hQ2 : (Q ++ fr).size ≤ 22 := by rw [ByteArray.size_append]; omega
      generalize hq2 : Q ++ fr = Q2 at *
      have HQ2 := Lib.hid hq2
      clear hq2
      go_upto_if 36 with (fail)
      go_cut [10] (fun s10 wx => ∃ ex : ByteArray, ExpT ex ∧ ex.size ≤ 12 ∧ s10 = .string (Q2 ++ ex) ∧ Below w.heap.size w wx)
      case first =>
        cases hq : (bits .and .u8 (sh : Int) 4 == 4) with
        | true =>
          have hm4 : ∃ m : Nat, (m = 0 ∨ m = 1 ∨ m = 2 ∨ m = 3) ∧ bits .and .u8 ((sh : Int) / 16) 3 = (m : Int) := ⟨sh / 16 % 4, by omega, by have := and3n ⟨sh / 16, by omega⟩; simpa [Int.natCast_ediv] using this⟩
          obtain ⟨m, hm, hix⟩ := hm4
          go_wp2_with fail
          rcases hm with rfl | rfl | rfl | rfl
          all_goals (go_region_with (go_at_call 25; refine (DC.out _).mono ?_; intro e w' hp; obtain ⟨T, rfl, hT, hsT, hb3⟩ := hp; have HT := Lib.hid hT; have HB4 := Lib.hid hb3; have d1 := fun hz => bcell1 hb3 (b := wc.heap.size) hz; clear hb3 hT))
          all_goals (go_wp2; go_meet)
          all_goals (refine ⟨_ ++ T, (exp_mk HT.out ?_).1, (exp_mk HT.out ?_).2 hsT, rfl, ?_⟩; decide; decide; first | exact below_da HB3.out HB4.out | exact below_db HB3.out HB4.out)
        | false =>
          go_wp2
          go_meet
          exact ⟨⟨#[]⟩, .inl rfl, by decide, by rw [show (⟨#[]⟩ : ByteArray) = ByteArray.empty from rfl, ByteArray.append_empty], HB3.out⟩
      case rest =>
        obtain ⟨ex, hex, hes, rfl, hb4⟩ := hcut
        have hN : NumParts (Q2 ++ ex) := ⟨⟨sg, A, fr, ex, by rw [← HQ2.out, ← HQ.out], HSG.out, HA.out, HFR.out, hex⟩, by rw [ByteArray.size_append]; omega⟩
        generalize Q2 ++ ex = S at *
        have HN := Lib.hid hN; have HB4 := Lib.hid hb4
        have hss : S.size ≤ 100 := hN.small
        clear hN hb4 hex hes hQ2
        obtain ⟨W5, hW5⟩ : ∃ W, wc.alloc (.cells #[.string ⟨#[]⟩, .string ⟨#[44]⟩, .string ⟨#[93]⟩, .string ⟨#[32, 49]⟩, .string ⟨#[120]⟩] 9) = W := ⟨_, rfl⟩
        have hc5 : ∀ (j : Nat) (R : ByteArray), tailsL[j]? = some R → W5.cell? ⟨wc.heap.size, j, none⟩ = some (.string R) := by
          intro j R hR
          rw [← hW5]
          have hj : j < 5 := (List.getElem?_eq_some_iff.1 hR).1
          have hj' : j = 0 ∨ j = 1 ∨ j = 2 ∨ j = 3 ∨ j = 4 := by omega
          rcases hj' with rfl | rfl | rfl | rfl | rfl <;> (cases hR; simp)
        have hb5 : Below w.heap.size w W5 := by rw [← hW5]; exact ext_alloc HB4.out _
        have hz5 : wc.heap.size < W5.heap.size := by rw [← hW5]; simp
        have HC5 := Lib.hid hc5; have HB5 := Lib.hid hb5
        clear hc5 hb5
        go_wp2_with fail
        go_loopw [51] (TlRel W5) (fun k _ => 5 - (intOf k).toNat)
        case atStart => exact ⟨0, rfl, by decide, Below.refl _ _⟩
        case round =>
          obtain ⟨j, rfl, hj, hb⟩ := hrel
          clear hW5
          have hzr := hb.size
          by_cases hlt : j < 5
          · obtain ⟨R, hR⟩ := get_ex tailsL j hlt
            have x0 : wr.cell? ⟨wc.heap.size, j, none⟩ = some (.string R) := by rw [bcell1 hb hz5]; exact HC5.out j R hR
            have hRm := List.mem_of_getElem? hR
            have hRs := (tails_end R hRm).2
            have hn := num_next HN.out hRm
            have hXs : (S ++ R).size ≤ 102 := by rw [ByteArray.size_append]; omega
            generalize hX : S ++ R = X at hn hXs
            obtain ⟨W0, cap, hcv, hcap, hb0, hz0, hcell⟩ := bytes_of_string X wr
            have hrd : Rd (Own W0) W0 (.slice (some ⟨wr.heap.size, 0, none⟩) X.size cap) (bytesDB X) := rd_of_cells hz0 hcap hcell
            have hbb : Below w.heap.size w W0 := ext_trans HB5.out (ext_trans hb hb0)
            have N := next_any _ X 0 W0 hrd (HE.out.ext hbb) (by omega)
            rw [hn] at N
            have HN1 := Lib.hid N
            have HBB := Lib.hid (ext_trans hb hb0)
            have t5 : decide ((j : Int) < 5) = true := decide_eq_true (by omega)
            have tS : ((S.size : Int) == (S.size : Int)) = true := beq_self_eq_true _
            clear hcell hrd hbb N hn hRm hR hb hb0 hz0
            go_wp2_with fail
            refine HN1.out.mono ?_
            rintro e w7 ⟨rfl, hb7⟩
            have HB7 := Lib.hid (ext_trans HBB.out hb7)
            unfold tokV
            clear hb7 hcv
            have R' : ∀ o, TlRel W5 (.int .i64 (j + 1)) (w7.alloc o) := fun o => ⟨j + 1, by go_num, by omega, ext_alloc HB7.out _⟩
            have HR := Lib.hid R'
            clear R'
            go_wp2
            refine ⟨?_, by simp [intOf] <;> omega⟩
            have R := HR.out
            first | exact R _ | ((repeat apply Exists.intro); exact ⟨R _, rfl⟩)
          · obtain rfl : j = 5 := by omega
            have HBF := Lib.hid (ext_trans HB5.out hb)
            clear hb
            go_wp2
            go_ret
            exact ⟨rfl, HBF.out⟩
end Go.Proofs.YtmdalkjhlhkloaaDoor
