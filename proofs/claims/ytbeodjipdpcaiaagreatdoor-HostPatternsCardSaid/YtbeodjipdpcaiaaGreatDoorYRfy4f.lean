/- Texts put together. -/
import Derived.Test.YtbeodjipdpcaiaaGreatDoorYMoreR
import Derived.Test.YtbeodjipdpcaiaaGreatDoorYDig1sf
import Derived.Test.YtbeodjipdpcaiaaGreatDoorYDec1f
import Derived.Test.YtbeodjipdpcaiaaGreatDoorYQuw3s
import Derived.Test.YtbeodjipdpcaiaaGreatDoorYQuw5s
import Derived.Test.YtbeodjipdpcaiaaGreatDoorYRfw1s
import Derived.Test.YtbeodjipdpcaiaaGreatDoorYRfw4s
set_option maxRecDepth 100000
set_option maxHeartbeats 8000000
namespace Go.Proofs.YtbeodjipdpcaiaaGreatDoor
open Go.RowKit
def PowRel (n : Nat) (w : World) (ov iv : Value) (wr : World) : Prop := ∃ j : Nat, iv = .int .i64 j ∧ j ≤ n ∧ ov = .int .u64 ((256 ^ j : Nat) : Int) ∧ wr = w
theorem pow_le {j n : Nat} (h : j ≤ n) (hn : n ≤ 5) : 256 ^ j ≤ 1099511627776 := by
 have : 256 ^ j ≤ 256 ^ 5 := Nat.pow_le_pow_right (by decide) (by omega)
 have e : (256 : Nat) ^ 5 = 1099511627776 := by decide
 omega
theorem rpower_any (n : Nat) (w : World) (hn : n ≤ 5) : Calls Tryz.prog 139 #[.int .i64 n] w fun e w' => e = .returned (.int .u64 ((256 ^ n : Nat) : Int)) ∧ w' = w := by
 obtain ⟨V, hV⟩ : ∃ V : Int, ((256 ^ n : Nat) : Int) = V := ⟨_, rfl⟩
 rw [hV]
 have HV := hid hV
 clear hV
 go_enter Tryz.func139, Tryz.ntmps139
 go_wp2_with fail
 go_loopw [3, 4] (PowRel n w) (fun _ k _ => n - (intOf k).toNat)
 case atStart => exact ⟨0, rfl, Nat.zero_le _, rfl, rfl⟩
 case round =>
  obtain ⟨j, rfl, hj, rfl, hwr⟩ := hrel
  subst hwr
  by_cases hlt : j < n
  · have hp := pow_le (j := j + 1) hlt hn
    have hs : 256 ^ (j + 1) = 256 ^ j * 256 := Nat.pow_succ ..
    obtain ⟨p, hpp⟩ : ∃ p, 256 ^ j = p := ⟨_, rfl⟩
    rw [hs, hpp] at hp
    rw [hpp] at hs ⊢
    have HRL : Hid (PowRel n wr (.int .u64 ((p : Int) * 256)) (.int .i64 ((j : Int) + 1)) wr) := hid ⟨j + 1, by go_num, hlt, by rw [hs]; go_num, rfl⟩
    obtain ⟨t1, t1'⟩ := ltT j n hlt
    have q1 := inc j (by omega)
    have q2 : IntKind.u64.wrap ((p : Int) * 256) = (p : Int) * 256 := IntWalk.u64_in _ (by omega)
    have HLT := hid hlt
    clear hs hpp hlt
    go_wp2
    refine ⟨?_, by have := HLT.out; simp [intOf]; omega⟩
    first | exact HRL.out | ((repeat apply Exists.intro); exact ⟨HRL.out, rfl⟩)
  · obtain ⟨t1, t1'⟩ := ltF j n hlt
    obtain rfl : j = n := by omega
    rw [HV.out]
    clear hlt
    go_wp2
    go_ret
    exact ⟨rfl, rfl⟩
theorem rpower_lit (n : Nat) (k p : Int) (w : World) (hn : n ≤ 5) (hk : k = n) (hp : ((256 ^ n : Nat) : Int) = p) : Calls Tryz.prog 139 #[.int .i64 k] w fun e w' => e = .returned (.int .u64 p) ∧ w' = w := by
 rw [hk, ← hp]; exact rpower_any n w hn
def capN (v : Nat) : Nat := if 1099511627776 < v then 1099511627776 else v
theorem capN_le (v : Nat) : capN v ≤ 1099511627776 := by unfold capN; split <;> omega
theorem cap_step {b v : Nat} (d : Nat) (hb : 1 ≤ b) : capN (capN v * b + d) = capN (v * b + d) := by
 by_cases h : 1099511627776 < v
 · have e : capN v = 1099511627776 := by unfold capN; rw [if_pos h]
   have h1 : 1099511627776 ≤ 1099511627776 * b := Nat.le_mul_of_pos_right _ hb
   have h2 : v ≤ v * b := Nat.le_mul_of_pos_right v hb
   rw [e]
   unfold capN
   rw [if_pos (show 1099511627776 < v * b + d by omega)]
   split <;> omega
 · have e : capN v = v := by unfold capN; rw [if_neg h]
   rw [e]
def RnbRel (b sk : Nat) (l : List Nat) (w : World) (nv iv : Value) (wr : World) : Prop := ∃ m : Nat, iv = .int .i64 ((sk + m : Nat) : Int) ∧ m ≤ l.length ∧ nv = .int .u64 (capN (valD b (l.take m)) : Nat) ∧ Below w.heap.size w wr
theorem base_of (p : List Nat) : (baseL p).1 = 16 ∨ (baseL p).1 = 8 ∨ (baseL p).1 = 10 := by
 unfold baseL
 split
 · exact .inl rfl
 · split
   · exact .inr (.inl rfl)
   · exact .inr (.inr rfl)
theorem rnumber11_any (s : ByteArray) (w : World) (hs : s.size ≤ 1000000) (h0 : bytesN s ≠ []) (hd : ∀ c ∈ (bytesN s).drop (baseL (bytesN s)).2, digV c < 16) : Calls Tryz.prog 138 #[.string s] w fun e w' => e = .returned (.int .u64 (capN (valQ (bytesN s)) : Nat)) ∧ Below w.heap.size w w' := by
 have BS := rbase_any s w
 have hbl := base_le _ h0
 rw [bytesN_len] at hbl
 have hbv := base_of (bytesN s)
 unfold valQ
 obtain ⟨sk, hsk⟩ : ∃ k, (baseL (bytesN s)).2 = k := ⟨_, rfl⟩
 obtain ⟨b, hbb⟩ : ∃ k, (baseL (bytesN s)).1 = k := ⟨_, rfl⟩
 rw [hsk, hbb] at BS ⊢
 rw [hsk] at hd hbl
 rw [hbb] at hbv
 have hb1 : 1 ≤ b ∧ b ≤ 16 := by omega
 obtain ⟨l, hl⟩ : ∃ l, (bytesN s).drop sk = l := ⟨_, rfl⟩
 have hln : l.length = s.size - sk := by rw [← hl, List.length_drop, bytesN_len]
 have hget : ∀ m, m < l.length → digV (byteAt s (sk + m)) < 16 ∧ valD b (l.take (m + 1)) = valD b (l.take m) * b + digV (byteAt s (sk + m)) := fun m hm => by
  have hg : l[m]? = some (byteAt s (sk + m)) := by rw [← hl, List.getElem?_drop, bytesN_get (by omega)]
  refine ⟨hd _ (by rw [hl]; exact List.mem_of_getElem? hg), ?_⟩
  rw [List.take_add_one, hg]
  exact valD_snoc b _ _
 rw [hl]
 obtain ⟨V, hV⟩ : ∃ V : Int, ((capN (valD b l) : Nat) : Int) = V := ⟨_, rfl⟩
 rw [hV]
 have HV := hid hV; have HGET := hid hget; have HLN := hid hln; have BS := hid BS
 obtain ⟨n0, hn0⟩ : ∃ n, l.length = n := ⟨_, rfl⟩
 have HN := hid hn0
 have hsz : sk + n0 = s.size := by omega
 have P1 := hid (fun W => rpower_lit 5 5 1099511627776 W (by decide) rfl rfl)
 have hsk2 : sk ≤ 2 := hbl.2
 have HSZ := hid hsz
 have hn1 : n0 ≤ 1000000 := by omega
 clear hV hget hln hn0 hl hd hbl hbv hsk hbb h0 hsz
 go_enter Tryz.func138, Tryz.ntmps138
 go_wp2_with fail
 refine BS.out.mono ?_
 rintro e w1 ⟨rfl, hw⟩
 have hw' := hw.symm
 subst hw'
 clear hw
 go_wp2_with fail
 go_loopw [5, 6] (RnbRel b sk l w) (fun _ k _ => s.size - (intOf k).toNat)
 case atStart => exact ⟨0, rfl, Nat.zero_le _, rfl, Below.refl _ _⟩
 case round =>
  obtain ⟨m, rfl, hm, rfl, hb⟩ := hrel
  have HB := hid hb
  rw [HN.out] at hm
  clear hb
  by_cases hlt : m < n0
  · obtain ⟨hg, hst⟩ := HGET.out m (by rw [HN.out]; exact hlt)
    have hcs := cap_step (v := valD b (l.take m)) (digV (byteAt s (sk + m))) hb1.1
    rw [← hst] at hcs
    have hcl := capN_le (valD b (l.take m))
    obtain ⟨v, hv⟩ : ∃ v, capN (valD b (l.take m)) = v := ⟨_, rfl⟩
    obtain ⟨k, hk⟩ : ∃ k, sk + m = k := ⟨_, rfl⟩
    have hks : k < s.size := by have := HSZ.out; omega
    obtain ⟨P, hP⟩ : ∃ P, s.extract k (k + 1) = P := ⟨_, rfl⟩
    have sl : ∀ W, (Instr.slice 9 (.string s) (some (.int .i64 (k : Int))) (some (.int .i64 ((k : Int) + 1))) none).run Tryz.prog W = .ok (.string P) W := fun W => sl_both s k (k + 1) (by omega) (by omega) P hP W
    have NU := rnum16_any P 15 wr (by rw [← hP]; simp [maxLen]; omega) (by decide)
    rw [hk] at hg hcs ⊢
    rw [← hP, hex_one hks hg, hP] at NU
    obtain ⟨d, hdd⟩ : ∃ d, digV (byteAt s k) = d := ⟨_, rfl⟩
    rw [hdd] at NU hg hcs
    rw [hv] at hcl hcs ⊢
    have hvb : v * b ≤ 1099511627776 * 16 := Nat.mul_le_mul hcl hb1.2
    obtain ⟨vb, hvb2⟩ : ∃ x, v * b = x := ⟨_, rfl⟩
    rw [hvb2] at hcs hvb
    have q1 : IntKind.u64.wrap ((v : Int) * (b : Int)) = (vb : Int) := by rw [IntWalk.u64_in _ (by rw [← Int.natCast_mul, hvb2]; omega), ← Int.natCast_mul, hvb2]
    have q2 : IntKind.u64.wrap ((vb : Int) + (d : Int)) = (vb : Int) + (d : Int) := IntWalk.u64_in _ (by omega)
    have q3 := inc k (by omega)
    obtain ⟨t1, t1'⟩ := ltT k s.size hks
    have HRL : Hid (∀ x : Int, x = ((capN (vb + d) : Nat) : Int) → ∀ W, Below w.heap.size w W → RnbRel b sk l w (.int .u64 x) (.int .i64 ((k : Int) + 1)) W) := hid (fun x hx W h => ⟨m + 1, by rw [← hk]; go_num, by rw [HN.out]; exact hlt, by rw [hx, hcs], h⟩)
    have NU := hid NU; have HKS := hid hks
    clear hg hst hcs hv hk hP hdd hvb2 hlt hm hks
    by_cases hbig : 1099511627776 < vb + d
    · have t2 : decide ((1099511627776 : Int) < (vb : Int) + (d : Int)) = true := dcT (by omega)
      have HR1 := hid (HRL.out 1099511627776 (by unfold capN; rw [if_pos hbig]; rfl))
      clear hbig HRL
      go_wp2_with fail
      refine NU.out.mono ?_
      rintro e w2 ⟨⟨n, rfl⟩, rfl⟩
      have HR2 := hid (HR1.out _ (ext_drewN n HB.out))
      generalize wr.drewN n = w3 at *
      go_wp2_with fail
      refine (P1.out _).mono ?_
      rintro e w4 ⟨rfl, hw⟩
      have hw' := hw.symm
      subst hw'
      clear hw
      go_wp2_with fail
      refine (P1.out _).mono ?_
      rintro e w5 ⟨rfl, hw⟩
      have hw' := hw.symm
      subst hw'
      clear hw
      go_wp2
      refine ⟨?_, by have := HKS.out; simp [intOf]; omega⟩
      first | exact HR2.out | ((repeat apply Exists.intro); exact ⟨HR2.out, rfl⟩)
    · have t2 : decide ((1099511627776 : Int) < (vb : Int) + (d : Int)) = false := dcF (by omega)
      have HR1 := hid (HRL.out ((vb : Int) + (d : Int)) (by unfold capN; rw [if_neg hbig]; omega))
      clear hbig HRL
      go_wp2_with fail
      refine NU.out.mono ?_
      rintro e w2 ⟨⟨n, rfl⟩, rfl⟩
      have HR2 := hid (HR1.out _ (ext_drewN n HB.out))
      generalize wr.drewN n = w3 at *
      go_wp2_with fail
      refine (P1.out _).mono ?_
      rintro e w4 ⟨rfl, hw⟩
      have hw' := hw.symm
      subst hw'
      clear hw
      go_wp2
      refine ⟨?_, by have := HKS.out; simp [intOf]; omega⟩
      first | exact HR2.out | ((repeat apply Exists.intro); exact ⟨HR2.out, rfl⟩)
  · obtain rfl : m = n0 := by omega
    have hk := HSZ.out
    rw [hk]
    have t1 : decide ((s.size : Int) < (s.size : Int)) = false := dcF (by omega)
    rw [List.take_of_length_le (by rw [HN.out]; exact Nat.le_refl _), HV.out]
    clear hk hlt hm
    go_wp2
    go_ret
    exact ⟨rfl, HB.out⟩
end Go.Proofs.YtbeodjipdpcaiaaGreatDoor
namespace Go.Proofs.YtbeodjipdpcaiaaGreatDoor
open Go.RowKit
def rqV (r : Sc Nat) : Value := match r with
 | .ok n => .tuple #[.agg (v4C n), .int .i64 0, .int .i64 0]
 | .no k p => .tuple #[.agg zero4, .int .i64 (k : Nat), .int .i64 p]
def RpkRel (p : List Nat) (b sk : Nat) (w : World) (kv : Value) (wr : World) : Prop := ∃ k : Nat, kv = .int .i64 k ∧ sk ≤ k ∧ k ≤ p.length ∧ (∀ i, sk ≤ i → i < k → amongD b (p[i]?.getD 0) = true) ∧ wr = w
theorem chk1_badk {p : List Nat} {k sk b at_ : Nat} (hp : p ≠ []) (hsk : (baseL p).2 = sk) (hb : (baseL p).1 = b) (h1 : sk ≤ k) (h2 : k < p.length) (hx : amongD b (p[k]?.getD 0) = false) (hl : ∀ i, sk ≤ i → i < k → amongD b (p[i]?.getD 0) = true) : chk1 p at_ = some (11, at_ + k) := by
 subst hsk; subst hb
 obtain ⟨j, rfl⟩ : ∃ j, k = (baseL p).2 + j := ⟨k - (baseL p).2, by omega⟩
 rw [List.getElem?_eq_getElem h2] at hx
 refine chk1_bad (c := p[(baseL p).2 + j]) hp (by rw [List.getElem?_drop, List.getElem?_eq_getElem h2]) hx (fun i hi c hc => ?_)
 rw [List.getElem?_drop] at hc
 have := hl ((baseL p).2 + i) (Nat.le_add_right _ _) (by omega)
 rw [hc] at this
 exact this
theorem chk1_goodk {p : List Nat} {sk b at_ : Nat} (hp : p ≠ []) (hsk : (baseL p).2 = sk) (hb : (baseL p).1 = b) (hl : ∀ i, sk ≤ i → i < p.length → amongD b (p[i]?.getD 0) = true) : chk1 p at_ = none := by
 subst hsk; subst hb
 refine chk1_good hp (fun i hi c hc => ?_)
 rw [List.getElem?_drop] at hc
 rw [List.length_drop] at hi
 have := hl ((baseL p).2 + i) (Nat.le_add_right _ _) (by omega)
 rw [hc] at this
 exact this
theorem among_has (c : Nat) (hc : c < 256) : amongD 16 c = ([48, 49, 50, 51, 52, 53, 54, 55, 56, 57, 97, 98, 99, 100, 101, 102, 65, 66, 67, 68, 69, 70] : List Nat).contains c ∧ amongD 10 c = ([48, 49, 50, 51, 52, 53, 54, 55, 56, 57] : List Nat).contains c ∧ amongD 8 c = ([48, 49, 50, 51, 52, 53, 54, 55] : List Nat).contains c := ⟨hexD_has c hc, decD_has c hc, octD_has c hc⟩
theorem rdigits_case (b : Nat) (h : b = 16 ∨ b = 8 ∨ b = 10) :
    (((b : Int) == 10) = false ∧ (b = 10) = False ∧ ((b : Int) == 8) = false ∧ (b = 8) = False ∧ ∀ c, c < 256 → ∀ W, Calls Tryz.prog 137 #[.string ⟨#[48, 49, 50, 51, 52, 53, 54, 55, 56, 57, 97, 98, 99, 100, 101, 102, 65, 66, 67, 68, 69, 70]⟩, .int .u8 (c : Nat)] W fun e w' => e = .returned (.bool (amongD b c)) ∧ w' = W) ∨
    (((b : Int) == 10) = true ∧ (b = 10) = True ∧ ((b : Int) == 8) = false ∧ (b = 8) = False ∧ ∀ c, c < 256 → ∀ W, Calls Tryz.prog 137 #[.string ⟨#[48, 49, 50, 51, 52, 53, 54, 55, 56, 57]⟩, .int .u8 (c : Nat)] W fun e w' => e = .returned (.bool (amongD b c)) ∧ w' = W) ∨
    (((b : Int) == 10) = false ∧ (b = 10) = False ∧ ((b : Int) == 8) = true ∧ (b = 8) = True ∧ ∀ c, c < 256 → ∀ W, Calls Tryz.prog 137 #[.string ⟨#[48, 49, 50, 51, 52, 53, 54, 55]⟩, .int .u8 (c : Nat)] W fun e w' => e = .returned (.bool (amongD b c)) ∧ w' = W) := by
 rcases h with rfl | rfl | rfl
 · refine .inl ⟨rfl, by decide, rfl, by decide, fun c hc W => ?_⟩
   rw [(among_has c hc).1]
   exact (bhas_any ⟨#[48, 49, 50, 51, 52, 53, 54, 55, 56, 57, 97, 98, 99, 100, 101, 102, 65, 66, 67, 68, 69, 70]⟩ _ rfl c (by decide) W).mono (fun e w' h => ⟨h.1, h.2.symm⟩)
 · refine .inr (.inr ⟨rfl, by decide, rfl, by decide, fun c hc W => ?_⟩)
   rw [(among_has c hc).2.2]
   exact (bhas_any ⟨#[48, 49, 50, 51, 52, 53, 54, 55]⟩ _ rfl c (by decide) W).mono (fun e w' h => ⟨h.1, h.2.symm⟩)
 · refine .inr (.inl ⟨rfl, by decide, rfl, by decide, fun c hc W => ?_⟩)
   rw [(among_has c hc).2.1]
   exact (bhas_any ⟨#[48, 49, 50, 51, 52, 53, 54, 55, 56, 57]⟩ _ rfl c (by decide) W).mono (fun e w' h => ⟨h.1, h.2.symm⟩)
theorem cap_last {N v : Nat} (h1 : 1 ≤ N) (h4 : N ≤ 4) : 256 ^ (5 - N) ≤ capN v ↔ 256 ^ (5 - N) ≤ v := by
 have : 256 ^ (5 - N) ≤ 256 ^ 4 := Nat.pow_le_pow_right (by decide) (by omega)
 have e : (256 : Nat) ^ 4 = 4294967296 := by decide
 unfold capN; split <;> omega
theorem pow_pos256 (n : Nat) : 1 ≤ 256 ^ n := Nat.pos_of_ne_zero (by simp)
theorem chkF_ne : ∀ (ps : List (List Nat)) (at_ : Nat), chkF ps at_ = none → ∀ p ∈ ps, p ≠ []
 | [], _, _, p, hp => by cases hp
 | q :: ps, at_, h, p, hp => by
   rw [chkF_cons] at h
   cases h1 : chk1 q at_ with
   | some x => rw [h1] at h; cases h
   | none =>
     rw [h1] at h
     rcases List.mem_cons.1 hp with rfl | hp
     · intro e
       unfold chk1 at h1
       rw [if_pos e] at h1
       cases h1
     · exact chkF_ne ps _ h p hp
theorem rng_last {N i v : Nat} (h1 : 1 ≤ N) (h4 : N ≤ 4) (hi : i + 1 = N) : (limitQ N i < v ↔ 256 ^ (5 - N) ≤ capN v) ∧ weightQ N i = 1 := by
 unfold limitQ weightQ
 rw [if_pos hi, if_pos hi, cap_last h1 h4]
 have := pow_pos256 (5 - N)
 exact ⟨by omega, rfl⟩
theorem rng_more {N i v : Nat} (hi : ¬ i + 1 = N) : (limitQ N i < v ↔ 255 < capN v) ∧ weightQ N i = 256 ^ (3 - i) := by
 unfold limitQ weightQ
 rw [if_neg hi, if_neg hi]
 refine ⟨?_, rfl⟩
 unfold capN; split <;> omega
theorem capN_small {v : Nat} (h : v ≤ 1099511627776) : capN v = v := by unfold capN; rw [if_neg (by omega)]
theorem v4_sum (t : Nat) : (#[.int .u8 (IntKind.u8.wrap ((t : Int) / 16777216)), .int .u8 (IntKind.u8.wrap ((t : Int) / 65536)), .int .u8 (IntKind.u8.wrap ((t : Int) / 256)), .int .u8 (IntKind.u8.wrap (t : Int))] : Array Value) = v4C t := by
 have e : ∀ x : Nat, IntKind.u8.wrap (x : Int) = ((x % 256 : Nat) : Int) := fun x => by simp [IntKind.wrap, IntKind.bits, IntKind.signed]
 unfold v4C octQ
 have e3 : (256 : Nat) ^ (3 - 0) = 16777216 := rfl
 have e2 : (256 : Nat) ^ (3 - 1) = 65536 := rfl
 have e1 : (256 : Nat) ^ (3 - 2) = 256 := rfl
 have e0 : (256 : Nat) ^ (3 - 3) = 1 := rfl
 rw [e0, e1, e2, e3, Nat.div_one, ← e, ← e, ← e, ← e]
 rfl
structure ResV4 (w W1 : World) (Q : Ending → World → Prop) (R : Sc Nat) : Prop where
 no : ∀ (k : Nat) (p : Int) W, R = .no k p → Below W1.heap.size W1 W → (storeVar 79 ⟨w.heap.size, 0, none⟩ (.agg #[.int .u8 0, .int .u8 0, .int .u8 0, .int .u8 0])).run Tryz.prog W = .ok () W ∧ (loadVar 79 ⟨w.heap.size, 0, none⟩).run Tryz.prog W = .ok (.agg #[.int .u8 0, .int .u8 0, .int .u8 0, .int .u8 0]) W ∧ Q (.returned (.tuple #[.agg #[.int .u8 0, .int .u8 0, .int .u8 0, .int .u8 0], .int .i64 (k : Nat), .int .i64 p])) W
 ok : ∀ n W, R = .ok n → Below W1.heap.size W1 W → (storeVar 79 ⟨w.heap.size, 0, none⟩ (.agg (v4C n))).run Tryz.prog W = .ok () (W.setRow w.heap.size (v4C n)) ∧ (loadVar 79 ⟨w.heap.size, 0, none⟩).run Tryz.prog (W.setRow w.heap.size (v4C n)) = .ok (.agg (v4C n)) (W.setRow w.heap.size (v4C n)) ∧ Q (.returned (.tuple #[.agg (v4C n), .int .i64 0, .int .i64 0])) (W.setRow w.heap.size (v4C n))
theorem resV4 {w W1 : World} {Q : Ending → World → Prop} {R : Sc Nat} (hW1 : w.alloc (.cells #[.int .u8 0, .int .u8 0, .int .u8 0, .int .u8 0] 79) = W1) (hQ : (fun (e : Ending) (w' : World) => e = .returned (rqV R) ∧ Below w.heap.size w w') = Q) : ResV4 w W1 Q R ∧ Below w.heap.size w W1 := by
 have hb1 : Below w.heap.size w W1 := by rw [← hW1]; exact ext_alloc (Below.refl _ _) _
 have hx1 : W1.heap[w.heap.size]? = some (.cells zero4 79 (0, 0)) := by rw [← hW1]; exact heap_alloc_new w _
 have hX1 : w.heap.size < W1.heap.size := heap_lt hx1
 refine ⟨⟨fun k p W hr hW => ?_, fun n W hr hW => ?_⟩, hb1⟩
 · have h0 : W.heap[w.heap.size]? = some (.cells zero4 79 (0, 0)) := by rw [hW.block _ hX1]; exact hx1
   have hs := v4_store zero4 zero4 rfl zero4_one rfl _ W h0
   rw [row_same h0] at hs
   exact ⟨hs, v4_load zero4 rfl _ W h0, by rw [← hQ, hr]; exact ⟨rfl, xT hb1 hW⟩⟩
 · have h0 : W.heap[w.heap.size]? = some (.cells zero4 79 (0, 0)) := by rw [hW.block _ hX1]; exact hx1
   exact ⟨v4_store (v4C n) zero4 rfl (v4_one n) rfl _ W h0, v4_load (v4C n) rfl _ _ (setRow_heap h0), by rw [← hQ, hr]; exact ⟨rfl, setRow_below (xT hb1 hW) (Nat.le_refl _)⟩⟩
end Go.Proofs.YtbeodjipdpcaiaaGreatDoor
