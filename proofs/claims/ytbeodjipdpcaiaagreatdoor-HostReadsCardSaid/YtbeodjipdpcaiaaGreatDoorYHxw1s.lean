/- Texts put together. -/
import Derived.Test.YtbeodjipdpcaiaaGreatDoorYQuw5s
import Derived.Test.YtbeodjipdpcaiaaGreatDoorYMx0sf
import Derived.RegionTactic
import Derived.BigRegion
set_option maxRecDepth 100000
set_option maxHeartbeats 8000000
namespace Go.Proofs.YtbeodjipdpcaiaaGreatDoor
section
open Go.RowKit
theorem bits_or32 (a b : Nat) (hb : b < 256) (h : a * 256 + b < 4294967296) : bits .or .u32 ((a : Int) * 256) (b : Int) = ((a * 256 + b : Nat) : Int) := by
 have h1 : (BitVec.ofInt 32 ((a : Int) * 256)).toNat = a * 256 := by rw [BitVec.toNat_ofInt]; omega
 have h2 : (BitVec.ofInt 32 (b : Int)).toNat = b := by rw [BitVec.toNat_ofInt]; omega
 show IntKind.u32.wrap ((BitVec.ofInt 32 ((a : Int) * 256) ||| BitVec.ofInt 32 (b : Int)).toNat : Nat) = _
 rw [BitVec.toNat_or, h1, h2]
 have := Nat.two_pow_add_eq_or_of_lt (i := 8) (b := b) hb a
 have e : 2 ^ 8 * a = a * 256 := by omega
 rw [e] at this
 rw [← this]
 exact IntWalk.u32_in _ (by omega)
theorem bits_or16 (a b : Nat) (hb : b < 256) (h : a * 256 + b < 65536) : bits .or .u16 ((a : Int) * 256) (b : Int) = ((a * 256 + b : Nat) : Int) := by
 have h1 : (BitVec.ofInt 16 ((a : Int) * 256)).toNat = a * 256 := by rw [BitVec.toNat_ofInt]; omega
 have h2 : (BitVec.ofInt 16 (b : Int)).toNat = b := by rw [BitVec.toNat_ofInt]; omega
 show IntKind.u16.wrap ((BitVec.ofInt 16 ((a : Int) * 256) ||| BitVec.ofInt 16 (b : Int)).toNat : Nat) = _
 rw [BitVec.toNat_or, h1, h2]
 have := Nat.two_pow_add_eq_or_of_lt (i := 8) (b := b) hb a
 have e : 2 ^ 8 * a = a * 256 := by omega
 rw [e] at this
 rw [← this]
 exact IntWalk.u16_in _ (by omega)
def QnuRel (n : Nat) (w : World) (nv iv : Value) (wr : World) : Prop := ∃ j : Nat, iv = .int .i64 j ∧ j ≤ 4 ∧ nv = .int .u32 (n / 256 ^ (4 - j) : Nat) ∧ Below w.heap.size w wr
theorem qnum_any (n : Nat) (w : World) (hn : n < 4294967296) : Calls Tryz.prog 215 #[.agg (v4C n)] w fun e w' => e = .returned (.int .u32 n) ∧ Below w.heap.size w w' := by
 obtain ⟨W1, hW1⟩ : ∃ W, w.alloc (.cells (v4C n) 79) = W := ⟨_, rfl⟩
 have hb1 : Below w.heap.size w W1 := by rw [← hW1]; exact ext_alloc (Below.refl _ _) _
 have hx1 : W1.heap[w.heap.size]? = some (.cells (v4C n) 79 (0, 0)) := by rw [← hW1]; exact heap_alloc_new w _
 have hld := v4_load (v4C n) rfl _ W1 hx1
 have HR0 : Hid (QnuRel n w (.int .u32 0) (.int .i64 0) W1) := hid ⟨0, rfl, Nat.zero_le _, by rw [Nat.div_eq_of_lt (by exact hn)]; rfl, hb1⟩
 have HIX := hid (fun j hj W => v4_at n j hj W)
 have HZ : Hid (∀ j, octQ n j < 256) := hid (octQ_lt n)
 have HST : Hid (∀ j, j < 4 → n / 256 ^ (4 - j) * 256 + octQ n j = n / 256 ^ (4 - (j + 1)) ∧ n / 256 ^ (4 - (j + 1)) < 4294967296) := hid (fun j hj => by
  have h2 : n / 256 ^ (4 - (j + 1)) ≤ n := Nat.div_le_self _ _
  refine ⟨?_, by omega⟩
  have e : 4 - j = (3 - j) + 1 := by omega
  have e2 : 4 - (j + 1) = 3 - j := by omega
  unfold octQ
  rw [e, e2, Nat.pow_succ, ← Nat.div_div_eq_div_mul]
  omega)
 obtain ⟨cs, hcs⟩ : ∃ cs, v4C n = cs := ⟨_, rfl⟩
 rw [hcs] at hld hW1 HIX ⊢
 clear hb1 hx1 hcs
 go_enter Tryz.func215, Tryz.ntmps215
 go_wp2_with ((with_reducible show wpList _ _ _ (_ :: _) _ _); refine ld_arr 79 w.heap.size (.agg cs) hld _ rfl rfl rfl ?_)
 clear hW1 hld
 go_loopw [2, 6] (QnuRel n w) (fun _ i _ => 4 - (intOf i).toNat)
 case atStart => exact HR0.out
 case round =>
  obtain ⟨j, rfl, hj, rfl, hb⟩ := hrel
  have HB := hid hb
  by_cases hlt : j < 4
  · have t1 : decide ((j : Int) < 4) = true := dcT (by omega)
    have t1' : decide (j < 4) = true := dcT hlt
    have q1 := inc j (by omega)
    have hix := HIX.out j hlt
    have hz := HZ.out j
    obtain ⟨hs1, hs2⟩ := HST.out j hlt
    obtain ⟨y2, hy2⟩ : ∃ y, n / 256 ^ (4 - (j + 1)) = y := ⟨_, rfl⟩
    rw [hy2] at hs1 hs2
    have HY2 := hid hy2
    obtain ⟨y, hy⟩ : ∃ y, n / 256 ^ (4 - j) = y := ⟨_, rfl⟩
    rw [hy] at hs1 ⊢
    obtain ⟨c, hc⟩ : ∃ c, octQ n j = c := ⟨_, rfl⟩
    rw [hc] at hix hz hs1
    have q2 : IntKind.u32.wrap ((y : Int) * 256) = (y : Int) * 256 := IntWalk.u32_in _ (by omega)
    have q3 : IntKind.u32.wrap (c : Int) = (c : Int) := IntWalk.u32_in _ (by omega)
    have q4 := bits_or32 y c hz (by omega)
    rw [hs1] at q4
    have HRL : Hid (QnuRel n w (.int .u32 (y2 : Nat)) (.int .i64 ((j : Int) + 1)) wr) := hid ⟨j + 1, by go_num, hlt, by rw [HY2.out], hb⟩
    clear hy hy2 hc hs1 hs2 hb
    go_wp2
    refine ⟨?_, by simp [intOf] <;> omega⟩
    first | exact HRL.out | ((repeat apply Exists.intro); exact ⟨HRL.out, rfl⟩)
  · have t1 : decide ((j : Int) < 4) = false := dcF (by omega)
    have t1' : decide (j < 4) = false := dcF hlt
    obtain rfl : j = 4 := by omega
    have e : n / 256 ^ (4 - 4) = n := by rw [Nat.sub_self, Nat.pow_zero, Nat.div_one]
    rw [e]
    clear e hb hlt
    go_wp2
    go_ret
    exact ⟨rfl, HB.out⟩
theorem numVal_take (base : Nat) (s : ByteArray) : ∀ j, j ≤ s.size → numVal base s j = valD base ((bytesN s).take j)
 | 0, _ => rfl
 | j + 1, h => by
   rw [numVal, numVal_take base s j (by omega), List.take_add_one, bytesN_get (show j < s.size by omega)]
   exact (valD_snoc base _ _).symm
theorem fold_lt (base : Nat) : ∀ (l : List Nat) (n k : Nat), n < base ^ k → (∀ c ∈ l, digV c < base) → l.foldl (fun n c => n * base + digV c) n < base ^ (k + l.length)
 | [], n, k, h, _ => by simpa using h
 | c :: l, n, k, h, hc => by
   have h2 := hc c (by simp)
   have h1 : n * base + digV c < base ^ (k + 1) := by
    rw [Nat.pow_succ]
    have : (n + 1) * base ≤ base ^ k * base := Nat.mul_le_mul_right _ h
    rw [Nat.add_mul] at this
    omega
   have := fold_lt base l _ (k + 1) h1 (fun x hx => hc x (by simp [hx]))
   rw [List.foldl_cons, List.length_cons, show k + (l.length + 1) = k + 1 + l.length by omega]
   exact this
theorem valD_lt (base : Nat) (l : List Nat) (h : ∀ c ∈ l, digV c < base) : valD base l < base ^ l.length := by
 have := fold_lt base l 0 0 (by rw [Nat.pow_zero]; exact Nat.one_pos) h
 rw [Nat.zero_add] at this
 exact this
theorem grp_num (s : ByteArray) : (∃ n, grpL (bytesN s) = some n ∧ numberF 16 65535 s = .ok n ∧ s.size ≤ 4 ∧ n < 65536) ∨ (grpL (bytesN s) = none ∧ ((∃ k p, numberF 16 65535 s = .no k p) ∨ ∃ n, numberF 16 65535 s = .ok n ∧ 4 < s.size)) := by
 unfold grpL
 rw [bytesN_len]
 by_cases h : 1 ≤ s.size ∧ s.size ≤ 4 ∧ (bytesN s).all hexD = true
 · rw [if_pos h]
   have hd : ∀ m, m < s.size → digV (byteAt s m) < 16 := fun m hm => (hexD_dig _).1 (List.all_eq_true.1 h.2.2 _ (List.mem_of_getElem? (bytesN_get hm)))
   have hv := numVal_take 16 s s.size (Nat.le_refl _)
   rw [List.take_of_length_le (by rw [bytesN_len]; exact Nat.le_refl _)] at hv
   have hlt := valD_lt 16 (bytesN s) (fun c hc => (hexD_dig c).1 (List.all_eq_true.1 h.2.2 c hc))
   rw [bytesN_len] at hlt
   have hp : 16 ^ s.size ≤ 16 ^ 4 := Nat.pow_le_pow_right (by decide) h.2.1
   have e : (16 : Nat) ^ 4 = 65536 := by decide
   refine .inl ⟨_, rfl, ?_, h.2.1, by omega⟩
   rw [numberF_end (by omega) (fun m hm => by unfold notDigit; exact dcF (by have := hd m hm; omega)), hv, if_neg (by omega)]
 · rw [if_neg h]
   refine .inr ⟨rfl, ?_⟩
   cases hn : numberF 16 65535 s with
   | no k p => exact .inl ⟨k, p, rfl⟩
   | ok n =>
     refine .inr ⟨n, rfl, ?_⟩
     unfold numberF at hn
     split at hn
     · cases hn
     · rename_i h0
       split at hn
       · cases hn
       · rename_i hf
         refine Nat.lt_of_not_le fun h4 => h ⟨by omega, h4, List.all_eq_true.2 (fun c hc => ?_)⟩
         obtain ⟨i, hi, rfl⟩ := List.getElem_of_mem hc
         rw [bytesN_len] at hi
         have := find_none hf i hi
         unfold notDigit at this
         have hg := bytesN_get hi
         rw [List.getElem?_eq_getElem (by rw [bytesN_len]; exact hi)] at hg
         rw [Option.some.inj hg]
         exact (hexD_dig _).2 (by have := of_decide_eq_false this; omega)
def GrPost (w : World) (r : Option Nat) (e : Ending) (w' : World) : Prop := Below w.heap.size w w' ∧ match r with
 | some n => e = .returned (.tuple #[.int .u16 n, .bool true])
 | none => ∃ x, e = .returned (.tuple #[.int .u16 x, .bool false])
theorem group_any (s : ByteArray) (w : World) (hs : s.size ≤ 1000000) : Calls Tryz.prog 213 #[.string s] w (GrPost w (grpL (bytesN s))) := by
 have HX := hex_any s 65535 w hs (by decide)
 obtain ⟨R, hR⟩ : ∃ R, grpL (bytesN s) = R := ⟨_, rfl⟩
 obtain ⟨Q, hQ⟩ : ∃ Q, GrPost w R = Q := ⟨_, rfl⟩
 have hg := grp_num s
 rw [hR] at hg
 rw [hR, hQ]
 have HQ := hid hQ
 clear hQ hR
 rcases hg with ⟨n, rfl, hn, h4, hlt⟩ | ⟨rfl, ⟨k, p, hn⟩ | ⟨n, hn, h4⟩⟩
 · rw [hn] at HX
   have t1 : decide ((s.size : Int) ≤ 4) = true := dcT (by omega)
   have t1' : decide (s.size ≤ 4) = true := dcT h4
   have q1 : IntKind.u16.wrap (n : Int) = (n : Int) := IntWalk.u16_in _ (by omega)
   have HXX := hid HX
   clear HX hn h4 hlt
   go_enter Tryz.func213, Tryz.ntmps213
   go_wp2_with fail
   refine HXX.out.mono ?_
   rintro e w1 ⟨rfl, hb⟩
   have HB := hid hb
   clear hb
   go_wp2
   rw [← HQ.out]
   exact ⟨HB.out, rfl⟩
 · rw [hn] at HX
   have HXX := hid HX
   clear HX hn
   go_enter Tryz.func213, Tryz.ntmps213
   go_wp2_with fail
   refine HXX.out.mono ?_
   rintro e w1 ⟨u, rfl, hf⟩
   have HB := hid hf.2
   clear hf
   go_wp2
   rw [← HQ.out]
   exact ⟨HB.out, _, rfl⟩
 · rw [hn] at HX
   have t1 : decide ((s.size : Int) ≤ 4) = false := dcF (by omega)
   have t1' : decide (s.size ≤ 4) = false := dcF (by omega)
   have HXX := hid HX
   clear HX hn h4
   go_enter Tryz.func213, Tryz.ntmps213
   go_wp2_with fail
   refine HXX.out.mono ?_
   rintro e w1 ⟨rfl, hb⟩
   have HB := hid hb
   clear hb
   go_wp2
   rw [← HQ.out]
   exact ⟨HB.out, _, rfl⟩
end
section
open Go.RowKit
theorem elU16 : ElemTy Tryz.prog 193 62 1 2 (.int .u16 0) := ⟨Tryz.underlying193, by kernel_rfl, rfl, by decide⟩
def u16V (l : List Nat) : List Value := l.map fun n : Nat => Value.int .u16 n
theorem u16V_len (l : List Nat) : (u16V l).length = l.length * 1 := by simp [u16V]
def RwPost (w : World) (r : Option (List Nat)) (e : Ending) (w' : World) : Prop := Below w.heap.size w w' ∧ match r with
 | some l => ∃ v, e = .returned (.tuple #[v, .bool true]) ∧ w'.ownsRow w.heap.size 62 1 v l.length (u16V l)
 | none => e = .returned (.tuple #[.slice none 0 0, .bool false])
def HrRel (last : Bool) (ps : List (List Nat)) (R : Option (List Nat)) (w w2 : World) (lv iv : Value) (wr : World) : Prop := ∃ (j : Nat) (acc : List Nat), iv = .int .i64 j ∧ j ≤ ps.length ∧ acc.length ≤ 2 * j ∧ wr.ownsRow w.heap.size 62 1 lv acc.length (u16V acc) ∧ rowF last (ps.drop j) acc = R ∧ Below w.heap.size w wr ∧ Below w2.heap.size w2 wr
theorem hrow_any (s : ByteArray) (last : Bool) (w : World) (hs : s.size ≤ 1000000) (hM : MaxT w) (hG : Glob w) : Calls Tryz.prog 163 #[.string s, .bool last] w (RwPost w (rowL last (bytesN s))) := by
 obtain ⟨R, hR⟩ : ∃ R, rowL last (bytesN s) = R := ⟨_, rfl⟩
 obtain ⟨Q, hQ⟩ : ∃ Q, RwPost w R = Q := ⟨_, rfl⟩
 rw [hR, hQ]
 have HQ := hid hQ
 by_cases h0 : s = ⟨#[]⟩
 · have hRe : R = some [] := by rw [← hR, h0]; rfl
   have t0 : (s.toList == []) = true := by rw [h0, ByteArray.toList_eq]; rfl
   have HF : Hid (Q (.returned (.tuple #[.slice none 0 0, .bool true])) w) := hid (by rw [← HQ.out, hRe]; exact ⟨Below.refl _ _, _, rfl, World.ownsRow_nil _ _ _ _⟩)
   clear hQ hR hRe h0 hs hM hG
   go_enter Tryz.func163, Tryz.ntmps163
   go_wp2
   exact HF.out
 · have t0 : (s.toList == []) = false := by
     have h := beqS_f h0
     rw [show (⟨#[]⟩ : ByteArray).toList = [] by rw [ByteArray.toList_eq]] at h
     exact h
   have hp : bytesN s ≠ [] := fun e => h0 (by rw [← bytesL_bytesN s, e]; rfl)
   have SP := splitP_any 58 s w hM hs
   rw [show (58 : UInt8).toNat = 58 from rfl] at SP
   have hR2 : rowF last (splitN 58 (bytesN s)) [] = R := by rw [← hR]; unfold rowL; rw [if_neg hp]
   have hpl : ∀ p ∈ splitN 58 (bytesN s), p.length ≤ 1000000 ∧ ByteL p := fun p hp => by
    have h1 := mem_join_len (m := 58) hp
    rw [joinN_split, bytesN_len] at h1
    exact ⟨by omega, fun c hc => bytesN_lt s c (splitN_free 58 _ p hp c hc).2⟩
   have hlen : (splitN 58 (bytesN s)).length ≤ 1000001 := by
    have h2 : ∀ l : List Nat, (splitN 58 l).length ≤ l.length + 1 := by
     intro l
     induction l with
     | nil => exact Nat.le_refl _
     | cons c l ih =>
       rw [splitN]
       split
       · rw [List.length_cons, List.length_cons]; omega
       · split
         · rename_i h t heq
           rw [heq, List.length_cons] at ih
           rw [List.length_cons, List.length_cons]; omega
         · simp
    have := h2 (bytesN s)
    rw [bytesN_len] at this
    omega
   obtain ⟨ps, hps⟩ : ∃ ps, splitN 58 (bytesN s) = ps := ⟨_, rfl⟩
   have hne : 0 < ps.length := by rw [← hps]; exact List.length_pos_iff.2 (splitN_ne _ _)
   rw [hps] at SP hR2 hpl hlen
   obtain ⟨n0, hn0⟩ : ∃ n, ps.length = n := ⟨_, rfl⟩
   rw [hn0] at hlen hne
   have SP := hid SP
   have HN := hid hn0; have HR2 := hid hR2; have HPL := hid hpl; have HG := hid hG
   have HNO : Hid (∀ W, R = none → Below w.heap.size w W → Q (.returned (.tuple #[.slice none 0 0, .bool false])) W) := hid (fun W hr hW => by rw [← HQ.out, hr]; exact ⟨hW, rfl⟩)
   clear hQ hR h0 hp hpl hps hR2 hn0 hM hs hG
   go_enter Tryz.func163, Tryz.ntmps163
   go_wp2_with fail
   refine SP.out.mono ?_
   rintro e w2 ⟨v, rfl, ho, hb2⟩
   obtain ⟨ao, cap, rfl, hao⟩ := aown_form ho
   obtain ⟨g, rfl, hwg, hgl⟩ : ∃ g, ao = some ⟨g, 0, none⟩ ∧ w.heap.size ≤ g ∧ g < w2.heap.size := by
    rcases hao with ⟨h0, _⟩ | h
    · rw [HN.out] at h0; omega
    · exact h
   have HCL : Hid (∀ j (h : j < ps.length) W, Below w2.heap.size w2 W → W.cell? ⟨g, j, none⟩ = some (.string (bytesL ps[j]))) := hid (fun j h W hW => by
    rw [bcell1 hW hgl, ho.cellAt j (by simpa using h)]
    unfold strV
    rw [List.getElem?_map, List.getElem?_map, List.getElem?_eq_getElem h]; rfl)
   have HR0 : Hid (HrRel last ps R w2 w2 (.slice none 0 0) (.int .i64 0) w2) := hid ⟨0, [], rfl, Nat.zero_le _, Nat.le_refl _, World.ownsRow_nil _ _ _ _, HR2.out, Below.refl _ _, Below.refl _ _⟩
   have HB2 := hid hb2
   rw [HN.out]
   clear ho hao hb2
   go_wp2_with fail
   go_loopw [4, 20] (HrRel last ps R w2 w2) (fun _ k _ => n0 - (intOf k).toNat)
   case atStart => exact HR0.out
   case round =>
    obtain ⟨j, acc, rfl, hj, hal, ho, hrf, hb, _⟩ := hrel
    rw [HN.out] at hj
    obtain ⟨la, lc, rfl, _⟩ := aown_form ho
    have HO := hid ho; have HB := hid hb; have HRF := hid hrf
    clear ho hb hrf
    by_cases hlt : j < n0
    · obtain ⟨t1, t1'⟩ := ltT j n0 hlt
      have q1 := inc j (by omega)
      have r1 : IntKind.i64.wrap ((n0 : Int) - 1) = (n0 : Int) - 1 := i64n _ (by omega)
      have hjp : j < ps.length := by rw [HN.out]; exact hlt
      have c0 := HCL.out j hjp _ HB.out
      obtain ⟨p, hp⟩ : ∃ p, ps[j] = p := ⟨_, rfl⟩
      have hpm : p ∈ ps := by rw [← hp]; exact List.getElem_mem hjp
      have hpl := HPL.out p hpm
      have hrf := HRF.out
      rw [List.drop_eq_getElem_cons hjp, hp, rowF] at hrf
      rw [hp] at c0
      have hbp : bytesN (bytesL p) = p := bytesN_bytesL hpl.2
      have hpz := bytesL_size p
      have GR := fun W => group_any (bytesL p) W (by rw [hpz]; exact hpl.1)
      have ST := fun W hG => qstrict_any (bytesL p) W (by rw [hpz]; exact hpl.1) hG
      rw [hbp] at GR ST
      obtain ⟨B, hB⟩ : ∃ B, bytesL p = B := ⟨_, rfl⟩
      rw [hB] at GR ST c0
      have GRH := hid (GR wr)
      have STH := hid ST
      have hdn : ps.drop (j + 1) = [] ↔ ¬ (j < n0 - 1) := by
       rw [List.drop_eq_nil_iff, HN.out]; omega
      clear hp hpm hbp hpz hB hjp hpl GR ST
      cases hg : grpL p with
      | some n =>
        rw [hg] at hrf
        have GRS : Hid (Calls Tryz.prog 213 #[.string B] wr fun e w' => Below wr.heap.size wr w' ∧ e = .returned (.tuple #[.int .u16 n, .bool true])) := hid (by have := GRH.out; rw [hg] at this; exact this)
        have HRF2 := hid hrf
        clear hg hrf hdn STH GRH
        go_wp2_with fail
        refine GRS.out.mono ?_
        rintro e w3 ⟨hb3, rfl⟩
        have ho3 := aown_ext HO.out (fun g hg => hb3.block g (HO.out.lt g hg).2) (Nat.le_refl _)
        have hbb3 := xT HB.out hb3
        have HO3 := hid ho3; have HB3 := hid hbb3
        clear hb3 ho3 hbb3
        go_wp2_with (at_builtin; refine wpList_app1 w3 _ _ rfl _ _ 193 rfl w2.heap.size elU16 _ _ _ rfl HO3.out rfl rfl ?c1 ?c2 ?c3 ?c4 ?_)
        case c1 => first | rfl | (intro u hu; simp at hu; subst hu; rfl)
        case c2 => simp [maxLen]; omega
        case c3 => omega
        case c4 => exact HB3.out.size
        intro v2 w4 ho4 hg4
        have hb4 : Below w2.heap.size w2 w4 := (ext_alloc HB3.out (.cells #[.int .u16 n] 62)).grown hg4 (ext_alloc HB3.out (.cells #[.int .u16 n] 62)).size (fun m hm => (HO3.out.lt m hm).1)
        have R : HrRel last ps R w2 w2 v2 (.int .i64 ((j : Int) + 1)) w4 := ⟨j + 1, acc ++ [n], by go_num, by rw [HN.out]; exact hlt, by rw [List.length_append]; show acc.length + 1 ≤ _; omega, by
         rw [List.length_append]
         have e : u16V (acc ++ [n]) = u16V acc ++ [.int .u16 n] := by simp [u16V]
         rw [e]
         simpa using ho4, HRF2.out, hb4, hb4⟩
        have HRR := hid R
        clear R ho4 hg4 hb4
        go_wp2
        refine ⟨?_, by simp [intOf] <;> omega⟩
        first | exact HRR.out | ((repeat apply Exists.intro); exact ⟨HRR.out, rfl⟩)
      | none =>
        rw [hg] at hrf
        have GRS : Hid (Calls Tryz.prog 213 #[.string B] wr fun e w' => Below wr.heap.size wr w' ∧ ∃ x, e = .returned (.tuple #[.int .u16 x, .bool false])) := hid (by have := GRH.out; rw [hg] at this; exact this)
        clear hg GRH
        cases hst : strictQ p with
        | none =>
          have hrf : none = R := by rw [hst] at hrf; exact hrf
          have HRN := hid hrf.symm
          have STS : Hid (∀ W, Glob W → Calls Tryz.prog 214 #[.string B] W fun e w' => Below W.heap.size W w' ∧ ∃ u, e = .returned (.tuple #[.agg zero4, u]) ∧ Er w' u [(11, 0)]) := hid (fun W hG => by have := STH.out W hG; rw [hst] at this; exact this)
          clear hst hrf hdn STH
          go_wp2_with fail
          refine GRS.out.mono ?_
          rintro e w3 ⟨hb3, x, rfl⟩
          have HB3 := hid (xT HB.out hb3)
          have ST3 := hid (STS.out w3 ((HG.out.ext HB2.out).ext (xT HB.out hb3)))
          clear hb3
          go_wp2_with fail
          refine ST3.out.mono ?_
          rintro e w4 ⟨hb4, u, rfl, hE⟩
          obtain ⟨b, off, u2, rfl, _⟩ := fault_inv hE
          obtain ⟨w5, hW5⟩ : ∃ W, w4.alloc (.cells #[.int .u8 0, .int .u8 0, .int .u8 0, .int .u8 0] 79) = W := ⟨_, rfl⟩
          have hb5 : Below w4.heap.size w4 w5 := by rw [← hW5]; exact ext_alloc (Below.refl _ _) _
          have hx5 : w5.heap[w4.heap.size]? = some (.cells zero4 79 (0, 0)) := by rw [← hW5]; exact heap_alloc_new w4 _
          have hsta := v4_store zero4 zero4 rfl zero4_one rfl _ w5 hx5
          rw [row_same hx5] at hsta
          have HF := hid (HNO.out w5 HRN.out (xT HB2.out (xT (xT HB3.out hb4) hb5)))
          clear hb4 hE hb5 hx5
          go_wp2_with ((with_reducible show wpList _ _ _ (_ :: _) _ _); refine st_arr 79 w4.heap.size _ hsta _ _ rfl rfl rfl rfl ?_)
          exact HF.out
        | some a =>
          have hrf : (if last = true ∧ ps.drop (j + 1) = [] then some (acc ++ [a / 65536, a % 65536]) else none) = R := by rw [hst] at hrf; exact hrf
          have ha : a < 4294967296 := by
           unfold strictQ at hst
           cases hq : parseQ p with
           | no k p => rw [hq] at hst; cases hst
           | ok a' =>
             rw [hq] at hst
             have := parseQ_lt hq
             simp only at hst
             split at hst
             · cases hst; exact this
             · cases hst
          have STS : Hid (∀ W, Glob W → Calls Tryz.prog 214 #[.string B] W fun e w' => Below W.heap.size W w' ∧ e = .returned (.tuple #[.agg (v4C a), .nilIface])) := hid (fun W hG => by have := STH.out W hG; rw [hst] at this; exact this)
          have QN := fun W => qnum_any a W ha
          have h4o := v4_one a
          have hsz4 : (v4C a).size = 4 := rfl
          obtain ⟨cs, hcs⟩ : ∃ cs, v4C a = cs := ⟨_, rfl⟩
          rw [hcs] at STS h4o hsz4 QN
          have QNH := hid QN
          have H4O := hid h4o; have HSZ := hid hsz4
          clear hst STH QN hcs h4o hsz4
          go_wp2_with fail
          refine GRS.out.mono ?_
          rintro e w3 ⟨hb3, x, rfl⟩
          have HB3 := hid (xT HB.out hb3); have HBW3 := hid hb3
          have ST3 := hid (STS.out w3 ((HG.out.ext HB2.out).ext (xT HB.out hb3)))
          clear hb3
          go_wp2_with fail
          refine ST3.out.mono ?_
          rintro e w4 ⟨hb4, rfl⟩
          obtain ⟨w5, hW5⟩ : ∃ W, w4.alloc (.cells #[.int .u8 0, .int .u8 0, .int .u8 0, .int .u8 0] 79) = W := ⟨_, rfl⟩
          have hb5 : Below w4.heap.size w4 w5 := by rw [← hW5]; exact ext_alloc (Below.refl _ _) _
          have hx5 : w5.heap[w4.heap.size]? = some (.cells zero4 79 (0, 0)) := by rw [← hW5]; exact heap_alloc_new w4 _
          have hsta := v4_store cs zero4 HSZ.out H4O.out rfl _ w5 hx5
          have hx6 := setRow_heap (c := cs) hx5
          have hb6 : Below w4.heap.size w4 (w5.setRow w4.heap.size cs) := setRow_below hb5 (Nat.le_refl _)
          obtain ⟨w6, hW6⟩ : ∃ W, w5.setRow w4.heap.size cs = W := ⟨_, rfl⟩
          rw [hW6] at hsta hx6 hb6
          have hld := v4_load cs HSZ.out _ w6 hx6
          have HB6 := hid (xT (xT HB3.out hb4) hb6); have HBW6 := hid (xT (xT HBW3.out hb4) hb6)
          clear hb4 hb5 hx5 hW6 hx6 hb6
          cases last with
          | false =>
            rw [if_neg (fun h => Bool.false_ne_true h.1)] at hrf
            have HF := hid (HNO.out w6 hrf.symm (xT HB2.out HB6.out))
            clear hrf hdn
            go_wp2_with ((with_reducible show wpList _ _ _ (_ :: _) _ _); refine st_arr 79 w4.heap.size _ hsta _ _ rfl rfl rfl rfl ?_)
            exact HF.out
          | true =>
            by_cases hlast : j < n0 - 1
            · rw [if_neg (fun h => hdn.1 h.2 hlast)] at hrf
              have t2 : decide ((j : Int) < (n0 : Int) - 1) = true := dcT (by omega)
              have HF := hid (HNO.out w6 hrf.symm (xT HB2.out HB6.out))
              clear hrf hdn
              go_wp2_with ((with_reducible show wpList _ _ _ (_ :: _) _ _); refine st_arr 79 w4.heap.size _ hsta _ _ rfl rfl rfl rfl ?_)
              exact HF.out
            · have hde := hdn.2 hlast
              rw [if_pos ⟨rfl, hde⟩] at hrf
              have t2 : decide ((j : Int) < (n0 : Int) - 1) = false := dcF (by omega)
              obtain ⟨ah, hah⟩ : ∃ x, a / 65536 = x := ⟨_, rfl⟩
              obtain ⟨al, hall⟩ : ∃ x, a % 65536 = x := ⟨_, rfl⟩
              rw [hah, hall] at hrf
              have p1 : (a : Int) / 65536 = (ah : Int) := by omega
              have p2 : IntKind.u16.wrap (ah : Int) = (ah : Int) := IntWalk.u16_in _ (by omega)
              have p3 : IntKind.u16.wrap (a : Int) = (al : Int) := by rw [← hall]; go_num
              have HRF2 := hid hrf; have HDE := hid hde
              have ho6 := aown_ext (w' := w6) HO.out (fun g hg => HBW6.out.block g (HO.out.lt g hg).2) (Nat.le_refl _)
              have HO6 := hid ho6
              clear hrf hdn hde hah hall ho6
              go_wp2_with ((with_reducible show wpList _ _ _ (_ :: _) _ _); first | (refine st_arr 79 w4.heap.size _ hsta _ _ rfl rfl rfl rfl ?_) | (refine ld_arr 79 w4.heap.size _ hld _ rfl rfl rfl ?_))
              refine (QNH.out _).mono ?_
              rintro e w7 ⟨rfl, hb7⟩
              have ho7 := aown_ext HO6.out (fun g hg => hb7.block g (HO6.out.lt g hg).2) (Nat.le_refl _)
              have hbb7 := xT HB6.out hb7
              have HO7 := hid ho7; have HB7 := hid hbb7
              clear hb7 ho7 hbb7 hld hsta hW5
              go_wp2_with (at_builtin; refine wpList_app (w7.alloc (.cells #[.int .u16 ah, .int .u16 al] 62)) rfl _ _ 193 rfl w2.heap.size elU16 _ _ _ rfl (HO7.out.alloc _) (some ⟨w7.heap.size, 0, none⟩) 2 2 [.int .u16 ah, .int .u16 al] rfl rfl ?c0 ?c1 ?c2 ?c3 ?c4 ?c5 ?_)
              case c0 => exact nofun
              case c1 => exact fun _ => ⟨_, _, rfl, new_cells w7 #[.int .u16 ah, .int .u16 al] _⟩
              case c2 =>
               intro u hu
               simp only [List.mem_cons, List.not_mem_nil, or_false] at hu
               rcases hu with rfl | rfl <;> rfl
              case c3 => simp [maxLen]; omega
              case c4 => omega
              case c5 => have := HB7.out.size; simp; omega
              intro v2 w8 ho8 hg8
              have hb8 : Below w2.heap.size w2 w8 := (ext_alloc HB7.out (.cells #[.int .u16 ah, .int .u16 al] 62)).grown hg8 (ext_alloc HB7.out (.cells #[.int .u16 ah, .int .u16 al] 62)).size (fun m hm => (HO7.out.lt m hm).1)
              have R : HrRel true ps R w2 w2 v2 (.int .i64 ((j : Int) + 1)) w8 := ⟨j + 1, acc ++ [ah, al], by go_num, by rw [HN.out]; exact hlt, by rw [List.length_append]; show acc.length + 2 ≤ _; omega, by
               rw [List.length_append]
               have e : u16V (acc ++ [ah, al]) = u16V acc ++ [.int .u16 ah, .int .u16 al] := by simp [u16V]
               rw [e]
               exact ho8, by rw [HDE.out, rowF]; exact HRF2.out, hb8, hb8⟩
              have HRR := hid R
              clear R ho8 hg8 hb8
              go_wp2
              refine ⟨?_, by simp [intOf] <;> omega⟩
              first | exact HRR.out | ((repeat apply Exists.intro); exact ⟨HRR.out, rfl⟩)
    · obtain ⟨t1, t1'⟩ := ltF j n0 hlt
      have hrf := HRF.out
      rw [List.drop_eq_nil_of_le (by rw [HN.out]; omega), rowF] at hrf
      have HF : Hid (Q (.returned (.tuple #[.slice la acc.length lc, .bool true])) wr) := hid (by rw [← HQ.out, ← hrf]; exact ⟨xT HB2.out HB.out, _, rfl, aown_ext HO.out (fun _ _ => rfl) HB2.out.size⟩)
      clear hrf hlt
      go_wp2
      exact HF.out
end
section
open Go.RowKit
def byF (f : Nat → Nat) (i : Nat) : Nat := if i % 2 = 0 then f (i / 2) / 256 else f (i / 2) % 256
def byP (f : Nat → Nat) (j i : Nat) : Value := .int .u8 ((if i < 2 * j then byF f i else 0 : Nat) : Int)
def grP (f : Nat → Nat) (j i : Nat) : Value := .int .u16 ((if i < j then f i else 0 : Nat) : Int)
def g8C (f : Nat → Nat) : Array Value := #[.int .u16 (f 0 : Nat), .int .u16 (f 1 : Nat), .int .u16 (f 2 : Nat), .int .u16 (f 3 : Nat), .int .u16 (f 4 : Nat), .int .u16 (f 5 : Nat), .int .u16 (f 6 : Nat), .int .u16 (f 7 : Nat)]
def v6C (f : Nat → Nat) : Array Value := #[.int .u8 (byF f 0 : Nat), .int .u8 (byF f 1 : Nat), .int .u8 (byF f 2 : Nat), .int .u8 (byF f 3 : Nat), .int .u8 (byF f 4 : Nat), .int .u8 (byF f 5 : Nat), .int .u8 (byF f 6 : Nat), .int .u8 (byF f 7 : Nat), .int .u8 (byF f 8 : Nat), .int .u8 (byF f 9 : Nat), .int .u8 (byF f 10 : Nat), .int .u8 (byF f 11 : Nat), .int .u8 (byF f 12 : Nat), .int .u8 (byF f 13 : Nat), .int .u8 (byF f 14 : Nat), .int .u8 (byF f 15 : Nat)]
def v6P (f : Nat → Nat) (j : Nat) : Array Value := #[byP f j 0, byP f j 1, byP f j 2, byP f j 3, byP f j 4, byP f j 5, byP f j 6, byP f j 7, byP f j 8, byP f j 9, byP f j 10, byP f j 11, byP f j 12, byP f j 13, byP f j 14, byP f j 15]
def g8P (f : Nat → Nat) (j : Nat) : Array Value := #[grP f j 0, grP f j 1, grP f j 2, grP f j 3, grP f j 4, grP f j 5, grP f j 6, grP f j 7]
def zero16 : Array Value := #[.int .u8 0, .int .u8 0, .int .u8 0, .int .u8 0, .int .u8 0, .int .u8 0, .int .u8 0, .int .u8 0, .int .u8 0, .int .u8 0, .int .u8 0, .int .u8 0, .int .u8 0, .int .u8 0, .int .u8 0, .int .u8 0]
def zero8 : Array Value := #[.int .u16 0, .int .u16 0, .int .u16 0, .int .u16 0, .int .u16 0, .int .u16 0, .int .u16 0, .int .u16 0]
theorem v6P_all (f : Nat → Nat) : v6P f 8 = v6C f := rfl
theorem g8P_all (f : Nat → Nat) : g8P f 8 = g8C f := rfl
theorem v6P_set (f : Nat → Nat) (j : Nat) (hj : j < 8) : ((v6P f j).setIfInBounds (2 * j) (.int .u8 (byF f (2 * j) : Nat))).setIfInBounds (2 * j + 1) (.int .u8 (byF f (2 * j + 1) : Nat)) = v6P f (j + 1) := by
 match j, hj with
 | 0, _ => rfl
 | 1, _ => rfl
 | 2, _ => rfl
 | 3, _ => rfl
 | 4, _ => rfl
 | 5, _ => rfl
 | 6, _ => rfl
 | 7, _ => rfl
theorem v6P_get (f : Nat → Nat) (j : Nat) (hj : j < 8) : (v6P f j)[2 * j]? = some (.int .u8 0) ∧ (v6P f j)[2 * j + 1]? = some (.int .u8 0) := by
 match j, hj with
 | 0, _ => exact ⟨rfl, rfl⟩
 | 1, _ => exact ⟨rfl, rfl⟩
 | 2, _ => exact ⟨rfl, rfl⟩
 | 3, _ => exact ⟨rfl, rfl⟩
 | 4, _ => exact ⟨rfl, rfl⟩
 | 5, _ => exact ⟨rfl, rfl⟩
 | 6, _ => exact ⟨rfl, rfl⟩
 | 7, _ => exact ⟨rfl, rfl⟩
theorem g8P_set (f : Nat → Nat) (j : Nat) (hj : j < 8) : (g8P f j).setIfInBounds j (.int .u16 (f j : Nat)) = g8P f (j + 1) := by
 match j, hj with
 | 0, _ => rfl
 | 1, _ => rfl
 | 2, _ => rfl
 | 3, _ => rfl
 | 4, _ => rfl
 | 5, _ => rfl
 | 6, _ => rfl
 | 7, _ => rfl
theorem g8P_get (f : Nat → Nat) (j : Nat) (hj : j < 8) : (g8P f j)[j]? = some (.int .u16 0) := by
 match j, hj with
 | 0, _ => rfl
 | 1, _ => rfl
 | 2, _ => rfl
 | 3, _ => rfl
 | 4, _ => rfl
 | 5, _ => rfl
 | 6, _ => rfl
 | 7, _ => rfl
theorem v6C_get (f : Nat → Nat) (j : Nat) (hj : j < 8) : (v6C f)[2 * j]? = some (.int .u8 (f j / 256 : Nat)) ∧ (v6C f)[2 * j + 1]? = some (.int .u8 (f j % 256 : Nat)) := by
 match j, hj with
 | 0, _ => exact ⟨rfl, rfl⟩
 | 1, _ => exact ⟨rfl, rfl⟩
 | 2, _ => exact ⟨rfl, rfl⟩
 | 3, _ => exact ⟨rfl, rfl⟩
 | 4, _ => exact ⟨rfl, rfl⟩
 | 5, _ => exact ⟨rfl, rfl⟩
 | 6, _ => exact ⟨rfl, rfl⟩
 | 7, _ => exact ⟨rfl, rfl⟩
theorem byF_even (f : Nat → Nat) (j : Nat) : byF f (2 * j) = f j / 256 := by
 unfold byF; rw [if_pos (by omega), show 2 * j / 2 = j by omega]
theorem byF_odd (f : Nat → Nat) (j : Nat) : byF f (2 * j + 1) = f j % 256 := by
 unfold byF; rw [if_neg (by omega), show (2 * j + 1) / 2 = j by omega]
theorem v6_info : (Tryz.prog.info? 125).map (·.size) = some 16 := by kernel_rfl
theorem g8_info : (Tryz.prog.info? 92).map (·.size) = some 8 := by kernel_rfl
theorem v6C_one (f : Nat → Nat) : (v6C f).all (·.oneCell') = true := by
 rw [Array.all_eq_true_iff_forall_mem]
 intro v hv
 simp only [v6C, List.mem_toArray, List.mem_cons, List.not_mem_nil, or_false] at hv
 rcases hv with rfl | rfl | rfl | rfl | rfl | rfl | rfl | rfl | rfl | rfl | rfl | rfl | rfl | rfl | rfl | rfl <;> rfl
theorem g8C_one (f : Nat → Nat) : (g8C f).all (·.oneCell') = true := by
 rw [Array.all_eq_true_iff_forall_mem]
 intro v hv
 simp only [g8C, List.mem_toArray, List.mem_cons, List.not_mem_nil, or_false] at hv
 rcases hv with rfl | rfl | rfl | rfl | rfl | rfl | rfl | rfl <;> rfl
theorem zero16_one : zero16.all (·.oneCell') = true := by
 rw [Array.all_eq_true_iff_forall_mem]
 intro v hv
 simp only [zero16, List.mem_toArray, List.mem_cons, List.not_mem_nil, or_false] at hv
 rcases hv with rfl | rfl | rfl | rfl | rfl | rfl | rfl | rfl | rfl | rfl | rfl | rfl | rfl | rfl | rfl | rfl <;> rfl
theorem v6_load (cs : Array Value) (hs : cs.size = 16) (b : Nat) (w : World) (h : w.heap[b]? = some (.cells cs 125 (0, 0))) : (loadVar 125 ⟨b, 0, none⟩).run Tryz.prog w = .ok (.agg cs) w :=
 run_loadVar_row _ _ 125 125 _ (0, 0) _ h Tryz.underlying125 rfl (by rw [hs]; exact v6_info)
theorem v6_store (cs ds : Array Value) (hs : cs.size = 16) (h1 : cs.all (·.oneCell') = true) (hd : ds.size = 16) (b : Nat) (w : World) (h : w.heap[b]? = some (.cells ds 125 (0, 0))) : (storeVar 125 ⟨b, 0, none⟩ (.agg cs)).run Tryz.prog w = .ok () (w.setRow b cs) :=
 run_storeVar_row (P := Tryz.prog) w b 125 125 ds cs h (by rw [hs]; exact v6_info) (by rw [hd, hs]) h1
theorem g8_load (cs : Array Value) (hs : cs.size = 8) (b : Nat) (w : World) (h : w.heap[b]? = some (.cells cs 92 (0, 0))) : (loadVar 92 ⟨b, 0, none⟩).run Tryz.prog w = .ok (.agg cs) w :=
 run_loadVar_row _ _ 92 92 _ (0, 0) _ h Tryz.underlying92 rfl (by rw [hs]; exact g8_info)
theorem g8_store (cs ds : Array Value) (hs : cs.size = 8) (h1 : cs.all (·.oneCell') = true) (hd : ds.size = 8) (b : Nat) (w : World) (h : w.heap[b]? = some (.cells ds 92 (0, 0))) : (storeVar 92 ⟨b, 0, none⟩ (.agg cs)).run Tryz.prog w = .ok () (w.setRow b cs) :=
 run_storeVar_row (P := Tryz.prog) w b 92 92 ds cs h (by rw [hs]; exact g8_info) (by rw [hd, hs]) h1
theorem g8_at (f : Nat → Nat) (j : Nat) (hj : j < 8) (W : World) : (Instr.index 92 (.agg (g8C f)) (.int .i64 (j : Int))).run Tryz.prog W = .ok (.int .u16 (f j : Nat)) W := by
 match j, hj with
 | 0, _ => simp [Instr.index, asIntOf, part, g8C, run_underlying Tryz.underlying92]
 | 1, _ => simp [Instr.index, asIntOf, part, g8C, run_underlying Tryz.underlying92]
 | 2, _ => simp [Instr.index, asIntOf, part, g8C, run_underlying Tryz.underlying92]
 | 3, _ => simp [Instr.index, asIntOf, part, g8C, run_underlying Tryz.underlying92]
 | 4, _ => simp [Instr.index, asIntOf, part, g8C, run_underlying Tryz.underlying92]
 | 5, _ => simp [Instr.index, asIntOf, part, g8C, run_underlying Tryz.underlying92]
 | 6, _ => simp [Instr.index, asIntOf, part, g8C, run_underlying Tryz.underlying92]
 | 7, _ => simp [Instr.index, asIntOf, part, g8C, run_underlying Tryz.underlying92]
def Of6Rel (f : Nat → Nat) (w : World) (X : Nat) (iv : Value) (wr : World) : Prop := ∃ j : Nat, iv = .int .i64 j ∧ j ≤ 8 ∧ Below w.heap.size w wr ∧ wr.heap[X]? = some (.cells (v6P f j) 125 (0, 0))
theorem hof_any (f : Nat → Nat) (w : World) (hf : ∀ j, j < 8 → f j < 65536) : Calls Tryz.prog 165 #[.agg (g8C f)] w fun e w' => e = .returned (.agg (v6C f)) ∧ Below w.heap.size w w' := by
 obtain ⟨W1, hW1⟩ : ∃ W, w.alloc (.cells (g8C f) 92) = W := ⟨_, rfl⟩
 have hb1 : Below w.heap.size w W1 := by rw [← hW1]; exact ext_alloc (Below.refl _ _) _
 have hx1 : W1.heap[w.heap.size]? = some (.cells (g8C f) 92 (0, 0)) := by rw [← hW1]; exact heap_alloc_new w _
 obtain ⟨W2, hW2⟩ : ∃ W, W1.alloc (.cells #[.int .u8 0, .int .u8 0, .int .u8 0, .int .u8 0, .int .u8 0, .int .u8 0, .int .u8 0, .int .u8 0, .int .u8 0, .int .u8 0, .int .u8 0, .int .u8 0, .int .u8 0, .int .u8 0, .int .u8 0, .int .u8 0] 125) = W := ⟨_, rfl⟩
 have hb2 : Below W1.heap.size W1 W2 := by rw [← hW2]; exact ext_alloc (Below.refl _ _) _
 have hx2 : W2.heap[W1.heap.size]? = some (.cells zero16 125 (0, 0)) := by rw [← hW2]; exact heap_alloc_new W1 _
 have hld := g8_load (g8C f) rfl _ W2 ((hb2.block _ (heap_lt hx1)).trans hx1)
 have HR0 : Hid (Of6Rel f w W1.heap.size (.int .i64 0) W2) := hid ⟨0, rfl, Nat.zero_le _, xT hb1 hb2, hx2⟩
 have HIX := hid (fun j hj W => g8_at f j hj W)
 have HF := hid hf
 have HX1 := hid hb1.size
 obtain ⟨cs, hcs⟩ : ∃ cs, g8C f = cs := ⟨_, rfl⟩
 rw [hcs] at hld hW1 HIX ⊢
 clear hb1 hx1 hb2 hx2 hcs hf
 go_enter Tryz.func165, Tryz.ntmps165
 go_wp2_with ((with_reducible show wpList _ _ _ (_ :: _) _ _); refine ld_arr 92 w.heap.size (.agg cs) hld _ rfl rfl rfl ?_)
 clear hW1 hW2 hld
 obtain ⟨X, hX⟩ : ∃ X, W1.heap.size = X := ⟨_, rfl⟩
 rw [hX] at HR0 HX1 ⊢
 clear hX
 go_loopw [6] (Of6Rel f w X) (fun i _ => 8 - (intOf i).toNat)
 case atStart => exact HR0.out
 case round =>
  obtain ⟨j, rfl, hj, hb, hblk⟩ := hrel
  have HB := hid hb; have HBLK := hid hblk
  by_cases hlt : j < 8
  · have t1 : decide ((j : Int) < 8) = true := dcT (by omega)
    have t1' : decide (j < 8) = true := dcT hlt
    have q1 := inc j (by omega)
    have hix := HIX.out j hlt
    have hset := v6P_set f j hlt
    obtain ⟨hg1, hg2⟩ := v6P_get f j hlt
    have hfj := HF.out j hlt
    rw [byF_even, byF_odd] at hset
    obtain ⟨m, hm⟩ : ∃ m, 2 * j = m := ⟨_, rfl⟩
    rw [hm] at hset hg1 hg2
    have q2 : IntKind.i64.wrap (2 * (j : Int)) = (m : Int) := (i64n _ (by omega)).trans (by omega)
    have q3 : IntKind.i64.wrap ((m : Int) + 1) = ((m + 1 : Nat) : Int) := (i64n _ (by omega)).trans (by omega)
    obtain ⟨x, hx⟩ : ∃ x, f j = x := ⟨_, rfl⟩
    rw [hx] at hix hset hfj
    obtain ⟨x1, hx1⟩ : ∃ y, x / 256 = y := ⟨_, rfl⟩
    obtain ⟨x2, hx2⟩ : ∃ y, x % 256 = y := ⟨_, rfl⟩
    rw [hx1, hx2] at hset
    have q4 : (x : Int) / 256 = (x1 : Int) := by omega
    have q5 : IntKind.u8.wrap (x1 : Int) = (x1 : Int) := IntWalk.u8_in _ (by omega)
    have q6 : IntKind.u8.wrap (x : Int) = (x2 : Int) := by rw [← hx2]; go_num
    have c1 : wr.cell? ⟨X, m, none⟩ = some (.int .u8 0) := by simp [World.cell?, hblk, hg1]
    have f1 : wr.frozen? ⟨X, m, none⟩ = false := Go.Joins.unfrozen_of_block hblk m
    have hb1 := Go.Joins.block_setCell hblk (i := m) (.int .u8 x1)
    obtain ⟨V, hV⟩ : ∃ V, wr.setCell ⟨X, m, none⟩ (.int .u8 (x1 : Int)) = V := ⟨_, rfl⟩
    obtain ⟨m1, hm1⟩ : ∃ m', m + 1 = m' := ⟨_, rfl⟩
    rw [hm1] at q3 hset hg2
    have hb1' : V.heap[X]? = some (.cells ((v6P f j).setIfInBounds m (.int .u8 x1)) 125 (0, 0)) := by rw [← hV]; simpa using hb1
    have c2 : V.cell? ⟨X, m1, none⟩ = some (.int .u8 0) := by
     have : ((v6P f j).setIfInBounds m (.int .u8 (x1 : Int)))[m1]? = some (.int .u8 0) := by
      rw [Array.getElem?_setIfInBounds, if_neg (by omega)]; exact hg2
     simp [World.cell?, hb1', this]
    have f2 : V.frozen? ⟨X, m1, none⟩ = false := Go.Joins.unfrozen_of_block hb1' m1
    have hm8 : m < 16 := by omega
    have hm18 : m1 < 16 := by omega
    have R : Of6Rel f w X (.int .i64 ((j : Int) + 1)) (V.setCell ⟨X, m1, none⟩ (.int .u8 x2)) := ⟨j + 1, by go_num, hlt, by rw [← hV]; exact (hb.setCell (p := ⟨X, m, none⟩) HX1.out _).setCell (p := ⟨X, m1, none⟩) HX1.out _, by
     have := Go.Joins.block_setCell hb1' (i := m1) (.int .u8 x2)
     rw [hset] at this
     simpa using this⟩
    have HRR := hid R
    clear R hblk hb hset hg1 hg2 hm hx hx1 hx2 hb1 hb1' hm1 hfj
    go_wp2
    refine ⟨?_, by simp [intOf] <;> omega⟩
    first | exact HRR.out | ((repeat apply Exists.intro); exact ⟨HRR.out, rfl⟩)
  · have t1 : decide ((j : Int) < 8) = false := dcF (by omega)
    have t1' : decide (j < 8) = false := dcF hlt
    obtain rfl : j = 8 := by omega
    rw [v6P_all] at hblk
    have hld := v6_load (v6C f) rfl _ wr hblk
    have hst := v6_store (v6C f) (v6C f) rfl (v6C_one f) rfl _ wr hblk
    rw [row_same hblk] at hst
    generalize hcs : v6C f = cs at *
    have HCS := hid hcs
    clear hblk hb hcs
    go_wp2_with ((with_reducible show wpList _ _ _ (_ :: _) _ _); first | (refine ld_arr 125 X (.agg cs) hld _ rfl rfl rfl ?_) | (refine st_arr 125 X (.agg cs) hst _ _ rfl rfl rfl rfl ?_))
    (try simp only [Exit.inBlock, Exit.then])
    refine bodyPost_ret (v := .agg cs) (by simp [results, Tryz.results165, asAddr, hld, Act.put]) rfl ⟨by rw [HCS.out], HB.out⟩
def Gr6Rel (f : Nat → Nat) (_w W1 : World) (X : Nat) (iv : Value) (wr : World) : Prop := ∃ j : Nat, iv = .int .i64 j ∧ j ≤ 8 ∧ Below W1.heap.size W1 wr ∧ wr.heap[X]? = some (.cells (g8P f j) 92 (0, 0))
theorem hgroups_any (f : Nat → Nat) (w : World) (hf : ∀ j, j < 8 → f j < 65536) : Calls Tryz.prog 166 #[.agg (v6C f)] w fun e w' => e = .returned (.agg (g8C f)) ∧ Below w.heap.size w w' := by
 obtain ⟨W1, hW1⟩ : ∃ W, w.alloc (.cells (v6C f) 125) = W := ⟨_, rfl⟩
 have hb1 : Below w.heap.size w W1 := by rw [← hW1]; exact ext_alloc (Below.refl _ _) _
 have hx1 : W1.heap[w.heap.size]? = some (.cells (v6C f) 125 (0, 0)) := by rw [← hW1]; exact heap_alloc_new w _
 obtain ⟨W2, hW2⟩ : ∃ W, W1.alloc (.cells #[.int .u16 0, .int .u16 0, .int .u16 0, .int .u16 0, .int .u16 0, .int .u16 0, .int .u16 0, .int .u16 0] 92) = W := ⟨_, rfl⟩
 have hb2 : Below W1.heap.size W1 W2 := by rw [← hW2]; exact ext_alloc (Below.refl _ _) _
 have hx2 : W2.heap[W1.heap.size]? = some (.cells zero8 92 (0, 0)) := by rw [← hW2]; exact heap_alloc_new W1 _
 have HR0 : Hid (Gr6Rel f w W1 W1.heap.size (.int .i64 0) W2) := hid ⟨0, rfl, Nat.zero_le _, hb2, hx2⟩
 have HF := hid hf
 have HX0 := hid (heap_lt hx1)
 have HX1 := hid hb1; have HXX := hid hx1
 obtain ⟨cs, hcs⟩ : ∃ cs, v6C f = cs := ⟨_, rfl⟩
 rw [hcs] at hW1 ⊢
 clear hb1 hx1 hb2 hx2 hcs hf
 go_enter Tryz.func166, Tryz.ntmps166
 go_wp2_with fail
 clear hW1 hW2
 obtain ⟨X, hX⟩ : ∃ X, W1.heap.size = X := ⟨_, rfl⟩
 rw [hX] at HR0 ⊢
 have HXE := hid hX
 clear hX
 go_loopw [4] (Gr6Rel f w W1 X) (fun i _ => 8 - (intOf i).toNat)
 case atStart => exact HR0.out
 case round =>
  obtain ⟨j, rfl, hj, hb, hblk⟩ := hrel
  have HB := hid hb; have HBLK := hid hblk
  by_cases hlt : j < 8
  · have t1 : decide ((j : Int) < 8) = true := dcT (by omega)
    have t1' : decide (j < 8) = true := dcT hlt
    have q1 := inc j (by omega)
    have hset := g8P_set f j hlt
    have hg1 := g8P_get f j hlt
    obtain ⟨hv1, hv2⟩ := v6C_get f j hlt
    have hfj := HF.out j hlt
    obtain ⟨m, hm⟩ : ∃ m, 2 * j = m := ⟨_, rfl⟩
    rw [hm] at hv1 hv2
    have q2 : IntKind.i64.wrap (2 * (j : Int)) = (m : Int) := (i64n _ (by omega)).trans (by omega)
    have q3 : IntKind.i64.wrap ((m : Int) + 1) = ((m + 1 : Nat) : Int) := (i64n _ (by omega)).trans (by omega)
    obtain ⟨m1, hm1⟩ : ∃ m', m + 1 = m' := ⟨_, rfl⟩
    rw [hm1] at q3 hv2
    obtain ⟨x, hx⟩ : ∃ x, f j = x := ⟨_, rfl⟩
    rw [hx] at hset hfj hv1 hv2
    obtain ⟨x1, hx1⟩ : ∃ y, x / 256 = y := ⟨_, rfl⟩
    obtain ⟨x2, hx2⟩ : ∃ y, x % 256 = y := ⟨_, rfl⟩
    rw [hx1] at hv1
    rw [hx2] at hv2
    have q4 : IntKind.u16.wrap (x1 : Int) = (x1 : Int) := IntWalk.u16_in _ (by omega)
    have q5 : IntKind.u16.wrap ((x1 : Int) * 256) = (x1 : Int) * 256 := IntWalk.u16_in _ (by omega)
    have q6 : IntKind.u16.wrap (x2 : Int) = (x2 : Int) := IntWalk.u16_in _ (by omega)
    have q7 := bits_or16 x1 x2 (by omega) (by omega)
    rw [show x1 * 256 + x2 = x by omega] at q7
    have hxr : wr.heap[w.heap.size]? = some (.cells (v6C f) 125 (0, 0)) := (hb.block _ HX0.out).trans HXX.out
    have c1 : wr.cell? ⟨w.heap.size, m, none⟩ = some (.int .u8 x1) := by simp [World.cell?, hxr, hv1]
    have c2 : wr.cell? ⟨w.heap.size, m1, none⟩ = some (.int .u8 x2) := by simp [World.cell?, hxr, hv2]
    have c3 : wr.cell? ⟨X, j, none⟩ = some (.int .u16 0) := by simp [World.cell?, hblk, hg1]
    have f3 : wr.frozen? ⟨X, j, none⟩ = false := Go.Joins.unfrozen_of_block hblk j
    have hm8 : m < 16 := by omega
    have hm18 : m1 < 16 := by omega
    have HRR : Hid (∀ n, Gr6Rel f w W1 X (.int .i64 ((j : Int) + 1)) ((wr.drewN n).setCell ⟨X, j, none⟩ (.int .u16 x))) := hid (fun n => ⟨j + 1, by go_num, hlt, (ext_drewN n hb).setCell (p := ⟨X, j, none⟩) (Nat.le_of_eq HXE.out) _, by
     have := Go.Joins.block_setCell (w := wr.drewN n) hblk (i := j) (.int .u16 x)
     rw [hset] at this
     simpa using this⟩)
    clear hblk hb hset hg1 hm hx hx1 hx2 hm1 hfj hv1 hv2 hxr
    go_wp2_with fail
    go_region
    all_goals
     go_wp2
     refine ⟨?_, by simp [intOf] <;> omega⟩
     have R := HRR.out
     first | exact R _ | ((repeat apply Exists.intro); exact ⟨R _, rfl⟩)
  · have t1 : decide ((j : Int) < 8) = false := dcF (by omega)
    have t1' : decide (j < 8) = false := dcF hlt
    obtain rfl : j = 8 := by omega
    rw [g8P_all] at hblk
    have hld := g8_load (g8C f) rfl _ wr hblk
    have hst := g8_store (g8C f) (g8C f) rfl (g8C_one f) rfl _ wr hblk
    rw [row_same hblk] at hst
    have HBF := hid (xT HX1.out hb)
    generalize hcs : g8C f = cs at *
    have HCS := hid hcs
    clear hblk hb hcs
    go_wp2_with ((with_reducible show wpList _ _ _ (_ :: _) _ _); first | (refine ld_arr 92 X (.agg cs) hld _ rfl rfl rfl ?_) | (refine st_arr 92 X (.agg cs) hst _ _ rfl rfl rfl rfl ?_))
    (try simp only [Exit.inBlock, Exit.then])
    refine bodyPost_ret (v := .agg cs) (by simp [results, Tryz.results166, asAddr, hld, Act.put]) rfl ⟨by rw [HCS.out], HBF.out⟩
end
end Go.Proofs.YtbeodjipdpcaiaaGreatDoor
