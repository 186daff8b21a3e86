/- Texts put together. -/
import Derived.Test.YtbeodjipdpcaiaaGreatDoorYMore14
import Derived.Test.YtbeodjipdpcaiaaGreatDoorYUrl4s
import Derived.Test.YtbeodjipdpcaiaaGreatDoorYUrp0s
import Derived.Test.YtbeodjipdpcaiaaGreatDoorYUrx1s
import Derived.Test.YtbeodjipdpcaiaaGreatDoorYRwb0
namespace Go.Proofs.YtbeodjipdpcaiaaGreatDoor
section
open Go.RowKit
def partsT (h path query frag : List Nat) (port : Nat) : List Nat := httpsL ++ 58 :: 47 :: 47 :: (((h ++ [46, 120]) ++ 58 :: decN port) ++ 47 :: path ++ 63 :: query ++ 35 :: frag)
def partsU (h path query frag : List Nat) (port : Nat) : UrlP := ⟨httpsL, 1, h ++ [46, 120], (port : Nat), 47 :: path, query, frag, true, true⟩
theorem decN_len {n : Nat} (h : n < 18446744073709551616) : (decN n).length ≤ 20 := by
 unfold decN; rw [bytesN_len]; exact decB_size h
theorem parts_url {h path query frag : List Nat} {port : Nat} (hn : LetL h) (h0 : h ≠ []) (hl : h.length ≤ 60) (hp : LetL path) (hpl : path.length ≤ 60) (hq : LetL query) (hql : query.length ≤ 60) (hf : LetL frag) (hfl : frag.length ≤ 60) (hport : port < 65536) :
    urlL (partsT h path query frag port) = .ok (partsU h path query frag port) := by
 obtain ⟨s1, s2, _⟩ := sch_facts true
 have hb := let_bytes hn
 have hd := decN_bytes port
 have hdl := decN_len (n := port) (by omega)
 have ha := fun at_ => auth_ported (sch := schS true) (a := h ++ [46, 120]) (p := decN port) (n := port) (fun c hc => (hb c hc).2.2.2.2.2.1) (by simp) (by have := canon_back (host_x hn h0 (by omega)); exact this) hd.2 hd.1 (portL_dec (by omega)) at_
 have := url_of (Q := some query) (F := some frag) s1 s2 (fun c hc => by
  rcases List.mem_append.1 hc with hc | hc
  · have := hb c hc; omega
  · rcases List.mem_cons.1 hc with rfl | hc
    · decide
    · have := hd.2 c hc; omega) ha (let_path hp) (fun q h => by cases h; exact fun c hc => by have := let_path hq c hc; omega) (fun q h => by cases h; exact fun c hc => by have := let_path hf c hc; omega) (by
      have e : (schS true).length = 5 := rfl
      simp only [List.length_append, List.length_cons, List.length_nil, e]
      omega)
 exact this
end
section
open Go.RowKit
def Dg14Rel (n : Nat) (w : World) (nv sv : Value) (wr : World) : Prop := ∃ r, r < lenD n ∧ nv = .int .u16 ((n / 10 ^ r : Nat) : Int) ∧ sv = .string (decS r n) ∧ Below w.heap.size w wr
set_option maxRecDepth 100000 in
set_option maxHeartbeats 8000000 in
/-- waybilllaw14.digits -/
theorem digits14_any (n : Nat) (w : World) (hn : n < 65536) : Calls Tryz.prog 36 #[.int .u16 n] w fun e w' => e = .returned (.string (decB n)) ∧ Below w.heap.size w w' := by
 have HL := Lib.hid (lenD_iff n)
 have HP := Lib.hid (lenD_pos n)
 have HX := Lib.hid (lenD_le (n := n) (by omega))
 have HN := Lib.hid hn
 have H0 : Hid (Dg14Rel n w (.int .u16 n) (.string ⟨#[]⟩) w) := Lib.hid ⟨0, HP.out, by simp, by rw [decS_zero], Below.refl _ _⟩
 clear hn
 go_enter Tryz.func36, Tryz.ntmps36
 go_wp2_with fail
 go_loopw [0, 3] (Dg14Rel n w) (fun a _ _ => (intOf a).toNat)
 case atStart => exact H0.out
 case round =>
  obtain ⟨r, hr, rfl, rfl, hb⟩ := hrel
  have HB := Lib.hid hb
  have hsz := decS_size r n
  have hr20 : r < 20 := Nat.lt_of_lt_of_le hr HX.out
  obtain ⟨m, hm⟩ : ∃ m, n / 10 ^ r = m := ⟨_, rfl⟩
  have hm64 : m < 65536 := by
   have := Nat.div_le_self n (10 ^ r)
   have := HN.out
   omega
  have hcons := decS_cons r n
  have hnext : n / 10 ^ (r + 1) = m / 10 := by rw [← hm, Nat.pow_succ, Nat.div_div_eq_div_mul]
  have hiff := HL.out (r + 1) (by omega)
  rw [hnext] at hiff
  rw [hm] at hcons ⊢
  obtain ⟨d, hd⟩ : ∃ d, m % 10 = d := ⟨_, rfl⟩
  obtain ⟨p, hp⟩ : ∃ p, m / 10 = p := ⟨_, rfl⟩
  rw [hd] at hcons
  rw [hp] at hiff hnext
  have hd10 : d < 10 := by omega
  have hpm : p < m ∨ (p = 0 ∧ m = 0) := by omega
  obtain ⟨g, hg⟩ : ∃ g, 48 + d = g := ⟨_, rfl⟩
  rw [hg] at hcons
  have tm : (m : Int).tmod 10 = (d : Int) := by rw [Int.tmod_eq_emod_of_nonneg (by omega)]; omega
  have td : (m : Int).tdiv 10 = (p : Int) := by rw [Int.tdiv_eq_ediv_of_nonneg (by omega)]; omega
  have k0 : IntKind.u16.wrap (d : Int) = (d : Int) := IntWalk.u16_in _ (by omega)
  have k1 : IntKind.u16.wrap (48 + (d : Int)) = (g : Int) := (IntWalk.u16_in _ (by omega)).trans (by omega)
  have k2 : IntKind.u8.wrap (g : Int) = (g : Int) := IntWalk.u8_in _ (by omega)
  have k3 : IntKind.u16.wrap (p : Int) = (p : Int) := IntWalk.u16_in _ (by omega)
  obtain ⟨W1, hW1⟩ : ∃ W, wr.alloc (.cells #[.int .u8 (g : Int)] 5) = W := ⟨_, rfl⟩
  have hb1 : Below wr.heap.size wr W1 := by rw [← hW1]; exact ext_alloc (Below.refl _ _) _
  have cv : (convert 29 9 (.slice (some ⟨wr.heap.size, 0, none⟩) 1 1)).run Tryz.prog W1 = .ok (.string ⟨#[UInt8.ofNat g]⟩) W1 := by
   refine bytes_back W1 wr.heap.size 0 1 1 ⟨#[UInt8.ofNat g]⟩ rfl (fun i hi => ?_)
   obtain rfl : i = 0 := by omega
   rw [← hW1]
   have : byteAt ⟨#[UInt8.ofNat g]⟩ 0 = g := by unfold byteAt; simp; omega
   rw [this]
   simp
  obtain ⟨X, hX⟩ : ∃ X : ByteArray, (⟨#[UInt8.ofNat g]⟩ : ByteArray) = X := ⟨_, rfl⟩
  have z1 : X.size = 1 := by rw [← hX]; rfl
  rw [hX] at cv hcons
  obtain ⟨Y, hY⟩ : ∃ Y, decS r n = Y := ⟨_, rfl⟩
  rw [hY] at hcons hsz ⊢
  obtain ⟨Z, hZ⟩ : ∃ Z, X ++ Y = Z := ⟨_, rfl⟩
  rw [hZ] at hcons
  have hyz : Y.size ≤ 20 := by omega
  have HB1 := Lib.hid (ext_trans hb hb1)
  have HCO := Lib.hid hcons
  have HDL : Hid (decB n = decS (lenD n) n) := Lib.hid rfl
  by_cases h0 : p = 0
  · have t0 : ((p : Int) == 0) = true := beq_iff_eq.2 (by omega)
    have HLE := Lib.hid (show lenD n = r + 1 by have := hiff.2 h0; omega)
    clear hm hd hp hnext hiff hcons hX h0 hr hpm hg hY hsz hb hb1 hr20 hm64
    go_wp2
    first
    | exact ⟨by rw [HDL.out, HLE.out, ← HCO.out]; rfl, HB1.out⟩
    | (go_ret; exact ⟨by rw [HDL.out, HLE.out, ← HCO.out]; rfl, HB1.out⟩)
  · have t0 : ((p : Int) == 0) = false := beq_eq_false_iff_ne.2 (by omega)
    have hr2 : r + 1 < lenD n := Nat.lt_of_not_le fun h => h0 (hiff.1 h)
    have HR : Hid (Dg14Rel n w (.int .u16 (p : Int)) (.string Z) W1) := Lib.hid ⟨r + 1, hr2, by rw [hnext], by rw [hcons], HB1.out⟩
    have hlt : p < m := by omega
    have HLT := Lib.hid hlt
    clear hm hd hp hlt hiff hnext hcons hX hr hr2 hpm h0 hg hY hsz hb hb1 hr20 hm64
    go_wp2
    refine ⟨?_, by have := HLT.out; simp [intOf]; omega⟩
    have R := HR.out
    first | exact R | ((repeat apply Exists.intro); exact ⟨R, rfl⟩)
def Pn14Rel (s : ByteArray) (W : World) (iv : Value) (wr : World) : Prop := ∃ j : Nat, iv = .int .i64 j ∧ j ≤ s.size ∧ (∀ i, i < j → 97 ≤ byteAt s i ∧ byteAt s i ≤ 122) ∧ wr = W
theorem plet_of {s : ByteArray} (h : ∀ i, i < s.size → 97 ≤ byteAt s i ∧ byteAt s i ≤ 122) : LetL (bytesN s) := fun c hc => by
 obtain ⟨i, hi, rfl⟩ := List.mem_iff_getElem.1 hc
 rw [bytesN_len] at hi
 have hg := bytesN_get (B := s) (i := i) hi
 rw [List.getElem?_eq_getElem (by rw [bytesN_len]; exact hi)] at hg
 rw [Option.some.inj hg]
 exact h i hi
def PartOk (s : ByteArray) : Prop := s.size ≤ 60 ∧ LetL (bytesN s)
def PtRel4 (l : List ByteArray) (W : World) (iv : Value) (wr : World) : Prop := ∃ j : Nat, iv = .int .i64 j ∧ j ≤ 4 ∧ (∀ i, i < j → ∀ s, l[i]? = some s → PartOk s) ∧ wr = W
theorem parts_text (H D Pt Qt F : ByteArray) (n : Nat) (hD : decB n = D) : bytesN ((⟨#[104, 116, 116, 112, 115, 58, 47, 47]⟩ : ByteArray) ++ H ++ (⟨#[46, 120, 58]⟩ : ByteArray) ++ D ++ (⟨#[47]⟩ : ByteArray) ++ Pt ++ (⟨#[63]⟩ : ByteArray) ++ Qt ++ (⟨#[35]⟩ : ByteArray) ++ F) = partsT (bytesN H) (bytesN Pt) (bytesN Qt) (bytesN F) n := by
 simp only [bytesN_add]
 unfold partsT
 have e : bytesN D = decN n := by rw [← hD]; rfl
 rw [e]
 show [104, 116, 116, 112, 115, 58, 47, 47] ++ bytesN H ++ [46, 120, 58] ++ decN n ++ [47] ++ bytesN Pt ++ [63] ++ bytesN Qt ++ [35] ++ bytesN F = _
 simp [httpsL]
theorem parts_cells (H Pt Qt F : ByteArray) (n : Nat) (HX PX : ByteArray) (hH : H ++ (⟨#[46, 120]⟩ : ByteArray) = HX) (hP : (⟨#[47]⟩ : ByteArray) ++ Pt = PX) : urlCells (partsU (bytesN H) (bytesN Pt) (bytesN Qt) (bytesN F) n) = #[.string ⟨#[104, 116, 116, 112, 115]⟩, .int .i64 1, .string HX, .int .i64 (n : Int), .string PX, .string Qt, .string F, .bool true, .bool true] := by
 unfold urlCells partsU urlA
 have e1 : bytesL (bytesN H ++ [46, 120]) = HX := by rw [bytesL_append, bytesL_bytesN, ← hH]; rfl
 have e2 : bytesL (47 :: bytesN Pt) = PX := by
  show bytesL ([47] ++ bytesN Pt) = _
  rw [bytesL_append, bytesL_bytesN, ← hP]; rfl
 simp only [e1, e2, bytesL_bytesN]
 rfl
set_option maxRecDepth 100000 in
set_option maxHeartbeats 16000000 in
/-- waybilllaw14.UrlParts -/
theorem urlParts_any (H Pt Qt F : ByteArray) (n : Nat) (w : World) (hn : n < 65536) (hEn : HEnv w) : Calls Tryz.prog 9 #[.string H, .string Pt, .string Qt, .string F, .int .u16 n] w fun e w' => e = .returned (.bool true) ∧ Below w.heap.size w w' := by
 have SPK := Lib.hid (speaks14 w hEn)
 have HEN := Lib.hid hEn; have HNN := Lib.hid hn
 clear hEn hn
 go_enter Tryz.func9, Tryz.ntmps9
 go_wp2_with fail
 refine SPK.out.mono ?_
 rintro e w2 ⟨rfl, hb2⟩
 have HB2 := Lib.hid hb2
 clear hb2
 obtain ⟨b, hb⟩ : ∃ b, w2.heap.size = b := ⟨_, rfl⟩
 obtain ⟨w3, hW3⟩ : ∃ W, w2.alloc (.cells #[.string H, .string Pt, .string Qt, .string F] 9) = W := ⟨_, rfl⟩
 have hb3 : Below w2.heap.size w2 w3 := by rw [← hW3]; exact ext_alloc (Below.refl _ _) _
 have hx3 : w3.heap[b]? = some (.cells #[.string H, .string Pt, .string Qt, .string F] 9 (0, 0)) := by rw [← hb, ← hW3]; exact heap_alloc_new w2 _
 have HB3 := Lib.hid (ext_trans HB2.out hb3)
 have HCL : Hid (∀ j, j < 4 → ∃ s, ([H, Pt, Qt, F] : List ByteArray)[j]? = some s ∧ w3.cell? ⟨b, j, none⟩ = some (.string s)) := Lib.hid (fun j hj => by
  match j, hj with
  | 0, _ => exact ⟨H, rfl, Lib.cell_of_heap hx3 0⟩
  | 1, _ => exact ⟨Pt, rfl, Lib.cell_of_heap hx3 1⟩
  | 2, _ => exact ⟨Qt, rfl, Lib.cell_of_heap hx3 2⟩
  | 3, _ => exact ⟨F, rfl, Lib.cell_of_heap hx3 3⟩)
 clear hb3 hx3
 go_wp2_with fail
 go_loopw [25] (PtRel4 [H, Pt, Qt, F] w3) (fun i _ => 4 - (intOf i).toNat)
 case atStart => exact ⟨0, rfl, Nat.zero_le _, fun i h => by omega, rfl⟩
 case round =>
  obtain ⟨j, rfl, hj, hok, rfl⟩ := hrel
  have HOK := Lib.hid hok
  clear hok hW3 hb
  by_cases hlt : j < 4
  · have t1 : decide ((j : Int) < 4) = true := decide_eq_true (by omega)
    have t1' : decide (j < 4) = true := decide_eq_true hlt
    have q1 : IntKind.i64.wrap ((j : Int) + 1) = (j : Int) + 1 := IntWalk.i64_in _ (by omega)
    obtain ⟨s, hs, c0⟩ := HCL.out j hlt
    have HS := Lib.hid hs
    obtain ⟨wo, hwo⟩ : ∃ W, wr = W := ⟨_, rfl⟩
    rw [hwo] at HB3 HCL c0 ⊢
    clear hs hwo
    by_cases h60 : 60 < s.size
    · have t2 : decide ((60 : Int) < (s.size : Int)) = true := decide_eq_true (by omega)
      have t2' : decide (60 < s.size) = true := decide_eq_true h60
      clear h60
      go_wp2
      first
      | exact ⟨rfl, HB3.out⟩
      | (go_ret; exact ⟨rfl, HB3.out⟩)
    · have t2 : decide ((60 : Int) < (s.size : Int)) = false := decide_eq_false (by omega)
      have t2' : decide (60 < s.size) = false := decide_eq_false h60
      have H60 := Lib.hid h60
      have hj4 : j + 1 ≤ 4 := hlt
      clear h60
      go_wp2_with fail
      clear t1 t1' t2 t2' c0
      go_loopw [13] (Pn14Rel s wo) (fun i _ => s.size - (intOf i).toNat)
      case atStart => exact ⟨0, rfl, Nat.zero_le _, fun i h => by omega, rfl⟩
      case round =>
       obtain ⟨i, rfl, hi, hn, hw⟩ := hrel
       subst hw
       have HN := Lib.hid hn
       have hsz : s.size ≤ 60 := by have := H60.out; omega
       clear hn
       by_cases hil : i < s.size
       · have s1 : decide ((i : Int) < (s.size : Int)) = true := decide_eq_true (by omega)
         have s1' : decide (i < s.size) = true := decide_eq_true hil
         have q2 : IntKind.i64.wrap ((i : Int) + 1) = (i : Int) + 1 := IntWalk.i64_in _ (by omega)
         have hgb := byteAt_get s i hil
         obtain ⟨x, hx⟩ : ∃ x, byteAt s i = x := ⟨_, rfl⟩
         rw [hx] at hgb
         have hgx := hgb.symm
         clear hgb
         by_cases l1 : x < 97
         · have t2 : decide ((x : Int) < 97) = true := decide_eq_true (by omega)
           clear hx l1
           go_wp2
           first
           | exact ⟨rfl, HB3.out⟩
           | (go_ret; exact ⟨rfl, HB3.out⟩)
         · have t2 : decide ((x : Int) < 97) = false := decide_eq_false (by omega)
           by_cases l2 : 122 < x
           · have t3 : decide ((122 : Int) < (x : Int)) = true := decide_eq_true (by omega)
             clear hx l1 l2
             go_wp2
             first
             | exact ⟨rfl, HB3.out⟩
             | (go_ret; exact ⟨rfl, HB3.out⟩)
           · have t3 : decide ((122 : Int) < (x : Int)) = false := decide_eq_false (by omega)
             have R1 : Pn14Rel s wr (.int .i64 ((i : Int) + 1)) wr := ⟨i + 1, by go_num, hil, fun k hk => by
              by_cases h : k < i
              · exact HN.out k h
              · obtain rfl : k = i := by omega
                rw [hx]; exact ⟨by omega, by omega⟩, rfl⟩
             have HR := Lib.hid R1
             clear R1 hx l1 l2
             go_wp2
             refine ⟨?_, by simp [intOf]; omega⟩
             have R := HR.out
             first | exact R | ((repeat apply Exists.intro); exact ⟨R, rfl⟩)
       · have s1 : decide ((i : Int) < (s.size : Int)) = false := decide_eq_false (by omega)
         have s1' : decide (i < s.size) = false := decide_eq_false hil
         obtain rfl : i = s.size := by omega
         have R1 : PtRel4 [H, Pt, Qt, F] wr (.int .i64 ((j : Int) + 1)) wr := ⟨j + 1, by go_num, hj4, fun k hk y hy => by
          by_cases h : k < j
          · exact HOK.out k h y hy
          · obtain rfl : k = j := by omega
            rw [HS.out] at hy
            obtain rfl := Option.some.inj hy
            exact ⟨hsz, plet_of HN.out⟩, rfl⟩
         have HR := Lib.hid R1
         clear R1 hil
         go_wp2
         refine ⟨?_, by simp [intOf]; omega⟩
         have R := HR.out
         first | exact R | ((repeat apply Exists.intro); exact ⟨R, rfl⟩)
  · have t1 : decide ((j : Int) < 4) = false := decide_eq_false (by omega)
    have t1' : decide (j < 4) = false := decide_eq_false hlt
    obtain rfl : j = 4 := by omega
    have o0 := HOK.out 0 (by omega) H rfl
    have o1 := HOK.out 1 (by omega) Pt rfl
    have o2 := HOK.out 2 (by omega) Qt rfl
    have o3 := HOK.out 3 (by omega) F rfl
    have HO := Lib.hid (And.intro o0 (And.intro o1 (And.intro o2 o3)))
    have zH := o0.1; have zP := o1.1; have zQ := o2.1; have zF := o3.1
    clear o0 o1 o2 o3 hlt HOK HCL
    obtain ⟨w4, hw4⟩ : ∃ W, wr = W := ⟨_, rfl⟩
    rw [hw4] at HB3 ⊢
    clear hw4
    by_cases h0 : H = ⟨#[]⟩
    · have t0 : (H.toList == []) = true := by rw [h0, ByteArray.toList_eq]; rfl
      clear h0
      go_wp2
      first
      | exact ⟨rfl, HB3.out⟩
      | (go_ret; exact ⟨rfl, HB3.out⟩)
    · have t0 : (H.toList == []) = false := by
        have h := beqS_f h0
        rw [show (⟨#[]⟩ : ByteArray).toList = [] by rw [ByteArray.toList_eq]] at h
        exact h
      have hH0 : bytesN H ≠ [] := fun e => h0 (by rw [← bytesL_bytesN H, e]; rfl)
      have hNN := HNN.out
      have hur := parts_url (port := n) HO.out.1.2 hH0 (by rw [bytesN_len]; exact zH) HO.out.2.1.2 (by rw [bytesN_len]; exact zP) HO.out.2.2.1.2 (by rw [bytesN_len]; exact zQ) HO.out.2.2.2.2 (by rw [bytesN_len]; exact zF) hNN
      have DG := Lib.hid (fun W => digits14_any n W hNN)
      have hDz : (decB n).size ≤ 20 := decB_size (by omega)
      obtain ⟨D, hD⟩ : ∃ D, decB n = D := ⟨_, rfl⟩
      rw [hD] at DG hDz
      have tx := parts_text H D Pt Qt F n hD
      obtain ⟨T1, hT1⟩ : ∃ T, (⟨#[104, 116, 116, 112, 115, 58, 47, 47]⟩ : ByteArray) ++ H = T := ⟨_, rfl⟩
      obtain ⟨T2, hT2⟩ : ∃ T, T1 ++ (⟨#[46, 120, 58]⟩ : ByteArray) = T := ⟨_, rfl⟩
      obtain ⟨T3, hT3⟩ : ∃ T, T2 ++ D = T := ⟨_, rfl⟩
      obtain ⟨T4, hT4⟩ : ∃ T, T3 ++ (⟨#[47]⟩ : ByteArray) = T := ⟨_, rfl⟩
      obtain ⟨T5, hT5⟩ : ∃ T, T4 ++ Pt = T := ⟨_, rfl⟩
      obtain ⟨T6, hT6⟩ : ∃ T, T5 ++ (⟨#[63]⟩ : ByteArray) = T := ⟨_, rfl⟩
      obtain ⟨T7, hT7⟩ : ∃ T, T6 ++ Qt = T := ⟨_, rfl⟩
      obtain ⟨T8, hT8⟩ : ∃ T, T7 ++ (⟨#[35]⟩ : ByteArray) = T := ⟨_, rfl⟩
      obtain ⟨T, hT⟩ : ∃ T, T8 ++ F = T := ⟨_, rfl⟩
      rw [hT1, hT2, hT3, hT4, hT5, hT6, hT7, hT8, hT] at tx
      obtain ⟨HX, hHX⟩ : ∃ T, H ++ (⟨#[46, 120]⟩ : ByteArray) = T := ⟨_, rfl⟩
      obtain ⟨PX, hPX⟩ : ∃ T, (⟨#[47]⟩ : ByteArray) ++ Pt = T := ⟨_, rfl⟩
      have hUC := parts_cells H Pt Qt F n HX PX hHX hPX
      have z1 : T1.size ≤ 68 := by rw [← hT1, ByteArray.size_append]; have : (⟨#[104, 116, 116, 112, 115, 58, 47, 47]⟩ : ByteArray).size = 8 := rfl; omega
      have z2 : T2.size ≤ 71 := by rw [← hT2, ByteArray.size_append]; have : (⟨#[46, 120, 58]⟩ : ByteArray).size = 3 := rfl; omega
      have z3 : T3.size ≤ 91 := by rw [← hT3, ByteArray.size_append]; omega
      have z4 : T4.size ≤ 92 := by rw [← hT4, ByteArray.size_append]; have : (⟨#[47]⟩ : ByteArray).size = 1 := rfl; omega
      have z5 : T5.size ≤ 152 := by rw [← hT5, ByteArray.size_append]; omega
      have z6 : T6.size ≤ 153 := by rw [← hT6, ByteArray.size_append]; have : (⟨#[63]⟩ : ByteArray).size = 1 := rfl; omega
      have z7 : T7.size ≤ 213 := by rw [← hT7, ByteArray.size_append]; omega
      have z8 : T8.size ≤ 214 := by rw [← hT8, ByteArray.size_append]; have : (⟨#[35]⟩ : ByteArray).size = 1 := rfl; omega
      have z9 : T.size ≤ 274 := by rw [← hT, ByteArray.size_append]; omega
      rw [← tx] at hur
      have PA : Hid (∀ W, HEnv W → Calls Tryz.prog 29 #[.string T] W fun e w' => Below W.heap.size W w' ∧ e = .returned (.tuple #[.agg #[.string ⟨#[104, 116, 116, 112, 115]⟩, .int .i64 1, .string HX, .int .i64 (n : Int), .string PX, .string Qt, .string F, .bool true, .bool true], .nilIface])) := Lib.hid (fun W h => by
       have := uparse_any T W (by omega) h
       rw [hur] at this
       rw [← hUC]
       exact this)
      have hCF : ∃ s k t p pa q f hq hf, (#[.string ⟨#[104, 116, 116, 112, 115]⟩, .int .i64 1, .string HX, .int .i64 (n : Int), .string PX, .string Qt, .string F, .bool true, .bool true] : Array Value) = urlA s k t p pa q f hq hf := ⟨⟨#[104, 116, 116, 112, 115]⟩, 1, HX, n, PX, Qt, F, true, true, rfl⟩
      have hQE := fun W => run_eqU (partsU (bytesN H) (bytesN Pt) (bytesN Qt) (bytesN F) n) (partsU (bytesN H) (bytesN Pt) (bytesN Qt) (bytesN F) n) W
      rw [eqU_refl, hUC] at hQE
      have HCF := Lib.hid hCF; have HQE := Lib.hid hQE
      have q5 : IntKind.i64.wrap (n : Int) = (n : Int) := IntWalk.i64_in _ (by omega)
      clear hur tx hUC hCF hQE hH0 h0 hD
      go_wp2_with fail
      refine (DG.out _).mono ?_
      rintro e w5 ⟨rfl, hb5⟩
      have HB5 := Lib.hid (ext_trans HB3.out hb5)
      clear hb5
      go_wp2_with fail
      refine (PA.out _ (HEN.out.ext HB5.out)).mono ?_
      rintro e v1 ⟨hb1, rfl⟩
      obtain ⟨a1, hA1⟩ : ∃ W, v1.alloc (.cells #[.string ⟨#[]⟩, .int .i64 0, .string ⟨#[]⟩, .int .i64 0, .string ⟨#[]⟩, .string ⟨#[]⟩, .string ⟨#[]⟩, .bool false, .bool false] 50) = W := ⟨_, rfl⟩
      obtain ⟨hst1, hx1, hbb1⟩ := url_box _ HCF.out v1 a1 hA1
      obtain ⟨w6, hW6⟩ : ∃ W, a1.setRow v1.heap.size #[.string ⟨#[104, 116, 116, 112, 115]⟩, .int .i64 1, .string HX, .int .i64 (n : Int), .string PX, .string Qt, .string F, .bool true, .bool true] = W := ⟨_, rfl⟩
      rw [hW6] at hst1 hx1 hbb1
      have HB6 := Lib.hid (ext_trans HB5.out (ext_trans hb1 hbb1)); have HX6 := Lib.hid hx1
      clear hb1 hx1 hbb1 hW6
      obtain ⟨a2, hA2⟩ : ∃ W, w6.alloc (.cells #[.string ⟨#[]⟩, .int .i64 0, .string ⟨#[]⟩, .int .i64 0, .string ⟨#[]⟩, .string ⟨#[]⟩, .string ⟨#[]⟩, .bool false, .bool false] 50) = W := ⟨_, rfl⟩
      obtain ⟨hst2, hx2, hbb2⟩ := url_box _ HCF.out w6 a2 hA2
      obtain ⟨w7, hW7⟩ : ∃ W, a2.setRow w6.heap.size #[.string ⟨#[104, 116, 116, 112, 115]⟩, .int .i64 1, .string HX, .int .i64 (n : Int), .string PX, .string Qt, .string F, .bool true, .bool true] = W := ⟨_, rfl⟩
      rw [hW7] at hst2 hx2 hbb2
      have HB7 := Lib.hid (ext_trans HB6.out hbb2)
      have hl1 := url_ld HCF.out ((hbb2.block _ (heap_lt HX6.out)).trans HX6.out)
      have hl2 := url_ld HCF.out hx2
      have hqe := HQE.out w7
      clear hx2 hbb2 hW7
      go_wp2_with ((with_reducible show wpList _ _ _ (_ :: _) _ _); first | (refine st_arr 50 v1.heap.size _ hst1 _ _ rfl rfl rfl rfl ?_) | (refine st_arr 50 w6.heap.size _ hst2 _ _ rfl rfl rfl rfl ?_) | (refine ld_arrG 50 v1.heap.size _ hl1 _ rfl rfl rfl ?_) | (refine ld_arrG 50 w6.heap.size _ hl2 _ rfl rfl rfl ?_) | (refine eq_arrG 50 _ _ _ _ url_noGuard hqe _ _ rfl rfl rfl rfl ?_))
      first
      | exact ⟨rfl, HB7.out⟩
      | (go_ret; exact ⟨rfl, HB7.out⟩)
end
end Go.Proofs.YtbeodjipdpcaiaaGreatDoor
