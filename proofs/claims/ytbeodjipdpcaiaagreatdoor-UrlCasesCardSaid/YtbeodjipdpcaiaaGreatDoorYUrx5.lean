/- Texts put together. -/
import Derived.Test.YtbeodjipdpcaiaaGreatDoorYMore14
import Derived.Test.YtbeodjipdpcaiaaGreatDoorYUrx1s
import Derived.Test.YtbeodjipdpcaiaaGreatDoorYRwb0
import Derived.Test.YtbeodjipdpcaiaaGreatDoorYUrl4s
namespace Go.Proofs.YtbeodjipdpcaiaaGreatDoor
open Go.RowKit
theorem case_bad {b : Bool} {name path : List Nat} (hn : LetL name) (hb : name = [] ∨ 63 < name.length) : ∃ l, urlL (caseX b name path) = .er l := by
 obtain ⟨t, ht⟩ : ∃ t, caseX b name path = t := ⟨_, rfl⟩
 have hlb := let_bytes hn
 have hsf : ∀ c ∈ schS b, [58].contains c = false := by cases b <;> decide
 have hu := until_hit (m := [58]) (a := schS b) (c := 58) (r := 47 :: 47 :: (name ++ [46, 120] ++ 47 :: path)) hsf rfl
 have hte : schS b ++ 58 :: 47 :: 47 :: (name ++ [46, 120] ++ 47 :: path) = t := ht
 rw [hte] at hu
 have hd : t.drop ((untilA [58] t).length + 1) = 47 :: 47 :: (name ++ [46, 120] ++ 47 :: path) := by
  rw [hu.1, ← hte, ← List.drop_drop, List.drop_left]; rfl
 have hA : (partsL t ((untilA [58] t).length + 1)).hasA = true := by
  show slash2 (t.drop _) = true
  rw [hd]; rfl
 have hau : (partsL t ((untilA [58] t).length + 1)).auth = name ++ [46, 120] := by
  show (if slash2 (t.drop ((untilA [58] t).length + 1)) = true then untilA [47, 63, 35] ((t.drop ((untilA [58] t).length + 1)).drop 2) else []) = _
  rw [hd, if_pos (show slash2 (47 :: 47 :: (name ++ [46, 120] ++ 47 :: path)) = true from rfl)]
  exact (until_hit (m := [47, 63, 35]) (fun c hc => by have := hlb c hc; simp [this.2.2.1, this.2.2.2.1, this.2.2.2.2.1]) rfl).1
 rw [ht]
 cases h : urlL t with
 | er l => exact ⟨l, rfl⟩
 | ok u =>
   exfalso
   unfold urlL at h
   split at h
   · cases h
   · split at h
     · cases h
     · rename_i sch hsch
       obtain ⟨l, hl⟩ := auth_none (sch := sch) (a := name ++ [46, 120]) (fun c hc => (hlb c hc).2.2.2.2.2.1) (fun c hc => (hlb c hc).2.2.2.2.2.2) (by simp) (host_no hn hb) (partsL t ((untilA [58] t).length + 1)).authAt
       have hh : hostU sch (partsL t ((untilA [58] t).length + 1)) ((untilA [58] t).length + 1) = .er l := by
        unfold hostU
        rw [if_pos hA, hau]; exact hl
       rw [hh] at h
       cases h
def schA (b : Bool) : ByteArray := if b then ⟨#[104, 116, 116, 112, 115, 58, 47, 47]⟩ else ⟨#[104, 116, 116, 112, 58, 47, 47]⟩
def schM2 (b : Bool) : ByteArray := if b then ⟨#[104, 84, 84, 112, 115, 58, 47, 47]⟩ else ⟨#[72, 116, 84, 112, 58, 47, 47]⟩
def portA2 (b : Bool) : ByteArray := if b then ⟨#[58, 52, 52, 51]⟩ else ⟨#[58, 56, 48]⟩
theorem text_x (b : Bool) (N Pt : ByteArray) : bytesN (schA b ++ N ++ (⟨#[46, 120, 47]⟩ : ByteArray) ++ Pt) = caseX b (bytesN N) (bytesN Pt) := by
 rw [bytesN_add, bytesN_add, bytesN_add]
 unfold caseX
 have : bytesN (schA b) = schS b ++ [58, 47, 47] := by cases b <;> rfl
 rw [this]
 show _ ++ bytesN N ++ [46, 120, 47] ++ bytesN Pt = _
 simp
theorem text_a (b : Bool) (N Pt : ByteArray) : bytesN (schA b ++ N ++ (⟨#[46, 120, 47]⟩ : ByteArray) ++ Pt ++ (⟨#[65]⟩ : ByteArray)) = caseX b (bytesN N) (bytesN Pt ++ [65]) := by
 rw [bytesN_add, text_x]
 unfold caseX
 show _ ++ [65] = _
 simp
theorem text_z (b : Bool) (N Pt : ByteArray) : bytesN (schA b ++ N ++ (⟨#[46, 120, 58, 56, 49, 47]⟩ : ByteArray) ++ Pt) = caseZ b (bytesN N) (bytesN Pt) := by
 rw [bytesN_add, bytesN_add, bytesN_add]
 unfold caseZ
 have : bytesN (schA b) = schS b ++ [58, 47, 47] := by cases b <;> rfl
 rw [this]
 show _ ++ bytesN N ++ [46, 120, 58, 56, 49, 47] ++ bytesN Pt = _
 simp
theorem text_y (b : Bool) (N G Pt : ByteArray) (hG : bytesN G = (bytesN N).map upN) : bytesN (schM2 b ++ G ++ (⟨#[46, 88, 46]⟩ : ByteArray) ++ portA2 b ++ (⟨#[47]⟩ : ByteArray) ++ Pt) = caseY b (bytesN N) (bytesN Pt) := by
 rw [bytesN_add, bytesN_add, bytesN_add, bytesN_add, bytesN_add, hG]
 unfold caseY
 have e1 : bytesN (schM2 b) = schM b ++ [58, 47, 47] := by cases b <;> rfl
 have e2 : bytesN (portA2 b) = 58 :: portS b := by cases b <;> rfl
 rw [e1, e2]
 show _ ++ (bytesN N).map upN ++ [46, 88, 46] ++ (58 :: portS b) ++ [47] ++ bytesN Pt = _
 simp
theorem eqU_xy {b : Bool} {name path : List Nat} (hn : LetL name) (h0 : name ≠ []) (h63 : name.length ≤ 63) (hp : LetL path) (hl : path.length ≤ 300) :
    equalU (urlL (caseX b name path)) (urlL (caseY b name path)) = true ∧ equalU (urlL (caseX b name path)) (urlL (caseX b name (path ++ [65]))) = false ∧ equalU (urlL (caseX b name path)) (urlL (caseZ b name path)) = false := by
 have h1 := case_x (b := b) hn h0 h63 (let_path hp) (by omega)
 have h2 := case_y (b := b) hn h0 h63 hp (by omega)
 have h3 := case_z (b := b) hn h0 h63 hp (by omega)
 have h4 := case_x (b := b) (path := path ++ [65]) hn h0 h63 (fun c hc => by
  rcases List.mem_append.1 hc with hc | hc
  · exact let_path hp c hc
  · rcases List.mem_singleton.1 hc with rfl; decide) (by simp; omega)
 rw [h1, h2, h3, h4]
 refine ⟨eqU_refl _, eqU_path ?_, eqU_port ?_⟩
 · show (47 :: path).length ≠ (47 :: (path ++ [65])).length
   simp
 · show ownP (schS b) ≠ 81
   cases b <;> decide
def NlRel (s : ByteArray) (W : World) (iv : Value) (wr : World) : Prop := ∃ j : Nat, iv = .int .i64 j ∧ j ≤ s.size ∧ (∀ i, i < j → 97 ≤ byteAt s i ∧ byteAt s i ≤ 122) ∧ wr = W
theorem let_of {s : ByteArray} (h : ∀ i, i < s.size → 97 ≤ byteAt s i ∧ byteAt s i ≤ 122) : LetL (bytesN s) := fun c hc => by
 obtain ⟨i, hi, rfl⟩ := List.mem_iff_getElem.1 hc
 rw [bytesN_len] at hi
 have hg := bytesN_get (B := s) (i := i) hi
 rw [List.getElem?_eq_getElem (by rw [bytesN_len]; exact hi)] at hg
 rw [Option.some.inj hg]
 exact h i hi
set_option maxRecDepth 100000 in
set_option maxHeartbeats 4000000 in
theorem ucases_long (s p : ByteArray) (b : Bool) (w : World) (hEn : HEnv w) (h : 300 < s.size ∨ 300 < p.size) : Calls Tryz.prog 10 #[.string s, .string p, .bool b] w fun e w' => e = .returned (.bool true) ∧ Below w.heap.size w w' := by
 have SPK := Lib.hid (speaks14 w hEn)
 have key : ∀ (x y : Bool), decide (300 < s.size) = x → decide (300 < p.size) = y → (x || y) = true → Calls Tryz.prog 10 #[.string s, .string p, .bool b] w fun e w' => e = .returned (.bool true) ∧ Below w.heap.size w w' := by
  intro x y hx hy hor
  have u1 : decide ((300 : Int) < (s.size : Int)) = x := by rw [← hx]; exact decide_eq_decide.2 (by omega)
  have u2 : decide ((300 : Int) < (p.size : Int)) = y := by rw [← hy]; exact decide_eq_decide.2 (by omega)
  clear hx hy h hEn
  cases x <;> cases y
  all_goals first
   | (exfalso; exact absurd hor (by decide))
   | (clear hor
      go_enter Tryz.func10, Tryz.ntmps10
      go_wp2_with fail
      refine SPK.out.mono ?_
      rintro e w2 ⟨rfl, hb2⟩
      have HB2 := Lib.hid hb2
      clear hb2
      go_wp2
      first
      | exact ⟨rfl, HB2.out⟩
      | (go_ret; exact ⟨rfl, HB2.out⟩))
 refine key _ _ rfl rfl ?_
 rcases h with h | h
 · rw [decide_eq_true h]; rfl
 · rw [decide_eq_true h]; cases decide (300 < s.size) <;> rfl
set_option maxRecDepth 100000 in
set_option maxHeartbeats 16000000 in
theorem ucases_short (s p : ByteArray) (b : Bool) (w : World) (hEn : HEnv w) (h1 : s.size ≤ 300) (h2 : p.size ≤ 300) : Calls Tryz.prog 10 #[.string s, .string p, .bool b] w fun e w' => e = .returned (.bool true) ∧ Below w.heap.size w w' := by
 have SPK := Lib.hid (speaks14 w hEn)
 have HEN := Lib.hid hEn
 have u1 : decide ((300 : Int) < (s.size : Int)) = false := decide_eq_false (by omega)
 have u2 : decide ((300 : Int) < (p.size : Int)) = false := decide_eq_false (by omega)
 clear hEn
 go_enter Tryz.func10, Tryz.ntmps10
 go_wp2_with fail
 refine SPK.out.mono ?_
 rintro e w2 ⟨rfl, hb2⟩
 have HB2 := Lib.hid hb2
 clear hb2
 go_wp2_with fail
 go_loopw [7] (NlRel s w2) (fun i _ => s.size - (intOf i).toNat)
 case atStart => exact ⟨0, rfl, Nat.zero_le _, fun i h => by omega, rfl⟩
 case round =>
  obtain ⟨j, rfl, hj, hn, rfl⟩ := hrel
  have HN := Lib.hid hn
  clear hn u1 u2
  by_cases hlt : j < s.size
  · have t1 : decide ((j : Int) < (s.size : Int)) = true := decide_eq_true (by omega)
    have t1' : decide (j < s.size) = true := decide_eq_true hlt
    have q1 : IntKind.i64.wrap ((j : Int) + 1) = (j : Int) + 1 := IntWalk.i64_in _ (by omega)
    have hgb := byteAt_get s j hlt
    obtain ⟨x, hx⟩ : ∃ x, byteAt s j = x := ⟨_, rfl⟩
    rw [hx] at hgb
    have hgx := hgb.symm
    clear hgb
    by_cases l1 : x < 97
    · have t2 : decide ((x : Int) < 97) = true := decide_eq_true (by omega)
      clear hx l1
      go_wp2
      first
      | exact ⟨rfl, HB2.out⟩
      | (go_ret; exact ⟨rfl, HB2.out⟩)
    · have t2 : decide ((x : Int) < 97) = false := decide_eq_false (by omega)
      by_cases l2 : 122 < x
      · have t3 : decide ((122 : Int) < (x : Int)) = true := decide_eq_true (by omega)
        clear hx l1 l2
        go_wp2
        first
        | exact ⟨rfl, HB2.out⟩
        | (go_ret; exact ⟨rfl, HB2.out⟩)
      · have t3 : decide ((122 : Int) < (x : Int)) = false := decide_eq_false (by omega)
        have R1 : NlRel s wr (.int .i64 ((j : Int) + 1)) wr := ⟨j + 1, by go_num, hlt, fun i hi => by
         by_cases h : i < j
         · exact HN.out i h
         · obtain rfl : i = j := by omega
           rw [hx]; exact ⟨by omega, by omega⟩, rfl⟩
        have HR := Lib.hid R1
        clear R1 hx l1 l2
        go_wp2
        refine ⟨?_, by simp [intOf]; omega⟩
        have R := HR.out
        first | exact R | ((repeat apply Exists.intro); exact ⟨R, rfl⟩)
  · have t1 : decide ((j : Int) < (s.size : Int)) = false := decide_eq_false (by omega)
    have t1' : decide (j < s.size) = false := decide_eq_false hlt
    obtain rfl : j = s.size := by omega
    have HLN := Lib.hid (let_of HN.out)
    clear hlt HN
    obtain ⟨w3, hw3⟩ : ∃ W, wr = W := ⟨_, rfl⟩
    have HB3 := HB2
    rw [hw3] at HB3 ⊢
    clear HB2 SPK hw3
    go_wp2_with fail
    go_loopw [9] (NlRel p w3) (fun i _ => p.size - (intOf i).toNat)
    case atStart => exact ⟨0, rfl, Nat.zero_le _, fun i h => by omega, rfl⟩
    case round =>
     obtain ⟨j, rfl, hj, hn, rfl⟩ := hrel
     have HN := Lib.hid hn
     clear hn t1 t1'
     by_cases hlt : j < p.size
     · have t1 : decide ((j : Int) < (p.size : Int)) = true := decide_eq_true (by omega)
       have t1' : decide (j < p.size) = true := decide_eq_true hlt
       have q1 : IntKind.i64.wrap ((j : Int) + 1) = (j : Int) + 1 := IntWalk.i64_in _ (by omega)
       have hgb := byteAt_get p j hlt
       obtain ⟨x, hx⟩ : ∃ x, byteAt p j = x := ⟨_, rfl⟩
       rw [hx] at hgb
       have hgx := hgb.symm
       clear hgb
       by_cases l1 : x < 97
       · have t2 : decide ((x : Int) < 97) = true := decide_eq_true (by omega)
         clear hx l1
         go_wp2
         first
         | exact ⟨rfl, HB3.out⟩
         | (go_ret; exact ⟨rfl, HB3.out⟩)
       · have t2 : decide ((x : Int) < 97) = false := decide_eq_false (by omega)
         by_cases l2 : 122 < x
         · have t3 : decide ((122 : Int) < (x : Int)) = true := decide_eq_true (by omega)
           clear hx l1 l2
           go_wp2
           first
           | exact ⟨rfl, HB3.out⟩
           | (go_ret; exact ⟨rfl, HB3.out⟩)
         · have t3 : decide ((122 : Int) < (x : Int)) = false := decide_eq_false (by omega)
           have R1 : NlRel p wr (.int .i64 ((j : Int) + 1)) wr := ⟨j + 1, by go_num, hlt, fun i hi => by
            by_cases h : i < j
            · exact HN.out i h
            · obtain rfl : i = j := by omega
              rw [hx]; exact ⟨by omega, by omega⟩, rfl⟩
           have HR := Lib.hid R1
           clear R1 hx l1 l2
           go_wp2
           refine ⟨?_, by simp [intOf]; omega⟩
           have R := HR.out
           first | exact R | ((repeat apply Exists.intro); exact ⟨R, rfl⟩)
     · have t1 : decide ((j : Int) < (p.size : Int)) = false := decide_eq_false (by omega)
       have t1' : decide (j < p.size) = false := decide_eq_false hlt
       obtain rfl : j = p.size := by omega
       have HLP := Lib.hid (let_of HN.out)
       clear hlt HN
       obtain ⟨w4, hw4⟩ : ∃ W, wr = W := ⟨_, rfl⟩
       have HB4 := HB3
       rw [hw4] at HB4 ⊢
       clear HB3 hw4
       obtain ⟨cap, W0, hcv, hcap, L0⟩ := gw_start (fun i => byteAt s i - 32) s w4
       have HL0 := Lib.hid L0
       clear L0
       obtain ⟨G, hG⟩ : ∃ G, bytesL ((bytesN s).map upN) = G := ⟨_, rfl⟩
       have hGz : G.size = s.size := by rw [← hG, bytesL_size, List.length_map, bytesN_len]
       have hGN : bytesN G = (bytesN s).map upN := by rw [← hG]; exact bytesN_bytesL (fun c hc => by
        obtain ⟨d, hd, rfl⟩ := List.mem_map.1 hc
        have := HLN.out d hd
        unfold upN; omega)
       have hGA : ∀ i, i < s.size → byteAt G i = byteAt s i - 32 := fun i hi => by
        rw [byteAt_bytesN, hGN, List.getElem?_map, bytesN_get hi]; rfl
       have HGN := Lib.hid hGN; have HGA := Lib.hid hGA; have HGZ := Lib.hid hGz
       clear hG hGz hGN hGA
       cases b
       · go_wp2_with fail
         go_loopw [63] (GwRel (fun i => byteAt s i - 32) s w4 w4.heap.size) (fun i _ => s.size - (intOf i).toNat)
         case atStart => exact ⟨0, rfl, Nat.zero_le _, HL0.out⟩
         case round =>
          obtain ⟨j, rfl, hj, hA⟩ := hrel
          have HA := Lib.hid hA
          clear hcv t1 t1'
          by_cases hlt : j < s.size
          · have t1 : decide ((j : Int) < (s.size : Int)) = true := decide_eq_true (by omega)
            have t1' : decide (j < s.size) = true := decide_eq_true hlt
            have q1 : IntKind.i64.wrap ((j : Int) + 1) = (j : Int) + 1 := IntWalk.i64_in _ (by omega)
            have c0 := hA.cell j hlt
            have f0 := hA.fz j hlt
            have e0 : gwA (fun i => byteAt s i - 32) s j j = byteAt s j := by unfold gwA; rw [if_neg (by omega)]
            rw [e0] at c0
            have hp := hA.put hlt
            have hxl : 97 ≤ byteAt s j ∧ byteAt s j ≤ 122 := by
             have := HLN.out (byteAt s j) (List.mem_of_getElem? (bytesN_get hlt))
             exact this
            obtain ⟨x, hx⟩ : ∃ x, byteAt s j = x := ⟨_, rfl⟩
            simp only [hx] at hp
            rw [hx] at c0 hxl
            obtain ⟨g, hg⟩ : ∃ g, x - 32 = g := ⟨_, rfl⟩
            rw [hg] at hp
            have qs : IntKind.u8.wrap ((x : Int) - 32) = (g : Nat) := by rw [IntWalk.u8_in _ (by omega)]; omega
            have R1 : GwRel (fun i => byteAt s i - 32) s w4 w4.heap.size (.int .i64 ((j : Int) + 1)) (wr.setCell ⟨w4.heap.size, j, none⟩ (.int .u8 (g : Nat))) := ⟨j + 1, by go_num, hlt, hp⟩
            have HR1 := Lib.hid R1
            clear R1 hp hA e0 hx hg hxl
            go_wp2
            refine ⟨?_, by simp [intOf]; omega⟩
            have R := HR1.out
            first | exact R | ((repeat apply Exists.intro); exact ⟨R, rfl⟩)
          · have t1 : decide ((j : Int) < (s.size : Int)) = false := decide_eq_false (by omega)
            have t1' : decide (j < s.size) = false := decide_eq_false hlt
            obtain rfl : j = s.size := by omega
            have cvn : ∀ n, (convert 29 9 (.slice (some ⟨w4.heap.size, 0, none⟩) s.size cap)).run Tryz.prog (wr.drewN n) = .ok (.string G) (wr.drewN n) := fun n => bytes_back (wr.drewN n) w4.heap.size 0 s.size cap G HGZ.out (fun i hi => by
             rw [Nat.zero_add, HGA.out i hi]
             exact (hA.cell i hi).trans (by unfold gwA; rw [if_pos hi]))
            have hbw : Below w.heap.size w wr := ext_trans HB4.out hA.below
            have HBW := Lib.hid hbw
            have hgz := HGZ.out
            have tx := text_x false s p
            have ta := text_a false s p
            have tz := text_z false s p
            have ty := text_y false s G p HGN.out
            unfold schA at tx ta tz
            unfold schM2 portA2 at ty
            simp only [if_false, if_false, Bool.false_eq_true] at tx ta tz ty
            obtain ⟨X1, hX1⟩ : ∃ X, (⟨#[104, 116, 116, 112, 58, 47, 47]⟩ : ByteArray) ++ s = X := ⟨_, rfl⟩
            rw [hX1] at tx ta tz
            obtain ⟨X2, hX2⟩ : ∃ X, X1 ++ (⟨#[46, 120, 47]⟩ : ByteArray) = X := ⟨_, rfl⟩
            rw [hX2] at tx ta
            obtain ⟨X, hX⟩ : ∃ X, X2 ++ p = X := ⟨_, rfl⟩
            rw [hX] at tx ta
            obtain ⟨XA, hXA⟩ : ∃ Y, X ++ (⟨#[65]⟩ : ByteArray) = Y := ⟨_, rfl⟩
            rw [hXA] at ta
            obtain ⟨Z1, hZ1⟩ : ∃ Y, X1 ++ (⟨#[46, 120, 58, 56, 49, 47]⟩ : ByteArray) = Y := ⟨_, rfl⟩
            rw [hZ1] at tz
            obtain ⟨Z, hZ⟩ : ∃ Y, Z1 ++ p = Y := ⟨_, rfl⟩
            rw [hZ] at tz
            obtain ⟨Y1, hY1⟩ : ∃ Y, (⟨#[72, 116, 84, 112, 58, 47, 47]⟩ : ByteArray) ++ G = Y := ⟨_, rfl⟩
            rw [hY1] at ty
            obtain ⟨Y2, hY2⟩ : ∃ Y, Y1 ++ (⟨#[46, 88, 46]⟩ : ByteArray) = Y := ⟨_, rfl⟩
            rw [hY2] at ty
            obtain ⟨Y3, hY3⟩ : ∃ Y, Y2 ++ (⟨#[58, 56, 48]⟩ : ByteArray) = Y := ⟨_, rfl⟩
            rw [hY3] at ty
            obtain ⟨Y4, hY4⟩ : ∃ Y, Y3 ++ (⟨#[47]⟩ : ByteArray) = Y := ⟨_, rfl⟩
            rw [hY4] at ty
            obtain ⟨Y, hY⟩ : ∃ Y, Y4 ++ p = Y := ⟨_, rfl⟩
            rw [hY] at ty
            have z1 : X1.size ≤ 310 := by rw [← hX1, ByteArray.size_append]; have : (⟨#[104, 116, 116, 112, 58, 47, 47]⟩ : ByteArray).size ≤ 10 := (by decide); omega
            have z2 : X2.size ≤ 320 := by rw [← hX2, ByteArray.size_append]; have : (⟨#[46, 120, 47]⟩ : ByteArray).size ≤ 10 := (by decide); omega
            have z3 : X.size ≤ 620 := by rw [← hX, ByteArray.size_append]; omega
            have z4 : XA.size ≤ 621 := by rw [← hXA, ByteArray.size_append]; have : (⟨#[65]⟩ : ByteArray).size = 1 := rfl; omega
            have z5 : Z1.size ≤ 320 := by rw [← hZ1, ByteArray.size_append]; have : (⟨#[46, 120, 58, 56, 49, 47]⟩ : ByteArray).size ≤ 10 := (by decide); omega
            have z6 : Z.size ≤ 620 := by rw [← hZ, ByteArray.size_append]; omega
            have z7 : Y1.size ≤ 310 := by rw [← hY1, ByteArray.size_append]; have : (⟨#[72, 116, 84, 112, 58, 47, 47]⟩ : ByteArray).size ≤ 10 := (by decide); omega
            have z8 : Y2.size ≤ 320 := by rw [← hY2, ByteArray.size_append]; have : (⟨#[46, 88, 46]⟩ : ByteArray).size ≤ 10 := (by decide); omega
            have z9 : Y3.size ≤ 330 := by rw [← hY3, ByteArray.size_append]; have : (⟨#[58, 56, 48]⟩ : ByteArray).size ≤ 10 := (by decide); omega
            have z10 : Y4.size ≤ 340 := by rw [← hY4, ByteArray.size_append]; have : (⟨#[47]⟩ : ByteArray).size ≤ 10 := (by decide); omega
            have z11 : Y.size ≤ 640 := by rw [← hY, ByteArray.size_append]; omega
            by_cases hok : 1 ≤ s.size ∧ s.size ≤ 63
            · have hl0 : bytesN s ≠ [] := fun e => by have := bytesN_len s; rw [e] at this; simp at this; omega
              obtain ⟨r1, r2, r3⟩ := eqU_xy (b := false) HLN.out hl0 (by rw [bytesN_len]; omega) HLP.out (by rw [bytesN_len]; exact h2)
              rw [← tx, ← ty] at r1
              rw [← ta, ← tx] at r2
              rw [← tz, ← tx] at r3
              have E1 : Hid (∀ n, Calls Tryz.prog 37 #[.string X, .string Y] (wr.drewN n) fun e w' => e = .returned (.bool true) ∧ Below wr.heap.size wr w') := Lib.hid (fun n => by
               have := uequal_any X Y (wr.drewN n) (by omega) (by omega) (HEN.out.ext (ext_drewN n hbw))
               rw [r1] at this
               exact this.mono fun e w' h => ⟨h.1, ext_trans (ext_drewN n (Below.refl _ wr)) h.2⟩)
              have E2 : Hid (∀ W, Below w.heap.size w W → Calls Tryz.prog 37 #[.string X, .string XA] W fun e w' => e = .returned (.bool false) ∧ Below W.heap.size W w') := Lib.hid (fun W h => by
               have := uequal_any X XA W (by omega) (by omega) (HEN.out.ext h)
               rw [r2] at this
               exact this)
              have E3 : Hid (∀ W, Below w.heap.size w W → Calls Tryz.prog 37 #[.string X, .string Z] W fun e w' => e = .returned (.bool false) ∧ Below W.heap.size W w') := Lib.hid (fun W h => by
               have := uequal_any X Z W (by omega) (by omega) (HEN.out.ext h)
               rw [r3] at this
               exact this)
              have v1 : decide ((s.size : Int) < 1) = false := decide_eq_false (by omega)
              have v2 : decide ((63 : Int) < (s.size : Int)) = false := decide_eq_false (by omega)
              clear hA hbw tx ta tz ty r1 r2 r3 hl0 hok hlt
              go_wp2_with fail
              go_quiet (fail)
              clear cvn
              go_wp2_with fail
              refine (E1.out _).mono ?_
              rintro e w5 ⟨rfl, hb5⟩
              have HB5 := Lib.hid (ext_trans HBW.out hb5)
              clear hb5
              go_wp2_with fail
              refine (E2.out _ HB5.out).mono ?_
              rintro e w6 ⟨rfl, hb6⟩
              have HB6 := Lib.hid (ext_trans HB5.out hb6)
              clear hb6
              go_wp2_with fail
              refine (E3.out _ HB6.out).mono ?_
              rintro e w7 ⟨rfl, hb7⟩
              have HB7 := Lib.hid (ext_trans HB6.out hb7)
              clear hb7
              go_wp2
              first
              | exact ⟨rfl, HB7.out⟩
              | (go_ret; exact ⟨rfl, HB7.out⟩)
            · obtain ⟨l, hl⟩ := case_bad (b := false) (path := bytesN p) HLN.out (by
                rw [bytesN_len]
                by_cases h0 : s.size = 0
                · exact .inl (List.eq_nil_of_length_eq_zero (by rw [bytesN_len]; exact h0))
                · exact .inr (by omega))
              rw [← tx] at hl
              have E1 : Hid (∀ n, Calls Tryz.prog 37 #[.string X, .string X] (wr.drewN n) fun e w' => e = .returned (.bool false) ∧ Below wr.heap.size wr w') := Lib.hid (fun n => by
               have := uequal_any X X (wr.drewN n) (by omega) (by omega) (HEN.out.ext (ext_drewN n hbw))
               rw [hl] at this
               exact this.mono fun e w' h => ⟨h.1, ext_trans (ext_drewN n (Below.refl _ wr)) h.2⟩)
              obtain ⟨va, hva⟩ : ∃ v, decide (s.size < 1) = v := ⟨_, rfl⟩
              obtain ⟨vb, hvb⟩ : ∃ v, decide (63 < s.size) = v := ⟨_, rfl⟩
              have v1 : decide ((s.size : Int) < 1) = va := by rw [← hva]; exact decide_eq_decide.2 (by omega)
              have v2 : decide ((63 : Int) < (s.size : Int)) = vb := by rw [← hvb]; exact decide_eq_decide.2 (by omega)
              have hor : (va || vb) = true := by rw [← hva, ← hvb, Bool.or_eq_true, decide_eq_true_eq, decide_eq_true_eq]; omega
              clear hA hbw tx ta tz ty hl hok hlt hva hvb
              cases va <;> cases vb
              all_goals first
               | (exfalso; exact absurd hor (by decide))
               | (clear hor
                  go_wp2_with fail
                  go_quiet (fail)
                  clear cvn
                  go_wp2_with fail
                  refine (E1.out _).mono ?_
                  rintro e w5 ⟨rfl, hb5⟩
                  have HB5 := Lib.hid (ext_trans HBW.out hb5)
                  clear hb5
                  go_wp2
                  first
                  | exact ⟨rfl, HB5.out⟩
                  | (go_ret; exact ⟨rfl, HB5.out⟩))
       · go_wp2_with fail
         go_loopw [63] (GwRel (fun i => byteAt s i - 32) s w4 w4.heap.size) (fun i _ => s.size - (intOf i).toNat)
         case atStart => exact ⟨0, rfl, Nat.zero_le _, HL0.out⟩
         case round =>
          obtain ⟨j, rfl, hj, hA⟩ := hrel
          have HA := Lib.hid hA
          clear hcv t1 t1'
          by_cases hlt : j < s.size
          · have t1 : decide ((j : Int) < (s.size : Int)) = true := decide_eq_true (by omega)
            have t1' : decide (j < s.size) = true := decide_eq_true hlt
            have q1 : IntKind.i64.wrap ((j : Int) + 1) = (j : Int) + 1 := IntWalk.i64_in _ (by omega)
            have c0 := hA.cell j hlt
            have f0 := hA.fz j hlt
            have e0 : gwA (fun i => byteAt s i - 32) s j j = byteAt s j := by unfold gwA; rw [if_neg (by omega)]
            rw [e0] at c0
            have hp := hA.put hlt
            have hxl : 97 ≤ byteAt s j ∧ byteAt s j ≤ 122 := by
             have := HLN.out (byteAt s j) (List.mem_of_getElem? (bytesN_get hlt))
             exact this
            obtain ⟨x, hx⟩ : ∃ x, byteAt s j = x := ⟨_, rfl⟩
            simp only [hx] at hp
            rw [hx] at c0 hxl
            obtain ⟨g, hg⟩ : ∃ g, x - 32 = g := ⟨_, rfl⟩
            rw [hg] at hp
            have qs : IntKind.u8.wrap ((x : Int) - 32) = (g : Nat) := by rw [IntWalk.u8_in _ (by omega)]; omega
            have R1 : GwRel (fun i => byteAt s i - 32) s w4 w4.heap.size (.int .i64 ((j : Int) + 1)) (wr.setCell ⟨w4.heap.size, j, none⟩ (.int .u8 (g : Nat))) := ⟨j + 1, by go_num, hlt, hp⟩
            have HR1 := Lib.hid R1
            clear R1 hp hA e0 hx hg hxl
            go_wp2
            refine ⟨?_, by simp [intOf]; omega⟩
            have R := HR1.out
            first | exact R | ((repeat apply Exists.intro); exact ⟨R, rfl⟩)
          · have t1 : decide ((j : Int) < (s.size : Int)) = false := decide_eq_false (by omega)
            have t1' : decide (j < s.size) = false := decide_eq_false hlt
            obtain rfl : j = s.size := by omega
            have cvn : ∀ n, (convert 29 9 (.slice (some ⟨w4.heap.size, 0, none⟩) s.size cap)).run Tryz.prog (wr.drewN n) = .ok (.string G) (wr.drewN n) := fun n => bytes_back (wr.drewN n) w4.heap.size 0 s.size cap G HGZ.out (fun i hi => by
             rw [Nat.zero_add, HGA.out i hi]
             exact (hA.cell i hi).trans (by unfold gwA; rw [if_pos hi]))
            have hbw : Below w.heap.size w wr := ext_trans HB4.out hA.below
            have HBW := Lib.hid hbw
            have hgz := HGZ.out
            have tx := text_x true s p
            have ta := text_a true s p
            have tz := text_z true s p
            have ty := text_y true s G p HGN.out
            unfold schA at tx ta tz
            unfold schM2 portA2 at ty
            simp only [if_true, if_true] at tx ta tz ty
            obtain ⟨X1, hX1⟩ : ∃ X, (⟨#[104, 116, 116, 112, 115, 58, 47, 47]⟩ : ByteArray) ++ s = X := ⟨_, rfl⟩
            rw [hX1] at tx ta tz
            obtain ⟨X2, hX2⟩ : ∃ X, X1 ++ (⟨#[46, 120, 47]⟩ : ByteArray) = X := ⟨_, rfl⟩
            rw [hX2] at tx ta
            obtain ⟨X, hX⟩ : ∃ X, X2 ++ p = X := ⟨_, rfl⟩
            rw [hX] at tx ta
            obtain ⟨XA, hXA⟩ : ∃ Y, X ++ (⟨#[65]⟩ : ByteArray) = Y := ⟨_, rfl⟩
            rw [hXA] at ta
            obtain ⟨Z1, hZ1⟩ : ∃ Y, X1 ++ (⟨#[46, 120, 58, 56, 49, 47]⟩ : ByteArray) = Y := ⟨_, rfl⟩
            rw [hZ1] at tz
            obtain ⟨Z, hZ⟩ : ∃ Y, Z1 ++ p = Y := ⟨_, rfl⟩
            rw [hZ] at tz
            obtain ⟨Y1, hY1⟩ : ∃ Y, (⟨#[104, 84, 84, 112, 115, 58, 47, 47]⟩ : ByteArray) ++ G = Y := ⟨_, rfl⟩
            rw [hY1] at ty
            obtain ⟨Y2, hY2⟩ : ∃ Y, Y1 ++ (⟨#[46, 88, 46]⟩ : ByteArray) = Y := ⟨_, rfl⟩
            rw [hY2] at ty
            obtain ⟨Y3, hY3⟩ : ∃ Y, Y2 ++ (⟨#[58, 52, 52, 51]⟩ : ByteArray) = Y := ⟨_, rfl⟩
            rw [hY3] at ty
            obtain ⟨Y4, hY4⟩ : ∃ Y, Y3 ++ (⟨#[47]⟩ : ByteArray) = Y := ⟨_, rfl⟩
            rw [hY4] at ty
            obtain ⟨Y, hY⟩ : ∃ Y, Y4 ++ p = Y := ⟨_, rfl⟩
            rw [hY] at ty
            have z1 : X1.size ≤ 310 := by rw [← hX1, ByteArray.size_append]; have : (⟨#[104, 116, 116, 112, 115, 58, 47, 47]⟩ : ByteArray).size ≤ 10 := (by decide); omega
            have z2 : X2.size ≤ 320 := by rw [← hX2, ByteArray.size_append]; have : (⟨#[46, 120, 47]⟩ : ByteArray).size ≤ 10 := (by decide); omega
            have z3 : X.size ≤ 620 := by rw [← hX, ByteArray.size_append]; omega
            have z4 : XA.size ≤ 621 := by rw [← hXA, ByteArray.size_append]; have : (⟨#[65]⟩ : ByteArray).size = 1 := rfl; omega
            have z5 : Z1.size ≤ 320 := by rw [← hZ1, ByteArray.size_append]; have : (⟨#[46, 120, 58, 56, 49, 47]⟩ : ByteArray).size ≤ 10 := (by decide); omega
            have z6 : Z.size ≤ 620 := by rw [← hZ, ByteArray.size_append]; omega
            have z7 : Y1.size ≤ 310 := by rw [← hY1, ByteArray.size_append]; have : (⟨#[104, 84, 84, 112, 115, 58, 47, 47]⟩ : ByteArray).size ≤ 10 := (by decide); omega
            have z8 : Y2.size ≤ 320 := by rw [← hY2, ByteArray.size_append]; have : (⟨#[46, 88, 46]⟩ : ByteArray).size ≤ 10 := (by decide); omega
            have z9 : Y3.size ≤ 330 := by rw [← hY3, ByteArray.size_append]; have : (⟨#[58, 52, 52, 51]⟩ : ByteArray).size ≤ 10 := (by decide); omega
            have z10 : Y4.size ≤ 340 := by rw [← hY4, ByteArray.size_append]; have : (⟨#[47]⟩ : ByteArray).size ≤ 10 := (by decide); omega
            have z11 : Y.size ≤ 640 := by rw [← hY, ByteArray.size_append]; omega
            by_cases hok : 1 ≤ s.size ∧ s.size ≤ 63
            · have hl0 : bytesN s ≠ [] := fun e => by have := bytesN_len s; rw [e] at this; simp at this; omega
              obtain ⟨r1, r2, r3⟩ := eqU_xy (b := true) HLN.out hl0 (by rw [bytesN_len]; omega) HLP.out (by rw [bytesN_len]; exact h2)
              rw [← tx, ← ty] at r1
              rw [← ta, ← tx] at r2
              rw [← tz, ← tx] at r3
              have E1 : Hid (∀ n, Calls Tryz.prog 37 #[.string X, .string Y] (wr.drewN n) fun e w' => e = .returned (.bool true) ∧ Below wr.heap.size wr w') := Lib.hid (fun n => by
               have := uequal_any X Y (wr.drewN n) (by omega) (by omega) (HEN.out.ext (ext_drewN n hbw))
               rw [r1] at this
               exact this.mono fun e w' h => ⟨h.1, ext_trans (ext_drewN n (Below.refl _ wr)) h.2⟩)
              have E2 : Hid (∀ W, Below w.heap.size w W → Calls Tryz.prog 37 #[.string X, .string XA] W fun e w' => e = .returned (.bool false) ∧ Below W.heap.size W w') := Lib.hid (fun W h => by
               have := uequal_any X XA W (by omega) (by omega) (HEN.out.ext h)
               rw [r2] at this
               exact this)
              have E3 : Hid (∀ W, Below w.heap.size w W → Calls Tryz.prog 37 #[.string X, .string Z] W fun e w' => e = .returned (.bool false) ∧ Below W.heap.size W w') := Lib.hid (fun W h => by
               have := uequal_any X Z W (by omega) (by omega) (HEN.out.ext h)
               rw [r3] at this
               exact this)
              have v1 : decide ((s.size : Int) < 1) = false := decide_eq_false (by omega)
              have v2 : decide ((63 : Int) < (s.size : Int)) = false := decide_eq_false (by omega)
              clear hA hbw tx ta tz ty r1 r2 r3 hl0 hok hlt
              go_wp2_with fail
              go_quiet (fail)
              clear cvn
              go_wp2_with fail
              refine (E1.out _).mono ?_
              rintro e w5 ⟨rfl, hb5⟩
              have HB5 := Lib.hid (ext_trans HBW.out hb5)
              clear hb5
              go_wp2_with fail
              refine (E2.out _ HB5.out).mono ?_
              rintro e w6 ⟨rfl, hb6⟩
              have HB6 := Lib.hid (ext_trans HB5.out hb6)
              clear hb6
              go_wp2_with fail
              refine (E3.out _ HB6.out).mono ?_
              rintro e w7 ⟨rfl, hb7⟩
              have HB7 := Lib.hid (ext_trans HB6.out hb7)
              clear hb7
              go_wp2
              first
              | exact ⟨rfl, HB7.out⟩
              | (go_ret; exact ⟨rfl, HB7.out⟩)
            · obtain ⟨l, hl⟩ := case_bad (b := true) (path := bytesN p) HLN.out (by
                rw [bytesN_len]
                by_cases h0 : s.size = 0
                · exact .inl (List.eq_nil_of_length_eq_zero (by rw [bytesN_len]; exact h0))
                · exact .inr (by omega))
              rw [← tx] at hl
              have E1 : Hid (∀ n, Calls Tryz.prog 37 #[.string X, .string X] (wr.drewN n) fun e w' => e = .returned (.bool false) ∧ Below wr.heap.size wr w') := Lib.hid (fun n => by
               have := uequal_any X X (wr.drewN n) (by omega) (by omega) (HEN.out.ext (ext_drewN n hbw))
               rw [hl] at this
               exact this.mono fun e w' h => ⟨h.1, ext_trans (ext_drewN n (Below.refl _ wr)) h.2⟩)
              obtain ⟨va, hva⟩ : ∃ v, decide (s.size < 1) = v := ⟨_, rfl⟩
              obtain ⟨vb, hvb⟩ : ∃ v, decide (63 < s.size) = v := ⟨_, rfl⟩
              have v1 : decide ((s.size : Int) < 1) = va := by rw [← hva]; exact decide_eq_decide.2 (by omega)
              have v2 : decide ((63 : Int) < (s.size : Int)) = vb := by rw [← hvb]; exact decide_eq_decide.2 (by omega)
              have hor : (va || vb) = true := by rw [← hva, ← hvb, Bool.or_eq_true, decide_eq_true_eq, decide_eq_true_eq]; omega
              clear hA hbw tx ta tz ty hl hok hlt hva hvb
              cases va <;> cases vb
              all_goals first
               | (exfalso; exact absurd hor (by decide))
               | (clear hor
                  go_wp2_with fail
                  go_quiet (fail)
                  clear cvn
                  go_wp2_with fail
                  refine (E1.out _).mono ?_
                  rintro e w5 ⟨rfl, hb5⟩
                  have HB5 := Lib.hid (ext_trans HBW.out hb5)
                  clear hb5
                  go_wp2
                  first
                  | exact ⟨rfl, HB5.out⟩
                  | (go_ret; exact ⟨rfl, HB5.out⟩))
/-- waybilllaw14.UrlCases -/
theorem urlCases_any (s p : ByteArray) (b : Bool) (w : World) (hEn : HEnv w) : Calls Tryz.prog 10 #[.string s, .string p, .bool b] w fun e w' => e = .returned (.bool true) ∧ Below w.heap.size w w' := by
 by_cases h : 300 < s.size ∨ 300 < p.size
 · exact ucases_long s p b w hEn h
 · exact ucases_short s p b w hEn (by omega) (by omega)
end Go.Proofs.YtbeodjipdpcaiaaGreatDoor
