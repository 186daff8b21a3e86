/- Texts put together. -/
import Derived.Test.YtcaiibkgajhohaaGreatDoorYJsM7
import Derived.Test.YtcaiibkgajhohaaGreatDoorYErrs1s
import Derived.Maps.OwnOps
import Derived.Maps.Views
import Derived.StringKeys
import Derived.Lib.SmallJoins
import Derived.BigQuiet
namespace Go.Proofs.YtcaiibkgajhohaaGreatDoor
open Go.RowKit Go.WideMaps Go.Maps
/-- The last number of these that has a key; 0: none. -/
def lastK (js : List JN) (l : List Nat) (key : ByteArray) : Int := l.foldl (fun a k => if keyA js k = key then (k : Int) else a) 0
theorem lastK_snoc (js : List JN) (l : List Nat) (k : Nat) (key : ByteArray) : lastK js (l ++ [k]) key = if keyA js k = key then (k : Int) else lastK js l key := by simp [lastK]
def isLast (js : List JN) (all : List Nat) (k : Nat) : Bool := lastK js all (keyA js k) == (k : Int)
def membersS (js : List JN) (all : List Nat) : List Nat := all.filter (isLast js all)
def klit (s : ByteArray) : Lit := .string s.data.toList
theorem klit_inj {a b : ByteArray} (h : klit a = klit b) : a = b := by
 unfold klit at h
 injection h with h
 cases a; cases b
 simp only at h
 congr 1
 exact Array.toList_inj.1 h
theorem klit_key (s : ByteArray) : WideAt.IsKeyLit (klit s) := by unfold klit WideAt.IsKeyLit; trivial
abbrev i64L (n : Int) : DataW Unit := .lit (.int .i64 n)
def MapSays (js : List JN) (l : List Nat) (D : DataW Unit) : Prop := IsMap D ∧ ∀ key : ByteArray, D.atKey (klit key) (i64L 0) = i64L (lastK js l key)
theorem mapSays_nil (js : List JN) : MapSays js [] (.map []) := ⟨isMap_empty, fun _ => rfl⟩
theorem MapSays.put {js : List JN} {l : List Nat} {D : DataW Unit} (h : MapSays js l D) (k : Nat) : MapSays js (l ++ [k]) (D.put (klit (keyA js k)) (i64L k)) := by
 refine ⟨h.1.put _ _, fun key => ?_⟩
 rw [lastK_snoc]
 by_cases e : keyA js k = key
 · rw [if_pos e, ← e]
   exact atKey_put_same h.1 (klit_key _) _ _
 · rw [if_neg e, atKey_put_other (fun h => e (klit_inj h).symm)]
   exact h.2 key
theorem ownsMap_ext {P : Program} {k : TypeId} {R : Value → Option (DataW Unit × List MemPlace)} {w w' : World} {b n : Nat} {D : DataW Unit} (h : w.ownsMap P k R b n D) (hb : w'.heap[b]? = w.heap[b]?) : w'.ownsMap P k R b n D := by
 obtain ⟨es, c, h1, h2⟩ := h
 exact ⟨es, c, hb.trans h1, h2⟩
theorem keyLaw : Keyed Tryz.prog 9 := string_keyed Tryz.underlying9
theorem zeroInt (w : World) : (zeroValue 3).run Tryz.prog w = .ok (.int .i64 0) w := by kernel_rfl
theorem run_makeMap_some {P : Program} (t k e : TypeId) (n : Nat) (w : World) (ht : P.underlying t = some (.map k e)) : (Instr.makeMap t (some (.int .i64 (n : Int)))).run P w = .ok (.map (some w.heap.size)) (w.alloc (.map #[] 0)) := by
 simp [Instr.makeMap, run_underlying ht, go_sem]
def MpRel (js : List JN) (all : List Nat) (W : World) (k : Value) (wr : World) : Prop := ∃ (j : Nat) (D : DataW Unit), k = .int .i64 j ∧ j ≤ all.length ∧ wr.ownsMap Tryz.prog 9 (plainElem Tryz.prog 3) W.heap.size j D ∧ MapSays js (all.take j) D ∧ Below W.heap.size W wr
def pickS (js : List JN) (all : List Nat) (j : Nat) : List Nat := (all.take j).filter (isLast js all)
theorem pickS_len (js : List JN) (all : List Nat) (j : Nat) : (pickS js all j).length ≤ j := by
 have := List.length_filter_le (isLast js all) (all.take j)
 unfold pickS
 simp at this ⊢
 omega
def MbRel (js : List JN) (all : List Nat) (W : World) (D : DataW Unit) (v k : Value) (wr : World) : Prop := ∃ (j : Nat), k = .int .i64 j ∧ j ≤ all.length ∧ wr.ownsMap Tryz.prog 9 (plainElem Tryz.prog 3) W.heap.size all.length D ∧ Below W.heap.size W wr ∧ W.heap.size + 1 ≤ wr.heap.size ∧ wr.ownsRow (W.heap.size + 1) 3 1 v (pickS js all j).length (intsV (pickS js all j))
set_option maxRecDepth 100000 in
set_option maxHeartbeats 8000000 in
theorem members_any (w : World) (base D T : Nat) (s : PS) (nodes : Int) (tv : Value) (ns : List ANode) (i : Nat) (x : JN) (h : DocAt w base D s nodes T tv ns) (hj : s.js.length ≤ 100000) (hx : s.js[i]? = some x) (h6 : x.kind = 6) (hks : ∀ k, (keyA s.js k).size ≤ maxLen) :
    Calls Tryz.prog 55 #[ptrV D, .int .i64 i] w fun e w' => ∃ v, e = .returned (.tuple #[v, .nilIface]) ∧ Rd (Fresh w w') w' v (intsD (membersS s.js (kids s.ups i))) ∧ Below w.heap.size w w' := by
 have hil := (List.getElem?_eq_some_iff.1 hx).1
 have hl := h.len
 have hgl := h.good.len
 have cD := h.cD
 have hDw := heap_lt h.doc
 have OF := Lib.hid (fun ob (kv : Value) (hk : Rd (Own (w.alloc ob)) (w.alloc ob) kv (.list 1 (([6] : List Int).map (.int .i64)))) => of_any (w.alloc ob) base D T s nodes tv ns i kv [6] (h.below (ext_alloc (Below.refl _ _) ob)) (by omega) hk (by decide))
 have K6 := Lib.hid (show Rd (Own (w.alloc (.cells #[.int .i64 6] 3))) (w.alloc (.cells #[.int .i64 6] 3)) (.slice (some ⟨w.heap.size, 0, none⟩) 1 1) (.list 1 (([6] : List Int).map (.int .i64))) from by
  have ho := World.ownsRow_lit (base := w.heap.size) (e := 3) (size := 1) w #[.int .i64 6] 1 (Nat.le_refl _) (by decide) rfl
  refine rd_owned ho ⟨rfl, fun j u d hu hd => ?_⟩ (fun g hg => (ho.lt g hg).2)
  cases j with
  | zero => simp at hu hd; subst hu; subst hd; exact .int _ _
  | succ j => simp at hu)
 have hb1 := Lib.hid (fun ob : Obj => ext_alloc (Below.refl _ w) ob)
 have H := Lib.hid h; have HX := Lib.hid hx; have HKS := Lib.hid hks
 clear h hx hks
 go_enter Tryz.func55, Tryz.ntmps55
 go_wp2_with fail
 refine (OF.out _ _ K6.out).mono ?_
 intro e w2 hp
 have hp' : e = .returned (.tuple #[.agg #[.int .i64 x.kind, .string x.key, .string x.text, .int .i64 x.at_], .nilIface]) ∧ Below (w.alloc (.cells #[.int .i64 6] 3)).heap.size (w.alloc (.cells #[.int .i64 6] 3)) w2 := by
  rcases hp with ⟨i', x', hi, hx', h⟩ | ⟨hn, _⟩
  · obtain rfl : i = i' := by omega
    obtain rfl : x' = x := by rw [HX.out] at hx'; exact (Option.some.inj hx').symm
    rcases h with ⟨_, h1, h2⟩ | ⟨h1, _⟩
    · exact ⟨h1, h2⟩
    · exact absurd (by rw [h6]; simp) h1
  · omega
 obtain ⟨rfl, hb2⟩ := hp'
 have HB2 := Lib.hid (fun ob => ext_alloc (ext_trans (hb1.out _) hb2) ob)
 clear hp hb2
 have hcd : ∀ ob, (w2.alloc ob).cell? ⟨D, 0, none⟩ = some (ptrV T) := fun ob => (bcell1 (HB2.out ob) hDw 0).trans cD
 have KD := Lib.hid (fun ob => kids_any T tv ns s.ups nodes i (w2.alloc ob) ((H.out.below (HB2.out ob)).tree) H.out.good (by omega) (by omega))
 go_wp2_with fail
 refine (KD.out _).mono ?_
 rintro e w3 ⟨v3, rfl, hr3, hb3⟩
 have hmem : ∀ k ∈ kids s.ups i, k < s.js.length := fun k hk => by have := (mem_kids.1 hk).2.1; omega
 have hkl := kids_le s.ups i
 generalize hall : kids s.ups i = all at *
 have HALL := Lib.hid hall
 clear hall
 have HB3 := Lib.hid (ext_trans (HB2.out _) hb3)
 obtain ⟨a, c, rfl, _, hac, hcl⟩ := hr3.nats_inv
 have hcl' : ∀ j (hj : j < all.length), ∃ b off, a = some ⟨b, off, none⟩ ∧ b < w3.heap.size ∧ w3.cell? ⟨b, off + j, none⟩ = some (.int .i64 (all[j] : Nat)) := fun j hj => by
  obtain ⟨b, off, h1, h2, h3⟩ := hcl (by omega)
  exact ⟨b, off, h1, h2.2, h3 j hj⟩
 have HCL := Lib.hid hcl'
 have HMEM := Lib.hid hmem
 have hmk := run_makeMap_some (P := Tryz.prog) 184 9 3 all.length w3 Tryz.underlying184
 have HDK := Lib.hid (fun (W : World) (hW : Below w3.heap.size w3 W) (k : Nat) => dkey_any W base D T s nodes tv ns k (H.out.below (ext_trans HB3.out hW)) (by omega))
 have R0 : MpRel s.js all w3 (.int .i64 0) (w3.alloc (.map #[] 0)) := ⟨0, .map [], rfl, Nat.zero_le _, World.ownsMap_made _ _ _ _, mapSays_nil _, ext_alloc (Below.refl _ _) _⟩
 have HR0 := Lib.hid R0
 clear hb3 hr3 hcl hcl' hmem R0 hcd KD OF K6 HB2
 go_wp2_with fail
 go_loopw [36] (MpRel s.js all w3) (fun k _ => all.length - (intOf k).toNat)
 case atStart => exact HR0.out
 case round =>
  obtain ⟨j, DD, rfl, hja, hom, hsy, hbw⟩ := hrel
  by_cases hlt : j < all.length
  · have t1 : decide ((j : Int) < (all.length : Int)) = true := decide_eq_true (by omega)
    have t1' : decide (j < all.length) = true := decide_eq_true hlt
    have q1 : IntKind.i64.wrap ((j : Int) + 1) = (j : Int) + 1 := IntWalk.i64_in _ (by omega)
    obtain ⟨b, off, rfl, hbz, hcc⟩ := HCL.out j hlt
    have hcw := (bcell1 hbw hbz (off + j)).trans hcc
    have htk : all.take (j + 1) = all.take j ++ [all[j]] := List.take_succ_eq_append_getElem hlt
    have hkn := HMEM.out all[j] (List.getElem_mem hlt)
    have hwf : (Lit.int .i64 ((all[j] : Nat) : Int)).wf = true := WalkArith.wf_i64 (by omega)
    generalize all[j] = k at *
    have DK := Lib.hid (HDK.out wr hbw k)
    have HTK := Lib.hid htk; have HSY := Lib.hid hsy; have HOM := Lib.hid hom; have HBW := Lib.hid hbw; have HWF := Lib.hid hwf
    have hml : j < maxLen := by simp [maxLen]; omega
    clear htk hsy hom hbw hwf hmk hcc
    go_wp2_with fail
    refine DK.out.mono ?_
    rintro e w5 ⟨rfl, hb5⟩
    have hbm : w3.heap.size < wr.heap.size := by
     have := HOM.out.lt
     exact this
    have hom5 := ownsMap_ext HOM.out (hb5.block _ hbm)
    have HB5 := Lib.hid (ext_trans HBW.out hb5)
    have HKY : Hid (keyOf Tryz.prog 9 (.string (keyA s.js k)) = some (klit (keyA s.js k))) := Lib.hid (keyOf_string_mk Tryz.underlying9 (HKS.out k))
    have HOM5 := Lib.hid hom5
    clear hb5 hom5
    go_wp2_with (at_mapUpdate; refine wpList_mapUpdate_own _ rfl _ _ _ 184 rfl 9 3 keyLaw Tryz.underlying184 _ w3.heap.size j _ rfl HOM5.out hml _ _ _ rfl rfl HKY.out _ [] (plainElem_int Tryz.underlying3 HWF.out) ?_)
    intro w6 hown6 hgrow6
    have R1 : MpRel s.js all w3 (.int .i64 ((j : Int) + 1)) w6 := ⟨j + 1, _, by go_num, hlt, hown6, by rw [HTK.out]; exact HSY.out.put k, HB5.out.grown hgrow6 HB5.out.size (fun g hg => by cases hg; exact Nat.le_refl _)⟩
    have HR1 := Lib.hid R1
    clear hown6 hgrow6 R1
    go_wp2
    refine ⟨?_, by simp [intOf]; omega⟩
    have R := HR1.out
    first | exact R | ((repeat apply Exists.intro); exact ⟨R, rfl⟩)
  · have t1 : decide ((j : Int) < (all.length : Int)) = false := decide_eq_false (by omega)
    have t1' : decide (j < all.length) = false := decide_eq_false hlt
    obtain rfl : j = all.length := by omega
    rw [List.take_length] at hsy
    have R2 : MbRel s.js all w3 DD (.slice none 0 0) (.int .i64 0) wr := ⟨0, rfl, Nat.zero_le _, hom, hbw, hom.lt, World.ownsRow_nil _ _ _ _⟩
    have HR2 := Lib.hid R2
    have HSY := Lib.hid hsy
    clear R2 hsy hom hbw hmk
    go_wp2_with fail
    go_loopw [12, 48] (MbRel s.js all w3 DD) (fun _ k _ => all.length - (intOf k).toNat)
    case atStart => exact HR2.out
    case round =>
     obtain ⟨j, rfl, hja2, hom, hbw, hzz, hown⟩ := hrel
     obtain ⟨av, capv, rfl, _⟩ := aown_form hown
     have HOW := Lib.hid hown
     have hpl := pickS_len s.js all j
     by_cases hlt2 : j < all.length
     · have t2 : decide ((j : Int) < (all.length : Int)) = true := decide_eq_true (by omega)
       have t2' : decide (j < all.length) = true := decide_eq_true hlt2
       have q1 : IntKind.i64.wrap ((j : Int) + 1) = (j : Int) + 1 := IntWalk.i64_in _ (by omega)
       obtain ⟨b, off, rfl, hbz, hcc⟩ := HCL.out j hlt2
       have hcw := (bcell1 hbw hbz (off + j)).trans hcc
       have htk : pickS s.js all (j + 1) = pickS s.js all j ++ (if isLast s.js all all[j] then [all[j]] else []) := by
        unfold pickS
        rw [List.take_succ_eq_append_getElem hlt2, List.filter_append]
        congr 1
        cases h : isLast s.js all all[j] <;> simp [h]
       generalize all[j] = k at *
       have DK := Lib.hid (HDK.out wr hbw k)
       have HTK := Lib.hid htk; have HOM := Lib.hid hom; have HBW := Lib.hid hbw
       clear htk hom hbw hcc hown
       go_wp2_with fail
       refine DK.out.mono ?_
       rintro e w5 ⟨rfl, hb5⟩
       have hom5 := ownsMap_ext HOM.out (hb5.block _ HOM.out.lt)
       have HB5 := Lib.hid (ext_trans HBW.out hb5)
       have HKY : Hid (keyOf Tryz.prog 9 (.string (keyA s.js k)) = some (klit (keyA s.js k))) := Lib.hid (keyOf_string_mk Tryz.underlying9 (HKS.out k))
       have HOM5 := Lib.hid hom5
       have HOW5 := Lib.hid (aown_ext HOW.out (fun g hg => hb5.block g (HOW.out.lt g hg).2) (Nat.le_refl _))
       have hz5 : w3.heap.size + 1 ≤ w5.heap.size := Nat.le_trans hzz hb5.size
       clear hb5 hom5 HOW
       go_wp2_with (at_lookup; refine wpList_lookup_own_int _ rfl _ _ 184 rfl 9 3 .i64 keyLaw Tryz.underlying184 Tryz.underlying3 (zeroInt _) w3.heap.size _ _ rfl HOM5.out _ _ rfl HKY.out ?_)
       intro cc hat hwc
       obtain rfl : cc = lastK s.js all (keyA s.js k) := by
        have := hat.symm.trans (HSY.out.2 (keyA s.js k))
        simpa [i64L] using this
       cases hil2 : isLast s.js all k with
       | true =>
         have t3 : (lastK s.js all (keyA s.js k) == (k : Int)) = true := hil2
         have e := HTK.out
         rw [hil2, if_pos rfl] at e
         have HE := Lib.hid e
         clear e hat hwc hil2
         go_wp2_with (at_builtin; refine wpList_app1 w5 #[.int .i64 k] _ rfl _ _ 106 rfl (w3.heap.size + 1) elInt _ _ _ rfl HOW5.out rfl rfl ?c1 ?c2 ?c3 ?c4 ?_)
         case c1 => first | rfl | (intro u hu; simp at hu; subst hu; rfl)
         case c2 => simp [maxLen]; omega
         case c3 => omega
         case c4 => exact hz5
         intro v7 w7 ho7 hg7
         have hz7 : w3.heap.size + 1 ≤ (w5.alloc (.cells #[.int .i64 k] 3)).heap.size := by simp; omega
         have hb7 : Below w3.heap.size w3 w7 := (ext_alloc HB5.out _).grown hg7 (by omega) (fun g hg => by have := (HOW5.out.lt g hg).1; omega)
         have hom7 := ownsMap_ext HOM5.out (w' := w7) (by
          rw [hg7.block _ (by omega) (fun e => by have := (HOW5.out.lt _ e.symm).1; omega), Below.heap_alloc _ _ _ HOM5.out.lt])
         have R : MbRel s.js all w3 DD v7 (.int .i64 ((j : Int) + 1)) w7 := ⟨j + 1, by go_num, hlt2, hom7, hb7, Nat.le_trans hz7 hg7.size, by
          rw [HE.out]
          simpa [intsV] using ho7⟩
         have HR := Lib.hid R
         clear R ho7 hg7 hb7 hom7
         go_wp2
         refine ⟨?_, by simp [intOf]; omega⟩
         have R := HR.out
         first | exact R | ((repeat apply Exists.intro); exact ⟨R, rfl⟩)
       | false =>
         have t3 : (lastK s.js all (keyA s.js k) == (k : Int)) = false := hil2
         have e := HTK.out
         rw [hil2, if_neg (by decide), List.append_nil] at e
         have HE := Lib.hid e
         have R : MbRel s.js all w3 DD (.slice av (pickS s.js all j).length capv) (.int .i64 ((j : Int) + 1)) w5 := ⟨j + 1, by go_num, hlt2, HOM5.out, HB5.out, hz5, by
          rw [HE.out]; exact HOW5.out⟩
         have HR := Lib.hid R
         clear e hat hwc hil2 R
         go_wp2
         refine ⟨?_, by simp [intOf]; omega⟩
         have R := HR.out
         first | exact R | ((repeat apply Exists.intro); exact ⟨R, rfl⟩)
     · have t2 : decide ((j : Int) < (all.length : Int)) = false := decide_eq_false (by omega)
       have t2' : decide (j < all.length) = false := decide_eq_false hlt2
       obtain rfl : j = all.length := by omega
       have hfin : pickS s.js all all.length = membersS s.js all := by unfold pickS membersS; rw [List.take_length]
       rw [hfin] at HOW hpl
       have hz33 := HB3.out.size
       have hrd : Rd (Fresh w wr) wr (.slice av (membersS s.js all).length capv) (intsD (membersS s.js all)) := rd_owned HOW.out (intsV_rds _) (fun g hg => ⟨by have := (HOW.out.lt g hg).1; omega, (HOW.out.lt g hg).2⟩)
       have HRD := Lib.hid hrd
       have HF := Lib.hid (ext_trans HB3.out hbw)
       rw [hfin]
       clear hrd hom hbw hown
       go_wp2
       go_ret2
       first | exact ⟨_, rfl, HRD.out, HF.out⟩ | (rw [HALL.out]; exact ⟨_, rfl, HRD.out, HF.out⟩)
open Go.RowKit
def anyK (js : List JN) (l : List Nat) (key : ByteArray) : Bool := l.any fun k => decide (keyA js k = key)
theorem anyK_snoc (js : List JN) (l : List Nat) (k : Nat) (key : ByteArray) : anyK js (l ++ [k]) key = (anyK js l key || decide (keyA js k = key)) := by simp [anyK]
def MeRel (js : List JN) (all : List Nat) (key : ByteArray) (W : World) (f t k : Value) (wr : World) : Prop := ∃ (j : Nat), k = .int .i64 j ∧ j ≤ all.length ∧ f = .int .i64 (lastK js (all.take j) key) ∧ t = .bool (anyK js (all.take j) key) ∧ Below W.heap.size W wr
def MePost (w : World) (js : List JN) (all : List Nat) (key : ByteArray) (x : JN) (e : Ending) (w' : World) : Prop :=
 (anyK js all key = true ∧ e = .returned (.tuple #[.int .i64 (lastK js all key), .nilIface]) ∧ Below w.heap.size w w') ∨
 (anyK js all key = false ∧ ∃ u, e = .returned (.tuple #[.int .i64 0, .iface 85 (.pointer (some u))]) ∧ Failed w 30 x.at_ (.iface 85 (.pointer (some u))) w')
set_option maxRecDepth 100000 in
set_option maxHeartbeats 8000000 in
theorem member_any (w : World) (base D T : Nat) (s : PS) (nodes : Int) (tv : Value) (ns : List ANode) (i : Nat) (x : JN) (key : ByteArray) (h : DocAt w base D s nodes T tv ns) (hj : s.js.length ≤ 100000) (hx : s.js[i]? = some x) (h6 : x.kind = 6) :
    Calls Tryz.prog 52 #[ptrV D, .int .i64 i, .string key] w (MePost w s.js (kids s.ups i) key x) := by
 have hil := (List.getElem?_eq_some_iff.1 hx).1
 have hl := h.len
 have hgl := h.good.len
 have cD := h.cD
 have hDw := heap_lt h.doc
 have OF := Lib.hid (fun ob (kv : Value) (hk : Rd (Own (w.alloc ob)) (w.alloc ob) kv (.list 1 (([6] : List Int).map (.int .i64)))) => of_any (w.alloc ob) base D T s nodes tv ns i kv [6] (h.below (ext_alloc (Below.refl _ _) ob)) (by omega) hk (by decide))
 have K6 := Lib.hid (show Rd (Own (w.alloc (.cells #[.int .i64 6] 3))) (w.alloc (.cells #[.int .i64 6] 3)) (.slice (some ⟨w.heap.size, 0, none⟩) 1 1) (.list 1 (([6] : List Int).map (.int .i64))) from by
  have ho := World.ownsRow_lit (base := w.heap.size) (e := 3) (size := 1) w #[.int .i64 6] 1 (Nat.le_refl _) (by decide) rfl
  refine rd_owned ho ⟨rfl, fun j u d hu hd => ?_⟩ (fun g hg => (ho.lt g hg).2)
  cases j with
  | zero => simp at hu hd; subst hu; subst hd; exact .int _ _
  | succ j => simp at hu)
 have hb1 := Lib.hid (fun ob : Obj => ext_alloc (Below.refl _ w) ob)
 have H := Lib.hid h; have HX := Lib.hid hx
 obtain ⟨all, hall⟩ : ∃ all, kids s.ups i = all := ⟨_, rfl⟩
 rw [hall]
 have HALL := Lib.hid hall
 have hkl : all.length ≤ s.ups.length := by rw [← hall]; exact kids_le s.ups i
 have hmem : ∀ k ∈ all, k < s.js.length := fun k hk => by rw [← hall] at hk; have := (mem_kids.1 hk).2.1; omega
 have HMEM := Lib.hid hmem
 clear h hx hall hmem
 go_enter Tryz.func52, Tryz.ntmps52
 go_wp2_with fail
 refine (OF.out _ _ K6.out).mono ?_
 intro e w2 hp
 have hp' : e = .returned (.tuple #[.agg #[.int .i64 x.kind, .string x.key, .string x.text, .int .i64 x.at_], .nilIface]) ∧ Below (w.alloc (.cells #[.int .i64 6] 3)).heap.size (w.alloc (.cells #[.int .i64 6] 3)) w2 := by
  rcases hp with ⟨i', x', hi, hx', h⟩ | ⟨hn, _⟩
  · obtain rfl : i = i' := by omega
    obtain rfl : x' = x := by rw [HX.out] at hx'; exact (Option.some.inj hx').symm
    rcases h with ⟨_, h1, h2⟩ | ⟨h1, _⟩
    · exact ⟨h1, h2⟩
    · exact absurd (by rw [h6]; simp) h1
  · omega
 obtain ⟨rfl, hb2⟩ := hp'
 have HB2 := Lib.hid (fun ob => ext_alloc (ext_trans (hb1.out _) hb2) ob)
 clear hp hb2
 have hcd : ∀ ob, (w2.alloc ob).cell? ⟨D, 0, none⟩ = some (ptrV T) := fun ob => (bcell1 (HB2.out ob) hDw 0).trans cD
 have KD := Lib.hid (fun ob => by
  have := kids_any T tv ns s.ups nodes i (w2.alloc ob) ((H.out.below (HB2.out ob)).tree) H.out.good (by omega) (by omega)
  rw [HALL.out] at this
  exact this)
 go_wp2_with fail
 refine (KD.out _).mono ?_
 rintro e w3 ⟨v3, rfl, hr3, hb3⟩
 have HB3 := Lib.hid (ext_trans (HB2.out _) hb3)
 have hnz : w2.heap.size < w3.heap.size := by have := hb3.size; simp at this; omega
 have hnc := bcell1 hb3 (b := w2.heap.size) (by simp)
 have hn3 : w3.cell? ⟨w2.heap.size, 3, none⟩ = some (.int .i64 x.at_) := by rw [hnc]; simp
 obtain ⟨a, c, rfl, _, hac, hcl⟩ := hr3.nats_inv
 have hcl' : ∀ j (hj : j < all.length), ∃ b off, a = some ⟨b, off, none⟩ ∧ b < w3.heap.size ∧ w3.cell? ⟨b, off + j, none⟩ = some (.int .i64 (all[j] : Nat)) := fun j hj => by
  obtain ⟨b, off, h1, h2, h3⟩ := hcl (by omega)
  exact ⟨b, off, h1, h2.2, h3 j hj⟩
 have HCL := Lib.hid hcl'
 have HDK := Lib.hid (fun (W : World) (hW : Below w3.heap.size w3 W) (k : Nat) => dkey_any W base D T s nodes tv ns k (H.out.below (ext_trans HB3.out hW)) (by omega))
 clear hb3 hr3 hcl hcl' hcd KD OF K6 HB2 hnc
 go_wp2_with fail
 go_loopw [10, 11, 31] (MeRel s.js all key w3) (fun _ _ k _ => all.length - (intOf k).toNat)
 case atStart => exact ⟨0, rfl, Nat.zero_le _, rfl, rfl, Below.refl _ _⟩
 case round =>
  obtain ⟨j, rfl, hja, rfl, rfl, hbw⟩ := hrel
  by_cases hlt : j < all.length
  · have t1 : decide ((j : Int) < (all.length : Int)) = true := decide_eq_true (by omega)
    have t1' : decide (j < all.length) = true := decide_eq_true hlt
    have q1 : IntKind.i64.wrap ((j : Int) + 1) = (j : Int) + 1 := IntWalk.i64_in _ (by omega)
    obtain ⟨b, off, rfl, hbz, hcc⟩ := HCL.out j hlt
    have hcw := (bcell1 hbw hbz (off + j)).trans hcc
    have htk : all.take (j + 1) = all.take j ++ [all[j]] := List.take_succ_eq_append_getElem hlt
    generalize all[j] = k at *
    have DK := Lib.hid (HDK.out wr hbw k)
    have hl2 := lastK_snoc s.js (all.take j) k key
    have ha2 := anyK_snoc s.js (all.take j) k key
    rw [← htk] at hl2 ha2
    have HBW := Lib.hid hbw
    by_cases hky : keyA s.js k = key
    · have t3 := beqS_t hky
      rw [if_pos hky] at hl2
      rw [decide_eq_true hky, Bool.or_true] at ha2
      have HL2 := Lib.hid hl2; have HA2 := Lib.hid ha2
      generalize keyA s.js k = ky at *
      clear htk hbw hcc hl2 ha2 hky
      go_wp2_with fail
      refine DK.out.mono ?_
      rintro e w5 ⟨rfl, hb5⟩
      have R : MeRel s.js all key w3 (.int .i64 k) (.bool true) (.int .i64 ((j : Int) + 1)) w5 := ⟨j + 1, by go_num, hlt, by rw [HL2.out], by rw [HA2.out], ext_trans HBW.out hb5⟩
      have HR := Lib.hid R
      clear R hb5
      go_wp2
      refine ⟨?_, by simp [intOf]; omega⟩
      have R := HR.out
      first | exact R | ((repeat apply Exists.intro); exact ⟨R, rfl⟩)
    · have t3 := beqS_f hky
      rw [if_neg hky] at hl2
      rw [decide_eq_false hky, Bool.or_false] at ha2
      have HL2 := Lib.hid hl2; have HA2 := Lib.hid ha2
      generalize keyA s.js k = ky at *
      clear htk hbw hcc hl2 ha2 hky
      go_wp2_with fail
      refine DK.out.mono ?_
      rintro e w5 ⟨rfl, hb5⟩
      have R : MeRel s.js all key w3 (.int .i64 (lastK s.js (all.take j) key)) (.bool (anyK s.js (all.take j) key)) (.int .i64 ((j : Int) + 1)) w5 := ⟨j + 1, by go_num, hlt, by rw [HL2.out], by rw [HA2.out], ext_trans HBW.out hb5⟩
      have HR := Lib.hid R
      clear R hb5
      go_wp2
      refine ⟨?_, by simp [intOf]; omega⟩
      have R := HR.out
      first | exact R | ((repeat apply Exists.intro); exact ⟨R, rfl⟩)
  · have t1 : decide ((j : Int) < (all.length : Int)) = false := decide_eq_false (by omega)
    have t1' : decide (j < all.length) = false := decide_eq_false hlt
    obtain rfl : j = all.length := by omega
    rw [List.take_length]
    have hnw := (bcell1 hbw hnz 3).trans hn3
    have HBW := Lib.hid (ext_trans HB3.out hbw)
    have FL := Lib.hid (fails 30 x.at_ wr)
    have HAN := Lib.hid (show ∀ b, anyK s.js all key = b → anyK s.js all key = b from fun _ h => h)
    cases hak : anyK s.js all key with
    | true =>
      have HAK := Lib.hid hak
      clear hbw hak
      go_wp2
      go_ret2
      exact .inl ⟨HAK.out, rfl, HBW.out⟩
    | false =>
      have HAK := Lib.hid hak
      clear hbw hak
      go_wp2_with fail
      refine FL.out.mono ?_
      rintro e w5 ⟨u, rfl, hf⟩
      obtain ⟨p, rfl⟩ := hf.form
      have HF := Lib.hid (hf.after HBW.out)
      clear hf
      go_wp2
      go_ret2
      exact .inr ⟨HAK.out, p, rfl, HF.out⟩
open Go.RowKit
end Go.Proofs.YtcaiibkgajhohaaGreatDoor
