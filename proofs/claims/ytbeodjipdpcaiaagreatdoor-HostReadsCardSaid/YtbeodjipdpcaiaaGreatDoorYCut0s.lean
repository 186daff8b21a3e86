/- Texts put together. -/
import Derived.Test.YtbeodjipdpcaiaaGreatDoorYMx0sf
import Derived.Test.YtbeodjipdpcaiaaGreatDoorYDec0s
import Derived.Test.YtbeodjipdpcaiaaGreatDoorYHxw4s
import Derived.Lib.IndexMore
import Derived.Laws.CopyOwn
import Derived.Laws.IdiomCopy
set_option maxRecDepth 100000
set_option maxHeartbeats 8000000
namespace Go.Proofs.YtbeodjipdpcaiaaGreatDoor
section
open Go.RowKit
theorem gap_ix : ∀ (l : List UInt8) (i : Nat), match gapF (l.map (·.toNat)) i with
    | none => Lib.index l [58, 58] = -1
    | some k => ∃ j : Nat, k = i + j ∧ Lib.index l [58, 58] = j
 | [], i => rfl
 | b :: l, i => by
   have ih := gap_ix l (i + 1)
   rw [List.map_cons, gapF, Lib.index]
   have hp : ([58, 58] : List UInt8).isPrefixOf (b :: l) = decide (b.toNat = 58 ∧ (l.map (·.toNat)).head? = some 58) := by
    have e : ∀ x : UInt8, ((58 : UInt8) == x) = decide (x.toNat = 58) := fun x => by
     rw [Bool.eq_iff_iff, beq_iff_eq, decide_eq_true_eq]
     constructor
     · intro h; rw [← h]; rfl
     · intro h; exact (UInt8.toNat.inj h).symm
    cases l with
    | nil => simp [List.isPrefixOf]
    | cons c l =>
      simp only [List.isPrefixOf, Bool.and_true, e, List.map_cons, List.head?_cons, Option.some.injEq]
      rw [Bool.eq_iff_iff]
      simp
   rw [hp]
   by_cases h : b.toNat = 58 ∧ (l.map (·.toNat)).head? = some 58
   · rw [if_pos h, if_pos (dcT h)]
     exact ⟨0, rfl, rfl⟩
   · rw [if_neg h, if_neg (by rw [dcF h]; decide)]
     cases hg : gapF (l.map (·.toNat)) (i + 1) with
     | none => rw [hg] at ih; simp only at ih ⊢; rw [ih]; decide
     | some k =>
       rw [hg] at ih
       obtain ⟨j, hj, hx⟩ := ih
       refine ⟨j + 1, by omega, ?_⟩
       rw [hx, if_neg (by simp)]
       rfl
theorem cut_gap (s : ByteArray) : (gapF (bytesN s) 0 = none ∧ Lib.cut s.data.toList [58, 58] = (s.data.toList, [], false)) ∨ ∃ i, gapF (bytesN s) 0 = some i ∧ Lib.cut s.data.toList [58, 58] = (s.data.toList.take i, s.data.toList.drop (i + 2), true) := by
 have h := gap_ix s.data.toList 0
 have e : s.data.toList.map (·.toNat) = bytesN s := rfl
 rw [e] at h
 unfold Lib.cut
 cases hg : gapF (bytesN s) 0 with
 | none =>
   rw [hg] at h
   exact .inl ⟨rfl, by rw [h]; rfl⟩
 | some k =>
   rw [hg] at h
   obtain ⟨j, hj, hx⟩ := h
   obtain rfl : k = j := by omega
   refine .inr ⟨k, rfl, ?_⟩
   rw [hx, if_pos (by omega)]
   rfl
end
section
open Go.RowKit
def fOf (l : List Nat) (i : Nat) : Nat := l[i]?.getD 0
theorem lstF_fOf {l : List Nat} (h : l.length = 8) : lstF (fOf l) = l := by
 obtain ⟨a, b, c, d, e, f, x, y, rfl⟩ := eight h
 rfl
theorem g8C_fOf {l : List Nat} (h : l.length = 8) : (u16V l).toArray = g8C (fOf l) := by
 obtain ⟨a, b, c, d, e, f, x, y, rfl⟩ := eight h
 rfl
theorem fOf_lt {l : List Nat} (h : ∀ n ∈ l, n < 65536) (i : Nat) : fOf l i < 65536 := by
 unfold fOf
 cases hx : l[i]? with
 | none => decide
 | some x => exact h x (List.mem_of_getElem? hx)
theorem splice_u16 (L : List Nat) (o : Nat) (c : List Nat) : splice (u16V L) o (u16V c) = u16V (splice L o c) := by
 unfold splice u16V
 simp
theorem splice_six (x y : List Nat) (h : x.length + y.length ≤ 8) : splice (splice (List.replicate 8 0) 0 x) (8 - y.length) y = x ++ List.replicate (8 - x.length - y.length) 0 ++ y := by
 unfold splice
 simp only [List.take_zero, List.nil_append, Nat.zero_add, List.drop_replicate, List.append_assoc]
 have e1 : (x ++ List.replicate (8 - x.length) 0).take (8 - y.length) = x ++ List.replicate (8 - x.length - y.length) 0 := by
  rw [List.take_append, List.take_of_length_le (by omega), List.take_replicate]
  congr 2
  omega
 have e2 : (x ++ List.replicate (8 - x.length) 0).drop (8 - y.length + y.length) = [] := List.drop_eq_nil_of_le (by simp; omega)
 rw [e1, e2, List.append_nil, List.append_assoc]
theorem copy_u16 (X off dLen dCap : Nat) (dp sp : Option Addr) (sLen sCap : Nat) (cur cs : List Value) (w : World) (hg : w.heap[X]? = some (.cells cur.toArray 92 (0, 0))) (hn : cs.length = Nat.min sLen dLen)
    (hpos : 0 < cs.length → dp = some ⟨X, off, none⟩ ∧ ∃ ad, sp = some ad ∧ ∀ (j : Nat) v, cs[j]? = some v → w.cell? (ad.add j) = some v) (hfit : off + cs.length ≤ cur.length) (h1 : ∀ v ∈ cs, v.oneCell' = true) :
    ∃ w', (Builtin.copy_ #[193, 193] 3 #[.slice dp dLen dCap, .slice sp sLen sCap]).run Tryz.prog w = .ok (.int .i64 cs.length) w' ∧ w'.heap[X]? = some (.cells (splice cur off cs).toArray 92 (0, 0)) ∧ Below X w w' := by
 have hsu : (Tryz.prog.info? 62).map (·.size) = some 1 := by kernel_rfl
 by_cases h0 : cs.length = 0
 · obtain rfl : cs = [] := List.eq_nil_of_length_eq_zero h0
   exact ⟨w, run_copy_none w 193 193 3 62 dp sp dLen dCap sLen sCap Tryz.underlying193 hsu (by simpa using hn.symm), by simpa [splice] using hg, Below.refl _ _⟩
 · obtain ⟨rfl, ad, rfl, hsrc⟩ := hpos (by omega)
   refine ⟨_, run_copy_row Tryz.prog w 193 193 3 62 X off dLen dCap ad sLen sCap cur.toArray 92 cs Tryz.underlying193 hsu hg hn hsrc (by simpa using hfit) h1, ?_, setRow_below (Below.refl _ _) (Nat.le_refl _)⟩
   have := setRow_heap (c := (cur.toArray.toList.take off ++ cs ++ cur.toArray.toList.drop (off + cs.length)).toArray) hg
   simpa [splice] using this
def HpPost (w : World) (r : Option (List Nat)) (e : Ending) (w' : World) : Prop := Below w.heap.size w w' ∧ match r with
 | some l => e = .returned (.tuple #[.agg (v6C (fOf l)), .nilIface])
 | none => ∃ u, e = .returned (.tuple #[.agg zero16, u]) ∧ Er w' u [(11, 0)]
theorem hwrong_any (w : World) : Calls Tryz.prog 164 #[] w fun e w' => e = .returned (.iface 119 (.pointer (some ⟨w.heap.size, 0, none⟩))) ∧ w' = w.alloc (.cells #[.int .i64 11, .int .i64 0, .nilIface] 123) := by
 go_enter Tryz.func164, Tryz.ntmps164
 go_wp2_with fail
 go_at_call 44
 refine (fail_any _ _ _).mono ?_
 rintro e w3 ⟨rfl, rfl⟩
 go_wp2
 go_ret
 exact ⟨rfl, rfl⟩
theorem hp_nn_true (s L R : ByteArray) (w : World) (hM : MaxT w) (hG : Glob w) (_hsz : s.size ≤ 1000000) (hLz : L.size ≤ 1000000) (hRz : R.size ≤ 1000000)
    (hcut : ∀ W, MaxT W → Calls Tryz.prog 85 #[.string s, .string ⟨#[58, 58]⟩] W fun e w' => e = .returned (.tuple #[.string L, .string R, .bool true]) ∧ ∃ n, w' = W.drewN n) (hA : rowL (!true) (bytesN L) = none) (hB : rowL true (bytesN R) = none) :
    Calls Tryz.prog 97 #[.string s] w (HpPost w none) := by
 obtain ⟨Q, hQ⟩ : ∃ Q, HpPost w none = Q := ⟨_, rfl⟩
 rw [hQ]
 have HQ := hid hQ
 obtain ⟨W1, hW1⟩ : ∃ W, w.alloc (.cells #[.int .u8 0, .int .u8 0, .int .u8 0, .int .u8 0, .int .u8 0, .int .u8 0, .int .u8 0, .int .u8 0, .int .u8 0, .int .u8 0, .int .u8 0, .int .u8 0, .int .u8 0, .int .u8 0, .int .u8 0, .int .u8 0] 125) = W := ⟨_, rfl⟩
 have hb1 : Below w.heap.size w W1 := by rw [← hW1]; exact ext_alloc (Below.refl _ _) _
 have hx1 : W1.heap[w.heap.size]? = some (.cells zero16 125 (0, 0)) := by rw [← hW1]; exact heap_alloc_new w _
 have hX1 : w.heap.size < W1.heap.size := heap_lt hx1
 have HB1 := hid hb1; have HG := hid hG; have HM := hid hM; have HX1 := hid hX1; have HXX1 := hid hx1
 have CU := hid (hcut W1 (hM.ext hb1))
 have RA := hid (fun W hM hG => hrow_any L (!true) W hLz hM hG)
 have RB := hid (fun W hM hG => hrow_any R true W hRz hM hG)
 have WR := hid hwrong_any
 have HNO : Hid (∀ W, Below W1.heap.size W1 W → (storeVar 125 ⟨w.heap.size, 0, none⟩ (.agg #[.int .u8 0, .int .u8 0, .int .u8 0, .int .u8 0, .int .u8 0, .int .u8 0, .int .u8 0, .int .u8 0, .int .u8 0, .int .u8 0, .int .u8 0, .int .u8 0, .int .u8 0, .int .u8 0, .int .u8 0, .int .u8 0])).run Tryz.prog (W.alloc (.cells #[.int .i64 11, .int .i64 0, .nilIface] 123)) = .ok () (W.alloc (.cells #[.int .i64 11, .int .i64 0, .nilIface] 123)) ∧ (loadVar 125 ⟨w.heap.size, 0, none⟩).run Tryz.prog (W.alloc (.cells #[.int .i64 11, .int .i64 0, .nilIface] 123)) = .ok (.agg #[.int .u8 0, .int .u8 0, .int .u8 0, .int .u8 0, .int .u8 0, .int .u8 0, .int .u8 0, .int .u8 0, .int .u8 0, .int .u8 0, .int .u8 0, .int .u8 0, .int .u8 0, .int .u8 0, .int .u8 0, .int .u8 0]) (W.alloc (.cells #[.int .i64 11, .int .i64 0, .nilIface] 123)) ∧ Q (.returned (.tuple #[.agg #[.int .u8 0, .int .u8 0, .int .u8 0, .int .u8 0, .int .u8 0, .int .u8 0, .int .u8 0, .int .u8 0, .int .u8 0, .int .u8 0, .int .u8 0, .int .u8 0, .int .u8 0, .int .u8 0, .int .u8 0, .int .u8 0], .iface 119 (.pointer (some ⟨W.heap.size, 0, none⟩))])) (W.alloc (.cells #[.int .i64 11, .int .i64 0, .nilIface] 123))) := hid (fun W hW => by
  have hE := failed_er (failed_of (w := W) (w0 := W) (k := 11) (i := 0) (Below.refl _ _) rfl)
  have hW2 := xT hW hE.2
  have h0 : (W.alloc (.cells #[.int .i64 11, .int .i64 0, .nilIface] 123)).heap[w.heap.size]? = some (.cells zero16 125 (0, 0)) := by
   have := hW2.block _ HX1.out
   exact this.trans HXX1.out
  have hs := v6_store zero16 zero16 rfl zero16_one rfl _ _ h0
  rw [row_same h0] at hs
  refine ⟨hs, v6_load zero16 rfl _ _ h0, ?_⟩
  rw [← HQ.out]
  exact ⟨xT hb1 hW2, _, rfl, hE.1⟩)
 have HA := hid hA; have HBB := hid hB
 clear hA hB
 clear hb1 hx1 hX1 hQ hG hM hcut _hsz hLz hRz
 go_enter Tryz.func97, Tryz.ntmps97
 go_wp2_with fail
 clear hW1
 refine CU.out.mono ?_
 rintro e w1 ⟨rfl, n, rfl⟩
 have HBD := hid (ext_drewN n (Below.refl W1.heap.size W1))
 have RA1 := hid (RA.out (W1.drewN n) ((HM.out.ext HB1.out).ext HBD.out) ((HG.out.ext HB1.out).ext HBD.out))
 go_wp2_with fail
 refine RA1.out.mono ?_
 intro e w2 hp
 have hb2 := hp.1
 have HB2 := hid (xT HBD.out hb2)
 have RB2 := hid (RB.out w2 ((HM.out.ext HB1.out).ext HB2.out) ((HG.out.ext HB1.out).ext HB2.out))
 have hp2 := hp.2
 rw [HA.out] at hp2
 subst hp2
 clear hp hb2
 go_wp2_with fail
 refine RB2.out.mono ?_
 intro e w3 hp
 have hb3 := hp.1
 have HB3 := hid (xT HB2.out hb3); have HB23 := hid hb3
 have hp2 := hp.2
 rw [HBB.out] at hp2
 subst hp2
 clear hp hb3
 obtain ⟨hst, hld, hF⟩ := HNO.out w3 HB3.out
 have HF := hid hF
 clear hF
 go_wp2_with fail
 refine (WR.out _).mono ?_
 rintro e w6 ⟨rfl, rfl⟩
 go_wp2_with ((with_reducible show wpList _ _ _ (_ :: _) _ _); refine st_arr 125 w.heap.size _ hst _ _ rfl rfl rfl rfl ?_)
 (try simp only [Exit.inBlock, Exit.then])
 exact bodyPost_ret (by simp [results, Tryz.results97, asAddr, Result.andThen, hld]) rfl HF.out
theorem hp_ns_true (s L R : ByteArray) (w : World) (hM : MaxT w) (hG : Glob w) (_hsz : s.size ≤ 1000000) (hLz : L.size ≤ 1000000) (hRz : R.size ≤ 1000000)
    (hcut : ∀ W, MaxT W → Calls Tryz.prog 85 #[.string s, .string ⟨#[58, 58]⟩] W fun e w' => e = .returned (.tuple #[.string L, .string R, .bool true]) ∧ ∃ n, w' = W.drewN n) {y : List Nat} (hyz : y.length ≤ 100000000) (hA : rowL (!true) (bytesN L) = none) (hB : rowL true (bytesN R) = some y) :
    Calls Tryz.prog 97 #[.string s] w (HpPost w none) := by
 obtain ⟨Q, hQ⟩ : ∃ Q, HpPost w none = Q := ⟨_, rfl⟩
 rw [hQ]
 have HQ := hid hQ
 obtain ⟨W1, hW1⟩ : ∃ W, w.alloc (.cells #[.int .u8 0, .int .u8 0, .int .u8 0, .int .u8 0, .int .u8 0, .int .u8 0, .int .u8 0, .int .u8 0, .int .u8 0, .int .u8 0, .int .u8 0, .int .u8 0, .int .u8 0, .int .u8 0, .int .u8 0, .int .u8 0] 125) = W := ⟨_, rfl⟩
 have hb1 : Below w.heap.size w W1 := by rw [← hW1]; exact ext_alloc (Below.refl _ _) _
 have hx1 : W1.heap[w.heap.size]? = some (.cells zero16 125 (0, 0)) := by rw [← hW1]; exact heap_alloc_new w _
 have hX1 : w.heap.size < W1.heap.size := heap_lt hx1
 have HB1 := hid hb1; have HG := hid hG; have HM := hid hM; have HX1 := hid hX1; have HXX1 := hid hx1
 have CU := hid (hcut W1 (hM.ext hb1))
 have RA := hid (fun W hM hG => hrow_any L (!true) W hLz hM hG)
 have RB := hid (fun W hM hG => hrow_any R true W hRz hM hG)
 have WR := hid hwrong_any
 have HNO : Hid (∀ W, Below W1.heap.size W1 W → (storeVar 125 ⟨w.heap.size, 0, none⟩ (.agg #[.int .u8 0, .int .u8 0, .int .u8 0, .int .u8 0, .int .u8 0, .int .u8 0, .int .u8 0, .int .u8 0, .int .u8 0, .int .u8 0, .int .u8 0, .int .u8 0, .int .u8 0, .int .u8 0, .int .u8 0, .int .u8 0])).run Tryz.prog (W.alloc (.cells #[.int .i64 11, .int .i64 0, .nilIface] 123)) = .ok () (W.alloc (.cells #[.int .i64 11, .int .i64 0, .nilIface] 123)) ∧ (loadVar 125 ⟨w.heap.size, 0, none⟩).run Tryz.prog (W.alloc (.cells #[.int .i64 11, .int .i64 0, .nilIface] 123)) = .ok (.agg #[.int .u8 0, .int .u8 0, .int .u8 0, .int .u8 0, .int .u8 0, .int .u8 0, .int .u8 0, .int .u8 0, .int .u8 0, .int .u8 0, .int .u8 0, .int .u8 0, .int .u8 0, .int .u8 0, .int .u8 0, .int .u8 0]) (W.alloc (.cells #[.int .i64 11, .int .i64 0, .nilIface] 123)) ∧ Q (.returned (.tuple #[.agg #[.int .u8 0, .int .u8 0, .int .u8 0, .int .u8 0, .int .u8 0, .int .u8 0, .int .u8 0, .int .u8 0, .int .u8 0, .int .u8 0, .int .u8 0, .int .u8 0, .int .u8 0, .int .u8 0, .int .u8 0, .int .u8 0], .iface 119 (.pointer (some ⟨W.heap.size, 0, none⟩))])) (W.alloc (.cells #[.int .i64 11, .int .i64 0, .nilIface] 123))) := hid (fun W hW => by
  have hE := failed_er (failed_of (w := W) (w0 := W) (k := 11) (i := 0) (Below.refl _ _) rfl)
  have hW2 := xT hW hE.2
  have h0 : (W.alloc (.cells #[.int .i64 11, .int .i64 0, .nilIface] 123)).heap[w.heap.size]? = some (.cells zero16 125 (0, 0)) := by
   have := hW2.block _ HX1.out
   exact this.trans HXX1.out
  have hs := v6_store zero16 zero16 rfl zero16_one rfl _ _ h0
  rw [row_same h0] at hs
  refine ⟨hs, v6_load zero16 rfl _ _ h0, ?_⟩
  rw [← HQ.out]
  exact ⟨xT hb1 hW2, _, rfl, hE.1⟩)
 have HA := hid hA; have HBB := hid hB
 clear hA hB
 clear hb1 hx1 hX1 hQ hG hM hcut _hsz hLz hRz
 go_enter Tryz.func97, Tryz.ntmps97
 go_wp2_with fail
 clear hW1
 refine CU.out.mono ?_
 rintro e w1 ⟨rfl, n, rfl⟩
 have HBD := hid (ext_drewN n (Below.refl W1.heap.size W1))
 have RA1 := hid (RA.out (W1.drewN n) ((HM.out.ext HB1.out).ext HBD.out) ((HG.out.ext HB1.out).ext HBD.out))
 go_wp2_with fail
 refine RA1.out.mono ?_
 intro e w2 hp
 have hb2 := hp.1
 have HB2 := hid (xT HBD.out hb2)
 have RB2 := hid (RB.out w2 ((HM.out.ext HB1.out).ext HB2.out) ((HG.out.ext HB1.out).ext HB2.out))
 have hp2 := hp.2
 rw [HA.out] at hp2
 subst hp2
 clear hp hb2
 go_wp2_with fail
 refine RB2.out.mono ?_
 intro e w3 hp
 have hb3 := hp.1
 have HB3 := hid (xT HB2.out hb3); have HB23 := hid hb3
 have hp2 := hp.2
 rw [HBB.out] at hp2
 obtain ⟨vb, rfl, hob⟩ := hp2
 obtain ⟨ab, cb, rfl, hab⟩ := aown_form hob
 have HOB := hid hob; have HAB := hid hab
 clear hp hb3 hob hab
 have q2 : IntKind.i64.wrap (8 - (y.length : Int)) = 8 - (y.length : Int) := i64n _ (by omega)
 obtain ⟨hst, hld, hF⟩ := HNO.out w3 HB3.out
 have HF := hid hF
 clear hF
 go_wp2_with fail
 refine (WR.out _).mono ?_
 rintro e w6 ⟨rfl, rfl⟩
 go_wp2_with ((with_reducible show wpList _ _ _ (_ :: _) _ _); refine st_arr 125 w.heap.size _ hst _ _ rfl rfl rfl rfl ?_)
 (try simp only [Exit.inBlock, Exit.then])
 exact bodyPost_ret (by simp [results, Tryz.results97, asAddr, Result.andThen, hld]) rfl HF.out
theorem hp_sn_true (s L R : ByteArray) (w : World) (hM : MaxT w) (hG : Glob w) (_hsz : s.size ≤ 1000000) (hLz : L.size ≤ 1000000) (hRz : R.size ≤ 1000000)
    (hcut : ∀ W, MaxT W → Calls Tryz.prog 85 #[.string s, .string ⟨#[58, 58]⟩] W fun e w' => e = .returned (.tuple #[.string L, .string R, .bool true]) ∧ ∃ n, w' = W.drewN n) {x : List Nat} (hxz : x.length ≤ 100000000) (hA : rowL (!true) (bytesN L) = some x) (hB : rowL true (bytesN R) = none) :
    Calls Tryz.prog 97 #[.string s] w (HpPost w none) := by
 obtain ⟨Q, hQ⟩ : ∃ Q, HpPost w none = Q := ⟨_, rfl⟩
 rw [hQ]
 have HQ := hid hQ
 obtain ⟨W1, hW1⟩ : ∃ W, w.alloc (.cells #[.int .u8 0, .int .u8 0, .int .u8 0, .int .u8 0, .int .u8 0, .int .u8 0, .int .u8 0, .int .u8 0, .int .u8 0, .int .u8 0, .int .u8 0, .int .u8 0, .int .u8 0, .int .u8 0, .int .u8 0, .int .u8 0] 125) = W := ⟨_, rfl⟩
 have hb1 : Below w.heap.size w W1 := by rw [← hW1]; exact ext_alloc (Below.refl _ _) _
 have hx1 : W1.heap[w.heap.size]? = some (.cells zero16 125 (0, 0)) := by rw [← hW1]; exact heap_alloc_new w _
 have hX1 : w.heap.size < W1.heap.size := heap_lt hx1
 have HB1 := hid hb1; have HG := hid hG; have HM := hid hM; have HX1 := hid hX1; have HXX1 := hid hx1
 have CU := hid (hcut W1 (hM.ext hb1))
 have RA := hid (fun W hM hG => hrow_any L (!true) W hLz hM hG)
 have RB := hid (fun W hM hG => hrow_any R true W hRz hM hG)
 have WR := hid hwrong_any
 have HNO : Hid (∀ W, Below W1.heap.size W1 W → (storeVar 125 ⟨w.heap.size, 0, none⟩ (.agg #[.int .u8 0, .int .u8 0, .int .u8 0, .int .u8 0, .int .u8 0, .int .u8 0, .int .u8 0, .int .u8 0, .int .u8 0, .int .u8 0, .int .u8 0, .int .u8 0, .int .u8 0, .int .u8 0, .int .u8 0, .int .u8 0])).run Tryz.prog (W.alloc (.cells #[.int .i64 11, .int .i64 0, .nilIface] 123)) = .ok () (W.alloc (.cells #[.int .i64 11, .int .i64 0, .nilIface] 123)) ∧ (loadVar 125 ⟨w.heap.size, 0, none⟩).run Tryz.prog (W.alloc (.cells #[.int .i64 11, .int .i64 0, .nilIface] 123)) = .ok (.agg #[.int .u8 0, .int .u8 0, .int .u8 0, .int .u8 0, .int .u8 0, .int .u8 0, .int .u8 0, .int .u8 0, .int .u8 0, .int .u8 0, .int .u8 0, .int .u8 0, .int .u8 0, .int .u8 0, .int .u8 0, .int .u8 0]) (W.alloc (.cells #[.int .i64 11, .int .i64 0, .nilIface] 123)) ∧ Q (.returned (.tuple #[.agg #[.int .u8 0, .int .u8 0, .int .u8 0, .int .u8 0, .int .u8 0, .int .u8 0, .int .u8 0, .int .u8 0, .int .u8 0, .int .u8 0, .int .u8 0, .int .u8 0, .int .u8 0, .int .u8 0, .int .u8 0, .int .u8 0], .iface 119 (.pointer (some ⟨W.heap.size, 0, none⟩))])) (W.alloc (.cells #[.int .i64 11, .int .i64 0, .nilIface] 123))) := hid (fun W hW => by
  have hE := failed_er (failed_of (w := W) (w0 := W) (k := 11) (i := 0) (Below.refl _ _) rfl)
  have hW2 := xT hW hE.2
  have h0 : (W.alloc (.cells #[.int .i64 11, .int .i64 0, .nilIface] 123)).heap[w.heap.size]? = some (.cells zero16 125 (0, 0)) := by
   have := hW2.block _ HX1.out
   exact this.trans HXX1.out
  have hs := v6_store zero16 zero16 rfl zero16_one rfl _ _ h0
  rw [row_same h0] at hs
  refine ⟨hs, v6_load zero16 rfl _ _ h0, ?_⟩
  rw [← HQ.out]
  exact ⟨xT hb1 hW2, _, rfl, hE.1⟩)
 have HA := hid hA; have HBB := hid hB
 clear hA hB
 clear hb1 hx1 hX1 hQ hG hM hcut _hsz hLz hRz
 go_enter Tryz.func97, Tryz.ntmps97
 go_wp2_with fail
 clear hW1
 refine CU.out.mono ?_
 rintro e w1 ⟨rfl, n, rfl⟩
 have HBD := hid (ext_drewN n (Below.refl W1.heap.size W1))
 have RA1 := hid (RA.out (W1.drewN n) ((HM.out.ext HB1.out).ext HBD.out) ((HG.out.ext HB1.out).ext HBD.out))
 go_wp2_with fail
 refine RA1.out.mono ?_
 intro e w2 hp
 have hb2 := hp.1
 have HB2 := hid (xT HBD.out hb2)
 have RB2 := hid (RB.out w2 ((HM.out.ext HB1.out).ext HB2.out) ((HG.out.ext HB1.out).ext HB2.out))
 have hp2 := hp.2
 rw [HA.out] at hp2
 obtain ⟨va, rfl, hoa⟩ := hp2
 obtain ⟨aa, ca, rfl, haa⟩ := aown_form hoa
 have HOA := hid hoa; have HAA := hid haa
 clear hp hb2 hoa haa
 go_wp2_with fail
 refine RB2.out.mono ?_
 intro e w3 hp
 have hb3 := hp.1
 have HB3 := hid (xT HB2.out hb3); have HB23 := hid hb3
 have hp2 := hp.2
 rw [HBB.out] at hp2
 subst hp2
 clear hp hb3
 have q1 : IntKind.i64.wrap (8 - (x.length : Int)) = 8 - (x.length : Int) := i64n _ (by omega)
 obtain ⟨hst, hld, hF⟩ := HNO.out w3 HB3.out
 have HF := hid hF
 clear hF
 go_wp2_with fail
 refine (WR.out _).mono ?_
 rintro e w6 ⟨rfl, rfl⟩
 go_wp2_with ((with_reducible show wpList _ _ _ (_ :: _) _ _); refine st_arr 125 w.heap.size _ hst _ _ rfl rfl rfl rfl ?_)
 (try simp only [Exit.inBlock, Exit.then])
 exact bodyPost_ret (by simp [results, Tryz.results97, asAddr, Result.andThen, hld]) rfl HF.out
theorem hp_ns_false (s L R : ByteArray) (w : World) (hM : MaxT w) (hG : Glob w) (_hsz : s.size ≤ 1000000) (hLz : L.size ≤ 1000000) (hRz : R.size ≤ 1000000)
    (hcut : ∀ W, MaxT W → Calls Tryz.prog 85 #[.string s, .string ⟨#[58, 58]⟩] W fun e w' => e = .returned (.tuple #[.string L, .string R, .bool false]) ∧ ∃ n, w' = W.drewN n) {y : List Nat} (hyz : y.length ≤ 100000000) (hA : rowL (!false) (bytesN L) = none) (hB : rowL true (bytesN R) = some y) :
    Calls Tryz.prog 97 #[.string s] w (HpPost w none) := by
 obtain ⟨Q, hQ⟩ : ∃ Q, HpPost w none = Q := ⟨_, rfl⟩
 rw [hQ]
 have HQ := hid hQ
 obtain ⟨W1, hW1⟩ : ∃ W, w.alloc (.cells #[.int .u8 0, .int .u8 0, .int .u8 0, .int .u8 0, .int .u8 0, .int .u8 0, .int .u8 0, .int .u8 0, .int .u8 0, .int .u8 0, .int .u8 0, .int .u8 0, .int .u8 0, .int .u8 0, .int .u8 0, .int .u8 0] 125) = W := ⟨_, rfl⟩
 have hb1 : Below w.heap.size w W1 := by rw [← hW1]; exact ext_alloc (Below.refl _ _) _
 have hx1 : W1.heap[w.heap.size]? = some (.cells zero16 125 (0, 0)) := by rw [← hW1]; exact heap_alloc_new w _
 have hX1 : w.heap.size < W1.heap.size := heap_lt hx1
 have HB1 := hid hb1; have HG := hid hG; have HM := hid hM; have HX1 := hid hX1; have HXX1 := hid hx1
 have CU := hid (hcut W1 (hM.ext hb1))
 have RA := hid (fun W hM hG => hrow_any L (!false) W hLz hM hG)
 have RB := hid (fun W hM hG => hrow_any R true W hRz hM hG)
 have WR := hid hwrong_any
 have HNO : Hid (∀ W, Below W1.heap.size W1 W → (storeVar 125 ⟨w.heap.size, 0, none⟩ (.agg #[.int .u8 0, .int .u8 0, .int .u8 0, .int .u8 0, .int .u8 0, .int .u8 0, .int .u8 0, .int .u8 0, .int .u8 0, .int .u8 0, .int .u8 0, .int .u8 0, .int .u8 0, .int .u8 0, .int .u8 0, .int .u8 0])).run Tryz.prog (W.alloc (.cells #[.int .i64 11, .int .i64 0, .nilIface] 123)) = .ok () (W.alloc (.cells #[.int .i64 11, .int .i64 0, .nilIface] 123)) ∧ (loadVar 125 ⟨w.heap.size, 0, none⟩).run Tryz.prog (W.alloc (.cells #[.int .i64 11, .int .i64 0, .nilIface] 123)) = .ok (.agg #[.int .u8 0, .int .u8 0, .int .u8 0, .int .u8 0, .int .u8 0, .int .u8 0, .int .u8 0, .int .u8 0, .int .u8 0, .int .u8 0, .int .u8 0, .int .u8 0, .int .u8 0, .int .u8 0, .int .u8 0, .int .u8 0]) (W.alloc (.cells #[.int .i64 11, .int .i64 0, .nilIface] 123)) ∧ Q (.returned (.tuple #[.agg #[.int .u8 0, .int .u8 0, .int .u8 0, .int .u8 0, .int .u8 0, .int .u8 0, .int .u8 0, .int .u8 0, .int .u8 0, .int .u8 0, .int .u8 0, .int .u8 0, .int .u8 0, .int .u8 0, .int .u8 0, .int .u8 0], .iface 119 (.pointer (some ⟨W.heap.size, 0, none⟩))])) (W.alloc (.cells #[.int .i64 11, .int .i64 0, .nilIface] 123))) := hid (fun W hW => by
  have hE := failed_er (failed_of (w := W) (w0 := W) (k := 11) (i := 0) (Below.refl _ _) rfl)
  have hW2 := xT hW hE.2
  have h0 : (W.alloc (.cells #[.int .i64 11, .int .i64 0, .nilIface] 123)).heap[w.heap.size]? = some (.cells zero16 125 (0, 0)) := by
   have := hW2.block _ HX1.out
   exact this.trans HXX1.out
  have hs := v6_store zero16 zero16 rfl zero16_one rfl _ _ h0
  rw [row_same h0] at hs
  refine ⟨hs, v6_load zero16 rfl _ _ h0, ?_⟩
  rw [← HQ.out]
  exact ⟨xT hb1 hW2, _, rfl, hE.1⟩)
 have HA := hid hA; have HBB := hid hB
 clear hA hB
 clear hb1 hx1 hX1 hQ hG hM hcut _hsz hLz hRz
 go_enter Tryz.func97, Tryz.ntmps97
 go_wp2_with fail
 clear hW1
 refine CU.out.mono ?_
 rintro e w1 ⟨rfl, n, rfl⟩
 have HBD := hid (ext_drewN n (Below.refl W1.heap.size W1))
 have RA1 := hid (RA.out (W1.drewN n) ((HM.out.ext HB1.out).ext HBD.out) ((HG.out.ext HB1.out).ext HBD.out))
 go_wp2_with fail
 refine RA1.out.mono ?_
 intro e w2 hp
 have hb2 := hp.1
 have HB2 := hid (xT HBD.out hb2)
 have RB2 := hid (RB.out w2 ((HM.out.ext HB1.out).ext HB2.out) ((HG.out.ext HB1.out).ext HB2.out))
 have hp2 := hp.2
 rw [HA.out] at hp2
 subst hp2
 clear hp hb2
 go_wp2_with fail
 refine RB2.out.mono ?_
 intro e w3 hp
 have hb3 := hp.1
 have HB3 := hid (xT HB2.out hb3); have HB23 := hid hb3
 have hp2 := hp.2
 rw [HBB.out] at hp2
 obtain ⟨vb, rfl, hob⟩ := hp2
 obtain ⟨ab, cb, rfl, hab⟩ := aown_form hob
 have HOB := hid hob; have HAB := hid hab
 clear hp hb3 hob hab
 have q2 : IntKind.i64.wrap (8 - (y.length : Int)) = 8 - (y.length : Int) := i64n _ (by omega)
 obtain ⟨hst, hld, hF⟩ := HNO.out w3 HB3.out
 have HF := hid hF
 clear hF
 go_wp2_with fail
 refine (WR.out _).mono ?_
 rintro e w6 ⟨rfl, rfl⟩
 go_wp2_with ((with_reducible show wpList _ _ _ (_ :: _) _ _); refine st_arr 125 w.heap.size _ hst _ _ rfl rfl rfl rfl ?_)
 (try simp only [Exit.inBlock, Exit.then])
 exact bodyPost_ret (by simp [results, Tryz.results97, asAddr, Result.andThen, hld]) rfl HF.out
theorem hp_open_many (s L R : ByteArray) (w : World) (hM : MaxT w) (hG : Glob w) (_hsz : s.size ≤ 1000000) (hLz : L.size ≤ 1000000) (hRz : R.size ≤ 1000000)
    (hcut : ∀ W, MaxT W → Calls Tryz.prog 85 #[.string s, .string ⟨#[58, 58]⟩] W fun e w' => e = .returned (.tuple #[.string L, .string R, .bool true]) ∧ ∃ n, w' = W.drewN n) {x : List Nat} {y : List Nat} (hxz : x.length ≤ 100000000) (hyz : y.length ≤ 100000000) (hA : rowL (!true) (bytesN L) = some x) (hB : rowL true (bytesN R) = some y) (hsum : ¬ x.length + y.length ≤ 7) :
    Calls Tryz.prog 97 #[.string s] w (HpPost w none) := by
 obtain ⟨Q, hQ⟩ : ∃ Q, HpPost w none = Q := ⟨_, rfl⟩
 rw [hQ]
 have HQ := hid hQ
 obtain ⟨W1, hW1⟩ : ∃ W, w.alloc (.cells #[.int .u8 0, .int .u8 0, .int .u8 0, .int .u8 0, .int .u8 0, .int .u8 0, .int .u8 0, .int .u8 0, .int .u8 0, .int .u8 0, .int .u8 0, .int .u8 0, .int .u8 0, .int .u8 0, .int .u8 0, .int .u8 0] 125) = W := ⟨_, rfl⟩
 have hb1 : Below w.heap.size w W1 := by rw [← hW1]; exact ext_alloc (Below.refl _ _) _
 have hx1 : W1.heap[w.heap.size]? = some (.cells zero16 125 (0, 0)) := by rw [← hW1]; exact heap_alloc_new w _
 have hX1 : w.heap.size < W1.heap.size := heap_lt hx1
 have HB1 := hid hb1; have HG := hid hG; have HM := hid hM; have HX1 := hid hX1; have HXX1 := hid hx1
 have CU := hid (hcut W1 (hM.ext hb1))
 have RA := hid (fun W hM hG => hrow_any L (!true) W hLz hM hG)
 have RB := hid (fun W hM hG => hrow_any R true W hRz hM hG)
 have WR := hid hwrong_any
 have HNO : Hid (∀ W, Below W1.heap.size W1 W → (storeVar 125 ⟨w.heap.size, 0, none⟩ (.agg #[.int .u8 0, .int .u8 0, .int .u8 0, .int .u8 0, .int .u8 0, .int .u8 0, .int .u8 0, .int .u8 0, .int .u8 0, .int .u8 0, .int .u8 0, .int .u8 0, .int .u8 0, .int .u8 0, .int .u8 0, .int .u8 0])).run Tryz.prog (W.alloc (.cells #[.int .i64 11, .int .i64 0, .nilIface] 123)) = .ok () (W.alloc (.cells #[.int .i64 11, .int .i64 0, .nilIface] 123)) ∧ (loadVar 125 ⟨w.heap.size, 0, none⟩).run Tryz.prog (W.alloc (.cells #[.int .i64 11, .int .i64 0, .nilIface] 123)) = .ok (.agg #[.int .u8 0, .int .u8 0, .int .u8 0, .int .u8 0, .int .u8 0, .int .u8 0, .int .u8 0, .int .u8 0, .int .u8 0, .int .u8 0, .int .u8 0, .int .u8 0, .int .u8 0, .int .u8 0, .int .u8 0, .int .u8 0]) (W.alloc (.cells #[.int .i64 11, .int .i64 0, .nilIface] 123)) ∧ Q (.returned (.tuple #[.agg #[.int .u8 0, .int .u8 0, .int .u8 0, .int .u8 0, .int .u8 0, .int .u8 0, .int .u8 0, .int .u8 0, .int .u8 0, .int .u8 0, .int .u8 0, .int .u8 0, .int .u8 0, .int .u8 0, .int .u8 0, .int .u8 0], .iface 119 (.pointer (some ⟨W.heap.size, 0, none⟩))])) (W.alloc (.cells #[.int .i64 11, .int .i64 0, .nilIface] 123))) := hid (fun W hW => by
  have hE := failed_er (failed_of (w := W) (w0 := W) (k := 11) (i := 0) (Below.refl _ _) rfl)
  have hW2 := xT hW hE.2
  have h0 : (W.alloc (.cells #[.int .i64 11, .int .i64 0, .nilIface] 123)).heap[w.heap.size]? = some (.cells zero16 125 (0, 0)) := by
   have := hW2.block _ HX1.out
   exact this.trans HXX1.out
  have hs := v6_store zero16 zero16 rfl zero16_one rfl _ _ h0
  rw [row_same h0] at hs
  refine ⟨hs, v6_load zero16 rfl _ _ h0, ?_⟩
  rw [← HQ.out]
  exact ⟨xT hb1 hW2, _, rfl, hE.1⟩)
 have HA := hid hA; have HBB := hid hB
 clear hA hB
 clear hb1 hx1 hX1 hQ hG hM hcut _hsz hLz hRz
 go_enter Tryz.func97, Tryz.ntmps97
 go_wp2_with fail
 clear hW1
 refine CU.out.mono ?_
 rintro e w1 ⟨rfl, n, rfl⟩
 have HBD := hid (ext_drewN n (Below.refl W1.heap.size W1))
 have RA1 := hid (RA.out (W1.drewN n) ((HM.out.ext HB1.out).ext HBD.out) ((HG.out.ext HB1.out).ext HBD.out))
 go_wp2_with fail
 refine RA1.out.mono ?_
 intro e w2 hp
 have hb2 := hp.1
 have HB2 := hid (xT HBD.out hb2)
 have RB2 := hid (RB.out w2 ((HM.out.ext HB1.out).ext HB2.out) ((HG.out.ext HB1.out).ext HB2.out))
 have hp2 := hp.2
 rw [HA.out] at hp2
 obtain ⟨va, rfl, hoa⟩ := hp2
 obtain ⟨aa, ca, rfl, haa⟩ := aown_form hoa
 have HOA := hid hoa; have HAA := hid haa
 clear hp hb2 hoa haa
 go_wp2_with fail
 refine RB2.out.mono ?_
 intro e w3 hp
 have hb3 := hp.1
 have HB3 := hid (xT HB2.out hb3); have HB23 := hid hb3
 have hp2 := hp.2
 rw [HBB.out] at hp2
 obtain ⟨vb, rfl, hob⟩ := hp2
 obtain ⟨ab, cb, rfl, hab⟩ := aown_form hob
 have HOB := hid hob; have HAB := hid hab
 clear hp hb3 hob hab
 have q1 : IntKind.i64.wrap (8 - (x.length : Int)) = 8 - (x.length : Int) := i64n _ (by omega)
 have q2 : IntKind.i64.wrap (8 - (x.length : Int) - (y.length : Int)) = 8 - (x.length : Int) - (y.length : Int) := i64n _ (by omega)
 have t1 : decide (8 - (x.length : Int) - (y.length : Int) < 1) = true := dcT (by omega)
 obtain ⟨hst, hld, hF⟩ := HNO.out w3 HB3.out
 have HF := hid hF
 clear hF
 go_wp2_with fail
 refine (WR.out _).mono ?_
 rintro e w6 ⟨rfl, rfl⟩
 go_wp2_with ((with_reducible show wpList _ _ _ (_ :: _) _ _); refine st_arr 125 w.heap.size _ hst _ _ rfl rfl rfl rfl ?_)
 (try simp only [Exit.inBlock, Exit.then])
 exact bodyPost_ret (by simp [results, Tryz.results97, asAddr, Result.andThen, hld]) rfl HF.out
theorem hp_shut_not (s L R : ByteArray) (w : World) (hM : MaxT w) (hG : Glob w) (_hsz : s.size ≤ 1000000) (hLz : L.size ≤ 1000000) (hRz : R.size ≤ 1000000)
    (hcut : ∀ W, MaxT W → Calls Tryz.prog 85 #[.string s, .string ⟨#[58, 58]⟩] W fun e w' => e = .returned (.tuple #[.string L, .string R, .bool false]) ∧ ∃ n, w' = W.drewN n) {x : List Nat} {y : List Nat} (hxz : x.length ≤ 100000000) (hyz : y.length ≤ 100000000) (hA : rowL (!false) (bytesN L) = some x) (hB : rowL true (bytesN R) = some y) (hsum : x.length + y.length ≠ 8) :
    Calls Tryz.prog 97 #[.string s] w (HpPost w none) := by
 obtain ⟨Q, hQ⟩ : ∃ Q, HpPost w none = Q := ⟨_, rfl⟩
 rw [hQ]
 have HQ := hid hQ
 obtain ⟨W1, hW1⟩ : ∃ W, w.alloc (.cells #[.int .u8 0, .int .u8 0, .int .u8 0, .int .u8 0, .int .u8 0, .int .u8 0, .int .u8 0, .int .u8 0, .int .u8 0, .int .u8 0, .int .u8 0, .int .u8 0, .int .u8 0, .int .u8 0, .int .u8 0, .int .u8 0] 125) = W := ⟨_, rfl⟩
 have hb1 : Below w.heap.size w W1 := by rw [← hW1]; exact ext_alloc (Below.refl _ _) _
 have hx1 : W1.heap[w.heap.size]? = some (.cells zero16 125 (0, 0)) := by rw [← hW1]; exact heap_alloc_new w _
 have hX1 : w.heap.size < W1.heap.size := heap_lt hx1
 have HB1 := hid hb1; have HG := hid hG; have HM := hid hM; have HX1 := hid hX1; have HXX1 := hid hx1
 have CU := hid (hcut W1 (hM.ext hb1))
 have RA := hid (fun W hM hG => hrow_any L (!false) W hLz hM hG)
 have RB := hid (fun W hM hG => hrow_any R true W hRz hM hG)
 have WR := hid hwrong_any
 have HNO : Hid (∀ W, Below W1.heap.size W1 W → (storeVar 125 ⟨w.heap.size, 0, none⟩ (.agg #[.int .u8 0, .int .u8 0, .int .u8 0, .int .u8 0, .int .u8 0, .int .u8 0, .int .u8 0, .int .u8 0, .int .u8 0, .int .u8 0, .int .u8 0, .int .u8 0, .int .u8 0, .int .u8 0, .int .u8 0, .int .u8 0])).run Tryz.prog (W.alloc (.cells #[.int .i64 11, .int .i64 0, .nilIface] 123)) = .ok () (W.alloc (.cells #[.int .i64 11, .int .i64 0, .nilIface] 123)) ∧ (loadVar 125 ⟨w.heap.size, 0, none⟩).run Tryz.prog (W.alloc (.cells #[.int .i64 11, .int .i64 0, .nilIface] 123)) = .ok (.agg #[.int .u8 0, .int .u8 0, .int .u8 0, .int .u8 0, .int .u8 0, .int .u8 0, .int .u8 0, .int .u8 0, .int .u8 0, .int .u8 0, .int .u8 0, .int .u8 0, .int .u8 0, .int .u8 0, .int .u8 0, .int .u8 0]) (W.alloc (.cells #[.int .i64 11, .int .i64 0, .nilIface] 123)) ∧ Q (.returned (.tuple #[.agg #[.int .u8 0, .int .u8 0, .int .u8 0, .int .u8 0, .int .u8 0, .int .u8 0, .int .u8 0, .int .u8 0, .int .u8 0, .int .u8 0, .int .u8 0, .int .u8 0, .int .u8 0, .int .u8 0, .int .u8 0, .int .u8 0], .iface 119 (.pointer (some ⟨W.heap.size, 0, none⟩))])) (W.alloc (.cells #[.int .i64 11, .int .i64 0, .nilIface] 123))) := hid (fun W hW => by
  have hE := failed_er (failed_of (w := W) (w0 := W) (k := 11) (i := 0) (Below.refl _ _) rfl)
  have hW2 := xT hW hE.2
  have h0 : (W.alloc (.cells #[.int .i64 11, .int .i64 0, .nilIface] 123)).heap[w.heap.size]? = some (.cells zero16 125 (0, 0)) := by
   have := hW2.block _ HX1.out
   exact this.trans HXX1.out
  have hs := v6_store zero16 zero16 rfl zero16_one rfl _ _ h0
  rw [row_same h0] at hs
  refine ⟨hs, v6_load zero16 rfl _ _ h0, ?_⟩
  rw [← HQ.out]
  exact ⟨xT hb1 hW2, _, rfl, hE.1⟩)
 have HA := hid hA; have HBB := hid hB
 clear hA hB
 clear hb1 hx1 hX1 hQ hG hM hcut _hsz hLz hRz
 go_enter Tryz.func97, Tryz.ntmps97
 go_wp2_with fail
 clear hW1
 refine CU.out.mono ?_
 rintro e w1 ⟨rfl, n, rfl⟩
 have HBD := hid (ext_drewN n (Below.refl W1.heap.size W1))
 have RA1 := hid (RA.out (W1.drewN n) ((HM.out.ext HB1.out).ext HBD.out) ((HG.out.ext HB1.out).ext HBD.out))
 go_wp2_with fail
 refine RA1.out.mono ?_
 intro e w2 hp
 have hb2 := hp.1
 have HB2 := hid (xT HBD.out hb2)
 have RB2 := hid (RB.out w2 ((HM.out.ext HB1.out).ext HB2.out) ((HG.out.ext HB1.out).ext HB2.out))
 have hp2 := hp.2
 rw [HA.out] at hp2
 obtain ⟨va, rfl, hoa⟩ := hp2
 obtain ⟨aa, ca, rfl, haa⟩ := aown_form hoa
 have HOA := hid hoa; have HAA := hid haa
 clear hp hb2 hoa haa
 go_wp2_with fail
 refine RB2.out.mono ?_
 intro e w3 hp
 have hb3 := hp.1
 have HB3 := hid (xT HB2.out hb3); have HB23 := hid hb3
 have hp2 := hp.2
 rw [HBB.out] at hp2
 obtain ⟨vb, rfl, hob⟩ := hp2
 obtain ⟨ab, cb, rfl, hab⟩ := aown_form hob
 have HOB := hid hob; have HAB := hid hab
 clear hp hb3 hob hab
 have q1 : IntKind.i64.wrap (8 - (x.length : Int)) = 8 - (x.length : Int) := i64n _ (by omega)
 have q2 : IntKind.i64.wrap (8 - (x.length : Int) - (y.length : Int)) = 8 - (x.length : Int) - (y.length : Int) := i64n _ (by omega)
 have t1 : (8 - (x.length : Int) - (y.length : Int) != 0) = true := bne_iff_ne.2 (by omega)
 obtain ⟨hst, hld, hF⟩ := HNO.out w3 HB3.out
 have HF := hid hF
 clear hF
 go_wp2_with fail
 refine (WR.out _).mono ?_
 rintro e w6 ⟨rfl, rfl⟩
 go_wp2_with ((with_reducible show wpList _ _ _ (_ :: _) _ _); refine st_arr 125 w.heap.size _ hst _ _ rfl rfl rfl rfl ?_)
 (try simp only [Exit.inBlock, Exit.then])
 exact bodyPost_ret (by simp [results, Tryz.results97, asAddr, Result.andThen, hld]) rfl HF.out
theorem hp_open (s L R : ByteArray) (w : World) (hM : MaxT w) (hG : Glob w) (_hsz : s.size ≤ 1000000) (hLz : L.size ≤ 1000000) (hRz : R.size ≤ 1000000)
    (hcut : ∀ W, MaxT W → Calls Tryz.prog 85 #[.string s, .string ⟨#[58, 58]⟩] W fun e w' => e = .returned (.tuple #[.string L, .string R, .bool true]) ∧ ∃ n, w' = W.drewN n) {x y : List Nat} (hg16 : ∀ n ∈ x ++ List.replicate (8 - x.length - y.length) 0 ++ y, n < 65536) (hA : rowL (!true) (bytesN L) = some x) (hB : rowL true (bytesN R) = some y) (hsum : x.length + y.length ≤ 7) :
    Calls Tryz.prog 97 #[.string s] w (HpPost w (some (x ++ List.replicate (8 - x.length - y.length) 0 ++ y))) := by
 obtain ⟨Q, hQ⟩ : ∃ Q, HpPost w (some (x ++ List.replicate (8 - x.length - y.length) 0 ++ y)) = Q := ⟨_, rfl⟩
 rw [hQ]
 have HQ := hid hQ
 obtain ⟨W1, hW1⟩ : ∃ W, w.alloc (.cells #[.int .u8 0, .int .u8 0, .int .u8 0, .int .u8 0, .int .u8 0, .int .u8 0, .int .u8 0, .int .u8 0, .int .u8 0, .int .u8 0, .int .u8 0, .int .u8 0, .int .u8 0, .int .u8 0, .int .u8 0, .int .u8 0] 125) = W := ⟨_, rfl⟩
 have hb1 : Below w.heap.size w W1 := by rw [← hW1]; exact ext_alloc (Below.refl _ _) _
 have hx1 : W1.heap[w.heap.size]? = some (.cells zero16 125 (0, 0)) := by rw [← hW1]; exact heap_alloc_new w _
 have hX1 : w.heap.size < W1.heap.size := heap_lt hx1
 have HB1 := hid hb1; have HG := hid hG; have HM := hid hM; have HX1 := hid hX1; have HXX1 := hid hx1
 have CU := hid (hcut W1 (hM.ext hb1))
 have RA := hid (fun W hM hG => hrow_any L (!true) W hLz hM hG)
 have RB := hid (fun W hM hG => hrow_any R true W hRz hM hG)
 have WR := hid hwrong_any
 have hs8 : x.length + y.length ≤ 8 := by omega
 have hsp := splice_six x y hs8
 have hgl : (x ++ List.replicate (8 - x.length - y.length) 0 ++ y).length = 8 := by simp; omega
 have HA := hid hA; have HBB := hid hB
 clear hA hB
 clear hb1 hx1 hX1 hQ hG hM hcut _hsz hLz hRz
 go_enter Tryz.func97, Tryz.ntmps97
 go_wp2_with fail
 clear hW1
 refine CU.out.mono ?_
 rintro e w1 ⟨rfl, n, rfl⟩
 have HBD := hid (ext_drewN n (Below.refl W1.heap.size W1))
 have RA1 := hid (RA.out (W1.drewN n) ((HM.out.ext HB1.out).ext HBD.out) ((HG.out.ext HB1.out).ext HBD.out))
 go_wp2_with fail
 refine RA1.out.mono ?_
 intro e w2 hp
 have hb2 := hp.1
 have HB2 := hid (xT HBD.out hb2)
 have RB2 := hid (RB.out w2 ((HM.out.ext HB1.out).ext HB2.out) ((HG.out.ext HB1.out).ext HB2.out))
 have hp2 := hp.2
 rw [HA.out] at hp2
 obtain ⟨va, rfl, hoa⟩ := hp2
 obtain ⟨aa, ca, rfl, haa⟩ := aown_form hoa
 have HOA := hid hoa; have HAA := hid haa
 clear hp hb2 hoa haa
 go_wp2_with fail
 refine RB2.out.mono ?_
 intro e w3 hp
 have hb3 := hp.1
 have HB3 := hid (xT HB2.out hb3); have HB23 := hid hb3
 have hp2 := hp.2
 rw [HBB.out] at hp2
 obtain ⟨vb, rfl, hob⟩ := hp2
 obtain ⟨ab, cb, rfl, hab⟩ := aown_form hob
 have HOB := hid hob; have HAB := hid hab
 clear hp hb3 hob hab
 obtain ⟨nx, hnx⟩ : ∃ n, x.length = n := ⟨_, rfl⟩
 obtain ⟨ny, hny⟩ : ∃ n, y.length = n := ⟨_, rfl⟩
 rw [hnx, hny] at hsum
 have HNX := hid hnx; have HNY := hid hny
 rw [hnx, hny] at hsp hgl hg16 HQ
 rw [hnx] at HOA HAA ⊢
 rw [hny] at HOB HAB ⊢
 have q1 : IntKind.i64.wrap (8 - (nx : Int)) = 8 - (nx : Int) := i64n _ (by omega)
 have q2 : IntKind.i64.wrap (8 - (nx : Int) - (ny : Int)) = 8 - (nx : Int) - (ny : Int) := i64n _ (by omega)
 have t1 : decide (8 - (nx : Int) - (ny : Int) < 1) = false := dcF (by omega)
 clear hs8
 obtain ⟨w4, hW4⟩ : ∃ W, w3.alloc (.cells #[.int .u16 0, .int .u16 0, .int .u16 0, .int .u16 0, .int .u16 0, .int .u16 0, .int .u16 0, .int .u16 0] 92) = W := ⟨_, rfl⟩
 have hb4 : Below w3.heap.size w3 w4 := by rw [← hW4]; exact ext_alloc (Below.refl _ _) _
 have hx4 : w4.heap[w3.heap.size]? = some (.cells (u16V (List.replicate 8 0)).toArray 92 (0, 0)) := by rw [← hW4]; exact heap_alloc_new w3 _
 obtain ⟨X, hX⟩ : ∃ X, w3.heap.size = X := ⟨_, rfl⟩
 have hca : ∀ W, Below X w4 W → ∀ (j : Nat) v, (u16V x)[j]? = some v → ∃ ad, aa = some ad ∧ W.cell? (ad.add j) = some v := fun W hW j v hv => by
  have hj : j < nx := by rw [← HNX.out]; have := (List.getElem?_eq_some_iff.1 hv).1; simpa [u16V] using this
  rcases HAA.out with ⟨h0, _⟩ | ⟨g, rfl, h1, h2⟩
  · omega
  · refine ⟨_, rfl, ?_⟩
    rw [Addr.add_lit, Nat.zero_add, bcell1 hW (Nat.lt_of_lt_of_le h2 (by rw [← hX]; exact HB23.out.size)), bcell1 hb4 (Nat.lt_of_lt_of_le h2 HB23.out.size), bcell1 HB23.out h2, HOA.out.cellAt j (by simpa using hj)]
    exact hv
 have hcb : ∀ W, Below X w4 W → ∀ (j : Nat) v, (u16V y)[j]? = some v → ∃ ad, ab = some ad ∧ W.cell? (ad.add j) = some v := fun W hW j v hv => by
  have hj : j < ny := by rw [← HNY.out]; have := (List.getElem?_eq_some_iff.1 hv).1; simpa [u16V] using this
  rcases HAB.out with ⟨h0, _⟩ | ⟨g, rfl, h1, h2⟩
  · omega
  · refine ⟨_, rfl, ?_⟩
    rw [Addr.add_lit, Nat.zero_add, bcell1 hW (Nat.lt_of_lt_of_le h2 (Nat.le_of_eq hX)), bcell1 hb4 h2, HOB.out.cellAt j (by simpa using hj)]
    exact hv
 have HCA := hid hca; have HCB := hid hcb
 have hlX : (u16V x).length = nx := by rw [u16V_len, Nat.mul_one, HNX.out]
 have hlY : (u16V y).length = ny := by rw [u16V_len, Nat.mul_one, HNY.out]
 have hoX : ∀ v ∈ u16V x, v.oneCell' = true := fun v hv => by obtain ⟨m, _, rfl⟩ := List.mem_map.1 hv; rfl
 have hoY : ∀ v ∈ u16V y, v.oneCell' = true := fun v hv => by obtain ⟨m, _, rfl⟩ := List.mem_map.1 hv; rfl
 have HSP2 : Hid (splice (splice (u16V (List.replicate 8 0)) 0 (u16V x)) (8 - ny) (u16V y) = u16V (x ++ List.replicate (8 - nx - ny) 0 ++ y)) := hid (by rw [splice_u16, splice_u16, hsp])
 have HGC := hid (g8C_fOf hgl)
 have OF := hid (fun W => hof_any (fOf (x ++ List.replicate (8 - nx - ny) 0 ++ y)) W (fun j _ => fOf_lt hg16 j))
 obtain ⟨X1, hX1⟩ : ∃ l, u16V x = l := ⟨_, rfl⟩
 obtain ⟨Y1, hY1⟩ : ∃ l, u16V y = l := ⟨_, rfl⟩
 rw [hX1] at hca hlX hoX HSP2 HCA
 rw [hY1] at hcb hlY hoY HSP2 HCB
 have hL0 : (u16V (List.replicate 8 0)).length = 8 := rfl
 obtain ⟨Z1, hZ1⟩ : ∃ l, u16V (List.replicate 8 0) = l := ⟨_, rfl⟩
 rw [hZ1] at hx4 HSP2 hL0
 obtain ⟨L1, hL1⟩ : ∃ l, splice Z1 0 X1 = l := ⟨_, rfl⟩
 have hl1 : L1.length = 8 := by rw [← hL1, length_splice _ _ _ (by omega)]; exact hL0
 rw [hL1] at HSP2
 obtain ⟨G, hG0⟩ : ∃ l, x ++ List.replicate (8 - nx - ny) 0 ++ y = l := ⟨_, rfl⟩
 have HF : Hid (∀ W, Below w.heap.size w W → Q (.returned (.tuple #[.agg (v6C (fOf G)), .nilIface])) W) := hid (fun W hW => by
  rw [← HQ.out, ← hG0]
  exact ⟨hW, rfl⟩)
 rw [hG0] at HSP2 HGC OF
 obtain ⟨lo, hlo⟩ : ∃ lo, 8 - ny = lo := ⟨_, rfl⟩
 have hlo8 : lo ≤ 8 := by omega
 have sA0 := slA0 X
 have sA2 := slA2 X lo hlo8
 rw [show 8 - lo = ny by omega] at sA2
 obtain ⟨dq, hdq⟩ : ∃ d : Nat, (if 8 = lo then 0 else lo) = d := ⟨_, rfl⟩
 have hdq2 : 0 < Y1.length → dq = lo := fun h => by rw [← hdq, if_neg (by omega)]
 rw [hdq] at sA2
 have q3 : IntKind.i64.wrap (8 - (ny : Int)) = (lo : Int) := (i64n _ (by omega)).trans (by omega)
 rw [hlo] at HSP2
 have HVS : Hid (∀ W, Below X w4 W → (storeVar 125 ⟨w.heap.size, 0, none⟩ (.agg (v6C (fOf G)))).run Tryz.prog W = .ok () (W.setRow w.heap.size (v6C (fOf G))) ∧ (loadVar 125 ⟨w.heap.size, 0, none⟩).run Tryz.prog (W.setRow w.heap.size (v6C (fOf G))) = .ok (.agg (v6C (fOf G))) (W.setRow w.heap.size (v6C (fOf G))) ∧ Below w.heap.size w (W.setRow w.heap.size (v6C (fOf G)))) := hid (fun W hW => by
  have hz : w.heap.size < X := by rw [← hX]; exact Nat.lt_of_lt_of_le HX1.out HB3.out.size
  have h0 : W.heap[w.heap.size]? = some (.cells zero16 125 (0, 0)) := by
   rw [hW.block _ hz, hb4.block _ (by rw [hX]; exact hz), HB3.out.block _ HX1.out]; exact HXX1.out
  have hbW : Below w.heap.size w W := (xT HB1.out HB3.out).trans ((hb4.mono (by omega)).trans (hW.mono (by omega)))
  exact ⟨v6_store _ zero16 rfl (v6C_one _) rfl _ W h0, v6_load _ rfl _ _ (setRow_heap h0), setRow_below hbW (Nat.le_refl _)⟩)
 rw [hX] at hx4
 have HX4 := hid hx4; have HZ0 := hid hL0; have HLE := hid hL1; have HL1 := hid hl1; have HDQ := hid hdq2; have HLX := hid hlX; have HLY := hid hlY; have HOX := hid hoX; have HOY := hid hoY
 have HLO := hid hlo
 have HNX8 : Hid (nx ≤ 8 ∧ ny ≤ 8 ∧ ny + lo = 8) := hid ⟨by omega, by omega, by omega⟩
 clear hb4 hx4 hca hcb hlX hlY hoX hoY hX1 hY1 hL0 hZ1 hL1 hl1 hG0 hsp hgl hg16 hnx hny hlo hdq hdq2 hlo8
 obtain ⟨w5, hcp1, hg5, hb5⟩ := copy_u16 X 0 8 8 (some ⟨X, 0, none⟩) aa nx ca Z1 X1 w4 HX4.out (by rw [HLX.out]; exact (Nat.min_eq_left HNX8.out.1).symm) (fun h0 => by
  refine ⟨rfl, ?_⟩
  obtain ⟨ad, h1, _⟩ := HCA.out w4 (Below.refl _ _) 0 _ (List.getElem?_eq_getElem h0)
  refine ⟨ad, h1, fun j v hv => ?_⟩
  obtain ⟨ad2, h3, h4⟩ := HCA.out w4 (Below.refl _ _) j v hv
  rw [h1] at h3; cases h3; exact h4) (by rw [HLX.out, HZ0.out]; have := HNX8.out.1; omega) HOX.out
 rw [HLE.out] at hg5
 have HG5 := hid hg5; have HB5 := hid hb5
 obtain ⟨w6, hcp2, hg6, hb6⟩ := copy_u16 X lo ny ny (some ⟨X, dq, none⟩) ab ny cb L1 Y1 w5 hg5 (by rw [HLY.out]; exact (Nat.min_self _).symm) (fun h0 => by
  refine ⟨by rw [HDQ.out h0], ?_⟩
  obtain ⟨ad, h1, _⟩ := HCB.out w5 HB5.out 0 _ (List.getElem?_eq_getElem h0)
  refine ⟨ad, h1, fun j v hv => ?_⟩
  obtain ⟨ad2, h3, h4⟩ := HCB.out w5 HB5.out j v hv
  rw [h1] at h3; cases h3; exact h4) (by rw [HLY.out, HL1.out]; have := HNX8.out.2.2; omega) HOY.out
 rw [HLX.out] at hcp1
 rw [HLY.out] at hcp2
 have hb6 := HB5.out.trans hb6
 have hg6' := hg6
 rw [HSP2.out, HGC.out] at hg6'
 have hld := g8_load _ rfl _ w6 hg6'
 have HB6 := hid hb6
 obtain ⟨gs, hgs⟩ : ∃ gs, g8C (fOf G) = gs := ⟨_, rfl⟩
 rw [hgs] at hld OF
 obtain ⟨vs, hvs⟩ : ∃ vs, v6C (fOf G) = vs := ⟨_, rfl⟩
 rw [hvs] at OF HVS HF
 clear hb6 hg6 hg6' hgs hvs hg5 hb5
 go_wp2_with ((with_reducible show wpList _ _ _ (_ :: _) _ _); refine ld_arr 92 X _ hld _ rfl rfl rfl ?_)
 refine (OF.out _).mono ?_
 rintro e w7 ⟨rfl, hb7⟩
 obtain ⟨hst, hld, hbf⟩ := HVS.out w7 (HB6.out.trans (hb7.mono (by have := HB6.out.size; have := heap_lt HX4.out; omega)))
 have HF2 := hid (HF.out _ hbf)
 clear hb7 hbf
 go_wp2_with ((with_reducible show wpList _ _ _ (_ :: _) _ _); refine st_arr 125 w.heap.size _ hst _ _ rfl rfl rfl rfl ?_)
 (try simp only [Exit.inBlock, Exit.then])
 exact bodyPost_ret (by simp [results, Tryz.results97, asAddr, Result.andThen, hld]) rfl HF2.out
theorem hp_shut (s L R : ByteArray) (w : World) (hM : MaxT w) (hG : Glob w) (_hsz : s.size ≤ 1000000) (hLz : L.size ≤ 1000000) (hRz : R.size ≤ 1000000)
    (hcut : ∀ W, MaxT W → Calls Tryz.prog 85 #[.string s, .string ⟨#[58, 58]⟩] W fun e w' => e = .returned (.tuple #[.string L, .string R, .bool false]) ∧ ∃ n, w' = W.drewN n) {x y : List Nat} (hg16 : ∀ n ∈ x ++ List.replicate (8 - x.length - y.length) 0 ++ y, n < 65536) (hA : rowL (!false) (bytesN L) = some x) (hB : rowL true (bytesN R) = some y) (hs0 : s ≠ ⟨#[]⟩) (hsum : x.length + y.length = 8) :
    Calls Tryz.prog 97 #[.string s] w (HpPost w (some (x ++ List.replicate (8 - x.length - y.length) 0 ++ y))) := by
 obtain ⟨Q, hQ⟩ : ∃ Q, HpPost w (some (x ++ List.replicate (8 - x.length - y.length) 0 ++ y)) = Q := ⟨_, rfl⟩
 rw [hQ]
 have HQ := hid hQ
 obtain ⟨W1, hW1⟩ : ∃ W, w.alloc (.cells #[.int .u8 0, .int .u8 0, .int .u8 0, .int .u8 0, .int .u8 0, .int .u8 0, .int .u8 0, .int .u8 0, .int .u8 0, .int .u8 0, .int .u8 0, .int .u8 0, .int .u8 0, .int .u8 0, .int .u8 0, .int .u8 0] 125) = W := ⟨_, rfl⟩
 have hb1 : Below w.heap.size w W1 := by rw [← hW1]; exact ext_alloc (Below.refl _ _) _
 have hx1 : W1.heap[w.heap.size]? = some (.cells zero16 125 (0, 0)) := by rw [← hW1]; exact heap_alloc_new w _
 have hX1 : w.heap.size < W1.heap.size := heap_lt hx1
 have HB1 := hid hb1; have HG := hid hG; have HM := hid hM; have HX1 := hid hX1; have HXX1 := hid hx1
 have CU := hid (hcut W1 (hM.ext hb1))
 have RA := hid (fun W hM hG => hrow_any L (!false) W hLz hM hG)
 have RB := hid (fun W hM hG => hrow_any R true W hRz hM hG)
 have WR := hid hwrong_any
 have hs8 : x.length + y.length ≤ 8 := by omega
 have hsp := splice_six x y hs8
 have hgl : (x ++ List.replicate (8 - x.length - y.length) 0 ++ y).length = 8 := by simp; omega
 have HA := hid hA; have HBB := hid hB
 clear hA hB
 clear hb1 hx1 hX1 hQ hG hM hcut _hsz hLz hRz
 go_enter Tryz.func97, Tryz.ntmps97
 go_wp2_with fail
 clear hW1
 refine CU.out.mono ?_
 rintro e w1 ⟨rfl, n, rfl⟩
 have HBD := hid (ext_drewN n (Below.refl W1.heap.size W1))
 have RA1 := hid (RA.out (W1.drewN n) ((HM.out.ext HB1.out).ext HBD.out) ((HG.out.ext HB1.out).ext HBD.out))
 go_wp2_with fail
 refine RA1.out.mono ?_
 intro e w2 hp
 have hb2 := hp.1
 have HB2 := hid (xT HBD.out hb2)
 have RB2 := hid (RB.out w2 ((HM.out.ext HB1.out).ext HB2.out) ((HG.out.ext HB1.out).ext HB2.out))
 have hp2 := hp.2
 rw [HA.out] at hp2
 obtain ⟨va, rfl, hoa⟩ := hp2
 obtain ⟨aa, ca, rfl, haa⟩ := aown_form hoa
 have HOA := hid hoa; have HAA := hid haa
 clear hp hb2 hoa haa
 go_wp2_with fail
 refine RB2.out.mono ?_
 intro e w3 hp
 have hb3 := hp.1
 have HB3 := hid (xT HB2.out hb3); have HB23 := hid hb3
 have hp2 := hp.2
 rw [HBB.out] at hp2
 obtain ⟨vb, rfl, hob⟩ := hp2
 obtain ⟨ab, cb, rfl, hab⟩ := aown_form hob
 have HOB := hid hob; have HAB := hid hab
 clear hp hb3 hob hab
 obtain ⟨nx, hnx⟩ : ∃ n, x.length = n := ⟨_, rfl⟩
 obtain ⟨ny, hny⟩ : ∃ n, y.length = n := ⟨_, rfl⟩
 rw [hnx, hny] at hsum
 have HNX := hid hnx; have HNY := hid hny
 rw [hnx, hny] at hsp hgl hg16 HQ
 rw [hnx] at HOA HAA ⊢
 rw [hny] at HOB HAB ⊢
 have q1 : IntKind.i64.wrap (8 - (nx : Int)) = 8 - (nx : Int) := i64n _ (by omega)
 have q2 : IntKind.i64.wrap (8 - (nx : Int) - (ny : Int)) = 8 - (nx : Int) - (ny : Int) := i64n _ (by omega)
 have t1 : (8 - (nx : Int) - (ny : Int) != 0) = false := by rw [show 8 - (nx : Int) - (ny : Int) = 0 by omega]; rfl
 have t1' : (8 - (nx : Int) - (ny : Int) == 0) = true := by rw [show 8 - (nx : Int) - (ny : Int) = 0 by omega]; rfl
 have t0 : (s.toList == []) = false := by
  have h := beqS_f hs0
  rw [show (⟨#[]⟩ : ByteArray).toList = [] by rw [ByteArray.toList_eq]] at h
  exact h
 clear hs8 hs0
 obtain ⟨w4, hW4⟩ : ∃ W, w3.alloc (.cells #[.int .u16 0, .int .u16 0, .int .u16 0, .int .u16 0, .int .u16 0, .int .u16 0, .int .u16 0, .int .u16 0] 92) = W := ⟨_, rfl⟩
 have hb4 : Below w3.heap.size w3 w4 := by rw [← hW4]; exact ext_alloc (Below.refl _ _) _
 have hx4 : w4.heap[w3.heap.size]? = some (.cells (u16V (List.replicate 8 0)).toArray 92 (0, 0)) := by rw [← hW4]; exact heap_alloc_new w3 _
 obtain ⟨X, hX⟩ : ∃ X, w3.heap.size = X := ⟨_, rfl⟩
 have hca : ∀ W, Below X w4 W → ∀ (j : Nat) v, (u16V x)[j]? = some v → ∃ ad, aa = some ad ∧ W.cell? (ad.add j) = some v := fun W hW j v hv => by
  have hj : j < nx := by rw [← HNX.out]; have := (List.getElem?_eq_some_iff.1 hv).1; simpa [u16V] using this
  rcases HAA.out with ⟨h0, _⟩ | ⟨g, rfl, h1, h2⟩
  · omega
  · refine ⟨_, rfl, ?_⟩
    rw [Addr.add_lit, Nat.zero_add, bcell1 hW (Nat.lt_of_lt_of_le h2 (by rw [← hX]; exact HB23.out.size)), bcell1 hb4 (Nat.lt_of_lt_of_le h2 HB23.out.size), bcell1 HB23.out h2, HOA.out.cellAt j (by simpa using hj)]
    exact hv
 have hcb : ∀ W, Below X w4 W → ∀ (j : Nat) v, (u16V y)[j]? = some v → ∃ ad, ab = some ad ∧ W.cell? (ad.add j) = some v := fun W hW j v hv => by
  have hj : j < ny := by rw [← HNY.out]; have := (List.getElem?_eq_some_iff.1 hv).1; simpa [u16V] using this
  rcases HAB.out with ⟨h0, _⟩ | ⟨g, rfl, h1, h2⟩
  · omega
  · refine ⟨_, rfl, ?_⟩
    rw [Addr.add_lit, Nat.zero_add, bcell1 hW (Nat.lt_of_lt_of_le h2 (Nat.le_of_eq hX)), bcell1 hb4 h2, HOB.out.cellAt j (by simpa using hj)]
    exact hv
 have HCA := hid hca; have HCB := hid hcb
 have hlX : (u16V x).length = nx := by rw [u16V_len, Nat.mul_one, HNX.out]
 have hlY : (u16V y).length = ny := by rw [u16V_len, Nat.mul_one, HNY.out]
 have hoX : ∀ v ∈ u16V x, v.oneCell' = true := fun v hv => by obtain ⟨m, _, rfl⟩ := List.mem_map.1 hv; rfl
 have hoY : ∀ v ∈ u16V y, v.oneCell' = true := fun v hv => by obtain ⟨m, _, rfl⟩ := List.mem_map.1 hv; rfl
 have HSP2 : Hid (splice (splice (u16V (List.replicate 8 0)) 0 (u16V x)) (8 - ny) (u16V y) = u16V (x ++ List.replicate (8 - nx - ny) 0 ++ y)) := hid (by rw [splice_u16, splice_u16, hsp])
 have HGC := hid (g8C_fOf hgl)
 have OF := hid (fun W => hof_any (fOf (x ++ List.replicate (8 - nx - ny) 0 ++ y)) W (fun j _ => fOf_lt hg16 j))
 obtain ⟨X1, hX1⟩ : ∃ l, u16V x = l := ⟨_, rfl⟩
 obtain ⟨Y1, hY1⟩ : ∃ l, u16V y = l := ⟨_, rfl⟩
 rw [hX1] at hca hlX hoX HSP2 HCA
 rw [hY1] at hcb hlY hoY HSP2 HCB
 have hL0 : (u16V (List.replicate 8 0)).length = 8 := rfl
 obtain ⟨Z1, hZ1⟩ : ∃ l, u16V (List.replicate 8 0) = l := ⟨_, rfl⟩
 rw [hZ1] at hx4 HSP2 hL0
 obtain ⟨L1, hL1⟩ : ∃ l, splice Z1 0 X1 = l := ⟨_, rfl⟩
 have hl1 : L1.length = 8 := by rw [← hL1, length_splice _ _ _ (by omega)]; exact hL0
 rw [hL1] at HSP2
 obtain ⟨G, hG0⟩ : ∃ l, x ++ List.replicate (8 - nx - ny) 0 ++ y = l := ⟨_, rfl⟩
 have HF : Hid (∀ W, Below w.heap.size w W → Q (.returned (.tuple #[.agg (v6C (fOf G)), .nilIface])) W) := hid (fun W hW => by
  rw [← HQ.out, ← hG0]
  exact ⟨hW, rfl⟩)
 rw [hG0] at HSP2 HGC OF
 obtain ⟨lo, hlo⟩ : ∃ lo, 8 - ny = lo := ⟨_, rfl⟩
 have hlo8 : lo ≤ 8 := by omega
 have sA0 := slA0 X
 have sA2 := slA2 X lo hlo8
 rw [show 8 - lo = ny by omega] at sA2
 obtain ⟨dq, hdq⟩ : ∃ d : Nat, (if 8 = lo then 0 else lo) = d := ⟨_, rfl⟩
 have hdq2 : 0 < Y1.length → dq = lo := fun h => by rw [← hdq, if_neg (by omega)]
 rw [hdq] at sA2
 have q3 : IntKind.i64.wrap (8 - (ny : Int)) = (lo : Int) := (i64n _ (by omega)).trans (by omega)
 rw [hlo] at HSP2
 have HVS : Hid (∀ W, Below X w4 W → (storeVar 125 ⟨w.heap.size, 0, none⟩ (.agg (v6C (fOf G)))).run Tryz.prog W = .ok () (W.setRow w.heap.size (v6C (fOf G))) ∧ (loadVar 125 ⟨w.heap.size, 0, none⟩).run Tryz.prog (W.setRow w.heap.size (v6C (fOf G))) = .ok (.agg (v6C (fOf G))) (W.setRow w.heap.size (v6C (fOf G))) ∧ Below w.heap.size w (W.setRow w.heap.size (v6C (fOf G)))) := hid (fun W hW => by
  have hz : w.heap.size < X := by rw [← hX]; exact Nat.lt_of_lt_of_le HX1.out HB3.out.size
  have h0 : W.heap[w.heap.size]? = some (.cells zero16 125 (0, 0)) := by
   rw [hW.block _ hz, hb4.block _ (by rw [hX]; exact hz), HB3.out.block _ HX1.out]; exact HXX1.out
  have hbW : Below w.heap.size w W := (xT HB1.out HB3.out).trans ((hb4.mono (by omega)).trans (hW.mono (by omega)))
  exact ⟨v6_store _ zero16 rfl (v6C_one _) rfl _ W h0, v6_load _ rfl _ _ (setRow_heap h0), setRow_below hbW (Nat.le_refl _)⟩)
 rw [hX] at hx4
 have HX4 := hid hx4; have HZ0 := hid hL0; have HLE := hid hL1; have HL1 := hid hl1; have HDQ := hid hdq2; have HLX := hid hlX; have HLY := hid hlY; have HOX := hid hoX; have HOY := hid hoY
 have HLO := hid hlo
 have HNX8 : Hid (nx ≤ 8 ∧ ny ≤ 8 ∧ ny + lo = 8) := hid ⟨by omega, by omega, by omega⟩
 clear hb4 hx4 hca hcb hlX hlY hoX hoY hX1 hY1 hL0 hZ1 hL1 hl1 hG0 hsp hgl hg16 hnx hny hlo hdq hdq2 hlo8
 obtain ⟨w5, hcp1, hg5, hb5⟩ := copy_u16 X 0 8 8 (some ⟨X, 0, none⟩) aa nx ca Z1 X1 w4 HX4.out (by rw [HLX.out]; exact (Nat.min_eq_left HNX8.out.1).symm) (fun h0 => by
  refine ⟨rfl, ?_⟩
  obtain ⟨ad, h1, _⟩ := HCA.out w4 (Below.refl _ _) 0 _ (List.getElem?_eq_getElem h0)
  refine ⟨ad, h1, fun j v hv => ?_⟩
  obtain ⟨ad2, h3, h4⟩ := HCA.out w4 (Below.refl _ _) j v hv
  rw [h1] at h3; cases h3; exact h4) (by rw [HLX.out, HZ0.out]; have := HNX8.out.1; omega) HOX.out
 rw [HLE.out] at hg5
 have HG5 := hid hg5; have HB5 := hid hb5
 obtain ⟨w6, hcp2, hg6, hb6⟩ := copy_u16 X lo ny ny (some ⟨X, dq, none⟩) ab ny cb L1 Y1 w5 hg5 (by rw [HLY.out]; exact (Nat.min_self _).symm) (fun h0 => by
  refine ⟨by rw [HDQ.out h0], ?_⟩
  obtain ⟨ad, h1, _⟩ := HCB.out w5 HB5.out 0 _ (List.getElem?_eq_getElem h0)
  refine ⟨ad, h1, fun j v hv => ?_⟩
  obtain ⟨ad2, h3, h4⟩ := HCB.out w5 HB5.out j v hv
  rw [h1] at h3; cases h3; exact h4) (by rw [HLY.out, HL1.out]; have := HNX8.out.2.2; omega) HOY.out
 rw [HLX.out] at hcp1
 rw [HLY.out] at hcp2
 have hb6 := HB5.out.trans hb6
 have hg6' := hg6
 rw [HSP2.out, HGC.out] at hg6'
 have hld := g8_load _ rfl _ w6 hg6'
 have HB6 := hid hb6
 obtain ⟨gs, hgs⟩ : ∃ gs, g8C (fOf G) = gs := ⟨_, rfl⟩
 rw [hgs] at hld OF
 obtain ⟨vs, hvs⟩ : ∃ vs, v6C (fOf G) = vs := ⟨_, rfl⟩
 rw [hvs] at OF HVS HF
 clear hb6 hg6 hg6' hgs hvs hg5 hb5
 go_wp2_with ((with_reducible show wpList _ _ _ (_ :: _) _ _); refine ld_arr 92 X _ hld _ rfl rfl rfl ?_)
 refine (OF.out _).mono ?_
 rintro e w7 ⟨rfl, hb7⟩
 obtain ⟨hst, hld, hbf⟩ := HVS.out w7 (HB6.out.trans (hb7.mono (by have := HB6.out.size; have := heap_lt HX4.out; omega)))
 have HF2 := hid (HF.out _ hbf)
 clear hb7 hbf
 go_wp2_with ((with_reducible show wpList _ _ _ (_ :: _) _ _); refine st_arr 125 w.heap.size _ hst _ _ rfl rfl rfl rfl ?_)
 (try simp only [Exit.inBlock, Exit.then])
 exact bodyPost_ret (by simp [results, Tryz.results97, asAddr, Result.andThen, hld]) rfl HF2.out
end
section
open Go.RowKit
theorem rowF_len (last : Bool) : ∀ (ps : List (List Nat)) (acc l : List Nat), rowF last ps acc = some l → l.length ≤ acc.length + 2 * ps.length
 | [], acc, l, h => by rw [rowF] at h; rw [← Option.some.inj h]; simp
 | p :: ps, acc, l, h => by
   rw [rowF] at h
   cases hg : grpL p with
   | some n =>
     rw [hg] at h
     have := rowF_len last ps _ l h
     rw [List.length_append, List.length_singleton] at this
     rw [List.length_cons]; omega
   | none =>
     rw [hg] at h
     cases hs : strictQ p with
     | none => rw [hs] at h; cases h
     | some a =>
       rw [hs] at h
       simp only at h
       split at h
       · rw [← Option.some.inj h]
         simp only [List.length_append, List.length_cons, List.length_nil]
         omega
       · cases h
theorem splitN_len (m : Nat) : ∀ l : List Nat, (splitN m l).length ≤ l.length + 1
 | [] => Nat.le_refl _
 | c :: l => by
   have ih := splitN_len m l
   rw [splitN]
   split
   · rw [List.length_cons, List.length_cons]; omega
   · split
     · rename_i h t heq
       rw [heq, List.length_cons] at ih
       rw [List.length_cons, List.length_cons]; omega
     · simp
theorem rowL_len {last : Bool} {b l : List Nat} (h : rowL last b = some l) : l.length ≤ 2 * b.length + 2 := by
 unfold rowL at h
 split at h
 · rw [← Option.some.inj h]; exact Nat.zero_le _
 · have h1 := rowF_len last _ _ _ h
   have h2 := splitN_len 58 b
   rw [List.length_nil] at h1; omega
theorem list_take (s : ByteArray) (i : Nat) : (⟨(s.data.toList.take i).toArray⟩ : ByteArray) = bytesL ((bytesN s).take i) := by
 rw [list_bytesL, List.map_take]; rfl
theorem list_drop (s : ByteArray) (i : Nat) : (⟨(s.data.toList.drop i).toArray⟩ : ByteArray) = bytesL ((bytesN s).drop i) := by
 rw [list_bytesL, List.map_drop]; rfl
theorem hparse_any (s : ByteArray) (w : World) (hs : s.size ≤ 1000000) (hM : MaxT w) (hG : Glob w) : Calls Tryz.prog 97 #[.string s] w (HpPost w (parse6 (bytesN s))) := by
 have hCUT := fun (W : World) (hM : MaxT W) => Tryz.strings_Cut s ⟨#[58, 58]⟩ _ W (by omega) hM.2.choose_spec
 rw [show ((⟨#[58, 58]⟩ : ByteArray).data.toList) = [58, 58] from rfl] at hCUT
 unfold parse6
 rcases cut_gap s with ⟨hg, hc⟩ | ⟨i, hg, hc⟩
 · rw [hg]
   rw [hc] at hCUT
   have e1 : (⟨s.data.toList.toArray⟩ : ByteArray) = s := by cases s; simp
   have e2 : (⟨([] : List UInt8).toArray⟩ : ByteArray) = ⟨#[]⟩ := rfl
   simp only [e1] at hCUT
   have hB : rowL true (bytesN (⟨#[]⟩ : ByteArray)) = some [] := rfl
   simp only
   cases hA : rowL true (bytesN s) with
   | none => exact hp_ns_false s s ⟨#[]⟩ w hM hG hs hs (by decide) hCUT (y := []) (by simp) hA hB
   | some l =>
     have hl := rowL_len hA
     rw [bytesN_len] at hl
     simp only
     by_cases h8 : l.length = 8
     · rw [if_pos h8]
       have hs0 : s ≠ ⟨#[]⟩ := fun e => by
        rw [e] at hA
        have : (some [] : Option (List Nat)) = some l := hA
        rw [← Option.some.inj this] at h8
        cases h8
       have e3 : l ++ List.replicate (8 - l.length - ([] : List Nat).length) 0 ++ [] = l := by rw [h8]; simp
       have := hp_shut s s ⟨#[]⟩ w hM hG hs hs (by decide) hCUT (x := l) (y := []) (by rw [e3]; exact rowL_small hA) hA hB hs0 (by simpa using h8)
       rw [e3] at this
       exact this
     · rw [if_neg h8]
       exact hp_shut_not s s ⟨#[]⟩ w hM hG hs hs (by decide) hCUT (x := l) (y := []) (by omega) (by simp) hA hB (by simpa using h8)
 · rw [hg]
   rw [hc] at hCUT
   simp only [list_take, list_drop] at hCUT
   have hbl := bytesN_bytesL ((bytesN_lt s).take i)
   have hbr := bytesN_bytesL ((bytesN_lt s).drop (i + 2))
   have hLz : (bytesL ((bytesN s).take i)).size ≤ 1000000 := by rw [bytesL_size, List.length_take, bytesN_len]; omega
   have hRz : (bytesL ((bytesN s).drop (i + 2))).size ≤ 1000000 := by rw [bytesL_size, List.length_drop, bytesN_len]; omega
   simp only
   cases hA : rowL false ((bytesN s).take i) with
   | none =>
     cases hB : rowL true ((bytesN s).drop (i + 2)) with
     | none => exact hp_nn_true s _ _ w hM hG hs hLz hRz hCUT (by rw [hbl]; exact hA) (by rw [hbr]; exact hB)
     | some y =>
       have hy := rowL_len hB
       rw [List.length_drop, bytesN_len] at hy
       exact hp_ns_true s _ _ w hM hG hs hLz hRz hCUT (y := y) (by omega) (by rw [hbl]; exact hA) (by rw [hbr]; exact hB)
   | some x =>
     have hx := rowL_len hA
     rw [List.length_take, bytesN_len] at hx
     cases hB : rowL true ((bytesN s).drop (i + 2)) with
     | none => exact hp_sn_true s _ _ w hM hG hs hLz hRz hCUT (x := x) (by omega) (by rw [hbl]; exact hA) (by rw [hbr]; exact hB)
     | some y =>
       have hy := rowL_len hB
       rw [List.length_drop, bytesN_len] at hy
       simp only
       unfold six
       by_cases h7 : x.length + y.length ≤ 7
       · rw [if_pos h7]
         have hsm : ∀ n ∈ x ++ List.replicate (8 - x.length - y.length) 0 ++ y, n < 65536 := fun n hn => by
          rcases List.mem_append.1 hn with hn | hn
          · rcases List.mem_append.1 hn with hn | hn
            · exact rowL_small hA n hn
            · rw [List.eq_of_mem_replicate hn]; decide
          · exact rowL_small hB n hn
         exact hp_open s _ _ w hM hG hs hLz hRz hCUT hsm (by rw [hbl]; exact hA) (by rw [hbr]; exact hB) h7
       · rw [if_neg h7]
         exact hp_open_many s _ _ w hM hG hs hLz hRz hCUT (by omega) (by omega) (by rw [hbl]; exact hA) (by rw [hbr]; exact hB) h7
end
end Go.Proofs.YtbeodjipdpcaiaaGreatDoor
