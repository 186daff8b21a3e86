/- Cnw4, Cnw5, Cnw6 in one text (a claim holds at most 60 files). -/
import Derived.Test.YtheoaijheijojaaGreatDoorZCnw3
import Derived.Test.YtheoaijheijojaaGreatDoorZCn8s
import Derived.Test.YtheoaijheijojaaGreatDoorZSrt0s
import Derived.Test.YtheoaijheijojaaGreatDoorShelf
import Derived.Shelf.Vars
namespace Go.Proofs.YtheoaijheijojaaGreatDoor
section
open Go.RowKit
theorem failE_any (k a : Int) (w : World) (hk : k ≠ 0) : Calls Tryz.prog 30 #[.int .i64 k, .int .i64 a] w fun e w' => ∃ p, e = .returned (.iface 115 (.pointer (some p))) ∧ ErrIs w' (.iface 115 (.pointer (some p))) (k, a) ∧ Below w.heap.size w w' :=
  (fail_any k a w).mono (fun e w' ⟨he, hw⟩ => ⟨_, he, by rw [hw]; exact .inr ⟨hk, Rd.failed k a w⟩, by rw [hw]; exact ext_alloc (Below.refl _ _) _⟩)
def inS (s : PS) (id : Int) : Bool := decide (0 ≤ id ∧ id < s.js.length)
def formA (s : PS) (id : Int) : ByteArray := if inS s id = true then formF s.js s.ups s.ups.length id.toNat else ⟨#[]⟩
def WrPost (w : World) (s : PS) (id : Int) (e : Ending) (w' : World) : Prop :=
  (inS s id = true ∧ e = .returned (.tuple #[.string (formA s id), .nilIface]) ∧ Below w.heap.size w w') ∨
  (inS s id = false ∧ ∃ p, e = .returned (.tuple #[.string ⟨#[]⟩, .iface 115 (.pointer (some p))]) ∧ ErrIs w' (.iface 115 (.pointer (some p))) (30, id) ∧ Below w.heap.size w w')
set_option maxRecDepth 100000 in
theorem write_any (base D T : Nat) (s : PS) (nodes : Int) (tv : Value) (ns : List ANode) (K : Nat) (F : FEnv s K) (id : Int) (w : World) (he : ScEnv w) (hv : PView w base D T s nodes tv ns) :
    Calls Tryz.prog 22 #[ptrV D, .int .i64 id] w (WrPost w s id) := by
  have ND := node_p hv id
  by_cases hin : 0 ≤ id ∧ id < s.js.length
  · have hi : inS s id = true := decide_eq_true hin
    rw [decide_eq_true hin] at ND
    have ND := Lib.hid ND
    have FO := Lib.hid (fun W (hW : Below w.heap.size w W) => form_any base D T s nodes tv ns K F s.ups.length id.toNat W (he.ext hW) (hv.below hW) (by omega) (by rw [F.ul]; omega))
    rw [Int.toNat_of_nonneg hin.1] at FO
    refine Calls.mono (R := fun e w' => e = .returned (.tuple #[.string (formA s id), .nilIface]) ∧ Below w.heap.size w w') ?_ (fun e w' h => .inl ⟨hi, h⟩)
    have hfa : formF s.js s.ups s.ups.length id.toNat = formA s id := by unfold formA; rw [if_pos hi]
    rw [hfa] at FO
    generalize formA s id = R at *
    generalize nodeA s.js id = x at *
    obtain ⟨kd, key, text, at_⟩ := x
    clear hv he F hin hi hfa
    go_enter Tryz.func22, Tryz.ntmps22
    go_wp2_with fail
    refine ND.out.mono ?_
    rintro _ w2 ⟨rfl, hb2⟩
    have HB3 : Hid (Below w.heap.size w (w2.alloc (.cells #[.int .i64 kd, .string key, .string text, .int .i64 at_] 68))) := Lib.hid (ext_alloc hb2 _)
    clear hb2
    go_wp2_with fail
    go_at_call 50
    refine (FO.out _ HB3.out).mono ?_
    rintro _ w4 ⟨rfl, hb4⟩
    have HB4 := Lib.hid (HB3.out.trans (hb4.mono HB3.out.size))
    clear hb4
    go_wp2
    go_ret2
    exact ⟨rfl, HB4.out⟩
  · have hi : inS s id = false := decide_eq_false hin
    rw [decide_eq_false hin] at ND
    have ND := Lib.hid ND
    have FL := Lib.hid (fun W => failE_any 30 id W (by decide))
    refine Calls.mono (R := fun e w' => ∃ p, e = .returned (.tuple #[.string ⟨#[]⟩, .iface 115 (.pointer (some p))]) ∧ ErrIs w' (.iface 115 (.pointer (some p))) (30, id) ∧ Below w.heap.size w w') ?_ (fun e w' h => .inr ⟨hi, h⟩)
    generalize nodeA s.js id = x at *
    obtain ⟨kd, key, text, at_⟩ := x
    clear hv he F hin hi
    go_enter Tryz.func22, Tryz.ntmps22
    go_wp2_with fail
    refine ND.out.mono ?_
    rintro _ w2 ⟨rfl, hb2⟩
    have HB3 : Hid (Below w.heap.size w (w2.alloc (.cells #[.int .i64 kd, .string key, .string text, .int .i64 at_] 68))) := Lib.hid (ext_alloc hb2 _)
    clear hb2
    go_wp2_with fail
    go_at_call 30
    refine (FL.out _).mono ?_
    rintro _ w4 ⟨p, rfl, he4, hb4⟩
    have HB4 := Lib.hid (HB3.out.trans (hb4.mono HB3.out.size))
    have HE4 := Lib.hid he4
    clear hb4 he4
    go_wp2
    refine bodyPost_ret (v := .tuple #[.string ⟨#[]⟩, .iface 115 (.pointer (some p))]) (by simp [results, Tryz.results22, go_sem]) rfl ⟨p, rfl, HE4.out, HB4.out⟩
end
section
open Go.RowKit
theorem ErrIs.form {w : World} {u : Value} {p : Int × Int} (h : ErrIs w u p) (h0 : p.1 ≠ 0) : ∃ q, u = .iface 115 (.pointer (some q)) := by
  rcases h with ⟨h1, _⟩ | ⟨_, h2⟩
  · exact absurd h1 h0
  · obtain ⟨k, a⟩ := p
    obtain ⟨b, off, u', rfl, _⟩ := fault_inv h2
    exact ⟨_, rfl⟩
theorem ErrIs.nil {w : World} {u : Value} {p : Int × Int} (h : ErrIs w u p) (h0 : p.1 = 0) : u = .nilIface := by
  rcases h with ⟨_, h1⟩ | ⟨h1, _⟩
  · exact h1
  · exact absurd h0 h1
def StPost8 (w : World) (r : Int × Int) (e : Ending) (w' : World) : Prop := e = .returned (.tuple #[.int .i64 r.1, .int .i64 r.2]) ∧ Below w.heap.size w w'
set_option maxRecDepth 100000 in
set_option maxHeartbeats 8000000 in
theorem step_any8 (base D T : Nat) (s : PS) (nodes : Int) (tv : Value) (ns : List ANode) (id : Int) (x : ByteArray) (w : World) (hv : PView w base D T s nodes tv ns) (hx : x.size ≤ 1000000) :
    Calls Tryz.prog 47 #[ptrV D, .int .i64 id, .string x] w (StPost8 w (stepS s.js s.ups id x)) := by
  have ND := node_p hv id
  by_cases hin : 0 ≤ id ∧ id < s.js.length
  · rw [decide_eq_true hin] at ND
    obtain ⟨i, rfl⟩ : ∃ i : Nat, id = i := ⟨id.toNat, by omega⟩
    obtain ⟨y, hy⟩ := get_ex s.js i (by omega)
    rw [nodeA_in hy] at ND
    have ht : textA s.js i = y := by unfold textA; rw [hy]; rfl
    have hstep : stepS s.js s.ups i x = (if y.kind = 6 then (if anyK s.js (kids s.ups i) x = true then ((lastK s.js (kids s.ups i) x, 0) : Int × Int) else (0, 30))
      else if y.kind = 5 then (match numberF 10 1000000 x with
        | .ok n => (if h : n < (kids s.ups i).length then ((((kids s.ups i)[n] : Nat) : Int), (0 : Int)) else (0, 30))
        | .no _ _ => ((0, 11) : Int × Int)) else (0, 32) : Int × Int) := by
      unfold stepS
      rw [if_pos hin, Int.toNat_natCast, ht]
      rfl
    have ND := Lib.hid ND
    have ck6 := checkS_in hy 6
    have ck5 := checkS_in hy 5
    have hki := kids_le s.ups i
    have hul := hv.d.len
    have hgl := hv.d.good.len
    have hjl := hv.jl
    have MB := fun W (hW : Below w.heap.size w W) => member_p (hv.below hW) i x
    have IT := fun W (hW : Below w.heap.size w W) => items_p (hv.below hW) i
    have DC := Lib.hid (fun W => dec_any x 1000000 W hx (by decide))
    obtain ⟨R, hR⟩ : ∃ R, stepS s.js s.ups i x = R := ⟨_, rfl⟩
    rw [hR] at hstep ⊢
    clear hR
    obtain ⟨kd, key, text, at_⟩ := y
    simp only at ck6 ck5 hstep
    by_cases h6 : kd = 6
    · subst h6
      rw [if_pos (.inl rfl)] at ck6
      rw [if_pos rfl] at hstep
      have MB := Lib.hid MB
      have CK := Lib.hid ck6
      by_cases ha : anyK s.js (kids s.ups i) x = true
      · rw [if_pos ha] at hstep
        have HA := Lib.hid ha
        obtain ⟨L, hL⟩ : ∃ L, lastK s.js (kids s.ups i) x = L := ⟨_, rfl⟩
        rw [hL] at hstep
        have HL := Lib.hid hL
        have HR : Hid (R = (L, 0)) := Lib.hid hstep
        clear hv hin hy ht hstep ck6 ck5 IT ha hL hki hul hgl hjl hx
        go_enter Tryz.func47, Tryz.ntmps47
        go_wp2_with fail
        refine ND.out.mono ?_
        rintro _ w2 ⟨rfl, hb2⟩
        have HB3 : Hid (Below w.heap.size w (w2.alloc (.cells #[.int .i64 6, .string key, .string text, .int .i64 at_] 68))) := Lib.hid (ext_alloc hb2 _)
        clear hb2
        go_wp2_with fail
        go_at_call 28
        refine (MB.out _ HB3.out).mono ?_
        rintro _ w4 ⟨one, u, rfl, hb4, _, hgd⟩
        obtain ⟨e1, e2⟩ := hgd (by rw [CK.out])
        rw [Int.toNat_natCast] at e1 e2
        rw [if_pos HA.out] at e2
        obtain rfl := e2.nil rfl
        rw [HL.out] at e1
        subst e1
        have HB4 := Lib.hid (HB3.out.trans (hb4.mono HB3.out.size))
        clear hb4 hgd e2
        go_wp2
        refine bodyPost_ret (v := .tuple #[.int .i64 one, .int .i64 0]) (by simp [results, Tryz.results47, go_sem]) rfl ⟨by rw [HR.out], HB4.out⟩
      · rw [if_neg ha] at hstep
        have HA := Lib.hid ha
        have HR : Hid (R = (0, 30)) := Lib.hid hstep
        clear hv hin hy ht hstep ck6 ck5 IT ha hki hul hgl hjl hx
        go_enter Tryz.func47, Tryz.ntmps47
        go_wp2_with fail
        refine ND.out.mono ?_
        rintro _ w2 ⟨rfl, hb2⟩
        have HB3 : Hid (Below w.heap.size w (w2.alloc (.cells #[.int .i64 6, .string key, .string text, .int .i64 at_] 68))) := Lib.hid (ext_alloc hb2 _)
        clear hb2
        go_wp2_with fail
        go_at_call 28
        refine (MB.out _ HB3.out).mono ?_
        rintro _ w4 ⟨one, u, rfl, hb4, _, hgd⟩
        obtain ⟨e1, e2⟩ := hgd (by rw [CK.out])
        rw [Int.toNat_natCast] at e1 e2
        rw [if_neg HA.out] at e2
        obtain ⟨q, rfl⟩ := e2.form (by show (30 : Int) ≠ 0; decide)
        have HB4 := Lib.hid (HB3.out.trans (hb4.mono HB3.out.size))
        clear hb4 hgd e2 e1
        go_wp2
        refine bodyPost_ret (v := .tuple #[.int .i64 0, .int .i64 30]) (by simp [results, Tryz.results47, go_sem]) rfl ⟨by rw [HR.out], HB4.out⟩
    · rw [if_neg h6] at hstep
      have t6 : (kd == 6) = false := beq_eq_false_iff_ne.2 h6
      by_cases h5 : kd = 5
      · subst h5
        rw [if_pos (.inl rfl)] at ck5
        rw [if_pos rfl] at hstep
        have IT := Lib.hid IT
        have CK := Lib.hid ck5
        obtain ⟨ks, hks⟩ : ∃ ks, kids s.ups i = ks := ⟨_, rfl⟩
        rw [hks] at hki hstep
        have HK := Lib.hid hks
        have hkl : ks.length ≤ 100000 := by omega
        have HST := Lib.hid hstep
        clear hv hin hy ht hstep ck6 ck5 MB hks hki hul hgl hjl hx h6
        go_enter Tryz.func47, Tryz.ntmps47
        go_wp2_with fail
        refine ND.out.mono ?_
        rintro _ w2 ⟨rfl, hb2⟩
        have HB3 : Hid (Below w.heap.size w (w2.alloc (.cells #[.int .i64 5, .string key, .string text, .int .i64 at_] 68))) := Lib.hid (ext_alloc hb2 _)
        clear hb2
        go_wp2_with fail
        go_at_call 80
        refine (DC.out _).mono ?_
        intro e w4 hsc
        cases hr : numberF 10 1000000 x with
        | no k p =>
          rw [hr] at hsc
          obtain ⟨u, rfl, hf⟩ := hsc
          have HR : Hid (R = (0, 11)) := Lib.hid (by rw [HST.out, hr])
          have HB4 := Lib.hid (HB3.out.trans (hf.2.mono HB3.out.size))
          clear hf hr
          go_wp2_with fail
          go_at_call 76
          refine (IT.out _ HB4.out).mono ?_
          rintro _ w5 ⟨v5, u5, rfl, hu, hgd, _, hb5⟩
          rw [CK.out] at hu hgd
          obtain rfl := hu.nil rfl
          have HB5 := Lib.hid (HB4.out.trans (hb5.mono HB4.out.size))
          clear hb5 hgd hu
          go_wp2
          refine bodyPost_ret (v := .tuple #[.int .i64 0, .int .i64 11]) (by simp [results, Tryz.results47, go_sem]) rfl ⟨by rw [HR.out], HB5.out⟩
        | ok n =>
          rw [hr] at hsc
          obtain ⟨rfl, hb4⟩ := hsc
          have hst2 := HST.out
          rw [hr] at hst2
          simp only at hst2
          have hn : n ≤ 1000000 := by
            unfold numberF at hr
            split at hr
            · cases hr
            · split at hr
              · cases hr
              · split at hr
                · cases hr
                · cases hr; omega
          have HB4 := Lib.hid (HB3.out.trans (hb4.mono HB3.out.size))
          have HS2 := Lib.hid hst2
          clear hb4 hr hst2 HST
          go_wp2_with fail
          go_at_call 76
          refine (IT.out _ HB4.out).mono ?_
          rintro _ w5 ⟨v5, u5, rfl, hu, hgd, _, hb5⟩
          rw [CK.out] at hu hgd
          obtain rfl := hu.nil rfl
          have hr5 := hgd rfl
          rw [Int.toNat_natCast, HK.out] at hr5
          obtain ⟨a5, c5, rfl, _, hc5, hx5⟩ := hr5.nats_inv
          have HX5 := Lib.hid hx5
          have HB5 := Lib.hid (HB4.out.trans (hb5.mono HB4.out.size))
          clear hb5 hgd hu hr5 hx5
          have cv : IntKind.u64.wrap (ks.length : Int) = (ks.length : Int) := IntWalk.u64_in _ (by omega)
          by_cases hlt : n < ks.length
          · obtain ⟨b, off, rfl, _, hc⟩ := HX5.out (by omega)
            have c0 := hc n hlt
            have t1 : decide ((ks.length : Int) ≤ (n : Int)) = false := decide_eq_false (by omega)
            have t1' : decide (ks.length ≤ n) = false := decide_eq_false (by omega)
            have hst2 := HS2.out
            rw [dif_pos hlt] at hst2
            obtain ⟨z, hz⟩ : ∃ z, ks[n] = z := ⟨_, rfl⟩
            rw [hz] at c0 hst2
            have HR : Hid (R = (((z : Nat) : Int), 0)) := Lib.hid hst2
            have HLT := Lib.hid hlt
            have hlt2 : (n : Int) < (ks.length : Int) := by omega
            clear hc hz HX5 hst2 HS2
            go_wp2
            refine bodyPost_ret (v := .tuple #[.int .i64 z, .int .i64 0]) (by simp [results, Tryz.results47, go_sem]) rfl ⟨by rw [HR.out], HB5.out⟩
          · have t1 : decide ((ks.length : Int) ≤ (n : Int)) = true := decide_eq_true (by omega)
            have t1' : decide (ks.length ≤ n) = true := decide_eq_true (by omega)
            have hst2 := HS2.out
            rw [dif_neg hlt] at hst2
            have HR : Hid (R = (0, 30)) := Lib.hid hst2
            clear HX5 hlt hst2 HS2
            go_wp2
            refine bodyPost_ret (v := .tuple #[.int .i64 0, .int .i64 30]) (by simp [results, Tryz.results47, go_sem]) rfl ⟨by rw [HR.out], HB5.out⟩
      · rw [if_neg h5] at hstep
        have HR : Hid (R = (0, 32)) := Lib.hid hstep
        have t5 : (kd == 5) = false := beq_eq_false_iff_ne.2 h5
        have t5' : (kd != 5) = true := bne_iff_ne.2 h5
        clear hv hin hy ht hstep ck6 ck5 MB IT hki hul hgl hjl hx h6 h5
        go_enter Tryz.func47, Tryz.ntmps47
        go_wp2_with fail
        refine ND.out.mono ?_
        rintro _ w2 ⟨rfl, hb2⟩
        have HB3 : Hid (Below w.heap.size w (w2.alloc (.cells #[.int .i64 kd, .string key, .string text, .int .i64 at_] 68))) := Lib.hid (ext_alloc hb2 _)
        clear hb2
        go_wp2
        refine bodyPost_ret (v := .tuple #[.int .i64 0, .int .i64 32]) (by simp [results, Tryz.results47, go_sem]) rfl ⟨by rw [HR.out], HB3.out⟩
  · rw [decide_eq_false hin] at ND
    have hstep : stepS s.js s.ups id x = (0, 30) := by unfold stepS; rw [if_neg hin]
    have ND := Lib.hid ND
    rw [hstep]
    generalize nodeA s.js id = y at *
    obtain ⟨kd, key, text, at_⟩ := y
    clear hv hin hstep
    go_enter Tryz.func47, Tryz.ntmps47
    go_wp2_with fail
    refine ND.out.mono ?_
    rintro _ w2 ⟨rfl, hb2⟩
    have HB3 : Hid (Below w.heap.size w (w2.alloc (.cells #[.int .i64 kd, .string key, .string text, .int .i64 at_] 68))) := Lib.hid (ext_alloc hb2 _)
    clear hb2
    go_wp2
    refine bodyPost_ret (v := .tuple #[.int .i64 0, .int .i64 30]) (by simp [results, Tryz.results47, go_sem]) rfl ⟨rfl, HB3.out⟩
end
section
open Go.RowKit
/-- The library's variable holds some number. -/
def MaxT (w : World) : Prop := 2 < w.heap.size ∧ ∃ m, w.cell? ⟨2, 0, none⟩ = some (.int .i64 m)
theorem MaxT.ext {w w' : World} (h : MaxT w) (hb : Below w.heap.size w w') : MaxT w' := by
  obtain ⟨h1, m, h2⟩ := h
  exact ⟨Nat.lt_of_lt_of_le h1 hb.size, m, (bcell1 hb h1 0).trans h2⟩
theorem maxT_of {w : World} (h : w.ShapedOpen Tryz.prog) : MaxT w := by
  have hg : 2 < Tryz.prog.globals.size := of_decide_eq_true (by kernel_rfl)
  obtain ⟨m, hm⟩ := cell_of_shapedOpen_int (P := Tryz.prog) (g := 2) (t := 3) (zero := #[.int .i64 0]) (k := .i64) h hg (by kernel_rfl) rfl (by kernel_rfl) (by kernel_rfl) Tryz.underlying3
  refine ⟨?_, m, hm⟩
  exact World.block_lt_of_cell? w ⟨2, 0, none⟩ hm
def PaPost (w : World) (R : Int × Int × Int) (e : Ending) (w' : World) : Prop := ∃ u, e = .returned (.tuple #[.int .i64 R.1, u]) ∧ ErrIs w' u R.2 ∧ Below w.heap.size w w'
def PaRel (s : PS) (segs : List ByteArray) (R : Int × Int × Int) (W : World) (vi va vj : Value) (wr : World) : Prop := ∃ (j : Nat) (id at_ : Int), vi = .int .i64 id ∧ va = .int .i64 at_ ∧ vj = .int .i64 j ∧ j ≤ segs.length ∧ 0 ≤ at_ ∧ at_ ≤ 1000001 * j ∧ pathL s.js s.ups (segs.drop j) at_ id = R ∧ Below W.heap.size W wr
theorem segL_le : ∀ (l : List UInt8), ∀ x ∈ segL l, x.length ≤ l.length
  | [], x, h => by rw [segL, List.mem_singleton] at h; subst h; exact Nat.le_refl _
  | c :: l, x, h => by
    have ih := segL_le l
    rw [segL] at h
    split at h
    · rcases List.mem_cons.1 h with rfl | h
      · exact Nat.zero_le _
      · have := ih x h; rw [List.length_cons]; omega
    · split at h
      · rename_i y t heq
        rw [heq] at ih
        rcases List.mem_cons.1 h with rfl | h
        · have := ih y (by simp); simp only [List.length_cons]; omega
        · have := ih x (by simp [h]); rw [List.length_cons]; omega
      · rw [List.mem_singleton] at h
        subst h
        simp
theorem segsB_le {s x : ByteArray} (h : x ∈ segsB s) : x.size ≤ s.size := by
  unfold segsB at h
  obtain ⟨l, hl, rfl⟩ := List.mem_map.1 h
  have := segL_le _ l hl
  rw [Array.length_toList] at this
  show l.toArray.size ≤ s.data.size
  simpa using this
set_option maxRecDepth 100000 in
set_option maxHeartbeats 16000000 in
theorem path_any8 (base D T : Nat) (s : PS) (nodes : Int) (tv : Value) (ns : List ANode) (id : Int) (P : ByteArray) (w : World) (hv : PView w base D T s nodes tv ns) (hm : MaxT w) (hz : P.size ≤ 1000000) :
    Calls Tryz.prog 19 #[ptrV D, .int .i64 id, .string P] w (PaPost w (pathS s.js s.ups id P)) := by
  by_cases h0 : P.size = 0
  · obtain rfl := empty_of h0
    have ND := node_p hv id
    have hR : pathS s.js s.ups id ⟨#[]⟩ = if 0 ≤ id ∧ id < s.js.length then (id, 0, 0) else (0, 30, 0) := by unfold pathS; rw [if_pos h0]
    rw [hR]
    by_cases hin : 0 ≤ id ∧ id < s.js.length
    · rw [decide_eq_true hin] at ND
      rw [if_pos hin]
      have ND := Lib.hid ND
      generalize nodeA s.js id = y at *
      obtain ⟨kd, key, text, at_⟩ := y
      clear hv hm hz hin hR h0
      go_enter Tryz.func19, Tryz.ntmps19
      go_wp2_with fail
      refine ND.out.mono ?_
      rintro _ w2 ⟨rfl, hb2⟩
      have HB3 : Hid (Below w.heap.size w (w2.alloc (.cells #[.int .i64 kd, .string key, .string text, .int .i64 at_] 68))) := Lib.hid (ext_alloc hb2 _)
      clear hb2
      go_wp2
      refine bodyPost_ret (v := .tuple #[.int .i64 id, .nilIface]) (by simp [results, Tryz.results19, go_sem]) rfl ⟨_, rfl, .inl ⟨rfl, rfl⟩, HB3.out⟩
    · rw [decide_eq_false hin] at ND
      rw [if_neg hin]
      have ND := Lib.hid ND
      have FL := Lib.hid (fun W => failE_any 30 0 W (by decide))
      generalize nodeA s.js id = y at *
      obtain ⟨kd, key, text, at_⟩ := y
      clear hv hm hz hin hR h0
      go_enter Tryz.func19, Tryz.ntmps19
      go_wp2_with fail
      refine ND.out.mono ?_
      rintro _ w2 ⟨rfl, hb2⟩
      have HB3 : Hid (Below w.heap.size w (w2.alloc (.cells #[.int .i64 kd, .string key, .string text, .int .i64 at_] 68))) := Lib.hid (ext_alloc hb2 _)
      clear hb2
      go_wp2_with fail
      go_at_call 30
      refine (FL.out _).mono ?_
      rintro _ w4 ⟨p, rfl, he4, hb4⟩
      have HB4 := Lib.hid (HB3.out.trans (hb4.mono HB3.out.size))
      have HE4 := Lib.hid he4
      clear hb4 he4
      go_wp2
      refine bodyPost_ret (v := .tuple #[.int .i64 0, .iface 115 (.pointer (some p))]) (by simp [results, Tryz.results19, go_sem]) rfl ⟨_, rfl, HE4.out, HB4.out⟩
  · have hne := str_ne h0
    have hpos : 0 < P.size := by omega
    have hb0 : (P[0]'hpos).toNat = byteAt P 0 := (byteAt_get P 0 hpos).symm
    by_cases h47 : byteAt P 0 = 47
    · have hR : pathS s.js s.ups id P = pathL s.js s.ups (segsB (P.extract 1 P.size)) 0 id := by unfold pathS; rw [if_neg h0, if_pos h47]
      rw [hR]
      have t47 : (((P[0]'hpos).toNat : Int) != 47) = false := by rw [hb0, h47]; rfl
      obtain ⟨Q, hQ⟩ : ∃ Q, P.extract 1 P.size = Q := ⟨_, rfl⟩
      have hqz : Q.size ≤ 1000000 := by rw [← hQ, ByteArray.size_extract]; omega
      rw [hQ]
      obtain ⟨hm1, mm, hm2⟩ := hm
      have hseg := segs_eq Q.size Q rfl
      have hsl := Lib.splitB_all ⟨#[47]⟩ (by decide) 0 _ Q rfl
      have hcl := Lib.countB_le ⟨#[47]⟩ (by decide) Q.size Q (Nat.le_refl _)
      have SPL := Lib.hid (Tryz.strings_Split Q ⟨#[47]⟩ mm w (by omega) hm2 (by decide))
      rw [hseg] at hsl
      rw [hseg] at SPL
      have hsz : ∀ x ∈ segsB Q, x.size ≤ 1000000 := fun x hx => Nat.le_trans (segsB_le hx) hqz
      generalize segsB Q = segs at *
      generalize Lib.countB Q ⟨#[47]⟩ = cnt at *
      obtain ⟨R, hRR⟩ : ∃ R, pathL s.js s.ups segs 0 id = R := ⟨_, rfl⟩
      rw [hRR]
      have R0 : PaRel s segs R (w.alloc (.cells (segs.map Value.string).toArray 9)) (.int .i64 id) (.int .i64 0) (.int .i64 0) (w.alloc (.cells (segs.map Value.string).toArray 9)) := ⟨0, id, 0, rfl, rfl, rfl, Nat.zero_le _, by omega, by omega, hRR, Below.refl _ _⟩
      have HR0 := Lib.hid R0
      have HB0 : Hid (Below w.heap.size w (w.alloc (.cells (segs.map Value.string).toArray 9))) := Lib.hid (ext_alloc (Below.refl _ _) _)
      have hcell : ∀ j x, segs[j]? = some x → (w.alloc (.cells (segs.map Value.string).toArray 9)).cell? ⟨w.heap.size, j, none⟩ = some (.string x) := fun j x hx => by
        simp [hx]
      have HCE := Lib.hid hcell
      have hzz : w.heap.size < (w.alloc (.cells (segs.map Value.string).toArray 9)).heap.size := by simp
      have HZZ := Lib.hid hzz
      have ST := Lib.hid (fun W (hW : Below (w.alloc (.cells (segs.map Value.string).toArray 9)).heap.size (w.alloc (.cells (segs.map Value.string).toArray 9)) W) (id : Int) (x : ByteArray) (hx : x.size ≤ 1000000) => step_any8 base D T s nodes tv ns id x W ((hv.below HB0.out).below hW) hx)
      have HSZ := Lib.hid hsz
      have HSL := Lib.hid hsl
      have FL := Lib.hid (fun k a W (hk : k ≠ 0) => failE_any k a W hk)
      have hcn : cnt ≤ 1000000 := by omega
      have HQ := Lib.hid hQ
      clear hv hm1 hm2 hz h0 hb0 h47 hR hqz hseg hsl hsz hRR R0 hcell hzz hcl
      go_enter Tryz.func19, Tryz.ntmps19
      go_wp2_with fail
      go_at_call 46
      refine SPL.out.mono ?_
      rintro _ w2 ⟨rfl, rfl⟩
      generalize (w.alloc (.cells (segs.map Value.string).toArray 9)) = w2 at *
      go_wp2_with fail
      go_loopw [1, 10, 35] (PaRel s segs R w2) (fun _ _ j _ => segs.length - (intOf j).toNat)
      case atStart => exact HR0.out
      case round =>
        obtain ⟨j, id1, at1, rfl, rfl, rfl, hj, ha0, ha1, hpl, hb⟩ := hrel
        have hsl := HSL.out
        by_cases hlt : j < segs.length
        · obtain ⟨x, hx⟩ := get_ex segs j hlt
          have c0 : wr.cell? ⟨w.heap.size, j, none⟩ = some (.string x) := (bcell1 hb HZZ.out j).trans (HCE.out j x hx)
          have t1 : decide ((j : Int) < (cnt : Int) + 1) = true := decide_eq_true (by omega)
          have t1' : decide (j < cnt + 1) = true := decide_eq_true (by omega)
          have hj1 : j < cnt + 1 := by omega
          have hxz := HSZ.out x (List.mem_of_getElem? hx)
          have q1 : IntKind.i64.wrap ((j : Int) + 1) = (j : Int) + 1 := IntWalk.i64_in _ (by omega)
          have hdrop : segs.drop j = x :: segs.drop (j + 1) := by
            obtain ⟨h1, h2⟩ := List.getElem?_eq_some_iff.1 hx
            rw [List.drop_eq_getElem_cons h1, h2]
          rw [hdrop, pathL] at hpl
          have SX := Lib.hid (ST.out wr hb id1 x hxz)
          obtain ⟨⟨n1, k1⟩, hst⟩ : ∃ r, stepS s.js s.ups id1 x = r := ⟨_, rfl⟩
          rw [hst] at SX hpl
          simp only at hpl
          have q2 : IntKind.i64.wrap ((x.size : Int) + 1) = (x.size : Int) + 1 := IntWalk.i64_in _ (by omega)
          have q3 : IntKind.i64.wrap (at1 + ((x.size : Int) + 1)) = at1 + ((x.size : Int) + 1) := IntWalk.i64_in _ (by omega)
          have HB := Lib.hid hb
          have HPL := Lib.hid hpl
          have HSLH := Lib.hid hsl
          clear hb hpl hx hst hdrop hsl
          go_wp2_with fail
          go_at_call 47
          refine SX.out.mono ?_
          rintro _ w4 ⟨rfl, hb4⟩
          simp only
          have HB4 := Lib.hid (HB.out.trans (hb4.mono HB.out.size))
          have HB44 := Lib.hid hb4
          clear hb4 SX
          by_cases hk : k1 = 0
          · have hpl := HPL.out
            rw [if_pos hk] at hpl
            have tk : (k1 != 0) = false := by rw [hk]; rfl
            have R1 : PaRel s segs R w2 (.int .i64 n1) (.int .i64 (at1 + ((x.size : Int) + 1))) (.int .i64 ((j : Int) + 1)) w4 := ⟨j + 1, n1, _, rfl, rfl, by go_num, hlt, by omega, by push_cast; omega, by rw [← Int.add_assoc]; exact hpl, HB4.out⟩
            have HRR := Lib.hid R1
            clear R1 hpl hk
            go_wp2
            refine ⟨?_, by simp [intOf]; omega⟩
            have R := HRR.out
            first | exact R | ((repeat apply Exists.intro); exact ⟨R, rfl⟩)
          · have hpl := HPL.out
            rw [if_neg hk] at hpl
            have HRE := Lib.hid hpl
            have tk : (k1 != 0) = true := bne_iff_ne.2 hk
            have FK := Lib.hid (fun W => FL.out k1 at1 W hk)
            clear hk hpl
            go_wp2_with fail
            go_at_call 30
            refine (FK.out _).mono ?_
            rintro _ w5 ⟨p, rfl, he5, hb5⟩
            have HB5 := Lib.hid (HB0.out.trans ((HB4.out.trans (hb5.mono HB4.out.size)).mono HB0.out.size))
            have HE5 := Lib.hid he5
            clear hb5 he5
            go_wp2
            refine bodyPost_ret (v := .tuple #[.int .i64 0, .iface 115 (.pointer (some p))]) (by simp [results, Tryz.results19, go_sem]) rfl ⟨_, by rw [← HRE.out], by rw [← HRE.out]; exact HE5.out, HB5.out⟩
        · have t1 : decide ((j : Int) < (cnt : Int) + 1) = false := decide_eq_false (by omega)
          have t1' : decide (j < cnt + 1) = false := decide_eq_false (by omega)
          have hd : segs.drop j = [] := List.drop_of_length_le (by omega)
          rw [hd, pathL] at hpl
          have HRE := Lib.hid hpl
          have HB5 := Lib.hid (HB0.out.trans (hb.mono HB0.out.size))
          clear hd hpl hb hlt hsl
          go_wp2
          refine bodyPost_ret (v := .tuple #[.int .i64 id1, .nilIface]) (by simp [results, Tryz.results19, go_sem]) rfl ⟨_, by rw [← HRE.out], by rw [← HRE.out]; exact .inl ⟨rfl, rfl⟩, HB5.out⟩
    · have hR : pathS s.js s.ups id P = (0, 11, 0) := by unfold pathS; rw [if_neg h0, if_neg h47]
      rw [hR]
      have t47 : (((P[0]'hpos).toNat : Int) != 47) = true := bne_iff_ne.2 (by rw [hb0]; omega)
      have FL := Lib.hid (fun W => failE_any 11 0 W (by decide))
      clear hv hm hz h0 hb0 h47 hR
      go_enter Tryz.func19, Tryz.ntmps19
      go_wp2_with fail
      go_at_call 30
      refine (FL.out _).mono ?_
      rintro _ w4 ⟨p, rfl, he4, hb4⟩
      have HB4 := Lib.hid hb4
      have HE4 := Lib.hid he4
      clear hb4 he4
      go_wp2
      refine bodyPost_ret (v := .tuple #[.int .i64 0, .iface 115 (.pointer (some p))]) (by simp [results, Tryz.results19, go_sem]) rfl ⟨_, rfl, HE4.out, HB4.out⟩
end
end Go.Proofs.YtheoaijheijojaaGreatDoor
