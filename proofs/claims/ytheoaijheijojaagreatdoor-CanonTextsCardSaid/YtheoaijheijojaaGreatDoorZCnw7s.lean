/- Cnw7, Cnw8 in one text (a claim holds at most 60 files). -/
import Derived.Test.YtheoaijheijojaaGreatDoorZCnw4s
import Derived.Test.YtheoaijheijojaaGreatDoorZSrt0s
import Derived.Test.YtheoaijheijojaaGreatDoorZQuo6s
import Derived.BigRegion
import Derived.RegionTactic
namespace Go.Proofs.YtheoaijheijojaaGreatDoor
section
open Go.RowKit
theorem J_take_size (l : List ByteArray) (j : Nat) : (J (l.take j)).size ≤ (J l).size + 1 := by
  have key : ∀ (l : List ByteArray) (j : Nat), (Lib.joinTail [44] ((l.take j).map (·.data.toList))).length ≤ (Lib.joinTail [44] (l.map (·.data.toList))).length := by
    intro l
    induction l with
    | nil => intro j; simp
    | cons x l ih =>
      intro j
      cases j with
      | zero => simp [Lib.joinTail]
      | succ j => have := ih j; simp [Lib.joinTail] at this ⊢; omega
  have e : ∀ l : List ByteArray, (J l).size = (Lib.join (l.map (·.data.toList)) [44]).length := fun l => by unfold J; show (List.toArray _).size = _; simp
  rw [e, e]
  cases l with
  | nil => simp
  | cons x l =>
    cases j with
    | zero => simp [Lib.join_nil]
    | succ j =>
      rw [List.take_succ_cons, List.map_cons, List.map_cons, Lib.join_cons, Lib.join_cons, List.length_append, List.length_append]
      have := key l j
      omega
def RlRel (l : List ByteArray) (W : World) (o i : Value) (wr : World) : Prop := wr = W ∧ ∃ j : Nat, i = .int .i64 j ∧ j ≤ l.length ∧ o = .string (⟨#[91]⟩ ++ J (l.take j))
set_option maxRecDepth 100000 in
set_option maxHeartbeats 8000000 in
theorem rlist_any (w : World) (v : Value) (l : List ByteArray) (h : Rd (Own w) w v (.list 1 (l.map .str))) (hl : l.length ≤ 100000) (hz : (lstB l).size ≤ 1000000000) :
    Calls Tryz.prog 41 #[v] w fun e w' => e = .returned (.string (lstB l)) ∧ w = w' := by
  obtain ⟨a, c, rfl, _, hc, hx⟩ := h.strs_inv
  have HX := Lib.hid hx
  have hjz : (J l).size ≤ 1000000000 := by
    unfold lstB at hz
    rw [ByteArray.size_append, ByteArray.size_append] at hz
    omega
  have HJ := Lib.hid hjz
  obtain ⟨R, hR⟩ : ∃ R, lstB l = R := ⟨_, rfl⟩
  rw [hR]
  have HR := Lib.hid hR
  clear h hx hz hjz hR
  go_enter Tryz.func41, Tryz.ntmps41
  go_wp2_with fail
  go_loopw [3, 4] (RlRel l w) (fun _ i _ => l.length - (intOf i).toNat)
  case atStart => exact ⟨rfl, 0, rfl, Nat.zero_le _, by rw [List.take_zero, J_nil]; rfl⟩
  case round =>
    obtain ⟨rfl, j, rfl, hj, rfl⟩ := hrel
    have hsz := J_take_size l j
    have hjl := HJ.out
    by_cases hlt : j < l.length
    · obtain ⟨x, hx⟩ := get_ex l j hlt
      obtain ⟨b, off, rfl, _, hcell⟩ := HX.out (by omega)
      have c0 := hcell j x hx
      have hxz : x.size ≤ 1000000000 := Nat.le_trans (mem_J_size (List.mem_of_getElem? hx)) hjl
      have t1 : decide ((j : Int) < (l.length : Int)) = true := decide_eq_true (by omega)
      have t1' : decide (j < l.length) = true := decide_eq_true hlt
      have q1 : IntKind.i64.wrap ((j : Int) + 1) = (j : Int) + 1 := IntWalk.i64_in _ (by omega)
      have hst := J_step hx ⟨#[91]⟩
      have hpz : (⟨#[91]⟩ ++ J (l.take j) : ByteArray).size ≤ 1000000002 := by
        rw [ByteArray.size_append]
        have : (⟨#[91]⟩ : ByteArray).size = 1 := rfl
        omega
      generalize (⟨#[91]⟩ ++ J (l.take j) : ByteArray) = u at *
      by_cases h0 : 0 < j
      · rw [if_pos h0] at hst
        have t0 : decide ((0 : Int) < (j : Int)) = true := decide_eq_true (by omega)
        have t0' : decide (0 < j) = true := decide_eq_true h0
        have R1 : RlRel l wr (.string (u ++ ⟨#[44]⟩ ++ x)) (.int .i64 ((j : Int) + 1)) wr := ⟨rfl, j + 1, by go_num, hlt, by rw [hst]⟩
        have HRR := Lib.hid R1
        clear R1 hst hcell hx hsz hjl
        go_wp2
        refine ⟨?_, by simp [intOf]; omega⟩
        have R := HRR.out
        first | exact R | ((repeat apply Exists.intro); exact ⟨R, rfl⟩)
      · rw [if_neg h0] at hst
        have t0 : decide ((0 : Int) < (j : Int)) = false := decide_eq_false (by omega)
        have t0' : decide (0 < j) = false := decide_eq_false h0
        have R1 : RlRel l wr (.string (u ++ x)) (.int .i64 ((j : Int) + 1)) wr := ⟨rfl, j + 1, by go_num, hlt, by rw [hst]⟩
        have HRR := Lib.hid R1
        clear R1 hst hcell hx hsz hjl h0
        go_wp2
        refine ⟨?_, by simp [intOf]; omega⟩
        have R := HRR.out
        first | exact R | ((repeat apply Exists.intro); exact ⟨R, rfl⟩)
    · have hjn : j = l.length := by omega
      have t1 : decide ((j : Int) < (l.length : Int)) = false := decide_eq_false (by omega)
      have t1' : decide (j < l.length) = false := decide_eq_false hlt
      have htk : l.take j = l := by rw [hjn, List.take_length]
      rw [htk] at hsz ⊢
      have HRE : Hid (R = ⟨#[91]⟩ ++ J l ++ ⟨#[93]⟩) := Lib.hid HR.out.symm
      have hpz : (⟨#[91]⟩ ++ J l : ByteArray).size ≤ 1000000002 := by
        rw [ByteArray.size_append]
        have : (⟨#[91]⟩ : ByteArray).size = 1 := rfl
        omega
      generalize (⟨#[91]⟩ ++ J l : ByteArray) = u at *
      clear hsz hjl htk hjn
      go_wp2
      go_ret
      exact ⟨by rw [HRE.out]; rfl, rfl⟩
theorem keyLt_less (a b : ByteArray) : Op.bytesLess a.toList b.toList = keyLt a b := by
  rw [bytesLess_cB, ByteArray.toList_eq, ByteArray.toList_eq]; rfl
def bestI (keys : List ByteArray) (tk : Nat → Bool) (n : Nat) : Int := match bestS keys tk n with
  | some b => (b : Nat)
  | none => -1
def LeRel (keys : List ByteArray) (tk : Nat → Bool) (W : World) (b i : Value) (wr : World) : Prop := (∃ q, wr = W.drewN q) ∧ ∃ j : Nat, i = .int .i64 j ∧ j ≤ keys.length ∧ b = .int .i64 (bestI keys tk j)
set_option maxRecDepth 100000 in
set_option maxHeartbeats 8000000 in
theorem least_any (w : World) (v : Value) (keys : List ByteArray) (bt ct : Nat) (tk : Nat → Bool) (h : Rd (Own w) w v (.list 1 (keys.map .str))) (hl : keys.length ≤ 100000)
    (ht : ∀ i, i < keys.length → w.cell? ⟨bt, i, none⟩ = some (.bool (tk i))) :
    Calls Tryz.prog 74 #[v, .slice (some ⟨bt, 0, none⟩) keys.length ct] w fun e w' => e = .returned (.int .i64 (bestI keys tk keys.length)) ∧ ∃ n, w' = w.drewN n := by
  obtain ⟨a, c, rfl, _, hc, hx⟩ := h.strs_inv
  have HX := Lib.hid hx; have HT := Lib.hid ht
  clear h hx ht
  go_enter Tryz.func74, Tryz.ntmps74
  go_wp2_with fail
  go_loopw [5, 6] (LeRel keys tk w) (fun _ i _ => keys.length - (intOf i).toNat)
  case atStart => exact ⟨⟨0, rfl⟩, 0, rfl, Nat.zero_le _, rfl⟩
  case round =>
    obtain ⟨⟨q, hw⟩, j, rfl, hj, rfl⟩ := hrel
    have HW := Lib.hid hw
    by_cases hlt : j < keys.length
    · obtain ⟨x, hx⟩ := get_ex keys j hlt
      obtain ⟨b, off, rfl, _, hcell⟩ := HX.out (by omega)
      have c0 : ∀ n, (wr.drewN n).cell? ⟨b, off + j, none⟩ = some (.string x) := fun n => by rw [hw]; exact hcell j x hx
      have d0 : ∀ n, (wr.drewN n).cell? ⟨bt, j, none⟩ = some (.bool (tk j)) := fun n => by rw [hw]; exact HT.out j hlt
      have t1 : decide ((j : Int) < (keys.length : Int)) = true := decide_eq_true (by omega)
      have t1' : decide (j < keys.length) = true := decide_eq_true hlt
      have q1 : IntKind.i64.wrap ((j : Int) + 1) = (j : Int) + 1 := IntWalk.i64_in _ (by omega)
      have hkj : keyAt keys j = x := by unfold keyAt; rw [hx]; rfl
      have hstep : bestS keys tk (j + 1) = if tk j then bestS keys tk j else match bestS keys tk j with
        | none => some j
        | some b => if keyLt (keyAt keys j) (keyAt keys b) then some j else some b := rfl
      have mk : ∀ (z : Int) (n : Nat), bestI keys tk (j + 1) = z → LeRel keys tk w (.int .i64 z) (.int .i64 ((j : Int) + 1)) (wr.drewN n) := fun z n h => ⟨⟨q + n, by rw [hw, World.drewN_drewN]⟩, j + 1, by go_num, hlt, by rw [h]⟩
      cases htk : tk j with
      | true =>
        rw [htk] at d0 hstep
        rw [if_pos rfl] at hstep
        have HM := Lib.hid (fun n => mk (bestI keys tk j) n (by unfold bestI; rw [hstep]))
        generalize bestI keys tk j = z at *
        clear mk hstep hkj hcell hx htk hw
        go_wp2_with fail
        go_quiet (fail)
        go_wp2
        refine ⟨?_, by simp [intOf]; omega⟩
        have R := HM.out
        first | exact R _ | ((repeat apply Exists.intro); exact ⟨R _, rfl⟩)
      | false =>
        rw [htk] at d0 hstep
        rw [if_neg (by decide)] at hstep
        cases hb : bestS keys tk j with
        | none =>
          rw [hb] at hstep
          have hz : bestI keys tk j = -1 := by unfold bestI; rw [hb]
          rw [hz]
          have HM := Lib.hid (fun n => mk (j : Nat) n (by unfold bestI; rw [hstep]))
          clear mk hstep hkj hcell hx htk hb hz hw
          go_wp2_with fail
          go_quiet (fail)
          go_wp2
          refine ⟨?_, by simp [intOf]; omega⟩
          have R := HM.out
          first | exact R _ | ((repeat apply Exists.intro); exact ⟨R _, rfl⟩)
        | some i =>
          rw [hb] at hstep
          have hi := (best_some j i hb).1
          obtain ⟨y, hy⟩ := get_ex keys i (by omega)
          have e0 : ∀ n, (wr.drewN n).cell? ⟨b, off + i, none⟩ = some (.string y) := fun n => by rw [hw]; exact hcell i y hy
          have hki : keyAt keys i = y := by unfold keyAt; rw [hy]; rfl
          simp only [hkj, hki] at hstep
          have hz : bestI keys tk j = (i : Nat) := by unfold bestI; rw [hb]
          rw [hz]
          have KL := keyLt_less x y
          have t2 : decide ((i : Int) < 0) = false := decide_eq_false (by omega)
          have hil : i < keys.length := by omega
          cases hkl : keyLt x y with
          | true =>
            rw [hkl] at KL
            rw [hkl, if_pos rfl] at hstep
            have HM := Lib.hid (fun n => mk (j : Nat) n (by unfold bestI; rw [hstep]))
            clear mk hstep hkj hcell hx htk hb hz hki hy hkl hi hw
            go_wp2_with fail
            go_quiet (fail)
            go_wp2
            refine ⟨?_, by simp [intOf]; omega⟩
            have R := HM.out
            first | exact R _ | ((repeat apply Exists.intro); exact ⟨R _, rfl⟩)
          | false =>
            rw [hkl] at KL
            rw [hkl, if_neg (by decide)] at hstep
            have HM := Lib.hid (fun n => mk (i : Nat) n (by unfold bestI; rw [hstep]))
            clear mk hstep hkj hcell hx htk hb hz hki hy hkl hi hw
            go_wp2_with fail
            go_quiet (fail)
            go_wp2
            refine ⟨?_, by simp [intOf]; omega⟩
            have R := HM.out
            first | exact R _ | ((repeat apply Exists.intro); exact ⟨R _, rfl⟩)
    · have hjn : j = keys.length := by omega
      have t1 : decide ((j : Int) < (keys.length : Int)) = false := decide_eq_false (by omega)
      have t1' : decide (j < keys.length) = false := decide_eq_false hlt
      have HB : Hid (bestI keys tk keys.length = bestI keys tk j) := Lib.hid (by rw [hjn])
      generalize bestI keys tk j = z at *
      clear hjn hw
      go_wp2
      go_ret
      exact ⟨by rw [HB.out]; rfl, q, HW.out⟩
end
section
open Go.RowKit
theorem elBool8 : ElemTy Tryz.prog 139 4 1 1 (.bool false) := ⟨Tryz.underlying139, by kernel_rfl, rfl, by decide⟩
/-- The marks of those that were taken. -/
structure TkAt (w : World) (N n : Nat) (tk : Nat → Bool) : Prop where
  box : ∃ cs, w.heap[N]? = some (.cells cs 4 (0, 0)) ∧ cs.size = n ∧ ∀ i, i < n → cs[i]? = some (.bool (tk i))
theorem TkAt.cell {w : World} {N n : Nat} {tk : Nat → Bool} (h : TkAt w N n tk) {i : Nat} (hi : i < n) : w.cell? ⟨N, i, none⟩ = some (.bool (tk i)) := by
  obtain ⟨cs, h1, h2, h3⟩ := h.box
  simp [World.cell?, h1]
  exact h3 i hi
theorem TkAt.frozen {w : World} {N n : Nat} {tk : Nat → Bool} (h : TkAt w N n tk) (i : Nat) : w.frozen? ⟨N, i, none⟩ = false := by
  obtain ⟨cs, h1, _⟩ := h.box
  exact Go.Joins.unfrozen_of_block h1 i
theorem TkAt.keep {w w' : World} {N n : Nat} {tk : Nat → Bool} (h : TkAt w N n tk) (hk : w'.heap[N]? = w.heap[N]?) : TkAt w' N n tk := by
  obtain ⟨cs, h1, h2⟩ := h.box
  exact ⟨cs, by rw [hk]; exact h1, h2⟩
theorem TkAt.lt {w : World} {N n : Nat} {tk : Nat → Bool} (h : TkAt w N n tk) : N < w.heap.size := by
  obtain ⟨cs, h1, _⟩ := h.box
  exact (Array.getElem?_eq_some_iff.1 h1).1
theorem TkAt.set {w : World} {N n : Nat} {tk tk' : Nat → Bool} (h : TkAt w N n tk) {x : Nat} (hx : x < n) (ht : ∀ i, i < n → tk' i = if i = x then true else tk i) : TkAt (w.setCell ⟨N, x, none⟩ (.bool true)) N n tk' := by
  obtain ⟨cs, h1, h2, h3⟩ := h.box
  have hb := Go.Joins.block_setCell h1 (i := x) (.bool true)
  refine ⟨_, hb, by simpa using h2, fun i hi => ?_⟩
  rw [Array.getElem?_setIfInBounds, ht i hi]
  by_cases e : x = i
  · subst e; rw [if_pos rfl, if_pos (by omega), if_pos rfl]
  · rw [if_neg e, if_neg (fun h => e h.symm), h3 i hi]
def tkOf (keys : List ByteArray) (m : Nat) (i : Nat) : Bool := decide (i ∈ (sigma keys).take m)
def prts (keys forms : List ByteArray) : List ByteArray := (sigma keys).map fun i => partB (keyAt keys i, keyAt forms i)
structure RoAt (keys forms : List ByteArray) (W : World) (N : Nat) (m : Nat) (wr : World) : Prop where
  tk : TkAt wr N keys.length (tkOf keys m)
  below : Below W.heap.size W wr
def RoRel (keys forms : List ByteArray) (W : World) (N : Nat) (o i : Value) (wr : World) : Prop := ∃ m : Nat, i = .int .i64 m ∧ m ≤ keys.length ∧ o = .string (⟨#[123]⟩ ++ J ((prts keys forms).take m)) ∧ RoAt keys forms W N m wr
set_option maxRecDepth 100000 in
set_option maxHeartbeats 16000000 in
theorem robject_any (w : World) (v1 v2 : Value) (keys forms : List ByteArray) (h1 : Rd (Own w) w v1 (.list 1 (keys.map .str))) (h2 : Rd (Own w) w v2 (.list 1 (forms.map .str))) (hl : forms.length = keys.length) (hm : keys.length ≤ 100000)
    (hn : ∀ i j, i < keys.length → j < keys.length → keyAt keys i = keyAt keys j → i = j) (hk : ∀ k ∈ keys, k.size ≤ 100000) (hz : (objR keys forms).size ≤ 1000000000) :
    Calls Tryz.prog 40 #[v1, v2] w fun e w' => e = .returned (.string (objR keys forms)) ∧ Below w.heap.size w w' := by
  have H1 := Lib.hid h1; have H2 := Lib.hid h2
  obtain ⟨a1, c1, rfl, _, hc1, hx1⟩ := h1.strs_inv
  obtain ⟨a2, c2, rfl, _, hc2, hx2⟩ := h2.strs_inv
  have HX1 := Lib.hid hx1; have HX2 := Lib.hid hx2
  obtain ⟨i0, hi0, hz0, hz1, hz2⟩ := info_parts elBool8.hi
  obtain ⟨n, hnk⟩ : ∃ n, keys.length = n := ⟨_, rfl⟩
  have hmk : ∀ W : World, (Instr.makeSlice 139 (.int .i64 (n : Nat)) (.int .i64 (n : Nat))).run Tryz.prog W = .ok (.slice (some ⟨W.heap.size, 0, none⟩) n n) (W.alloc (.cells (madeCells #[.bool false] n) 4)) := fun W => by
    have := run_make (P := Tryz.prog) W 139 4 i0 _ Tryz.underlying139 hi0 hz0 .i64 .i64 (n : Nat) (n : Nat) (by omega) (Int.le_refl _) (by rw [hz2]; omega) (by omega)
    rw [hz1, Int.toNat_natCast, Nat.mul_one] at this
    exact this
  have hps : (prts keys forms).length = n := by unfold prts; rw [List.length_map, sigma_len, hnk]
  have hjz : (J (prts keys forms)).size ≤ 1000000000 := by
    unfold objR at hz
    rw [ByteArray.size_append, ByteArray.size_append] at hz
    unfold prts
    omega
  have hRO : objR keys forms = ⟨#[123]⟩ ++ J (prts keys forms) ++ ⟨#[125]⟩ := rfl
  have HN := Lib.hid hn; have HK := Lib.hid hk; have HPS := Lib.hid hps; have HJ := Lib.hid hjz; have HNK := Lib.hid hnk; have HMK := Lib.hid hmk; have HL := Lib.hid hl; have HRO := Lib.hid hRO
  obtain ⟨R, hR⟩ : ∃ R, objR keys forms = R := ⟨_, rfl⟩
  rw [hR]
  have HR := Lib.hid hR
  rw [hnk] at H1 ⊢
  rw [hl, hnk] at H2 ⊢
  rw [hnk] at hm
  clear h1 h2 hx1 hx2 hi0 hz0 hz1 hz2 hn hk hz hps hjz hnk hl hRO hR
  go_enter Tryz.func40, Tryz.ntmps40
  go_wp2_with fail
  go_region
  obtain ⟨W0, hW0⟩ : ∃ W, (w.alloc (.cells (madeCells #[.bool false] n) 4)).drew = W := ⟨_, rfl⟩
  have hb0 : Below w.heap.size w W0 := by rw [← hW0]; exact (ext_alloc (Below.refl _ _) _).drew
  have ht0 : TkAt W0 w.heap.size n (fun _ => false) := ⟨madeCells #[.bool false] n, by rw [← hW0]; exact heap_alloc_new w _, by simp [madeCells], fun i hi => by simp [madeCells, hi, Nat.mod_one]⟩
  have R0 : RoRel keys forms w w.heap.size (.string ⟨#[123]⟩) (.int .i64 0) W0 := ⟨0, rfl, Nat.zero_le _, by rw [List.take_zero, J_nil]; rfl, ⟨by rw [HNK.out]; exact (show tkOf keys 0 = fun _ => false by funext i; simp [tkOf]) ▸ ht0, hb0⟩⟩
  have HR0 := Lib.hid R0
  rw [hW0]
  obtain ⟨N, hN⟩ : ∃ N, w.heap.size = N := ⟨_, rfl⟩
  rw [hN] at HR0 ⊢
  have HNN := Lib.hid hN
  clear R0 ht0 hb0 hW0 hN
  go_wp2_with fail
  go_loopw [5, 7] (RoRel keys forms w N) (fun _ i _ => n - (intOf i).toNat)
  case atStart => exact HR0.out
  case round =>
    obtain ⟨m, rfl, hm2, rfl, hA⟩ := hrel
    rw [HNK.out] at hm2
    have hsz := J_take_size (prts keys forms) m
    have hjl := HJ.out
    have hpz : (⟨#[123]⟩ ++ J ((prts keys forms).take m) : ByteArray).size ≤ 1000000002 := by
      rw [ByteArray.size_append]
      have : (⟨#[123]⟩ : ByteArray).size = 1 := rfl
      omega
    by_cases hlt : m < n
    · obtain ⟨x, hx⟩ := get_ex (sigma keys) m (by rw [sigma_len, HNK.out]; exact hlt)
      have hxn : x < n := by rw [← HNK.out]; exact (sigma_mem keys x).1 (List.mem_of_getElem? hx)
      obtain ⟨ky, hky⟩ := get_ex keys x (by rw [HNK.out]; exact hxn)
      obtain ⟨fo, hfo⟩ := get_ex forms x (by rw [HL.out, HNK.out]; exact hxn)
      obtain ⟨b1, o1, rfl, hz1, hcl1⟩ := HX1.out (by rw [HNK.out]; omega)
      obtain ⟨b2, o2, rfl, hz2, hcl2⟩ := HX2.out (by rw [HL.out, HNK.out]; omega)
      have t1 : decide ((m : Int) < (n : Int)) = true := decide_eq_true (by omega)
      have t1' : decide (m < n) = true := decide_eq_true hlt
      have q1 : IntKind.i64.wrap ((m : Int) + 1) = (m : Int) + 1 := IntWalk.i64_in _ (by omega)
      have hpx : (prts keys forms)[m]? = some (partB (ky, fo)) := by
        unfold prts
        rw [List.getElem?_map, hx]
        show some (partB (keyAt keys x, keyAt forms x)) = _
        rw [show keyAt keys x = ky by unfold keyAt; rw [hky]; rfl, show keyAt forms x = fo by unfold keyAt; rw [hfo]; rfl]
      have hst := J_step hpx ⟨#[123]⟩
      have hpart : (partB (ky, fo)).size ≤ 1000000000 := Nat.le_trans (mem_J_size (List.mem_of_getElem? hpx)) hjl
      have hpart2 : (quoteB ky).size + 1 + fo.size ≤ 1000000000 := by
        unfold partB at hpart
        rw [ByteArray.size_append, ByteArray.size_append] at hpart
        exact hpart
      have hbest : bestI keys (tkOf keys m) n = (x : Nat) := by
        unfold bestI
        rw [← HNK.out, best_sigma HN.out hx (fun i _ => by unfold tkOf; simp)]
      have LE := least_any wr _ keys N n (tkOf keys m) (H1.out.ext hA.below) (by rw [HNK.out]; exact hm) (fun i hi => hA.tk.cell hi)
      rw [HNK.out, hbest] at LE
      have hky1 := HK.out ky (List.mem_of_getElem? hky)
      have QU := Lib.hid (fun W => rquote_any ky W hky1)
      have LE := Lib.hid LE
      have HA := Lib.hid hA
      have C1 := Lib.hid (hcl1 x ky hky); have C2 := Lib.hid (hcl2 x fo hfo)
      have htk2 : ∀ i, i < keys.length → tkOf keys (m + 1) i = if i = x then true else tkOf keys m i := fun i _ => by
        unfold tkOf
        have e : (sigma keys).take (m + 1) = (sigma keys).take m ++ [x] := by rw [List.take_add_one, hx]; rfl
        rw [e]
        by_cases h : i = x
        · subst h; rw [if_pos rfl]; simp
        · rw [if_neg h]; simp [h]
      have HT2 := Lib.hid htk2; have HST := Lib.hid hst
      have hz1' : b1 < w.heap.size := hz1
      have hz2' : b2 < w.heap.size := hz2
      have HZ1 := Lib.hid hz1'; have HZ2 := Lib.hid hz2'
      clear hA hcl1 hcl2 hx hky hfo hpx hbest htk2 hst hky1 hpart hz1 hz2 hsz hjl hz1' hz2'
      generalize (⟨#[123]⟩ ++ J ((prts keys forms).take m) : ByteArray) = u at *
      go_wp2_with fail
      go_at_call 74
      refine LE.out.mono ?_
      rintro _ w3 ⟨rfl, q, hq⟩
      have hb3 : Below w.heap.size w w3 := by rw [hq]; exact ext_drewN _ HA.out.below
      have ht3 : TkAt w3 N n (tkOf keys m) := by rw [hq, ← HNK.out]; exact HA.out.tk.keep rfl
      have d0 := ht3.cell hxn
      have f0 := ht3.frozen x
      have W5B : Below w.heap.size w (w3.setCell ⟨N, x, none⟩ (.bool true)) := hb3.setCell (by show w.heap.size ≤ N; rw [HNN.out]; exact Nat.le_refl _) _
      have W5T : TkAt (w3.setCell ⟨N, x, none⟩ (.bool true)) N n (tkOf keys (m + 1)) := ht3.set hxn (fun i hi => HT2.out i (by rw [HNK.out]; exact hi))
      have H5B := Lib.hid W5B; have H5T := Lib.hid W5T
      clear hq hb3 ht3 W5B W5T LE
      have key : ∀ (u2 : ByteArray) (hu2 : u2.size ≤ 1000000003) (hR1 : u2 ++ partB (ky, fo) = ⟨#[123]⟩ ++ J ((prts keys forms).take (m + 1))) (W : World), Below w.heap.size w W → TkAt W N n (tkOf keys (m + 1)) → RoRel keys forms w N (.string (u2 ++ (quoteB ky ++ ⟨#[58]⟩ ++ fo))) (.int .i64 ((m : Int) + 1)) W := fun u2 _ hR1 W hbW htW => ⟨m + 1, by go_num, by rw [HNK.out]; exact hlt, by rw [← hR1]; rfl, ⟨by rw [HNK.out]; exact htW, hbW⟩⟩
      have HKY := Lib.hid key
      clear key
      by_cases h0 : 0 < m
      · have t0 : decide ((0 : Int) < (m : Int)) = true := decide_eq_true (by omega)
        have t0' : decide (0 < m) = true := decide_eq_true h0
        have hst := HST.out
        rw [if_pos h0] at hst
        have hcz : (u ++ ⟨#[44]⟩ : ByteArray).size ≤ 1000000003 := by
          rw [ByteArray.size_append]
          have : (⟨#[44]⟩ : ByteArray).size = 1 := rfl
          omega
        have hcat : (u ++ ⟨#[44]⟩ : ByteArray) = (u ++ ⟨#[44]⟩) := rfl
        have HK2 := Lib.hid (HKY.out (u ++ ⟨#[44]⟩) hcz hst)
        clear hst h0 hcat HST HKY
        go_wp2_with fail
        generalize (w3.setCell ⟨N, x, none⟩ (.bool true)) = W5 at *
        generalize (u ++ ⟨#[44]⟩ : ByteArray) = u2 at *
        have k1 : ∀ n : BW W5.heap.size W5, n.w.cell? ⟨b1, o1 + x, none⟩ = some (.string ky) := fun n => (bcell1 n.below (Nat.lt_of_lt_of_le HZ1.out H5B.out.size) _).trans ((bcell1 H5B.out HZ1.out _).trans C1.out)
        have k2 : ∀ n : BW W5.heap.size W5, n.w.cell? ⟨b2, o2 + x, none⟩ = some (.string fo) := fun n => (bcell1 n.below (Nat.lt_of_lt_of_le HZ2.out H5B.out.size) _).trans ((bcell1 H5B.out HZ2.out _).trans C2.out)
        refine wp_region_quietB W5.heap.size (by kernel_rfl) (by kernel_rfl) ?_
        repeat (go_big_quiet_step ((go_at_call 37; exact quiet_callB (QU.out _) (Nat.le_refl _))))
        refine wpQuiet_nil ?_
        intro _ hw'
        obtain ⟨nb, hw4⟩ := hw'
        subst hw4
        have R1 := HK2.out nb.w (H5B.out.trans (nb.below.mono H5B.out.size)) (H5T.out.keep (nb.below.block N H5T.out.lt))
        have HRR := Lib.hid R1
        clear R1 k1 k2 HK2
        generalize nb.w = W6 at *
        go_wp2
        refine ⟨?_, by simp [intOf]; omega⟩
        have R := HRR.out
        first | exact R | ((repeat apply Exists.intro); exact ⟨R, rfl⟩)
      · have t0 : decide ((0 : Int) < (m : Int)) = false := decide_eq_false (by omega)
        have t0' : decide (0 < m) = false := decide_eq_false h0
        have hst := HST.out
        rw [if_neg h0] at hst
        have HK2 := Lib.hid (HKY.out u (by omega) hst)
        clear hst h0 HST HKY
        go_wp2_with fail
        generalize (w3.setCell ⟨N, x, none⟩ (.bool true)) = W5 at *
        have k1 : ∀ n : BW W5.heap.size W5, n.w.cell? ⟨b1, o1 + x, none⟩ = some (.string ky) := fun n => (bcell1 n.below (Nat.lt_of_lt_of_le HZ1.out H5B.out.size) _).trans ((bcell1 H5B.out HZ1.out _).trans C1.out)
        have k2 : ∀ n : BW W5.heap.size W5, n.w.cell? ⟨b2, o2 + x, none⟩ = some (.string fo) := fun n => (bcell1 n.below (Nat.lt_of_lt_of_le HZ2.out H5B.out.size) _).trans ((bcell1 H5B.out HZ2.out _).trans C2.out)
        refine wp_region_quietB W5.heap.size (by kernel_rfl) (by kernel_rfl) ?_
        repeat (go_big_quiet_step ((go_at_call 37; exact quiet_callB (QU.out _) (Nat.le_refl _))))
        refine wpQuiet_nil ?_
        intro _ hw'
        obtain ⟨nb, hw4⟩ := hw'
        subst hw4
        have R1 := HK2.out nb.w (H5B.out.trans (nb.below.mono H5B.out.size)) (H5T.out.keep (nb.below.block N H5T.out.lt))
        have HRR := Lib.hid R1
        clear R1 k1 k2 HK2
        generalize nb.w = W6 at *
        go_wp2
        refine ⟨?_, by simp [intOf]; omega⟩
        have R := HRR.out
        first | exact R | ((repeat apply Exists.intro); exact ⟨R, rfl⟩)
    · have hmn : m = n := by omega
      have t1 : decide ((m : Int) < (n : Int)) = false := decide_eq_false (by omega)
      have t1' : decide (m < n) = false := decide_eq_false hlt
      have htk : (prts keys forms).take m = prts keys forms := List.take_of_length_le (by rw [HPS.out]; omega)
      rw [htk] at hsz hpz ⊢
      have HRE : Hid (R = ⟨#[123]⟩ ++ J (prts keys forms) ++ ⟨#[125]⟩) := Lib.hid (by rw [← HR.out]; exact HRO.out)
      have HB := Lib.hid hA.below
      generalize (⟨#[123]⟩ ++ J (prts keys forms) : ByteArray) = u at *
      clear hsz hjl htk hmn hA
      go_wp2
      go_ret
      exact ⟨by rw [HRE.out]; rfl, HB.out⟩
end
end Go.Proofs.YtheoaijheijojaaGreatDoor
