/- Texts put together. -/
import Derived.Test.YtbeodjipdpcaiaaGreatDoorYQuw3s
import Derived.Test.YtbeodjipdpcaiaaGreatDoorYQuo3sf
import Derived.Test.YtbeodjipdpcaiaaGreatDoorYMx0sf
set_option maxRecDepth 100000
set_option maxHeartbeats 8000000
namespace Go.Proofs.YtbeodjipdpcaiaaGreatDoor
section
open Go.RowKit
def v4C (n : Nat) : Array Value := #[.int .u8 (octQ n 0 : Nat), .int .u8 (octQ n 1 : Nat), .int .u8 (octQ n 2 : Nat), .int .u8 (octQ n 3 : Nat)]
def ofV (n j i : Nat) : Value := .int .u8 ((if 3 - i < j then octQ n i else 0 : Nat) : Int)
def ofC (n j : Nat) : Array Value := #[ofV n j 0, ofV n j 1, ofV n j 2, ofV n j 3]
theorem ofC_four (n : Nat) : ofC n 4 = v4C n := rfl
theorem ofC_set (n j : Nat) (hj : j < 4) : (ofC n j).setIfInBounds (3 - j) (.int .u8 (octQ n (3 - j) : Nat)) = ofC n (j + 1) := by
 match j, hj with
 | 0, _ => rfl
 | 1, _ => rfl
 | 2, _ => rfl
 | 3, _ => rfl
theorem ofC_get (n j : Nat) (hj : j < 4) : (ofC n j)[3 - j]? = some (.int .u8 0) := by
 match j, hj with
 | 0, _ => rfl
 | 1, _ => rfl
 | 2, _ => rfl
 | 3, _ => rfl
theorem octQ_shift (n j : Nat) (hj : j < 4) : n / 256 ^ j % 256 = octQ n (3 - j) := by
 match j, hj with
 | 0, _ => rfl
 | 1, _ => rfl
 | 2, _ => rfl
 | 3, _ => rfl
theorem v4_info : (Tryz.prog.info? 79).map (·.size) = some 4 := by kernel_rfl
theorem v4_load (cs : Array Value) (hs : cs.size = 4) (b : Nat) (w : World) (h : w.heap[b]? = some (.cells cs 79 (0, 0))) : (loadVar 79 ⟨b, 0, none⟩).run Tryz.prog w = .ok (.agg cs) w :=
 run_loadVar_row _ _ 79 79 _ (0, 0) _ h Tryz.underlying79 rfl (by rw [hs]; exact v4_info)
theorem v4_store (cs ds : Array Value) (hs : cs.size = 4) (h1 : cs.all (·.oneCell') = true) (hd : ds.size = 4) (b : Nat) (w : World) (h : w.heap[b]? = some (.cells ds 79 (0, 0))) : (storeVar 79 ⟨b, 0, none⟩ (.agg cs)).run Tryz.prog w = .ok () (w.setRow b cs) :=
 run_storeVar_row (P := Tryz.prog) w b 79 79 ds cs h (by rw [hs]; exact v4_info) (by rw [hd, hs]) h1
theorem v4_one (n : Nat) : (v4C n).all (·.oneCell') = true := by
 rw [Array.all_eq_true_iff_forall_mem]
 intro v hv
 simp only [v4C, List.mem_toArray, List.mem_cons, List.not_mem_nil, or_false] at hv
 rcases hv with rfl | rfl | rfl | rfl <;> rfl
def OfRel (n : Nat) (w : World) (X : Nat) (nv iv : Value) (wr : World) : Prop := ∃ j : Nat, iv = .int .i64 j ∧ j ≤ 4 ∧ nv = .int .u32 (n / 256 ^ j : Nat) ∧ Below w.heap.size w wr ∧ wr.heap[X]? = some (.cells (ofC n j) 79 (0, 0))
theorem qof_any (n : Nat) (w : World) (hn : n < 4294967296) : Calls Tryz.prog 111 #[.int .u32 n] w fun e w' => e = .returned (.agg (v4C n)) ∧ Below w.heap.size w w' := by
 have HR0 : Hid (OfRel n w w.heap.size (.int .u32 n) (.int .i64 0) (w.alloc (.cells #[.int .u8 0, .int .u8 0, .int .u8 0, .int .u8 0] 79))) := hid ⟨0, rfl, Nat.zero_le _, by rw [Nat.pow_zero, Nat.div_one], ext_alloc (Below.refl _ _) _, heap_alloc_new w _⟩
 go_enter Tryz.func111, Tryz.ntmps111
 go_wp2_with fail
 go_loopw [0, 4] (OfRel n w w.heap.size) (fun _ i _ => 4 - (intOf i).toNat)
 case atStart => exact HR0.out
 case round =>
  obtain ⟨j, rfl, hj, rfl, hb, hblk⟩ := hrel
  have HB := hid hb; have HBLK := hid hblk
  by_cases hlt : j < 4
  · have t1 : decide ((j : Int) < 4) = true := dcT (by omega)
    have t1' : decide (j < 4) = true := dcT hlt
    have q1 := inc j (by omega)
    have hsh := octQ_shift n j hlt
    have hset := ofC_set n j hlt
    have hget := ofC_get n j hlt
    have hdv : n / 256 ^ (j + 1) = n / 256 ^ j / 256 := by rw [Nat.pow_succ, Nat.div_div_eq_div_mul]
    obtain ⟨m, hm⟩ : ∃ m, 3 - j = m := ⟨_, rfl⟩
    have q2 : IntKind.i64.wrap (3 - (j : Int)) = (m : Int) := (i64n _ (by omega)).trans (by omega)
    obtain ⟨y, hy⟩ : ∃ y, n / 256 ^ j = y := ⟨_, rfl⟩
    have hyl : y < 4294967296 := by rw [← hy]; exact Nat.lt_of_le_of_lt (Nat.div_le_self _ _) hn
    obtain ⟨y2, hy2⟩ : ∃ y2, n / 256 ^ (j + 1) = y2 := ⟨_, rfl⟩
    rw [hy] at hsh hdv ⊢
    rw [hy2] at hdv
    rw [hm] at hsh hset hget
    have q3 : IntKind.u8.wrap (y : Int) = (octQ n m : Nat) := by rw [← hsh]; go_num
    have q5 : (y : Int) / 256 = (y2 : Int) := by omega
    obtain ⟨c, hc⟩ : ∃ c, octQ n m = c := ⟨_, rfl⟩
    rw [hc] at q3 hset
    have hm4 : m < 4 := by omega
    have t4 : decide ((m : Int) < 4) = true := dcT (by omega)
    have t4' : decide (m < 4) = true := dcT hm4
    have cj : wr.cell? ⟨w.heap.size, m, none⟩ = some (.int .u8 0) := by simp [World.cell?, hblk, hget]
    have fj : wr.frozen? ⟨w.heap.size, m, none⟩ = false := Go.Joins.unfrozen_of_block hblk m
    have R : OfRel n w w.heap.size (.int .u32 (y2 : Nat)) (.int .i64 ((j : Int) + 1)) (wr.setCell ⟨w.heap.size, m, none⟩ (.int .u8 c)) := ⟨j + 1, by go_num, hlt, by rw [hy2], hb.setCell (p := ⟨w.heap.size, m, none⟩) (Nat.le_refl _) _, by
     have := Go.Joins.block_setCell hblk (i := m) (.int .u8 c)
     rw [hset] at this
     simpa using this⟩
    have HRR := hid R
    clear R hblk hb hsh hset hget hdv hy hy2 hc hm hn
    go_wp2
    refine ⟨?_, by simp [intOf] <;> omega⟩
    first | exact HRR.out | ((repeat apply Exists.intro); exact ⟨HRR.out, rfl⟩)
  · have t1 : decide ((j : Int) < 4) = false := dcF (by omega)
    have t1' : decide (j < 4) = false := dcF hlt
    obtain rfl : j = 4 := by omega
    rw [ofC_four] at hblk
    have hld := v4_load (v4C n) rfl _ wr hblk
    have hst := v4_store (v4C n) (v4C n) rfl (v4_one n) rfl _ wr hblk
    have hblk2 := setRow_heap (c := v4C n) hblk
    have hld2 := v4_load (v4C n) rfl _ _ hblk2
    have HF := hid (setRow_below (c := v4C n) hb (Nat.le_refl w.heap.size))
    obtain ⟨y, hy⟩ : ∃ y, n / 256 ^ 4 = y := ⟨_, rfl⟩
    rw [hy]
    generalize hcs : v4C n = cs at *
    have HCS := hid hcs
    clear hblk hb hblk2 hy hcs hn
    go_wp2_with ((with_reducible show wpList _ _ _ (_ :: _) _ _); first | (refine ld_arr 79 w.heap.size (.agg cs) hld _ rfl rfl rfl ?_) | (refine st_arr 79 w.heap.size (.agg cs) hst _ _ rfl rfl rfl rfl ?_))
    (try simp only [Exit.inBlock, Exit.then])
    refine bodyPost_ret (v := .agg cs) (by simp [results, Tryz.results111, asAddr, hld2, Act.put]) rfl ⟨by rw [HCS.out], HF.out⟩
theorem v4_at (n j : Nat) (hj : j < 4) (W : World) : (Instr.index 79 (.agg (v4C n)) (.int .i64 (j : Int))).run Tryz.prog W = .ok (.int .u8 (octQ n j : Nat)) W := by
 match j, hj with
 | 0, _ => simp [Instr.index, asIntOf, part, v4C, run_underlying Tryz.underlying79]
 | 1, _ => simp [Instr.index, asIntOf, part, v4C, run_underlying Tryz.underlying79]
 | 2, _ => simp [Instr.index, asIntOf, part, v4C, run_underlying Tryz.underlying79]
 | 3, _ => simp [Instr.index, asIntOf, part, v4C, run_underlying Tryz.underlying79]
def QtRel (n : Nat) (w : World) (pv iv : Value) (wr : World) : Prop := ∃ j : Nat, iv = .int .i64 j ∧ j ≤ 4 ∧ wr.ownsRow w.heap.size 9 1 pv ((quadP n).take j).length (strV (((quadP n).take j).map bytesL)) ∧ Below w.heap.size w wr
theorem quadP_get (n j : Nat) (hj : j < 4) : (quadP n)[j]? = some (decN (octQ n j)) := by
 match j, hj with
 | 0, _ => rfl
 | 1, _ => rfl
 | 2, _ => rfl
 | 3, _ => rfl
theorem qtext_any (n : Nat) (w : World) : Calls Tryz.prog 52 #[.agg (v4C n)] w fun e w' => e = .returned (.string (bytesL (quadL n))) ∧ Below w.heap.size w w' := by
 obtain ⟨W1, hW1⟩ : ∃ W, w.alloc (.cells (v4C n) 79) = W := ⟨_, rfl⟩
 have hb1 : Below w.heap.size w W1 := by rw [← hW1]; exact ext_alloc (Below.refl _ _) _
 have hx1 : W1.heap[w.heap.size]? = some (.cells (v4C n) 79 (0, 0)) := by rw [← hW1]; exact heap_alloc_new w _
 have hld := v4_load (v4C n) rfl _ W1 hx1
 have hq4 : (quadP n).length = 4 := rfl
 have HR0 : Hid (QtRel n w (.slice none 0 0) (.int .i64 0) W1) := hid ⟨0, rfl, Nat.zero_le _, World.ownsRow_nil _ _ _ _, hb1⟩
 have HIX := hid (fun j hj W => v4_at n j hj W)
 have HQP := hid (quadP_get n)
 have hql := quad_len n
 have HJ := hid (fun W v (h : W.ownsRow w.heap.size 9 1 v (quadP n).length (strV ((quadP n).map bytesL))) => joinP_any 46 ⟨#[46]⟩ rfl W w.heap.size v (quadP n) h (by rw [hq4]; decide) (by show (quadL n).length ≤ _; omega))
 have HQ4 := hid hq4
 show Calls _ _ _ _ fun e w' => e = .returned (.string (bytesL (joinN 46 (quadP n)))) ∧ Below w.heap.size w w'
 obtain ⟨V, hV⟩ : ∃ V, bytesL (joinN 46 (quadP n)) = V := ⟨_, rfl⟩
 rw [hV] at HJ ⊢
 have HZ : Hid (∀ j, octQ n j < 256) := hid (octQ_lt n)
 obtain ⟨cs, hcs⟩ : ∃ cs, v4C n = cs := ⟨_, rfl⟩
 rw [hcs] at hld hW1 HIX ⊢
 clear hb1 hx1 hV hcs hq4 hql
 go_enter Tryz.func52, Tryz.ntmps52
 go_wp2_with ((with_reducible show wpList _ _ _ (_ :: _) _ _); refine ld_arr 79 w.heap.size (.agg cs) hld _ rfl rfl rfl ?_)
 clear hW1 hld
 go_loopw [3, 7] (QtRel n w) (fun _ i _ => 4 - (intOf i).toNat)
 case atStart => exact HR0.out
 case round =>
  obtain ⟨j, rfl, hj, ho, hb⟩ := hrel
  obtain ⟨ao, cap, rfl, hao⟩ := aown_form ho
  have HO := hid ho; have HB := hid hb
  by_cases hlt : j < 4
  · have t1 : decide ((j : Int) < 4) = true := dcT (by omega)
    have t1' : decide (j < 4) = true := dcT hlt
    have q1 := inc j (by omega)
    have hix := HIX.out j hlt
    have hz := HZ.out j
    have hqg := HQP.out j hlt
    obtain ⟨c, hc⟩ : ∃ c, octQ n j = c := ⟨_, rfl⟩
    rw [hc] at hix hz hqg
    have q2 : IntKind.u64.wrap (c : Int) = (c : Int) := IntWalk.u64_in _ (by omega)
    have DG := hid (digits_dec c wr (by omega))
    have HQG := hid hqg
    have htl : ((quadP n).take j).length = j := by rw [List.length_take, HQ4.out]; omega
    have HTL := hid htl
    rw [htl]
    clear ho hb hao hc hz hqg htl
    go_wp2_with fail
    refine DG.out.mono ?_
    rintro e w2 ⟨rfl, hb2⟩
    have hb3 := xT HB.out hb2
    have ho3 := aown_ext HO.out (fun g hg => hb2.block g (HO.out.lt g hg).2) (Nat.le_refl _)
    rw [HTL.out] at ho3
    have HO3 := hid ho3; have HB3 := hid hb3
    clear hb2 hb3 ho3
    go_wp2_with (at_builtin; refine wpList_app1 w2 _ _ rfl _ _ 63 rfl w.heap.size elStr8 _ _ _ rfl HO3.out rfl rfl ?c1 ?c2 ?c3 ?c4 ?_)
    case c1 => first | rfl | (intro u hu; simp at hu; subst hu; rfl)
    case c2 => simp [maxLen]; omega
    case c3 => omega
    case c4 => exact HB3.out.size
    intro v2 w4 ho4 hg4
    have hb4 : Below w.heap.size w w4 := (ext_alloc HB3.out (.cells #[.string (decB c)] 9)).grown hg4 (ext_alloc HB3.out (.cells #[.string (decB c)] 9)).size (fun m hm => (HO3.out.lt m hm).1)
    have htk : (quadP n).take (j + 1) = (quadP n).take j ++ [decN c] := by rw [List.take_add_one, HQG.out]; rfl
    have R : QtRel n w v2 (.int .i64 ((j : Int) + 1)) w4 := ⟨j + 1, by go_num, hlt, by
     rw [htk, List.length_append, HTL.out, List.map_append]
     have e : strV (((quadP n).take j).map bytesL ++ [decN c].map bytesL) = strV (((quadP n).take j).map bytesL) ++ [.string (decB c)] := by
      unfold strV decN
      simp [bytesL_bytesN]
     rw [e]
     simpa using ho4, hb4⟩
    have HRR := hid R
    clear R ho4 hg4 hb4 htk
    go_wp2
    refine ⟨?_, by simp [intOf] <;> omega⟩
    first | exact HRR.out | ((repeat apply Exists.intro); exact ⟨HRR.out, rfl⟩)
  · have t1 : decide ((j : Int) < 4) = false := dcF (by omega)
    have t1' : decide (j < 4) = false := dcF hlt
    obtain rfl : j = 4 := by omega
    have htl : (quadP n).take 4 = quadP n := List.take_of_length_le (by rw [HQ4.out]; exact Nat.le_refl _)
    rw [htl] at ho
    have JN := hid (HJ.out _ _ ho)
    rw [htl]
    clear ho hb hao htl hlt
    go_wp2_with fail
    refine JN.out.mono ?_
    rintro e w5 ⟨rfl, hb5⟩
    have HB5 := hid (xT HB.out hb5)
    clear hb5
    go_wp2
    go_ret
    exact ⟨rfl, HB5.out⟩
end
section
open Go.RowKit
theorem fldF_kind (m most : Nat) : ∀ (l : List Nat) (i : Nat) (cur : List Nat) (acc : List (List Nat)) (k : Nat) (p : Int), fldF m most l i cur acc = .no k p → k = 15
 | [], i, cur, acc, k, p, h => by rw [fldF] at h; cases h
 | c :: l, i, cur, acc, k, p, h => by
   rw [fldF] at h
   split at h
   · split at h
     · cases h; rfl
     · exact fldF_kind m most l _ _ _ k p h
   · exact fldF_kind m most l _ _ _ k p h
theorem chkF_none : ∀ (ps : List (List Nat)) (at_ : Nat), chkF ps at_ = none → ∀ p ∈ ps, ∀ c ∈ p.drop (baseL p).2, amongD (baseL p).1 c = true
 | [], _, _, p, hp => by cases hp
 | q :: ps, at_, h, p, hp => by
   rw [chkF_cons] at h
   cases h1 : chk1 q at_ with
   | some x => rw [h1] at h; cases h
   | none =>
     rw [h1] at h
     rcases List.mem_cons.1 hp with rfl | hp
     · exact chk1_right h1
     · exact chkF_none ps _ h p hp
def zero4 : Array Value := #[.int .u8 0, .int .u8 0, .int .u8 0, .int .u8 0]
theorem zero4_one : zero4.all (·.oneCell') = true := by
 rw [Array.all_eq_true_iff_forall_mem]
 intro v hv
 simp only [zero4, List.mem_toArray, List.mem_cons, List.not_mem_nil, or_false] at hv
 rcases hv with rfl | rfl | rfl | rfl <;> rfl
def chkR (C : Option (Nat × Nat)) (R2 : Sc Nat) : Sc Nat := match C with
 | some (k, p) => .no k p
 | none => R2
def QpPost (w : World) (r : Sc Nat) (e : Ending) (w' : World) : Prop := Below w.heap.size w w' ∧ match r with
 | .ok n => e = .returned (.tuple #[.agg (v4C n), .nilIface])
 | .no k p => ∃ u, e = .returned (.tuple #[.agg zero4, u]) ∧ Er w' u [((k : Int), p)]
def QcRel (ps : List (List Nat)) (C : Option (Nat × Nat)) (w2 : World) (av kv : Value) (wr : World) : Prop := ∃ j at_ : Nat, kv = .int .i64 j ∧ j ≤ ps.length ∧ av = .int .i64 at_ ∧ at_ ≤ 1000001 * j ∧ chkF (ps.drop j) at_ = C ∧ Below w2.heap.size w2 wr
def QrRel (ps : List (List Nat)) (R : Sc Nat) (w2 : World) (av tv kv : Value) (wr : World) : Prop := ∃ j at_ t : Nat, kv = .int .i64 j ∧ j ≤ ps.length ∧ av = .int .i64 at_ ∧ at_ ≤ 1000001 * j ∧ tv = .int .u64 t ∧ t ≤ 4294967296 * j ∧ rngF ps.length (ps.drop j) j at_ t = R ∧ Below w2.heap.size w2 wr
theorem limit_le (N i : Nat) (h1 : 1 ≤ N) : limitQ N i ≤ 4294967295 := by
 unfold limitQ
 split
 · have : 256 ^ (5 - N) ≤ 256 ^ 4 := Nat.pow_le_pow_right (by decide) (by omega)
   have e : (256 : Nat) ^ 4 = 4294967296 := by decide
   omega
 · decide
theorem add_le {N i v : Nat} (h1 : 1 ≤ N) (_h4 : N ≤ 4) (_hi : i < N) (h : v ≤ limitQ N i) : v * weightQ N i ≤ 4294967295 := by
 have hl := limit_le N i h1
 unfold weightQ
 unfold limitQ at h
 by_cases hN : i + 1 = N
 · rw [if_pos hN]; unfold limitQ at hl; rw [if_pos hN] at h hl; omega
 · rw [if_neg hN] at h ⊢
   have : 256 ^ (3 - i) ≤ 256 ^ 3 := Nat.pow_le_pow_right (by decide) (by omega)
   have e : (256 : Nat) ^ 3 = 16777216 := by decide
   have := Nat.mul_le_mul h (show 256 ^ (3 - i) ≤ 16777216 by omega)
   omega
theorem pow_shift (m : Nat) : (2 : Nat) ^ (8 * m) = 256 ^ m := by rw [Nat.pow_mul]
theorem qparse_any (s : ByteArray) (w : World) (hs : s.size ≤ 1000000) : Calls Tryz.prog 51 #[.string s] w (QpPost w (parseQ (bytesN s))) := by
 obtain ⟨R, hR⟩ : ∃ R, parseQ (bytesN s) = R := ⟨_, rfl⟩
 obtain ⟨Q, hQ⟩ : ∃ Q, QpPost w R = Q := ⟨_, rfl⟩
 rw [hR, hQ]
 have HQ := hid hQ; have HR := hid hR
 have hbT := trimL_byte (bytesN_lt s)
 have hbN := bytesN_bytesL hbT
 have hz : (bytesL (trimL (bytesN s))).size ≤ 1000000 := by
  have := trimL_len (bytesN s)
  rw [bytesL_size]; rw [bytesN_len] at this; omega
 have CT := hid (fun W => qcut_any s W hs)
 have FD := fun W => fields_any (bytesL (trimL (bytesN s))) 46 4 W hz (by decide) (by decide) (by decide)
 rw [hbN] at FD
 have hR2 := hR
 unfold parseQ at hR2
 have hTl : (trimL (bytesN s)).length ≤ 1000000 := by rw [bytesL_size] at hz; exact hz
 obtain ⟨tl, htl⟩ : ∃ tl, trimL (bytesN s) = tl := ⟨_, rfl⟩
 rw [htl] at FD hR2 CT hTl hbT
 obtain ⟨T, hT⟩ : ∃ T, bytesL tl = T := ⟨_, rfl⟩
 rw [hT] at FD CT
 obtain ⟨W1, hW1⟩ : ∃ W, w.alloc (.cells #[.int .u8 0, .int .u8 0, .int .u8 0, .int .u8 0] 79) = W := ⟨_, rfl⟩
 have hb1 : Below w.heap.size w W1 := by rw [← hW1]; exact ext_alloc (Below.refl _ _) _
 have hx1 : W1.heap[w.heap.size]? = some (.cells zero4 79 (0, 0)) := by rw [← hW1]; exact heap_alloc_new w _
 have hX1 : w.heap.size < W1.heap.size := heap_lt hx1
 have HBW1 := hid hb1
 have HZST : Hid (∀ W, Below W1.heap.size W1 W → (storeVar 79 ⟨w.heap.size, 0, none⟩ (.agg #[.int .u8 0, .int .u8 0, .int .u8 0, .int .u8 0])).run Tryz.prog W = .ok () W ∧ (loadVar 79 ⟨w.heap.size, 0, none⟩).run Tryz.prog W = .ok (.agg #[.int .u8 0, .int .u8 0, .int .u8 0, .int .u8 0]) W) := hid (fun W hW => by
  have h0 : W.heap[w.heap.size]? = some (.cells zero4 79 (0, 0)) := by rw [hW.block _ hX1]; exact hx1
  have hs := v4_store zero4 zero4 rfl zero4_one rfl _ W h0
  rw [row_same h0] at hs
  exact ⟨hs, v4_load zero4 rfl _ W h0⟩)
 have HVST : Hid (∀ n W, Below W1.heap.size W1 W → (storeVar 79 ⟨w.heap.size, 0, none⟩ (.agg (v4C n))).run Tryz.prog W = .ok () (W.setRow w.heap.size (v4C n)) ∧ (loadVar 79 ⟨w.heap.size, 0, none⟩).run Tryz.prog (W.setRow w.heap.size (v4C n)) = .ok (.agg (v4C n)) (W.setRow w.heap.size (v4C n)) ∧ Below w.heap.size w (W.setRow w.heap.size (v4C n))) := hid (fun n W hW => by
  have h0 : W.heap[w.heap.size]? = some (.cells zero4 79 (0, 0)) := by rw [hW.block _ hX1]; exact hx1
  exact ⟨v4_store (v4C n) zero4 rfl (v4_one n) rfl _ W h0, v4_load (v4C n) rfl _ _ (setRow_heap h0), setRow_below (xT hb1 hW) (Nat.le_refl _)⟩)
 have HNO : Hid (∀ (k : Nat) (p : Int) W u, R = .no k p → Below W1.heap.size W1 W → Er W u [((k : Int), p)] → Q (.returned (.tuple #[.agg #[.int .u8 0, .int .u8 0, .int .u8 0, .int .u8 0], u])) W) := hid (fun k p W u hr hW hE => by
  rw [← HQ.out, hr]
  exact ⟨xT hb1 hW, _, rfl, hE⟩)
 cases hf : fieldsL 46 4 tl with
 | no k q =>
   obtain rfl := fldF_kind _ _ _ _ _ _ _ _ hf
   rw [hf] at FD hR2
   have HRN : Hid (R = .no 15 q) := hid hR2.symm
   have FD := hid FD
   clear hb1 hx1 hf hR2 hT htl hTl hbT hz hbN hQ hR hs hX1
   go_enter Tryz.func51, Tryz.ntmps51
   go_wp2_with fail
   clear hW1
   refine (CT.out _).mono ?_
   rintro e w1 ⟨rfl, hw1⟩
   have hw1' := hw1.symm
   subst hw1'
   clear hw1
   go_wp2_with fail
   refine (FD.out _).mono ?_
   rintro e w2 ⟨hb2, u, rfl, hE⟩
   have HF := hid (HNO.out _ _ _ _ HRN.out hb2 hE)
   obtain ⟨hst, hld⟩ := HZST.out _ hb2
   obtain ⟨b, off, u2, rfl, _⟩ := fault_inv hE
   clear hE hb2
   go_wp2_with ((with_reducible show wpList _ _ _ (_ :: _) _ _); refine st_arr 79 w.heap.size _ hst _ _ rfl rfl rfl rfl ?_)
   (try simp only [Exit.inBlock, Exit.then])
   exact bodyPost_ret (by simp [results, Tryz.results51, asAddr, Result.andThen, hld]) rfl HF.out
 | ok ps =>
   obtain ⟨h4, hpos, hpl⟩ := field_len (by decide) hf
   have HPL : Hid (∀ p ∈ ps, p.length ≤ 1000000 ∧ ByteL p) := hid (fun p hp => ⟨by have := (hpl p hp).1; omega, hbT.sub (hpl p hp).2⟩)
   rw [hf] at FD hR2
   obtain ⟨C, hC⟩ : ∃ C, chkF ps 0 = C := ⟨_, rfl⟩
   obtain ⟨R2, hRR2⟩ : ∃ R2, rngF ps.length ps 0 0 0 = R2 := ⟨_, rfl⟩
   have hRC : chkR C R2 = R := by rw [← hR2, ← hC, ← hRR2]; rfl
   obtain ⟨n0, hn0⟩ : ∃ n, ps.length = n := ⟨_, rfl⟩
   rw [hn0] at h4 hpos
   have HN := hid hn0; have HC := hid hC; have HRC := hid hRC; have HR2 := hid hRR2
   have FD := hid FD
   clear hb1 hx1 hf hR2 hT htl hTl hbT hz hbN hQ hR hs hX1 hC hRR2 hRC hn0 hpl
   go_enter Tryz.func51, Tryz.ntmps51
   go_wp2_with fail
   clear hW1
   refine (CT.out _).mono ?_
   rintro e w1 ⟨rfl, hw1⟩
   have hw1' := hw1.symm
   subst hw1'
   clear hw1
   go_wp2_with fail
   refine (FD.out _).mono ?_
   rintro e w2 ⟨hb2, v, rfl, ho⟩
   obtain ⟨ao, cap, rfl, hao⟩ := aown_form ho
   obtain ⟨g, rfl, hwg, hgl⟩ : ∃ g, ao = some ⟨g, 0, none⟩ ∧ W1.heap.size ≤ g ∧ g < w2.heap.size := by
    rcases hao with ⟨h0, _⟩ | h
    · rw [HN.out] at h0; omega
    · exact h
   have HB2 := hid hb2
   have HCL : Hid (∀ j (h : j < ps.length) W, Below w2.heap.size w2 W → W.cell? ⟨g, j, none⟩ = some (.string (bytesL ps[j]))) := hid (fun j h W hW => by
    rw [bcell1 hW hgl, ho.cellAt j (by simpa using h)]
    unfold strV
    rw [List.getElem?_map, List.getElem?_map, List.getElem?_eq_getElem h]; rfl)
   rw [HN.out]
   clear ho hao hb2
   go_wp2_with fail
   go_loopw [6, 29] (QcRel ps C w2) (fun _ k _ => n0 - (intOf k).toNat)
   case atStart => exact ⟨0, 0, rfl, Nat.zero_le _, rfl, Nat.le_refl _, HC.out, Below.refl _ _⟩
   case round =>
    obtain ⟨j, at_, rfl, hj, rfl, hat, hck, hb⟩ := hrel
    rw [HN.out] at hj
    have HB := hid hb; have HCK := hid hck
    clear hb hck
    by_cases hlt : j < n0
    · obtain ⟨t1, t1'⟩ := ltT j n0 hlt
      have q1 := inc j (by omega)
      have hjp : j < ps.length := by rw [HN.out]; exact hlt
      have c0 := HCL.out j hjp _ HB.out
      obtain ⟨p, hp⟩ : ∃ p, ps[j] = p := ⟨_, rfl⟩
      have hpm : p ∈ ps := by rw [← hp]; exact List.getElem_mem hjp
      have hpl := HPL.out p hpm
      have hck := HCK.out
      rw [List.drop_eq_getElem_cons hjp, hp, chkF_cons] at hck
      rw [hp] at c0
      have hbp : bytesN (bytesL p) = p := bytesN_bytesL hpl.2
      have hpz := bytesL_size p
      have CK := qchecked_any (bytesL p) at_ wr (by rw [hpz]; exact hpl.1) (by omega)
      rw [hbp] at CK
      obtain ⟨B, hB⟩ : ∃ B, bytesL p = B := ⟨_, rfl⟩
      rw [hB] at CK c0 hpz
      rw [← hpz] at hck hpl
      have CK := hid CK
      have q2 : IntKind.i64.wrap ((B.size : Int) + 1) = (B.size : Int) + 1 := i64n _ (by omega)
      have q3 : IntKind.i64.wrap ((at_ : Int) + ((B.size : Int) + 1)) = (at_ : Int) + ((B.size : Int) + 1) := i64n _ (by omega)
      have HSZ : Hid (B.size ≤ 1000000) := hid (by omega)
      clear hp hpm hbp hpz hB hjp hpl
      cases hc1 : chk1 p at_ with
      | none =>
        rw [hc1] at CK hck
        have HCK2 := hid hck
        clear hc1 hck
        go_wp2_with fail
        refine CK.out.mono ?_
        rintro e w3 ⟨hb3, rfl⟩
        have HRL : Hid (QcRel ps C w2 (.int .i64 ((at_ : Int) + ((B.size : Int) + 1))) (.int .i64 ((j : Int) + 1)) w3) := hid ⟨j + 1, at_ + B.size + 1, by go_num, by rw [HN.out]; exact hlt, by go_num, by have := HSZ.out; omega, HCK2.out, xT HB.out hb3⟩
        clear hb3
        go_wp2
        refine ⟨?_, by simp [intOf] <;> omega⟩
        first | exact HRL.out | ((repeat apply Exists.intro); exact ⟨HRL.out, rfl⟩)
      | some x =>
        obtain ⟨k, i⟩ := x
        rw [hc1] at CK hck
        have HRN : Hid (R = .no k i) := hid (by rw [← HRC.out, ← hck]; rfl)
        clear hc1 hck
        go_wp2_with fail
        refine CK.out.mono ?_
        rintro e w3 ⟨hb3, u, rfl, hE⟩
        have hb4 := xT HB2.out (xT HB.out hb3)
        have HF := hid (HNO.out _ _ _ _ HRN.out hb4 hE)
        obtain ⟨hst, hld⟩ := HZST.out _ hb4
        obtain ⟨b, off, u2, rfl, _⟩ := fault_inv hE
        clear hE hb3 hb4
        go_wp2_with ((with_reducible show wpList _ _ _ (_ :: _) _ _); refine st_arr 79 w.heap.size _ hst _ _ rfl rfl rfl rfl ?_)
        (try simp only [Exit.inBlock, Exit.then])
        exact bodyPost_ret (by simp [results, Tryz.results51, asAddr, Result.andThen, hld]) rfl HF.out
    · obtain ⟨t1, t1'⟩ := ltF j n0 hlt
      have hck := HCK.out
      rw [List.drop_eq_nil_of_le (by rw [HN.out]; omega), chkF] at hck
      have HRE : Hid (R2 = R) := hid (by have := HRC.out; rw [← hck] at this; exact this)
      have HRIGHT := hid (chkF_none ps 0 (by rw [HC.out, ← hck]))
      have hR0 : QrRel ps R2 w2 (.int .i64 0) (.int .u64 0) (.int .i64 0) wr := ⟨0, 0, 0, rfl, Nat.zero_le _, rfl, Nat.le_refl _, rfl, Nat.le_refl _, HR2.out, HB.out⟩
      have HR0 := hid hR0
      obtain ⟨av, hav⟩ : ∃ v, Value.int .i64 (at_ : Int) = v := ⟨_, rfl⟩
      rw [hav]
      clear hck hR0 hat hlt hj hav HCK
      go_wp2_with fail
      go_loopw [6, 10, 48] (QrRel ps R2 w2) (fun _ _ k _ => n0 - (intOf k).toNat)
      case atStart => exact HR0.out
      case round =>
       obtain ⟨j, at_, tt, rfl, hj, rfl, hat, rfl, htt, hrs, hb⟩ := hrel
       rw [HN.out] at hj hrs
       have HB := hid hb
       clear hb
       by_cases hlt : j < n0
       · obtain ⟨t1, t1'⟩ := ltT j n0 hlt
         have q1 := inc j (by omega)
         have hjp : j < ps.length := by rw [HN.out]; exact hlt
         have c0 := HCL.out j hjp _ HB.out
         obtain ⟨p, hp⟩ : ∃ p, ps[j] = p := ⟨_, rfl⟩
         have hpm : p ∈ ps := by rw [← hp]; exact List.getElem_mem hjp
         have hpl := HPL.out p hpm
         rw [List.drop_eq_getElem_cons hjp, hp, rngF] at hrs
         rw [hp] at c0
         have hbp : bytesN (bytesL p) = p := bytesN_bytesL hpl.2
         have hpz := bytesL_size p
         have QN := fun W => qnumber_any (bytesL p) W (by rw [hpz]; exact hpl.1) (by rw [hbp]; exact HRIGHT.out p hpm)
         rw [hbp] at QN
         obtain ⟨B, hB⟩ : ∃ B, bytesL p = B := ⟨_, rfl⟩
         rw [hB] at QN c0 hpz
         rw [← hpz] at hrs hpl
         have hBz := hpl.1
         obtain ⟨v, hv⟩ : ∃ v, valQ p = v := ⟨_, rfl⟩
         rw [hv] at QN hrs
         have hlm := limit_le n0 j (by omega)
         obtain ⟨m, hm⟩ : ∃ m, 3 - j = m := ⟨_, rfl⟩
         have hm3 : m ≤ 3 := by omega
         have p1 : IntKind.i64.wrap (3 - (j : Int)) = (m : Int) := (i64n _ (by omega)).trans (by omega)
         have p2 : IntKind.i64.wrap (8 * (m : Int)) = ((8 * m : Nat) : Int) := (i64n _ (by omega)).trans (by omega)
         have hpw : 256 ^ m ≤ 16777216 := by
          have : 256 ^ m ≤ 256 ^ 3 := Nat.pow_le_pow_right (by decide) hm3
          exact this
         obtain ⟨e8, he8⟩ : ∃ e, 8 * m = e := ⟨_, rfl⟩
         rw [he8] at p2
         have he64 : (e8 : Int) ≤ 64 := by omega
         have hps := pow_shift m
         rw [he8] at hps
         obtain ⟨wm, hwm⟩ : ∃ x, 256 ^ m = x := ⟨_, rfl⟩
         rw [hwm] at hps hpw
         have p3 : IntKind.u64.wrap ((2 : Int) ^ e8) = (wm : Int) := by
          have e : ((2 : Int) ^ e8) = ((2 ^ e8 : Nat) : Int) := by simp
          rw [e, hps]; exact IntWalk.u64_in _ (by omega)
         have r1 : IntKind.i64.wrap ((n0 : Int) - 1) = (n0 : Int) - 1 := i64n _ (by omega)
         obtain ⟨lim, hlim⟩ : ∃ x, limitQ n0 j = x := ⟨_, rfl⟩
         obtain ⟨wt, hwt⟩ : ∃ x, weightQ n0 j = x := ⟨_, rfl⟩
         rw [hlim] at hrs hlm
         have HLQ := hid hlim
         clear hp hpm hbp hpz hB hjp hpl hv hps he8
         by_cases hl : j + 1 = n0
         · have t4 : ((j : Int) == (n0 : Int) - 1) = true := beq_iff_eq.2 (by omega)
           have HW1 : Hid ((1 : Nat) = wt) := hid (by rw [← hwt]; unfold weightQ; rw [if_pos hl])
           have hlq : 256 ^ (5 - n0) - 1 = lim := by rw [← hlim]; unfold limitQ; rw [if_pos hl]
           obtain ⟨m5, hm5⟩ : ∃ x, 5 - n0 = x := ⟨_, rfl⟩
           rw [hm5] at hlq
           have s1 : IntKind.i64.wrap (5 - (n0 : Int)) = (m5 : Int) := (i64n _ (by omega)).trans (by omega)
           have s2 : IntKind.i64.wrap (8 * (m5 : Int)) = ((8 * m5 : Nat) : Int) := (i64n _ (by omega)).trans (by omega)
           obtain ⟨e5, he5⟩ : ∃ e, 8 * m5 = e := ⟨_, rfl⟩
           rw [he5] at s2
           have he564 : (e5 : Int) ≤ 64 := by omega
           have hps := pow_shift m5
           rw [he5] at hps
           have hp1 : 1 ≤ 256 ^ m5 := Nat.one_le_pow _ _ (by decide)
           obtain ⟨w5, hw5⟩ : ∃ x, 256 ^ m5 = x := ⟨_, rfl⟩
           rw [hw5] at hps hlq hp1
           have s3 : IntKind.u64.wrap ((2 : Int) ^ e5) = (w5 : Int) := by
            have e : ((2 : Int) ^ e5) = ((2 ^ e5 : Nat) : Int) := by simp
            rw [e, hps]; exact IntWalk.u64_in _ (by omega)
           have s4 : IntKind.u64.wrap ((w5 : Int) - 1) = (lim : Int) := by rw [IntWalk.u64_in _ (by omega)]; omega
           rw [hwt] at hrs
           have hwt : weightQ n0 j = wt := hwt
           clear hm5 hps hw5 he5 hlq hp1 hlim hwm
           by_cases h40 : v < 1099511627776
           · by_cases hvl : v ≤ lim
             · have t6 : decide ((lim : Int) < (v : Int)) = false := dcF (by omega)
               have t6' : decide (lim < v) = false := dcF (by omega)
               have hA : NumA v = .tuple #[.int .u64 v, .bool true] := by unfold NumA; rw [if_pos h40]
               have hmul := add_le (v := v) (by omega) h4 hlt (by rw [HLQ.out]; exact hvl)
               rw [if_neg (by omega)] at hrs
               rw [hwt] at hmul
               obtain ⟨pr, hpr⟩ : ∃ pr, v * wt = pr := ⟨_, rfl⟩
               rw [hpr] at hmul hrs
               have hpv : pr = v := by rw [← hpr, ← HW1.out, Nat.mul_one]
               have q7 : IntKind.u64.wrap (v : Int) = (pr : Int) := by rw [hpv]; exact IntWalk.u64_in _ (by omega)
               clear hpv
               have q8 : IntKind.u64.wrap ((tt : Int) + (pr : Int)) = (tt : Int) + (pr : Int) := IntWalk.u64_in _ (by omega)
               have q2 : IntKind.i64.wrap ((B.size : Int) + 1) = (B.size : Int) + 1 := i64n _ (by omega)
               have q3 : IntKind.i64.wrap ((at_ : Int) + ((B.size : Int) + 1)) = (at_ : Int) + ((B.size : Int) + 1) := i64n _ (by omega)
               have HRL : Hid (∀ W, Below w2.heap.size w2 W → QrRel ps R2 w2 (.int .i64 ((at_ : Int) + ((B.size : Int) + 1))) (.int .u64 ((tt : Int) + (pr : Int))) (.int .i64 ((j : Int) + 1)) W) := hid (fun W hW => ⟨j + 1, at_ + B.size + 1, tt + pr, by go_num, by rw [HN.out]; exact hlt, by go_num, by omega, by go_num, by omega, by rw [HN.out]; exact hrs, hW⟩)
               rw [hA] at QN
               have QNH := hid (fun n => QN (wr.drewN n))
               clear hrs hA h40 hvl hmul hpr hwt QN
               go_wp2_with fail
               go_quiet (fail); go_wp2_with fail; refine (QNH.out _).mono ?_
               rintro e w3 ⟨rfl, hb3⟩
               have HRL2 := hid (HRL.out _ (xT (ext_drewN _ HB.out) hb3))
               clear hb3
               go_wp2
               refine ⟨?_, by simp [intOf] <;> omega⟩
               first | exact HRL2.out | ((repeat apply Exists.intro); exact ⟨HRL2.out, rfl⟩)
             · have t6 : decide ((lim : Int) < (v : Int)) = true := dcT (by omega)
               have t6' : decide (lim < v) = true := dcT (by omega)
               have hA : NumA v = .tuple #[.int .u64 v, .bool true] := by unfold NumA; rw [if_pos h40]
               have HRN : Hid (R = .no 16 at_) := hid (by rw [← HRE.out, ← hrs, if_pos (by omega)])
               rw [hA] at QN
               have QNH := hid (fun n => QN (wr.drewN n))
               clear hrs hA h40 hvl QN
               go_wp2_with fail
               go_quiet (fail); go_wp2_with fail; refine (QNH.out _).mono ?_
               rintro e w3 ⟨rfl, hb3⟩
               have hb4 := xT HB2.out (xT (ext_drewN _ HB.out) hb3)
               have HE := hid (failed_er (failed_of (w := w3) (w0 := w3) (k := 16) (i := at_) (Below.refl _ _) rfl))
               have hb5 := xT hb4 HE.out.2
               have HF := hid (HNO.out _ _ _ _ HRN.out hb5 HE.out.1)
               obtain ⟨hst, hld⟩ := HZST.out (w3.alloc (.cells #[.int .i64 16, .int .i64 at_, .nilIface] 123)) hb5
               clear hb3 hb4 hb5
               go_wp2_with fail
               go_at_call 44
               refine (fail_any _ _ _).mono ?_
               rintro e w5 ⟨rfl, rfl⟩
               go_wp2_with ((with_reducible show wpList _ _ _ (_ :: _) _ _); refine st_arr 79 w.heap.size _ hst _ _ rfl rfl rfl rfl ?_)
               (try simp only [Exit.inBlock, Exit.then])
               exact bodyPost_ret (by simp [results, Tryz.results51, asAddr, Result.andThen, hld]) rfl HF.out
           · have hvl : ¬ v ≤ lim := by omega
             have hA : NumA v = .tuple #[.int .u64 0, .bool false] := by unfold NumA; rw [if_neg h40]
             have HRN : Hid (R = .no 16 at_) := hid (by rw [← HRE.out, ← hrs, if_pos (by omega)])
             rw [hA] at QN
             have QNH := hid (fun n => QN (wr.drewN n))
             clear hrs hA h40 hvl QN
             go_wp2_with fail
             go_quiet (fail); go_wp2_with fail; refine (QNH.out _).mono ?_
             rintro e w3 ⟨rfl, hb3⟩
             have hb4 := xT HB2.out (xT (ext_drewN _ HB.out) hb3)
             have HE := hid (failed_er (failed_of (w := w3) (w0 := w3) (k := 16) (i := at_) (Below.refl _ _) rfl))
             have hb5 := xT hb4 HE.out.2
             have HF := hid (HNO.out _ _ _ _ HRN.out hb5 HE.out.1)
             obtain ⟨hst, hld⟩ := HZST.out (w3.alloc (.cells #[.int .i64 16, .int .i64 at_, .nilIface] 123)) hb5
             clear hb3 hb4 hb5
             go_wp2_with fail
             go_at_call 44
             refine (fail_any _ _ _).mono ?_
             rintro e w5 ⟨rfl, rfl⟩
             go_wp2_with ((with_reducible show wpList _ _ _ (_ :: _) _ _); refine st_arr 79 w.heap.size _ hst _ _ rfl rfl rfl rfl ?_)
             (try simp only [Exit.inBlock, Exit.then])
             exact bodyPost_ret (by simp [results, Tryz.results51, asAddr, Result.andThen, hld]) rfl HF.out
         · have t4 : ((j : Int) == (n0 : Int) - 1) = false := bneI.2 (by omega)
           have hww : wt = wm := by rw [← hwt, ← hwm]; unfold weightQ; rw [if_neg hl, hm]
           subst hww
           have hlq : 255 = lim := by rw [← hlim]; unfold limitQ; rw [if_neg hl]
           subst hlq
           clear hwm hlim
           rw [hwt] at hrs
           by_cases h40 : v < 1099511627776
           · by_cases hvl : v ≤ 255
             · have t6 : decide ((255 : Int) < (v : Int)) = false := dcF (by omega)
               have t6' : decide (255 < v) = false := dcF (by omega)
               have hA : NumA v = .tuple #[.int .u64 v, .bool true] := by unfold NumA; rw [if_pos h40]
               have hmul := add_le (v := v) (by omega) h4 hlt (by rw [HLQ.out]; exact hvl)
               rw [if_neg (by omega)] at hrs
               rw [hwt] at hmul
               obtain ⟨pr, hpr⟩ : ∃ pr, v * wt = pr := ⟨_, rfl⟩
               rw [hpr] at hmul hrs
               have q7 : IntKind.u64.wrap ((v : Int) * (wt : Int)) = (pr : Int) := by
                have e : (v : Int) * (wt : Int) = (pr : Int) := by rw [← hpr]; simp
                rw [e]; exact IntWalk.u64_in _ (by omega)
               have q8 : IntKind.u64.wrap ((tt : Int) + (pr : Int)) = (tt : Int) + (pr : Int) := IntWalk.u64_in _ (by omega)
               have q2 : IntKind.i64.wrap ((B.size : Int) + 1) = (B.size : Int) + 1 := i64n _ (by omega)
               have q3 : IntKind.i64.wrap ((at_ : Int) + ((B.size : Int) + 1)) = (at_ : Int) + ((B.size : Int) + 1) := i64n _ (by omega)
               have HRL : Hid (∀ W, Below w2.heap.size w2 W → QrRel ps R2 w2 (.int .i64 ((at_ : Int) + ((B.size : Int) + 1))) (.int .u64 ((tt : Int) + (pr : Int))) (.int .i64 ((j : Int) + 1)) W) := hid (fun W hW => ⟨j + 1, at_ + B.size + 1, tt + pr, by go_num, by rw [HN.out]; exact hlt, by go_num, by omega, by go_num, by omega, by rw [HN.out]; exact hrs, hW⟩)
               rw [hA] at QN
               have QNH := hid (fun n => QN (wr.drewN n))
               clear hrs hA h40 hvl hmul hpr hwt QN
               go_wp2_with fail
               go_quiet (fail); go_wp2_with fail; refine (QNH.out _).mono ?_
               rintro e w3 ⟨rfl, hb3⟩
               have HRL2 := hid (HRL.out _ (xT (ext_drewN _ HB.out) hb3))
               clear hb3
               go_wp2
               refine ⟨?_, by simp [intOf] <;> omega⟩
               first | exact HRL2.out | ((repeat apply Exists.intro); exact ⟨HRL2.out, rfl⟩)
             · have t6 : decide ((255 : Int) < (v : Int)) = true := dcT (by omega)
               have t6' : decide (255 < v) = true := dcT (by omega)
               have hA : NumA v = .tuple #[.int .u64 v, .bool true] := by unfold NumA; rw [if_pos h40]
               have HRN : Hid (R = .no 16 at_) := hid (by rw [← HRE.out, ← hrs, if_pos (by omega)])
               rw [hA] at QN
               have QNH := hid (fun n => QN (wr.drewN n))
               clear hrs hA h40 hvl QN
               go_wp2_with fail
               go_quiet (fail); go_wp2_with fail; refine (QNH.out _).mono ?_
               rintro e w3 ⟨rfl, hb3⟩
               have hb4 := xT HB2.out (xT (ext_drewN _ HB.out) hb3)
               have HE := hid (failed_er (failed_of (w := w3) (w0 := w3) (k := 16) (i := at_) (Below.refl _ _) rfl))
               have hb5 := xT hb4 HE.out.2
               have HF := hid (HNO.out _ _ _ _ HRN.out hb5 HE.out.1)
               obtain ⟨hst, hld⟩ := HZST.out (w3.alloc (.cells #[.int .i64 16, .int .i64 at_, .nilIface] 123)) hb5
               clear hb3 hb4 hb5
               go_wp2_with fail
               go_at_call 44
               refine (fail_any _ _ _).mono ?_
               rintro e w5 ⟨rfl, rfl⟩
               go_wp2_with ((with_reducible show wpList _ _ _ (_ :: _) _ _); refine st_arr 79 w.heap.size _ hst _ _ rfl rfl rfl rfl ?_)
               (try simp only [Exit.inBlock, Exit.then])
               exact bodyPost_ret (by simp [results, Tryz.results51, asAddr, Result.andThen, hld]) rfl HF.out
           · have hvl : ¬ v ≤ 255 := by omega
             have hA : NumA v = .tuple #[.int .u64 0, .bool false] := by unfold NumA; rw [if_neg h40]
             have HRN : Hid (R = .no 16 at_) := hid (by rw [← HRE.out, ← hrs, if_pos (by omega)])
             rw [hA] at QN
             have QNH := hid (fun n => QN (wr.drewN n))
             clear hrs hA h40 hvl QN
             go_wp2_with fail
             go_quiet (fail); go_wp2_with fail; refine (QNH.out _).mono ?_
             rintro e w3 ⟨rfl, hb3⟩
             have hb4 := xT HB2.out (xT (ext_drewN _ HB.out) hb3)
             have HE := hid (failed_er (failed_of (w := w3) (w0 := w3) (k := 16) (i := at_) (Below.refl _ _) rfl))
             have hb5 := xT hb4 HE.out.2
             have HF := hid (HNO.out _ _ _ _ HRN.out hb5 HE.out.1)
             obtain ⟨hst, hld⟩ := HZST.out (w3.alloc (.cells #[.int .i64 16, .int .i64 at_, .nilIface] 123)) hb5
             clear hb3 hb4 hb5
             go_wp2_with fail
             go_at_call 44
             refine (fail_any _ _ _).mono ?_
             rintro e w5 ⟨rfl, rfl⟩
             go_wp2_with ((with_reducible show wpList _ _ _ (_ :: _) _ _); refine st_arr 79 w.heap.size _ hst _ _ rfl rfl rfl rfl ?_)
             (try simp only [Exit.inBlock, Exit.then])
             exact bodyPost_ret (by simp [results, Tryz.results51, asAddr, Result.andThen, hld]) rfl HF.out
       · obtain ⟨t1, t1'⟩ := ltF j n0 hlt
         rw [List.drop_eq_nil_of_le (by rw [HN.out]; omega), rngF] at hrs
         have hRt : R = .ok tt := by rw [← HRE.out, ← hrs]
         have htl := parseQ_lt (HR.out.trans hRt)
         have q2 : IntKind.u32.wrap (tt : Int) = (tt : Int) := IntWalk.u32_in _ (by omega)
         have OF := hid (qof_any tt wr htl)
         have HRT := hid hRt
         clear hrs hRt htl hlt htt hat
         go_wp2_with fail
         refine OF.out.mono ?_
         rintro e w5 ⟨rfl, hb5⟩
         obtain ⟨hst, hld, hbf⟩ := HVST.out tt w5 (xT HB2.out (xT HB.out hb5))
         have HF : Hid (Q (.returned (.tuple #[.agg (v4C tt), .nilIface])) (w5.setRow w.heap.size (v4C tt))) := hid (by rw [← HQ.out, HRT.out]; exact ⟨hbf, rfl⟩)
         obtain ⟨cs, hcs⟩ : ∃ cs, v4C tt = cs := ⟨_, rfl⟩
         rw [hcs] at hst hld HF ⊢
         clear hb5 hbf hcs
         go_wp2_with ((with_reducible show wpList _ _ _ (_ :: _) _ _); refine st_arr 79 w.heap.size _ hst _ _ rfl rfl rfl rfl ?_)
         (try simp only [Exit.inBlock, Exit.then])
         exact bodyPost_ret (by simp [results, Tryz.results51, asAddr, Result.andThen, hld]) rfl HF.out
end
section
open Go.RowKit
theorem as_nil (v : Value) (w : World) : Calls Tryz.prog 95 #[.nilIface, v] w fun e w' => e = .returned (.bool false) ∧ w' = w := by
 go_enter Tryz.func95, Tryz.ntmps95
 go_wp2
 go_ret
 exact ⟨rfl, rfl⟩
def SqPost (w : World) (r : Option Nat) (e : Ending) (w' : World) : Prop := Below w.heap.size w w' ∧ match r with
 | some n => e = .returned (.tuple #[.agg (v4C n), .nilIface])
 | none => ∃ u, e = .returned (.tuple #[.agg zero4, u]) ∧ Er w' u [(11, 0)]
theorem qstrict_any (s : ByteArray) (w : World) (hs : s.size ≤ 1000000) (hG : Glob w) : Calls Tryz.prog 214 #[.string s] w (SqPost w (strictQ (bytesN s))) := by
 obtain ⟨R, hR⟩ : ∃ R, strictQ (bytesN s) = R := ⟨_, rfl⟩
 obtain ⟨Q, hQ⟩ : ∃ Q, SqPost w R = Q := ⟨_, rfl⟩
 rw [hR, hQ]
 have HQ := hid hQ
 have PQ := hid (fun W => qparse_any s W hs)
 obtain ⟨W1, hW1⟩ : ∃ W, w.alloc (.cells #[.int .u8 0, .int .u8 0, .int .u8 0, .int .u8 0] 79) = W := ⟨_, rfl⟩
 have hb1 : Below w.heap.size w W1 := by rw [← hW1]; exact ext_alloc (Below.refl _ _) _
 have hx1 : W1.heap[w.heap.size]? = some (.cells zero4 79 (0, 0)) := by rw [← hW1]; exact heap_alloc_new w _
 have hX1 : w.heap.size < W1.heap.size := heap_lt hx1
 have HB1 := hid hb1; have HG := hid hG
 have HZST : Hid (∀ W, Below W1.heap.size W1 W → (storeVar 79 ⟨w.heap.size, 0, none⟩ (.agg #[.int .u8 0, .int .u8 0, .int .u8 0, .int .u8 0])).run Tryz.prog W = .ok () W ∧ (loadVar 79 ⟨w.heap.size, 0, none⟩).run Tryz.prog W = .ok (.agg #[.int .u8 0, .int .u8 0, .int .u8 0, .int .u8 0]) W) := hid (fun W hW => by
  have h0 : W.heap[w.heap.size]? = some (.cells zero4 79 (0, 0)) := by rw [hW.block _ hX1]; exact hx1
  have hs := v4_store zero4 zero4 rfl zero4_one rfl _ W h0
  rw [row_same h0] at hs
  exact ⟨hs, v4_load zero4 rfl _ W h0⟩)
 have HVST : Hid (∀ n W, Below W1.heap.size W1 W → (storeVar 79 ⟨w.heap.size, 0, none⟩ (.agg (v4C n))).run Tryz.prog W = .ok () (W.setRow w.heap.size (v4C n)) ∧ (loadVar 79 ⟨w.heap.size, 0, none⟩).run Tryz.prog (W.setRow w.heap.size (v4C n)) = .ok (.agg (v4C n)) (W.setRow w.heap.size (v4C n)) ∧ Below w.heap.size w (W.setRow w.heap.size (v4C n))) := hid (fun n W hW => by
  have h0 : W.heap[w.heap.size]? = some (.cells zero4 79 (0, 0)) := by rw [hW.block _ hX1]; exact hx1
  exact ⟨v4_store (v4C n) zero4 rfl (v4_one n) rfl _ W h0, v4_load (v4C n) rfl _ _ (setRow_heap h0), setRow_below (xT hb1 hW) (Nat.le_refl _)⟩)
 have HNO : Hid (∀ W, R = none → Below W1.heap.size W1 W → (storeVar 79 ⟨w.heap.size, 0, none⟩ (.agg #[.int .u8 0, .int .u8 0, .int .u8 0, .int .u8 0])).run Tryz.prog (W.alloc (.cells #[.int .i64 11, .int .i64 0, .nilIface] 123)) = .ok () (W.alloc (.cells #[.int .i64 11, .int .i64 0, .nilIface] 123)) ∧ (loadVar 79 ⟨w.heap.size, 0, none⟩).run Tryz.prog (W.alloc (.cells #[.int .i64 11, .int .i64 0, .nilIface] 123)) = .ok (.agg #[.int .u8 0, .int .u8 0, .int .u8 0, .int .u8 0]) (W.alloc (.cells #[.int .i64 11, .int .i64 0, .nilIface] 123)) ∧ Q (.returned (.tuple #[.agg #[.int .u8 0, .int .u8 0, .int .u8 0, .int .u8 0], .iface 119 (.pointer (some ⟨W.heap.size, 0, none⟩))])) (W.alloc (.cells #[.int .i64 11, .int .i64 0, .nilIface] 123))) := hid (fun W hr hW => by
  have hE := failed_er (failed_of (w := W) (w0 := W) (k := 11) (i := 0) (Below.refl _ _) rfl)
  obtain ⟨h1, h2⟩ := HZST.out _ (xT hW hE.2)
  refine ⟨h1, h2, ?_⟩
  rw [← HQ.out, hr]
  exact ⟨xT hb1 (xT hW hE.2), _, rfl, hE.1⟩)
 cases hp : parseQ (bytesN s) with
 | no k p =>
   have hRn : R = none := by rw [← hR]; unfold strictQ; rw [hp]
   rw [hp] at PQ
   have HRN := hid hRn
   clear hb1 hx1 hp hR hQ hs hX1 hG hRn HVST
   go_enter Tryz.func214, Tryz.ntmps214
   go_wp2_with fail
   clear hW1
   refine (PQ.out _).mono ?_
   rintro e w2 ⟨hb2, u, rfl, hE⟩
   have hE2 := hE
   obtain ⟨b, off, u2, rfl, hS, _⟩ := fault_inv hE
   obtain ⟨w3, hW3⟩ : ∃ W, w2.alloc (.cells #[.int .u8 0, .int .u8 0, .int .u8 0, .int .u8 0] 79) = W := ⟨_, rfl⟩
   have hb3 : Below w2.heap.size w2 w3 := by rw [← hW3]; exact ext_alloc (Below.refl _ _) _
   have hx3 : w3.heap[w2.heap.size]? = some (.cells zero4 79 (0, 0)) := by rw [← hW3]; exact heap_alloc_new w2 _
   have hst := v4_store zero4 zero4 rfl zero4_one rfl _ w3 hx3
   rw [row_same hx3] at hst
   have A := hid (as_box ⟨b, off, none⟩ w3 (((HG.out.ext HB1.out).ext hb2).ext hb3))
   have HB3 := hid (xT hb2 hb3)
   clear hE hE2 hS hb2 hb3 hx3
   go_wp2_with ((with_reducible show wpList _ _ _ (_ :: _) _ _); refine st_arr 79 w2.heap.size _ hst _ _ rfl rfl rfl rfl ?_)
   clear hst hW3
   refine A.out.mono ?_
   rintro e w5 ⟨rfl, hc, hz, hb5⟩
   have hb6 := xT HB3.out hb5
   obtain ⟨hst, hld, hF⟩ := HNO.out w5 HRN.out hb6
   have HF := hid hF
   clear hc hz hb5 hb6 hF
   go_wp2_with fail
   go_at_call 44
   refine (fail_any _ _ _).mono ?_
   rintro e w6 ⟨rfl, rfl⟩
   go_wp2_with ((with_reducible show wpList _ _ _ (_ :: _) _ _); refine st_arr 79 w.heap.size _ hst _ _ rfl rfl rfl rfl ?_)
   (try simp only [Exit.inBlock, Exit.then])
   exact bodyPost_ret (by simp [results, Tryz.results214, asAddr, Result.andThen, hld]) rfl HF.out
 | ok n =>
   rw [hp] at PQ
   obtain ⟨T, hT⟩ : ∃ T, bytesL (quadL n) = T := ⟨_, rfl⟩
   have hiff : T = s ↔ quadL n = bytesN s := by
    rw [← hT]
    constructor
    · intro h; rw [← h, bytesN_bytesL (fun c hc => by have := (quad_name n).small c hc; rcases this with h | rfl; have := small_lt h; omega; decide)]
    · intro h; rw [h, bytesL_bytesN]
   have hRn : R = if T = s then some n else none := by
    rw [← hR]; unfold strictQ; rw [hp]
    show (if quadL n = bytesN s then some n else none) = _
    by_cases h : T = s
    · rw [if_pos h, if_pos (hiff.1 h)]
    · rw [if_neg h, if_neg (fun e => h (hiff.2 e))]
   have TX := hid (fun W => qtext_any n W)
   rw [hT] at TX
   have HYES : Hid (∀ W, R = some n → Below w.heap.size w W → Q (.returned (.tuple #[.agg (v4C n), .nilIface])) W) := hid (fun W hr hW => by rw [← HQ.out, hr]; exact ⟨hW, rfl⟩)
   have HV := hid (HVST.out n)
   have h4o := v4_one n
   have hsz4 : (v4C n).size = 4 := rfl
   obtain ⟨cs, hcs⟩ : ∃ cs, v4C n = cs := ⟨_, rfl⟩
   rw [hcs] at HYES TX HV h4o hsz4
   have PQ : Hid (∀ W, Calls Tryz.prog 51 #[.string s] W fun e w' => Below W.heap.size W w' ∧ e = .returned (.tuple #[.agg cs, .nilIface])) := hid (fun W => (PQ.out W).mono fun e w' h => ⟨h.1, by rw [← hcs]; exact h.2⟩)
   have H4O := hid h4o; have HSZ := hid hsz4
   have HRN := hid hRn
   clear hb1 hx1 hp hR hQ hs hX1 hG hRn HVST hiff hT hcs h4o hsz4
   go_enter Tryz.func214, Tryz.ntmps214
   go_wp2_with fail
   clear hW1
   refine (PQ.out _).mono ?_
   rintro e w2 ⟨hb2, rfl⟩
   obtain ⟨w3, hW3⟩ : ∃ W, w2.alloc (.cells #[.int .u8 0, .int .u8 0, .int .u8 0, .int .u8 0] 79) = W := ⟨_, rfl⟩
   have hb3 : Below w2.heap.size w2 w3 := by rw [← hW3]; exact ext_alloc (Below.refl _ _) _
   have hx3 : w3.heap[w2.heap.size]? = some (.cells zero4 79 (0, 0)) := by rw [← hW3]; exact heap_alloc_new w2 _
   have hst := v4_store cs zero4 HSZ.out H4O.out rfl _ w3 hx3
   have hx4 := setRow_heap (c := cs) hx3
   have hb4 : Below w2.heap.size w2 (w3.setRow w2.heap.size cs) := setRow_below hb3 (Nat.le_refl _)
   obtain ⟨w4, hW4⟩ : ∃ W, w3.setRow w2.heap.size cs = W := ⟨_, rfl⟩
   rw [hW4] at hst hx4 hb4
   obtain ⟨w5, hW5⟩ : ∃ W, w4.alloc (.cells #[.pointer none] 119) = W := ⟨_, rfl⟩
   have hb5 : Below w4.heap.size w4 w5 := by rw [← hW5]; exact ext_alloc (Below.refl _ _) _
   have hx5 : w5.heap[w2.heap.size]? = some (.cells cs 79 (0, 0)) := by rw [hb5.block _ (heap_lt hx4)]; exact hx4
   have hld := v4_load cs HSZ.out _ w5 hx5
   have A := hid (fun v => as_nil v w5)
   have HB5 := hid (xT (xT hb2 hb4) hb5)
   have HX5 := hid hx5
   clear hb2 hb3 hx3 hb4 hx4 hb5 hW4 hx5
   go_wp2_with ((with_reducible show wpList _ _ _ (_ :: _) _ _); refine st_arr 79 w2.heap.size _ hst _ _ rfl rfl rfl rfl ?_)
   clear hst hW3 hW5
   refine (A.out _).mono ?_
   rintro e w6 ⟨rfl, hw6⟩
   have hw6' := hw6.symm
   subst hw6'
   clear hw6
   go_wp2_with ((with_reducible show wpList _ _ _ (_ :: _) _ _); refine ld_arrG 79 w2.heap.size _ hld _ rfl rfl rfl ?_)
   refine (TX.out _).mono ?_
   rintro e w7 ⟨rfl, hb7⟩
   have hld7 := v4_load cs HSZ.out _ w7 ((hb7.block _ (heap_lt HX5.out)).trans HX5.out)
   have HB7 := hid (xT HB5.out hb7)
   clear hb7 hld
   by_cases hEq : T = s
   · have hr : R = some n := by rw [HRN.out, if_pos hEq]
     subst hEq
     have t3 : (T.toList != T.toList) = false := by unfold bne; rw [beqS_t rfl]; rfl
     obtain ⟨hst, hld, hbf⟩ := HV.out w7 HB7.out
     have HF := hid (HYES.out _ hr hbf)
     clear hr hbf
     go_wp2_with ((with_reducible show wpList _ _ _ (_ :: _) _ _); first | (refine ld_arr 79 w2.heap.size _ hld7 _ rfl rfl rfl ?_) | (refine st_arr 79 w.heap.size _ hst _ _ rfl rfl rfl rfl ?_))
     (try simp only [Exit.inBlock, Exit.then])
     exact bodyPost_ret (by simp [results, Tryz.results214, asAddr, Result.andThen, hld]) rfl HF.out
   · have hr : R = none := by rw [HRN.out, if_neg hEq]
     have t3 : (T.toList != s.toList) = true := by unfold bne; rw [beqS_f hEq]; rfl
     have t3' : (T.toList == s.toList) = false := beqS_f hEq
     obtain ⟨hst, hld, hF⟩ := HNO.out w7 hr HB7.out
     have HF := hid hF
     clear hr hEq hF hld7
     go_wp2_with fail
     go_at_call 44
     refine (fail_any _ _ _).mono ?_
     rintro e w8 ⟨rfl, rfl⟩
     go_wp2_with ((with_reducible show wpList _ _ _ (_ :: _) _ _); refine st_arr 79 w.heap.size _ hst _ _ rfl rfl rfl rfl ?_)
     (try simp only [Exit.inBlock, Exit.then])
     exact bodyPost_ret (by simp [results, Tryz.results214, asAddr, Result.andThen, hld]) rfl HF.out
end
end Go.Proofs.YtbeodjipdpcaiaaGreatDoor
