/- Texts put together. -/
import Derived.Test.YtbeodjipdpcaiaaGreatDoorYHsw1s
import Derived.Test.YtbeodjipdpcaiaaGreatDoorYLbw5s
import Derived.Test.YtbeodjipdpcaiaaGreatDoorYQuo3sf
set_option maxRecDepth 100000
set_option maxHeartbeats 4000000
namespace Go.Proofs.YtbeodjipdpcaiaaGreatDoor
section
open Go.RowKit
theorem map_nat_inj : ∀ {a b : List UInt8}, a.map (·.toNat) = b.map (·.toNat) → a = b
 | [], [], _ => rfl
 | [], _ :: _, h => by simp at h
 | _ :: _, [], h => by simp at h
 | x :: a, y :: b, h => by
   simp only [List.map_cons, List.cons.injEq] at h
   rw [UInt8.toNat.inj h.1, map_nat_inj h.2]
theorem pre_eq (s : ByteArray) (p : List UInt8) : Go.Lib.hasPrefix s.data.toList p = decide ((bytesN s).take p.length = p.map (·.toNat)) := by
 unfold Go.Lib.hasPrefix
 rw [Bool.eq_iff_iff, List.isPrefixOf_iff_prefix, List.prefix_iff_eq_take, decide_eq_true_eq]
 have e : bytesN s = s.data.toList.map (·.toNat) := rfl
 rw [e, ← List.map_take]
 constructor
 · intro h; rw [← h]
 · intro h; exact (map_nat_inj h).symm
theorem beneath_eq (n a : ByteArray) : (decide (a.size + 1 < n.size) && Go.Lib.hasSuffix n.data.toList ((⟨#[46]⟩ : ByteArray) ++ a).data.toList) = beneathL (bytesN n) (bytesN a) := by
 unfold beneathL
 rw [bytesN_len, bytesN_len, Bool.eq_iff_iff, Bool.and_eq_true, decide_eq_true_eq, decide_eq_true_eq]
 refine and_congr_right (fun hlt => ?_)
 have e1 : ((⟨#[46]⟩ : ByteArray) ++ a).data.toList = 46 :: a.data.toList := by simp [ByteArray.data_append]
 rw [e1]
 unfold Go.Lib.hasSuffix
 rw [List.isSuffixOf_iff_suffix, List.suffix_iff_eq_drop]
 have e : bytesN n = n.data.toList.map (·.toNat) := rfl
 have e2 : bytesN a = a.data.toList.map (·.toNat) := rfl
 have hn : n.data.toList.length = n.size := by rw [Array.length_toList]; rfl
 have ha : a.data.toList.length = a.size := by rw [Array.length_toList]; rfl
 rw [e, e2, ← List.map_drop, List.length_cons, hn, ha]
 have e3 : 46 :: a.data.toList.map (·.toNat) = (46 :: a.data.toList).map (·.toNat) := rfl
 rw [e3]
 constructor
 · intro h; rw [← h]
 · intro h; exact (map_nat_inj h).symm
theorem bytes_eq_iff (a b : ByteArray) : (a.toList == b.toList) = decide (bytesN a = bytesN b) := by
 by_cases h : a = b
 · rw [beqS_t h, dcT (by rw [h])]
 · rw [beqS_f h, dcF (fun e => h (bytesN_inj e))]
theorem bytes_nil_iff (a : ByteArray) : (a.toList == []) = decide (bytesN a = []) := by
 have := bytes_eq_iff a ⟨#[]⟩
 rw [show (⟨#[]⟩ : ByteArray).toList = [] by rw [ByteArray.toList_eq]] at this
 exact this
theorem hmatch_any (wl : Bool) (n : ByteArray) (k : Nat) (t : ByteArray) (w : World) (hn : n.size ≤ 1000000) (ht : t.size ≤ 1000000) : Calls Tryz.prog 18 #[.agg #[.bool wl, .string n], .agg #[.int .i64 k, .string t]] w fun e w' => e = .returned (.bool (matchL wl (bytesN n) k (bytesN t))) ∧ Below w.heap.size w w' := by
 have hb := ext_alloc (ext_alloc (Below.refl w.heap.size w) (.cells #[.bool wl, .string n] 33)) (.cells #[.int .i64 k, .string t] 24)
 unfold matchL
 cases wl with
 | false =>
   rw [if_neg (by decide)]
   have hh := hostT_bytes k (bytesN t)
   rw [bytesL_bytesN] at hh
   have TX := fun W => htextOf_any k t W ht
   have hb3 : decide (bytesN n = textH k (bytesN t)) = (n.toList == (hostT k t).toList) := by
    rw [bytes_eq_iff, hh, bytesN_bytesL]
    unfold textH
    split
    · intro c hc
      simp only [List.cons_append, List.mem_cons, List.mem_append, List.not_mem_nil, or_false] at hc
      rcases hc with rfl | hc | rfl
      · decide
      · exact bytesN_lt t c hc
      · decide
    · exact bytesN_lt t
   rw [hb3]
   obtain ⟨T, hT⟩ : ∃ T, hostT k t = T := ⟨_, rfl⟩
   rw [hT] at TX ⊢
   obtain ⟨W2, hW2⟩ : ∃ W, (w.alloc (.cells #[.bool false, .string n] 33)).alloc (.cells #[.int .i64 k, .string t] 24) = W := ⟨_, rfl⟩
   rw [hW2] at hb
   have z2 : w.heap.size + 2 = W2.heap.size := by rw [← hW2]; simp
   have c0 : W2.cell? ⟨w.heap.size, 0, none⟩ = some (.bool false) := by rw [← hW2]; simp
   have c1 : W2.cell? ⟨w.heap.size, 1, none⟩ = some (.string n) := by rw [← hW2]; simp
   have c2 : W2.cell? ⟨w.heap.size + 1, 0, none⟩ = some (.int .i64 k) := by
    rw [← hW2]
    simp
   have c3 : W2.cell? ⟨w.heap.size + 1, 1, none⟩ = some (.string t) := by
    rw [← hW2]
    simp
   have k1 : ∀ m : BW W2.heap.size W2, m.w.cell? ⟨w.heap.size, 1, none⟩ = some (.string n) := fun m => (bcell1 m.below (by omega) _).trans c1
   have k2 : ∀ m : BW W2.heap.size W2, m.w.cell? ⟨w.heap.size + 1, 0, none⟩ = some (.int .i64 k) := fun m => (bcell1 m.below (by omega) _).trans c2
   have k3 : ∀ m : BW W2.heap.size W2, m.w.cell? ⟨w.heap.size + 1, 1, none⟩ = some (.string t) := fun m => (bcell1 m.below (by omega) _).trans c3
   have TXH := hid TX; have HB := hid hb
   clear hb hh TX hb3 hT c1 c2 c3 z2 hn ht
   go_enter Tryz.func18, Tryz.ntmps18
   go_wp2_with fail
   clear hW2 c0
   refine wp_region_quietB W2.heap.size (by kernel_rfl) (by kernel_rfl) ?_
   repeat (go_big_quiet_step ((go_at_call 19; exact quiet_callB (TXH.out _) (Nat.le_refl _))))
   refine wpQuiet_nil ?_
   intro _ hw'
   obtain ⟨nb, hw4⟩ := hw'
   subst hw4
   have HB6 := hid (xT HB.out nb.below)
   clear k1 k2 k3
   generalize nb.w = W6 at *
   go_wp2
   go_ret
   exact ⟨rfl, HB6.out⟩
 | true =>
   rw [if_pos rfl]
   have BN := fun W => beneath_any t n W ht hn
   rw [beneath_eq] at BN
   have t2 := bytes_nil_iff n
   obtain ⟨tb, htb⟩ : ∃ tb, beneathL (bytesN t) (bytesN n) = tb := ⟨_, rfl⟩
   obtain ⟨te, hte⟩ : ∃ te, decide (bytesN n = []) = te := ⟨_, rfl⟩
   rw [htb] at BN ⊢
   rw [hte] at t2 ⊢
   have BNH := hid BN; have HB := hid hb
   clear hb BN htb hte hn ht
   by_cases hk : k = 1
   · have t1 : ((k : Int) == 1) = true := by rw [hk]; rfl
     rw [dcT hk, Bool.true_and]
     clear hk
     cases te with
     | true =>
       go_enter Tryz.func18, Tryz.ntmps18
       go_wp2
       go_ret
       exact ⟨rfl, HB.out⟩
     | false =>
       go_enter Tryz.func18, Tryz.ntmps18
       go_wp2_with fail
       refine (BNH.out _).mono ?_
       rintro e w3 ⟨rfl, rfl⟩
       go_wp2
       go_ret
       exact ⟨by rw [Bool.false_or]; rfl, HB.out⟩
   · have t1 : ((k : Int) == 1) = false := bneI.2 (by omega)
     rw [dcF hk, Bool.false_and]
     clear hk
     go_enter Tryz.func18, Tryz.ntmps18
     go_wp2
     go_ret
     exact ⟨rfl, HB.out⟩
end
section
open Go.RowKit
theorem pa_info : (Tryz.prog.info? 33).map (·.size) = some 2 := by kernel_rfl
def patC (b : Bool) (t : ByteArray) : Array Value := #[.bool b, .string t]
theorem pa_load (k : Bool) (t : ByteArray) (b : Nat) (w : World) (h : w.heap[b]? = some (.cells (patC k t) 33 (0, 0))) : (loadVar 33 ⟨b, 0, none⟩).run Tryz.prog w = .ok (.agg (patC k t)) w :=
 run_loadVar_row _ _ 33 33 _ (0, 0) _ h Tryz.underlying33 rfl pa_info
theorem pa_store (k k2 : Bool) (t t2 : ByteArray) (b : Nat) (w : World) (h : w.heap[b]? = some (.cells (patC k2 t2) 33 (0, 0))) : (storeVar 33 ⟨b, 0, none⟩ (.agg (patC k t))).run Tryz.prog w = .ok () (w.setRow b (patC k t)) :=
 run_storeVar_row (P := Tryz.prog) w b 33 33 (patC k2 t2) (patC k t) h pa_info rfl (by
  rw [Array.all_eq_true_iff_forall_mem]
  intro v hv
  simp only [patC, List.mem_toArray, List.mem_cons, List.not_mem_nil, or_false] at hv
  rcases hv with rfl | rfl <;> rfl)
def PrPost (w : World) (r : PR) (e : Ending) (w' : World) : Prop := Below w.heap.size w w' ∧ match r with
 | .ok b t => e = .returned (.tuple #[.agg #[.bool b, .string (bytesL t)], .nilIface])
 | .er l => ∃ u, e = .returned (.tuple #[.agg #[.bool false, .string ⟨#[]⟩], u]) ∧ Er w' u l
structure ResCellP (w W1 : World) (Q : Ending → World → Prop) (r : PR) : Prop where
 no : ∀ (l : List (Int × Int)) W u, r = .er l → Below W1.heap.size W1 W → Er W u l → (storeVar 33 ⟨w.heap.size, 0, none⟩ (.agg #[.bool false, .string ⟨#[]⟩])).run Tryz.prog W = .ok () W ∧ (loadVar 33 ⟨w.heap.size, 0, none⟩).run Tryz.prog W = .ok (.agg #[.bool false, .string ⟨#[]⟩]) W ∧ Q (.returned (.tuple #[.agg #[.bool false, .string ⟨#[]⟩], u])) W
 ok : ∀ (k : Bool) (t : List Nat) (T : ByteArray) W, r = .ok k t → bytesL t = T → Below W1.heap.size W1 W → (storeVar 33 ⟨w.heap.size, 0, none⟩ (.agg #[.bool k, .string T])).run Tryz.prog W = .ok () (W.setRow w.heap.size #[.bool k, .string T]) ∧ (loadVar 33 ⟨w.heap.size, 0, none⟩).run Tryz.prog (W.setRow w.heap.size #[.bool k, .string T]) = .ok (.agg #[.bool k, .string T]) (W.setRow w.heap.size #[.bool k, .string T]) ∧ Q (.returned (.tuple #[.agg #[.bool k, .string T], .nilIface])) (W.setRow w.heap.size #[.bool k, .string T])
theorem resCellP {w W1 : World} {Q : Ending → World → Prop} {r : PR} (hW1 : w.alloc (.cells #[.bool false, .string ⟨#[]⟩] 33) = W1) (hQ : PrPost w r = Q) : ResCellP w W1 Q r ∧ Below w.heap.size w W1 := by
 have hb1 : Below w.heap.size w W1 := by rw [← hW1]; exact ext_alloc (Below.refl _ _) _
 have hx1 : W1.heap[w.heap.size]? = some (.cells (patC false ⟨#[]⟩) 33 (0, 0)) := by rw [← hW1]; exact heap_alloc_new w _
 have hX1 := heap_lt hx1
 refine ⟨⟨fun l W u hr hW hE => ?_, fun k t T W hr hT hW => ?_⟩, hb1⟩
 · have h0 : W.heap[w.heap.size]? = some (.cells (patC false ⟨#[]⟩) 33 (0, 0)) := by rw [hW.block _ hX1]; exact hx1
   have hs := pa_store false false ⟨#[]⟩ ⟨#[]⟩ _ W h0
   rw [row_same h0] at hs
   refine ⟨hs, pa_load false ⟨#[]⟩ _ W h0, ?_⟩
   rw [← hQ, hr]
   exact ⟨xT hb1 hW, u, rfl, hE⟩
 · have h0 : W.heap[w.heap.size]? = some (.cells (patC false ⟨#[]⟩) 33 (0, 0)) := by rw [hW.block _ hX1]; exact hx1
   refine ⟨pa_store k false T ⟨#[]⟩ _ W h0, pa_load k T _ _ (setRow_heap h0), ?_⟩
   rw [← hQ, hr]
   exact ⟨setRow_below (xT hb1 hW) (Nat.le_refl _), by subst hT; rfl⟩
theorem cut_star (s : ByteArray) : Go.Lib.hasPrefix s.data.toList [42, 46] = starD (bytesN s) ∧ (⟨(Go.Lib.trimPrefix s.data.toList [42, 46]).toArray⟩ : ByteArray) = if starD (bytesN s) = true then bytesL ((bytesN s).drop 2) else s := by
 have h1 : Go.Lib.hasPrefix s.data.toList [42, 46] = starD (bytesN s) := by rw [pre_eq]; rfl
 refine ⟨h1, ?_⟩
 unfold Go.Lib.trimPrefix
 rw [h1]
 split
 · exact list_drop s 2
 · cases s; simp
theorem canon_len {b : List Nat} {k : Nat} {t : List Nat} (h : canonL b = .ok k t) : t.length ≤ 1000 ∧ ByteL t := by
 have hk := canon_ok h
 cases hk with
 | name n ts h hn => exact ⟨by have := h.size; omega, fun c hc => by have := (name_bytes h c hc).2.2.2.2; omega⟩
 | four a h => exact ⟨by have := quad_len a; omega, fun c hc => by have := (name_bytes (quad_name a) c hc).2.2.2.2; omega⟩
 | six g h8 hs6 =>
   refine ⟨?_, fun c hc => by have := (text6_bytes hs6 c hc).1; omega⟩
   have hc : ∀ l : List Nat, Small6 l → l.length ≤ 8 → (colons l).length ≤ 40 := fun l hl h8 => by
    have h1 : (joinN 58 (l.map hexN)).length ≤ 5 * (l.map hexN).length := join_small 58 4 (fun p hp => by
     obtain ⟨m, hm, rfl⟩ := List.mem_map.1 hp
     exact (hexN_all (hl m hm)).2.1)
    rw [List.length_map] at h1
    show (joinN 58 _).length ≤ 40
    omega
   unfold text6
   split
   · have := hc g hs6 (by omega)
     show (colons g).length ≤ _
     omega
   · have h1 := hc (g.take (longG g).1) (fun n hn => hs6 n (List.mem_of_mem_take hn)) (by rw [List.length_take]; omega)
     have h2 := hc (g.drop ((longG g).1 + (longG g).2)) (fun n hn => hs6 n (List.mem_of_mem_drop hn)) (by rw [List.length_drop]; omega)
     simp only [List.length_append, List.length_cons]
     show (colons _).length + ((colons _).length + 1 + 1) ≤ _
     omega
theorem pattern_star (w : World) : Calls Tryz.prog 16 #[.string ⟨#[42]⟩] w (PrPost w (.ok true [])) := by
 obtain ⟨Q, hQ⟩ : ∃ Q, PrPost w (.ok true []) = Q := ⟨_, rfl⟩
 show Calls _ _ _ _ (PrPost w (.ok true []))
 rw [hQ]
 obtain ⟨W1, hW1⟩ : ∃ W, w.alloc (.cells #[.bool false, .string ⟨#[]⟩] 33) = W := ⟨_, rfl⟩
 obtain ⟨rc, hb1⟩ := resCellP hW1 hQ
 have RC := hid rc; have HB1 := hid hb1
 clear rc hb1 hQ
 have t0 : ((⟨#[42]⟩ : ByteArray).toList == [42]) = true := by rw [ByteArray.toList_eq]; rfl
 obtain ⟨hst, hld, hF⟩ := RC.out.ok true [] ⟨#[]⟩ W1 rfl rfl (Below.refl _ _)
 have HF := hid hF
 obtain ⟨S, hS⟩ : ∃ S, (⟨#[42]⟩ : ByteArray) = S := ⟨_, rfl⟩
 rw [hS] at t0 ⊢
 clear hF hS
 go_enter Tryz.func16, Tryz.ntmps16
 go_wp2_with ((with_reducible show wpList _ _ _ (_ :: _) _ _); refine st_arr 33 w.heap.size _ hst _ _ rfl rfl rfl rfl ?_)
 (try simp only [Exit.inBlock, Exit.then])
 exact bodyPost_ret (by simp [results, Tryz.results16, asAddr, Result.andThen, hld]) rfl HF.out
theorem pattern_er (s R : ByteArray) (w : World) (wl : Bool) (h42 : s ≠ ⟨#[42]⟩) (hRz : R.size ≤ 1000000) (hEn : HEnv w) (hcut : ∀ W, Calls Tryz.prog 53 #[.string s, .string ⟨#[42, 46]⟩] W fun e w' => e = .returned (.tuple #[.string R, .bool wl]) ∧ w' = W) {l : List (Int × Int)} (hl : l ≠ []) (hr : canonL (bytesN R) = .er l) : Calls Tryz.prog 16 #[.string s] w (PrPost w (.er ((22, 0) :: l))) := by
 have t0 : (s.toList == [42]) = false := by
  have h := beqS_f h42
  rw [show (⟨#[42]⟩ : ByteArray).toList = [42] by rw [ByteArray.toList_eq]] at h
  exact h
 have HC := fun W h => hcanon_any R W hRz h
 rw [hr] at HC
 have HCH := hid HC
 obtain ⟨Q, hQ⟩ : ∃ Q, PrPost w (.er ((22, 0) :: l)) = Q := ⟨_, rfl⟩
 show Calls _ _ _ _ (PrPost w (.er ((22, 0) :: l)))
 rw [hQ]
 obtain ⟨W1, hW1⟩ : ∃ W, w.alloc (.cells #[.bool false, .string ⟨#[]⟩] 33) = W := ⟨_, rfl⟩
 obtain ⟨rc, hb1⟩ := resCellP hW1 hQ
 have RC := hid rc; have HB1 := hid hb1
 clear rc hb1 hQ
 have CU := hid (hcut W1)
 have HEN := hid (hEn.ext HB1.out)
 clear h42 hEn hcut hRz hr HC
 go_enter Tryz.func16, Tryz.ntmps16
 go_wp2_with fail
 clear hW1
 refine CU.out.mono ?_
 rintro e w1 ⟨rfl, hw1⟩
 have hw1' := hw1.symm
 subst hw1'
 clear hw1
 have HC1 := hid (HCH.out W1 HEN.out)
 go_wp2_with fail
 refine HC1.out.mono ?_
 rintro e w2 ⟨hb2, u, rfl, hE⟩
 obtain ⟨b, off, rfl⟩ := fault_form hE hl
 obtain ⟨w3, hW3⟩ : ∃ W, w2.alloc (.cells #[.int .i64 0, .string ⟨#[]⟩] 24) = W := ⟨_, rfl⟩
 have hb3 : Below w2.heap.size w2 w3 := by rw [← hW3]; exact ext_alloc (Below.refl _ _) _
 have hx3 : w3.heap[w2.heap.size]? = some (.cells (hostC 0 ⟨#[]⟩) 24 (0, 0)) := by rw [← hW3]; exact heap_alloc_new w2 _
 have hsth := ho_store 0 0 ⟨#[]⟩ ⟨#[]⟩ _ w3 hx3
 rw [row_same hx3] at hsth
 have hsth : (storeVar 24 ⟨w2.heap.size, 0, none⟩ (.agg #[.int .i64 0, .string ⟨#[]⟩])).run Tryz.prog w3 = .ok () w3 := hsth
 have HWR := hid (hwr_any 0 _ _ w3 (hE.ext hb3))
 have HB3 := hid (xT hb2 hb3)
 clear hb2 hE hb3 hx3 hl
 go_wp2_with ((with_reducible show wpList _ _ _ (_ :: _) _ _); refine st_arr 24 w2.heap.size _ hsth _ _ rfl rfl rfl rfl ?_)
 clear hW3 hsth
 refine HWR.out.mono ?_
 rintro e w5 ⟨b5, rfl, hE5, hb5⟩
 obtain ⟨hst, hld, hF⟩ := RC.out.no _ w5 _ rfl (xT HB3.out hb5) hE5
 have HF := hid hF
 clear hE5 hb5 hF
 go_wp2_with ((with_reducible show wpList _ _ _ (_ :: _) _ _); refine st_arr 33 w.heap.size _ hst _ _ rfl rfl rfl rfl ?_)
 (try simp only [Exit.inBlock, Exit.then])
 exact bodyPost_ret (by simp [results, Tryz.results16, asAddr, Result.andThen, hld]) rfl HF.out
theorem pattern_addr (s R : ByteArray) (w : World) (h42 : s ≠ ⟨#[42]⟩) (hRz : R.size ≤ 1000000) (hEn : HEnv w) (hcut : ∀ W, Calls Tryz.prog 53 #[.string s, .string ⟨#[42, 46]⟩] W fun e w' => e = .returned (.tuple #[.string R, .bool true]) ∧ w' = W) {k : Nat} {t : List Nat} (hk : k ≠ 1) (hr : canonL (bytesN R) = .ok k t) : Calls Tryz.prog 16 #[.string s] w (PrPost w (.er [(22, 0)])) := by
 have t0 : (s.toList == [42]) = false := by
  have h := beqS_f h42
  rw [show (⟨#[42]⟩ : ByteArray).toList = [42] by rw [ByteArray.toList_eq]] at h
  exact h
 have HC := fun W h => hcanon_any R W hRz h
 obtain ⟨T, hT⟩ : ∃ T, bytesL t = T := ⟨_, rfl⟩
 have HCH : Hid (∀ W, HEnv W → Calls Tryz.prog 15 #[.string R] W fun e w' => Below W.heap.size W w' ∧ e = .returned (.tuple #[.agg #[.int .i64 k, .string T], .nilIface])) := hid (fun W h => by have := HC W h; rw [hr] at this; rw [← hT]; exact this)
 have t1 : ((k : Int) != 1) = true := bne_iff_ne.2 (by omega)
 obtain ⟨Q, hQ⟩ : ∃ Q, PrPost w (.er [(22, 0)]) = Q := ⟨_, rfl⟩
 show Calls _ _ _ _ (PrPost w (.er [(22, 0)]))
 rw [hQ]
 obtain ⟨W1, hW1⟩ : ∃ W, w.alloc (.cells #[.bool false, .string ⟨#[]⟩] 33) = W := ⟨_, rfl⟩
 obtain ⟨rc, hb1⟩ := resCellP hW1 hQ
 have RC := hid rc; have HB1 := hid hb1
 clear rc hb1 hQ
 have CU := hid (hcut W1)
 have HEN := hid (hEn.ext HB1.out)
 clear h42 hEn hcut hRz hr HC hT hk
 go_enter Tryz.func16, Tryz.ntmps16
 go_wp2_with fail
 clear hW1
 refine CU.out.mono ?_
 rintro e w1 ⟨rfl, hw1⟩
 have hw1' := hw1.symm
 subst hw1'
 clear hw1
 have HC1 := hid (HCH.out W1 HEN.out)
 go_wp2_with fail
 refine HC1.out.mono ?_
 rintro e w2 ⟨hb2, rfl⟩
 obtain ⟨w3, hW3⟩ : ∃ W, w2.alloc (.cells #[.int .i64 0, .string ⟨#[]⟩] 24) = W := ⟨_, rfl⟩
 have hb3 : Below w2.heap.size w2 w3 := by rw [← hW3]; exact ext_alloc (Below.refl _ _) _
 have hx3 : w3.heap[w2.heap.size]? = some (.cells (hostC 0 ⟨#[]⟩) 24 (0, 0)) := by rw [← hW3]; exact heap_alloc_new w2 _
 have hsth : (storeVar 24 ⟨w2.heap.size, 0, none⟩ (.agg #[.int .i64 k, .string T])).run Tryz.prog w3 = .ok () (w3.setRow w2.heap.size #[.int .i64 k, .string T]) := ho_store k 0 T ⟨#[]⟩ _ w3 hx3
 have hx4 := setRow_heap (c := #[.int .i64 k, .string T]) hx3
 have hb4 : Below w2.heap.size w2 (w3.setRow w2.heap.size #[.int .i64 k, .string T]) := setRow_below hb3 (Nat.le_refl _)
 obtain ⟨w4, hW4⟩ : ∃ W, w3.setRow w2.heap.size #[.int .i64 k, .string T] = W := ⟨_, rfl⟩
 rw [hW4] at hsth hx4 hb4
 have hld4 : (loadVar 24 ⟨w2.heap.size, 0, none⟩).run Tryz.prog w4 = .ok (.agg #[.int .i64 k, .string T]) w4 := ho_load k T _ w4 hx4
 have c4 : w4.cell? ⟨w2.heap.size, 0, none⟩ = some (.int .i64 k) := by rw [cell_of_row _ _ _ _ _ _ hx4]; rfl
 have HB4 := hid (xT hb2 hb4)
 clear hb2 hb3 hx3 hb4 hx4 hW4
 go_wp2_with ((with_reducible show wpList _ _ _ (_ :: _) _ _); refine st_arr 24 w2.heap.size _ hsth _ _ rfl rfl rfl rfl ?_)
 go_at_call 44
 refine (fail_any _ _ _).mono ?_
 rintro e w5 ⟨rfl, rfl⟩
 have hE := failed_er (failed_of (w := w4) (w0 := w4) (k := 22) (i := 0) (Below.refl _ _) rfl)
 obtain ⟨hst, hld, hF⟩ := RC.out.no _ (w4.alloc (.cells #[.int .i64 22, .int .i64 0, .nilIface] 123)) _ rfl (xT HB4.out hE.2) hE.1
 have HF := hid hF
 clear hE hF hsth hW3 hld4 c4
 go_wp2_with ((with_reducible show wpList _ _ _ (_ :: _) _ _); refine st_arr 33 w.heap.size _ hst _ _ rfl rfl rfl rfl ?_)
 (try simp only [Exit.inBlock, Exit.then])
 exact bodyPost_ret (by simp [results, Tryz.results16, asAddr, Result.andThen, hld]) rfl HF.out
theorem pattern_ok (s R : ByteArray) (w : World) (wl : Bool) (h42 : s ≠ ⟨#[42]⟩) (hRz : R.size ≤ 1000000) (hEn : HEnv w) (hcut : ∀ W, Calls Tryz.prog 53 #[.string s, .string ⟨#[42, 46]⟩] W fun e w' => e = .returned (.tuple #[.string R, .bool wl]) ∧ w' = W) {k : Nat} {t : List Nat} (hk : wl = true → k = 1) (hr : canonL (bytesN R) = .ok k t) : Calls Tryz.prog 16 #[.string s] w (PrPost w (.ok wl (textH k t))) := by
 have t0 : (s.toList == [42]) = false := by
  have h := beqS_f h42
  rw [show (⟨#[42]⟩ : ByteArray).toList = [42] by rw [ByteArray.toList_eq]] at h
  exact h
 have HC := fun W h => hcanon_any R W hRz h
 obtain ⟨T, hT⟩ : ∃ T, bytesL t = T := ⟨_, rfl⟩
 have HCH : Hid (∀ W, HEnv W → Calls Tryz.prog 15 #[.string R] W fun e w' => Below W.heap.size W w' ∧ e = .returned (.tuple #[.agg #[.int .i64 k, .string T], .nilIface])) := hid (fun W h => by have := HC W h; rw [hr] at this; rw [← hT]; exact this)
 have hlen := canon_len hr
 have hTz : T.size ≤ 1000000 := by rw [← hT, bytesL_size]; omega
 have TX := fun W => htextOf_any (k : Int) T W hTz
 have hhT := hostT_bytes k t
 rw [hT] at hhT
 obtain ⟨X, hX⟩ : ∃ X, hostT k T = X := ⟨_, rfl⟩
 rw [hX] at TX hhT
 have HXX := hid hhT.symm
 have TXH := hid TX
 have t1 : wl = true → ((k : Int) != 1) = false := fun h => by rw [hk h]; rfl
 obtain ⟨Q, hQ⟩ : ∃ Q, PrPost w (.ok wl (textH k t)) = Q := ⟨_, rfl⟩
 show Calls _ _ _ _ (PrPost w (.ok wl (textH k t)))
 rw [hQ]
 obtain ⟨W1, hW1⟩ : ∃ W, w.alloc (.cells #[.bool false, .string ⟨#[]⟩] 33) = W := ⟨_, rfl⟩
 obtain ⟨rc, hb1⟩ := resCellP hW1 hQ
 have RC := hid rc; have HB1 := hid hb1
 clear rc hb1 hQ
 have HC1 := hid (HCH.out W1 (hEn.ext HB1.out))
 have CU := hid (hcut W1)
 clear h42 hEn hcut hRz hr HC hT hk hlen hTz TX hhT hX HCH
 cases wl with
 | false =>
   clear t1
   go_enter Tryz.func16, Tryz.ntmps16
   go_wp2_with fail
   clear hW1
   refine CU.out.mono ?_
   rintro e w1 ⟨rfl, hw1⟩
   have hw1' := hw1.symm
   subst hw1'
   clear hw1
   go_wp2_with fail
   refine HC1.out.mono ?_
   rintro e w2 ⟨hb2, rfl⟩
   obtain ⟨w3, hW3⟩ : ∃ W, w2.alloc (.cells #[.int .i64 0, .string ⟨#[]⟩] 24) = W := ⟨_, rfl⟩
   have hb3 : Below w2.heap.size w2 w3 := by rw [← hW3]; exact ext_alloc (Below.refl _ _) _
   have hx3 : w3.heap[w2.heap.size]? = some (.cells (hostC 0 ⟨#[]⟩) 24 (0, 0)) := by rw [← hW3]; exact heap_alloc_new w2 _
   have hsth : (storeVar 24 ⟨w2.heap.size, 0, none⟩ (.agg #[.int .i64 k, .string T])).run Tryz.prog w3 = .ok () (w3.setRow w2.heap.size #[.int .i64 k, .string T]) := ho_store k 0 T ⟨#[]⟩ _ w3 hx3
   have hx4 := setRow_heap (c := #[.int .i64 k, .string T]) hx3
   have hb4 : Below w2.heap.size w2 (w3.setRow w2.heap.size #[.int .i64 k, .string T]) := setRow_below hb3 (Nat.le_refl _)
   obtain ⟨w4, hW4⟩ : ∃ W, w3.setRow w2.heap.size #[.int .i64 k, .string T] = W := ⟨_, rfl⟩
   rw [hW4] at hsth hx4 hb4
   have hld4 : (loadVar 24 ⟨w2.heap.size, 0, none⟩).run Tryz.prog w4 = .ok (.agg #[.int .i64 k, .string T]) w4 := ho_load k T _ w4 hx4
   have c4 : w4.cell? ⟨w2.heap.size, 0, none⟩ = some (.int .i64 k) := by rw [cell_of_row _ _ _ _ _ _ hx4]; rfl
   have HB4 := hid (xT hb2 hb4)
   clear hb2 hb3 hx3 hb4 hx4 hW4
   go_wp2_with ((with_reducible show wpList _ _ _ (_ :: _) _ _); first | (refine st_arr 24 w2.heap.size _ hsth _ _ rfl rfl rfl rfl ?_) | (refine ld_arr 24 w2.heap.size _ hld4 _ rfl rfl rfl ?_))
   clear hsth hW3 hld4 c4
   refine (TXH.out _).mono ?_
   rintro e w5 ⟨rfl, hb5⟩
   obtain ⟨hst, hld, hF⟩ := RC.out.ok _ _ X w5 rfl HXX.out (xT HB4.out hb5)
   have HF := hid hF
   clear hb5 hF
   go_wp2_with ((with_reducible show wpList _ _ _ (_ :: _) _ _); refine st_arr 33 w.heap.size _ hst _ _ rfl rfl rfl rfl ?_)
   (try simp only [Exit.inBlock, Exit.then])
   exact bodyPost_ret (by simp [results, Tryz.results16, asAddr, Result.andThen, hld]) rfl HF.out
 | true =>
   have t1 := t1 rfl
   go_enter Tryz.func16, Tryz.ntmps16
   go_wp2_with fail
   clear hW1
   refine CU.out.mono ?_
   rintro e w1 ⟨rfl, hw1⟩
   have hw1' := hw1.symm
   subst hw1'
   clear hw1
   go_wp2_with fail
   refine HC1.out.mono ?_
   rintro e w2 ⟨hb2, rfl⟩
   obtain ⟨w3, hW3⟩ : ∃ W, w2.alloc (.cells #[.int .i64 0, .string ⟨#[]⟩] 24) = W := ⟨_, rfl⟩
   have hb3 : Below w2.heap.size w2 w3 := by rw [← hW3]; exact ext_alloc (Below.refl _ _) _
   have hx3 : w3.heap[w2.heap.size]? = some (.cells (hostC 0 ⟨#[]⟩) 24 (0, 0)) := by rw [← hW3]; exact heap_alloc_new w2 _
   have hsth : (storeVar 24 ⟨w2.heap.size, 0, none⟩ (.agg #[.int .i64 k, .string T])).run Tryz.prog w3 = .ok () (w3.setRow w2.heap.size #[.int .i64 k, .string T]) := ho_store k 0 T ⟨#[]⟩ _ w3 hx3
   have hx4 := setRow_heap (c := #[.int .i64 k, .string T]) hx3
   have hb4 : Below w2.heap.size w2 (w3.setRow w2.heap.size #[.int .i64 k, .string T]) := setRow_below hb3 (Nat.le_refl _)
   obtain ⟨w4, hW4⟩ : ∃ W, w3.setRow w2.heap.size #[.int .i64 k, .string T] = W := ⟨_, rfl⟩
   rw [hW4] at hsth hx4 hb4
   have hld4 : (loadVar 24 ⟨w2.heap.size, 0, none⟩).run Tryz.prog w4 = .ok (.agg #[.int .i64 k, .string T]) w4 := ho_load k T _ w4 hx4
   have c4 : w4.cell? ⟨w2.heap.size, 0, none⟩ = some (.int .i64 k) := by rw [cell_of_row _ _ _ _ _ _ hx4]; rfl
   have HB4 := hid (xT hb2 hb4)
   clear hb2 hb3 hx3 hb4 hx4 hW4
   go_wp2_with ((with_reducible show wpList _ _ _ (_ :: _) _ _); first | (refine st_arr 24 w2.heap.size _ hsth _ _ rfl rfl rfl rfl ?_) | (refine ld_arr 24 w2.heap.size _ hld4 _ rfl rfl rfl ?_))
   clear hsth hW3 hld4 c4
   refine (TXH.out _).mono ?_
   rintro e w5 ⟨rfl, hb5⟩
   obtain ⟨hst, hld, hF⟩ := RC.out.ok _ _ X w5 rfl HXX.out (xT HB4.out hb5)
   have HF := hid hF
   clear hb5 hF
   go_wp2_with ((with_reducible show wpList _ _ _ (_ :: _) _ _); refine st_arr 33 w.heap.size _ hst _ _ rfl rfl rfl rfl ?_)
   (try simp only [Exit.inBlock, Exit.then])
   exact bodyPost_ret (by simp [results, Tryz.results16, asAddr, Result.andThen, hld]) rfl HF.out
theorem canonE_ne {b : List Nat} {l : List (Int × Int)} (h : canonL b = .er l) : l ≠ [] := by
 intro e
 subst e
 unfold canonL literalL nameH at h
 repeat' split at h
 all_goals (try cases h)
 all_goals (repeat' split at h)
 all_goals (cases h)
theorem hpattern_any (s : ByteArray) (w : World) (hs : s.size ≤ 1000000) (hEn : HEnv w) : Calls Tryz.prog 16 #[.string s] w (PrPost w (patL (bytesN s))) := by
 unfold patL
 by_cases h42 : s = ⟨#[42]⟩
 · subst h42
   rw [if_pos (by rfl)]
   exact pattern_star w
 · have hb : bytesN s ≠ [42] := fun e => h42 (by rw [← bytesL_bytesN s, e]; rfl)
   rw [if_neg hb]
   have CU := fun W => Tryz.strings_CutPrefix s ⟨#[42, 46]⟩ W
   rw [show ((⟨#[42, 46]⟩ : ByteArray).data.toList) = [42, 46] from rfl, (cut_star s).1, (cut_star s).2] at CU
   cases hd : starD (bytesN s) with
   | true =>
     rw [hd, if_pos rfl] at CU
     rw [if_pos rfl]
     have hbn := bytesN_bytesL ((bytesN_lt s).drop 2)
     have hz : (bytesL ((bytesN s).drop 2)).size ≤ 1000000 := by rw [bytesL_size, List.length_drop, bytesN_len]; omega
     cases hc : canonL ((bytesN s).drop 2) with
     | er l => exact pattern_er s _ w true h42 hz hEn CU (canonE_ne hc) (by rw [hbn]; exact hc)
     | ok k t =>
       unfold patH
       by_cases hk : k = 1
       · simp only
         rw [if_neg (fun h => h.2 hk)]
         exact pattern_ok s _ w true h42 hz hEn CU (fun _ => hk) (by rw [hbn]; exact hc)
       · simp only
         rw [if_pos ⟨trivial, hk⟩]
         exact pattern_addr s _ w h42 hz hEn CU hk (by rw [hbn]; exact hc)
   | false =>
     rw [hd, if_neg (by decide)] at CU
     rw [if_neg (by decide)]
     cases hc : canonL (bytesN s) with
     | er l => exact pattern_er s _ w false h42 hs hEn CU (canonE_ne hc) hc
     | ok k t =>
       unfold patH
       simp only
       rw [if_neg (fun h => Bool.false_ne_true h.1)]
       exact pattern_ok s _ w false h42 hs hEn CU (fun h => absurd h (by decide)) hc
end
end Go.Proofs.YtbeodjipdpcaiaaGreatDoor
