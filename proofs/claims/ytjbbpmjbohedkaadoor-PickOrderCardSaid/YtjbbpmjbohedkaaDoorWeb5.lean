/- The walk of PickOrder. -/
import Derived.Test.YtjbbpmjbohedkaaDoorWeb4
namespace Go.Proofs.YtjbbpmjbohedkaaDoor
open Go.RowKit
def Cand.cells (c : Cand) : List Value := [.string c.app, .bool c.claims, .bool c.verified, .bool c.lets, .bool c.off]
theorem cands_rds {S : Nat → Prop} {w : World} : ∀ cs : List Cand, Rds S w (cs.flatMap Cand.cells) (cs.flatMap Cand.d)
  | [] => Rds.nil
  | c :: cs => by
    rw [List.flatMap_cons, List.flatMap_cons]
    exact Rds.append (.cons (.str _) (.cons (.bool _) (.cons (.bool _) (.cons (.bool _) (.cons (.bool _) .nil))))) (cands_rds cs)
theorem strs_rds {S : Nat → Prop} {w : World} (ss : List ByteArray) : Rds S w (ss.map Value.string) (ss.map .str) :=
  ⟨by simp, fun i u d hu hd => by
    simp at hu hd
    obtain ⟨s, hs, rfl⟩ := hu
    rw [hs] at hd; simp at hd; subst hd; exact .str _⟩
/-- Two rows of different element types lie in different blocks. -/
theorem owns_ne {w : World} {b1 b2 s1 s2 n1 n2 : Nat} {e1 e2 : TypeId} {v1 v2 : Value} {x1 x2 : List Value} (h1 : w.ownsRow b1 e1 s1 v1 n1 x1) (h2 : w.ownsRow b2 e2 s2 v2 n2 x2) (he : e1 ≠ e2) : v2.ownBlock = none ∨ v2.ownBlock ≠ v1.ownBlock := by
  rcases h2.2 with ⟨rfl, _⟩ | ⟨g2, c2, r2, rfl, _, hg2, _⟩
  · exact .inl rfl
  · right
    intro e
    rcases h1.2 with ⟨rfl, _⟩ | ⟨g1, c1, r1, rfl, _, hg1, _⟩
    · simp [Value.ownBlock] at e
    · simp only [Value.ownBlock, Option.some.injEq] at e
      subst e
      rw [hg1] at hg2
      simp only [Option.some.injEq, Obj.cells.injEq] at hg2
      exact he hg2.2.1
/-- 'append' of one element, whose block's number is spelled otherwise. -/
theorem wpList_app1n {P : Program} (w : World) (N : Nat) (hN : N = w.heap.size) {ops : Array Oper} {rest : List Oper} {o : Oper} {a : Act} {Q : Exit → Act → World → Prop} (arr : Array Value) (te : TypeId) (hgd : o.guard = none) (s x : Operand) (t : TypeId)
    (ho : o.op = .call { callee := .builtin .append, args := #[s, x], argTypes := #[t, t] })
    (base : Nat) {e : TypeId} {z : Value} {size bytes : Nat} (T : ElemTy P t e size bytes z)
    (v : Value) (n : Nat) (xs : List Value) (hs : a.eval s = v) (hown : w.ownsRow base e size v n xs) (hx : a.eval x = .slice (some ⟨N, 0, none⟩) 1 1)
    (hsz : arr.size = size) (h1 : ∀ u ∈ arr.toList, u.oneCell' = true)
    (h63 : n + 1 ≤ maxLen) (hbytes : (n + 1) * bytes ≤ 140737488355328) (hbase : base ≤ w.heap.size)
    (hK : ∀ v' w', w'.ownsRow base e size v' (n + 1) (xs ++ arr.toList) → (w.alloc (.cells arr te)).grownBy w' v.ownBlock → wpList P ops Q rest (a.put o.dst v') w') : wpList P ops Q (o :: rest) a (w.alloc (.cells arr te)) := by
  subst hN
  exact wpList_app1 w arr te hgd s x t ho base T v n xs hs hown hx hsz h1 h63 hbytes hbase hK
def readies (cs : List Cand) : List Cand := cs.filter Cand.ready
theorem readies_snoc (cs : List Cand) (j : Nat) (x : Cand) (h : cs[j]? = some x) : readies (cs.take (j + 1)) = readies (cs.take j) ++ if x.ready then [x] else [] := by
  simp only [readies, List.take_add_one, h, Option.toList_some, List.filter_append]
  cases hx : x.ready <;> simp [hx]
theorem readies_le (cs : List Cand) : (readies cs).length ≤ cs.length := List.length_filter_le _ _
theorem readyApps_readies (cs : List Cand) : readyApps (readies cs) = readyApps cs := by simp [readyApps, readies, List.filter_filter]
theorem readies_apps (cs : List Cand) : (readies cs).length = (readyApps cs).length := by simp [readyApps, readies]
def OrdRel (cs : List Cand) (W : World) (v1 v2 i : Value) (wr : World) : Prop := ∃ j : Nat, i = .int .i64 j ∧ j ≤ cs.length ∧
  wr.ownsRow W.heap.size 32 5 v1 (readies (cs.take j)).length ((readies (cs.take j)).flatMap Cand.cells) ∧
  wr.ownsRow W.heap.size 9 1 v2 (readyApps (cs.take j)).length ((readyApps (cs.take j)).map Value.string) ∧ Below W.heap.size W wr
set_option maxRecDepth 100000 in
set_option maxHeartbeats 8000000 in
theorem pickOrder_any (v : Value) (cs : List Cand) (w : World) (ht : Tables w) (h2 : 2 ≤ w.heap.size) (hs : Rd (Own w) w v (candsD cs)) :
    Calls Tryd.prog 5 #[v] w fun e w' => e = .returned (.bool true) ∧ Below w.heap.size w w' := by
  obtain ⟨a, c, rfl, hac, _, hc⟩ := cands_inv hs
  by_cases hl : cs.length ≤ 200
  · go_enter Tryd.func5, Tryd.ntmps5
    go_wp2_with fail
    refine (speaks28 _ ht h2).mono ?_
    rintro e w1 ⟨rfl, hb1⟩
    have HC := Lib.hid hc; have HB1 := Lib.hid hb1; have HS := Lib.hid hs
    clear hc hb1 hs hac
    go_wp2_with fail
    go_loopw [3, 4, 17] (OrdRel cs w1) (fun _ _ i _ => cs.length - (intOf i).toNat)
    case atStart =>
      refine ⟨0, rfl, Nat.zero_le _, ?_, ?_, ext_alloc (ext_alloc (Below.refl _ _) _) _⟩
      · exact (World.ownsRow_lit (base := w1.heap.size) (e := 32) (size := 5) w1 #[] 0 (Nat.le_refl _) (by decide) rfl).alloc _
      · have := World.ownsRow_lit (base := w1.heap.size) (e := 9) (size := 1) (w1.alloc (.cells #[] 32)) #[] 0 (by simp) (by decide) rfl
        simpa [readyApps] using this
    case round =>
      obtain ⟨j, rfl, hj, ho1, ho2, hb⟩ := hrel
      by_cases hlt : j < cs.length
      · obtain ⟨b, off, rfl, hSb, hc⟩ := HC.out (by omega)
        obtain ⟨x, hx⟩ := get_ex cs j hlt
        obtain ⟨x0, x1, x2, x3, x4⟩ := hc j x hx
        have hz : b < w.heap.size := hSb
        rw [← bcell1 (ext_trans HB1.out hb) hz] at x0 x1 x2 x3 x4
        have hz1 : b < wr.heap.size := by have := hb.size; have := HB1.out.size; omega
        have hs1 := readies_snoc cs j x hx
        have hs2 := readyApps_snoc cs j x hx
        have hle := readyApps_le (cs.take j)
        have hle' := readies_le (cs.take j)
        have hle2 : (cs.take j).length ≤ j := List.length_take_le _ _
        have HO1 := Lib.hid ho1; have HO2 := Lib.hid ho2; have HB := Lib.hid hb; have HS1 := Lib.hid hs1; have HS2 := Lib.hid hs2
        clear hx hc ho1 ho2 hb hs1 hs2
        obtain ⟨vo1, cap1, rfl, hf1⟩ := owned_form HO1.out
        obtain ⟨vo2, cap2, rfl, hf2⟩ := owned_form HO2.out
        have HF1 := Lib.hid hf1; have HF2 := Lib.hid hf2; clear hf1 hf2
        obtain ⟨app, ba, bb, bl, bo⟩ := x
        have key : (ba = false) ∨ (ba = true ∧ bb = false) ∨ (ba = true ∧ bb = true ∧ bl = false) ∨ (ba = true ∧ bb = true ∧ bl = true ∧ bo = true) ∨ (ba = true ∧ bb = true ∧ bl = true ∧ bo = false) := by
          cases ba <;> cases bb <;> cases bl <;> cases bo <;> simp
        have krd : Cand.ready ⟨app, ba, bb, bl, bo⟩ = (ba && bb && bl && !bo) := rfl
        have HR := Lib.hid krd; clear krd
        rcases key with rfl | ⟨rfl, rfl⟩ | ⟨rfl, rfl, rfl⟩ | ⟨rfl, rfl, rfl, rfl⟩ | ⟨rfl, rfl, rfl, rfl⟩
        rotate_right
        · go_wp2_with (at_builtin; refine wpList_app1n _ (wr.heap.size + 1) (World.size_alloc _ _).symm #[.string app, .bool true, .bool true, .bool true, .bool false] _ rfl _ _ 30 rfl w1.heap.size elCand _ _ _ rfl (HO1.out.alloc _) rfl rfl ?c1 ?c2 ?c3 ?c4 ?_)
          case c1 => first | exact ⟨rfl, rfl, rfl⟩ | (intro u hu; simp at hu; rcases hu with rfl | rfl | rfl <;> rfl)
          case c2 => simp [maxLen]; omega
          case c3 => omega
          case c4 => have := HB.out.size; omega
          intro v1' w2 ho1' hg1
          have hbx : Below w1.heap.size w1 ((wr.alloc (.cells #[.string app, .bool true, .bool true, .bool true, .bool false] 32)).alloc (.cells #[.string app, .bool true, .bool true, .bool true, .bool false] 32)) := ext_alloc (ext_alloc HB.out _) _
          have hb2 : Below w1.heap.size w1 w2 := hbx.grown hg1 hbx.size (fun k hk => (HO1.out.lt k hk).1)
          have ho2' : w2.ownsRow w1.heap.size 9 1 (.slice vo2 (readyApps (cs.take j)).length cap2) (readyApps (cs.take j)).length ((readyApps (cs.take j)).map Value.string) :=
            ((HO2.out.alloc _).alloc _).kept hg1 (owns_ne HO1.out HO2.out (by decide))
          have z2 : wr.heap.size + 1 < w2.heap.size := by have := hg1.size; simp at this; omega
          have d2 : ∀ o, w2.cell? ⟨wr.heap.size, o, none⟩ = #[.string app, .bool true, .bool true, .bool true, .bool false][o]? := fun o => by
            have hne : some wr.heap.size ≠ (Value.slice vo1 (readies (cs.take j)).length cap1).ownBlock := fun e => by
              have := (HO1.out.lt _ e.symm).2; omega
            rw [cell_keep (hg1.block wr.heap.size (by simp; omega) hne), World.cell?_alloc_lt _ _ _ (by show wr.heap.size < _; simp)]; simp
          have HO1' := Lib.hid ho1'; have HB2 := Lib.hid hb2; have HO2' := Lib.hid ho2'
          clear ho1' hg1 hbx hb2
          go_wp2_with (at_builtin; refine wpList_app1 w2 #[.string app] _ rfl _ _ 22 rfl _ elStr _ _ _ rfl ho2' rfl rfl ?c1 ?c2 ?c3 ?c4 ?_)
          case c1 => first | rfl | (intro u hu; simp at hu; subst hu; rfl)
          case c2 => simp [maxLen]; omega
          case c3 => omega
          case c4 => exact HB2.out.size
          intro v2' w3 ho2'' hg2
          have hb3 : Below w1.heap.size w1 w3 := (ext_alloc HB2.out (.cells #[.string app] 9)).grown hg2 (ext_alloc HB2.out (.cells #[.string app] 9)).size (fun k hk => (HO2'.out.lt k hk).1)
          have ho1'' := (HO1'.out.alloc (.cells #[.string app] 9)).kept hg2 (owns_ne HO2'.out HO1'.out (by decide))
          have R : OrdRel cs w1 v1' v2' (.int .i64 (j + 1)) w3 := ⟨j + 1, by go_num, by omega, by rw [HS1.out, HR.out]; simpa [Cand.cells] using ho1'', by rw [HS2.out, HR.out]; simpa using ho2'', hb3⟩
          have HRR := Lib.hid R
          clear R ho1'' ho2'' hg2 hb3 ho2'
          go_wp2
          refine ⟨?_, by simp [intOf]; omega⟩
          have R := HRR.out
          first | exact R | ((repeat apply Exists.intro); exact ⟨R, rfl⟩)
        all_goals
          go_wp2
          refine ⟨?_, by simp [intOf]; omega⟩
          have R : ∀ q, OrdRel cs w1 (.slice vo1 (readies (cs.take j)).length cap1) (.slice vo2 (readyApps (cs.take j)).length cap2) (.int .i64 (j + 1)) (wr.alloc q) := fun q =>
            ⟨j + 1, by go_num, by omega, by rw [HS1.out, HR.out]; simpa using HO1.out.alloc q, by rw [HS2.out, HR.out]; simpa using HO2.out.alloc q, ext_alloc HB.out _⟩
          first | exact R _ | ((repeat apply Exists.intro); exact ⟨R _, rfl⟩)
      · have ht' : cs.take j = cs := List.take_of_length_le (by omega)
        rw [ht'] at ho1 ho2
        obtain ⟨vo1, cap1, rfl, hf1⟩ := owned_form ho1
        obtain ⟨vo2, cap2, rfl, hf2⟩ := owned_form ho2
        have eq1 := readies_apps cs
        have r1 : Rd (Own wr) wr (.slice vo1 (readies cs).length cap1) (candsD (readies cs)) := rd_owned ho1 (cands_rds _) (fun g hg => (ho1.lt g hg).2)
        have r2 : Rd (Own wr) wr (.slice vo2 (readyApps cs).length cap2) (strsD (readyApps cs)) := rd_owned ho2 (strs_rds _) (fun g hg => (ho2.lt g hg).2)
        have hb' := ext_trans HB1.out hb
        have r0 := HS.out.ext hb'
        have R1 := Lib.hid r1; have R2 := Lib.hid r2; have HB := Lib.hid hb'; have hle := readyApps_le cs
        clear r1 r2 hb' hb ho1 ho2 hf1 hf2 ht'
        go_wp2_with fail
        refine (web_any _ cs _ r0 (by omega)).mono ?_
        rintro e w2 ⟨vx, rfl, hx, hb2⟩
        obtain ⟨ax, cx, rfl, _, _, _⟩ := hx.strs_inv
        have HX := Lib.hid hx; have HB2 := Lib.hid hb2
        clear hx hb2 r0
        by_cases h0 : (readyApps cs).length = 0
        · have p0 : (((readies cs).length : Int) == 0) = true := beq_iff_eq.2 (by omega)
          have p1 : (((readyApps cs).length : Int) == 0) = true := beq_iff_eq.2 (by omega)
          have e1 : webK cs = 2 := if_pos h0
          have p2 : (webK cs == 2) = true := by rw [e1]; rfl
          clear e1 h0 eq1
          go_wp2
          go_ret
          exact ⟨rfl, ext_alloc (ext_trans HB.out HB2.out) _⟩
        · have p0 : (((readies cs).length : Int) == 0) = false := beq_eq_false_iff_ne.2 (by omega)
          have n0 : webK cs = chosenK (readyApps cs).length := if_neg h0
          have n1 : webR cs = chosenR (readyApps cs).length := if_neg h0
          have n2 : webK (readies cs) = webK cs := by rw [n0, webK, readyApps_readies]; exact if_neg h0
          have n3 : webR (readies cs) = webR cs := by rw [n1, webR, readyApps_readies]; exact if_neg h0
          have n4 : customK (readyApps cs).length = webK cs := by rw [n0]; exact if_neg h0
          have n5 : customR (readyApps cs).length = webR cs := by rw [n1]; exact if_neg h0
          have hb2' : Below wr.heap.size wr (w2.alloc (.cells #[.int .i64 (webK cs), .slice ax (readyApps cs).length cx, .int .i64 (webR cs)] 24)) := ext_alloc HB2.out _
          have WEB : ∀ W, Below (w2.alloc (.cells #[.int .i64 (webK cs), .slice ax (readyApps cs).length cx, .int .i64 (webR cs)] 24)).heap.size (w2.alloc (.cells #[.int .i64 (webK cs), .slice ax (readyApps cs).length cx, .int .i64 (webR cs)] 24)) W → Calls Tryd.prog 19 #[.slice vo1 (readies cs).length cap1] W fun e w' => ∃ v', e = .returned (.agg #[.int .i64 (webK cs), v', .int .i64 (webR cs)]) ∧ Rd (Own w') w' v' (strsD (readyApps cs)) ∧ Below W.heap.size W w' := fun W hW => by
            have := web_any _ (readies cs) W ((R1.out.ext hb2').ext hW) (by have := readies_le cs; omega)
            rw [n2, n3, readyApps_readies] at this
            refine this.mono ?_
            rintro e w' ⟨v', rfl, hr, hb⟩
            exact ⟨v', rfl, hr.wide (fun b hb => hb.2), hb⟩
          have CUS : ∀ W, Below (w2.alloc (.cells #[.int .i64 (webK cs), .slice ax (readyApps cs).length cx, .int .i64 (webR cs)] 24)).heap.size (w2.alloc (.cells #[.int .i64 (webK cs), .slice ax (readyApps cs).length cx, .int .i64 (webR cs)] 24)) W → Calls Tryd.prog 12 #[.slice vo2 (readyApps cs).length cap2] W fun e w' => ∃ v', e = .returned (.agg #[.int .i64 (webK cs), v', .int .i64 (webR cs)]) ∧ Rd (Own w') w' v' (strsD (readyApps cs)) ∧ Below W.heap.size W w' := fun W hW => by
            have := custom_any _ (readyApps cs) W ((R2.out.ext hb2').ext hW) (fun _ h => h) (by omega)
            rw [n4, n5] at this
            refine this.mono ?_
            rintro e w' ⟨v', rfl, hr, hb⟩
            exact ⟨v', rfl, hr.wide (fun b hb => hb.2), hb⟩
          have RA : Rd (Own (w2.alloc (.cells #[.int .i64 (webK cs), .slice ax (readyApps cs).length cx, .int .i64 (webR cs)] 24))) (w2.alloc (.cells #[.int .i64 (webK cs), .slice ax (readyApps cs).length cx, .int .i64 (webR cs)] 24)) (.slice ax (readyApps cs).length cx) (strsD (readyApps cs)) := (HX.out.alloc (fun b hb => hb.2) _).wide (fun b hb => Nat.lt_of_lt_of_le hb.2 (by simp))
          have SAME : ∀ W v2, Rd (Own W) W v2 (strsD (readyApps cs)) → Below (w2.alloc (.cells #[.int .i64 (webK cs), .slice ax (readyApps cs).length cx, .int .i64 (webR cs)] 24)).heap.size (w2.alloc (.cells #[.int .i64 (webK cs), .slice ax (readyApps cs).length cx, .int .i64 (webR cs)] 24)) W → Calls Tryd.prog 13 #[.agg #[.int .i64 (webK cs), .slice ax (readyApps cs).length cx, .int .i64 (webR cs)], .agg #[.int .i64 (webK cs), v2, .int .i64 (webR cs)]] W fun e w' => e = .returned (.bool true) ∧ Below W.heap.size W w' := fun W v2 hv2 hW => by
            have := same_any (.slice ax (readyApps cs).length cx) v2 (readyApps cs) (readyApps cs) (webK cs) (webR cs) (webK cs) (webR cs) W (RA.ext hW) hv2 (by omega)
            rwa [show sameB (webK cs) (readyApps cs) (webR cs) (webK cs) (readyApps cs) (webR cs) = true from decide_eq_true ⟨rfl, rfl, rfl⟩] at this
          have zb : w2.heap.size < (w2.alloc (.cells #[.int .i64 (webK cs), .slice ax (readyApps cs).length cx, .int .i64 (webR cs)] 24)).heap.size := by simp
          have B0 : Below (w2.alloc (.cells #[.int .i64 (webK cs), .slice ax (readyApps cs).length cx, .int .i64 (webR cs)] 24)).heap.size (w2.alloc (.cells #[.int .i64 (webK cs), .slice ax (readyApps cs).length cx, .int .i64 (webR cs)] 24)) (w2.alloc (.cells #[.int .i64 (webK cs), .slice ax (readyApps cs).length cx, .int .i64 (webR cs)] 24)).drew := ⟨rfl, rfl, rfl, Nat.le_refl _, fun _ _ => rfl⟩
          have HWE := Lib.hid WEB; have HCU := Lib.hid CUS; have HSA := Lib.hid SAME; have HB9 := Lib.hid (ext_trans HB.out hb2')
          clear n0 n1 n2 n3 n4 n5 hb2' WEB CUS RA SAME h0 eq1 R1 R2
          go_wp2_with fail
          go_region_with (first | (go_at_call 19; refine (HWE.out _ B0).mono ?_; rintro e w' ⟨v2, rfl, hr, hb⟩; have hq : Below (w2.alloc (.cells #[.int .i64 (webK cs), .slice ax (readyApps cs).length cx, .int .i64 (webR cs)] 24)).heap.size (w2.alloc (.cells #[.int .i64 (webK cs), .slice ax (readyApps cs).length cx, .int .i64 (webR cs)] 24)) w' := ⟨hb.os, hb.tape, hb.output, hb.size, hb.block⟩; have d1 := bcell1 hq zb; obtain ⟨a2, c2, rfl, _, _, _⟩ := hr.strs_inv; clear hb) | (go_at_call 12; refine (HCU.out _ ‹_›).mono ?_; rintro e w' ⟨v2, rfl, hr3, hb⟩; have hq3 : Below (w2.alloc (.cells #[.int .i64 (webK cs), .slice ax (readyApps cs).length cx, .int .i64 (webR cs)] 24)).heap.size (w2.alloc (.cells #[.int .i64 (webK cs), .slice ax (readyApps cs).length cx, .int .i64 (webR cs)] 24)) w' := ext_trans ‹Below (w2.alloc (.cells #[.int .i64 (webK cs), .slice ax (readyApps cs).length cx, .int .i64 (webR cs)] 24)).heap.size (w2.alloc (.cells #[.int .i64 (webK cs), .slice ax (readyApps cs).length cx, .int .i64 (webR cs)] 24)) _› hb; have d3 := bcell1 hq3 zb; obtain ⟨a3, c3, rfl, _, _, _⟩ := hr3.strs_inv; clear hb) | (go_at_call 13; refine (HSA.out _ _ ‹_› ‹_›).mono ?_; rintro e w' ⟨rfl, hb⟩; have hq' : Below (w2.alloc (.cells #[.int .i64 (webK cs), .slice ax (readyApps cs).length cx, .int .i64 (webR cs)] 24)).heap.size (w2.alloc (.cells #[.int .i64 (webK cs), .slice ax (readyApps cs).length cx, .int .i64 (webR cs)] 24)) w' := ext_trans ‹Below (w2.alloc (.cells #[.int .i64 (webK cs), .slice ax (readyApps cs).length cx, .int .i64 (webR cs)] 24)).heap.size (w2.alloc (.cells #[.int .i64 (webK cs), .slice ax (readyApps cs).length cx, .int .i64 (webR cs)] 24)) _› hb; have d2 := bcell1 hq' zb; clear hb))
          all_goals go_wp2
          all_goals go_ret
          all_goals exact ⟨rfl, ext_trans HB9.out ‹Below (w2.alloc (.cells #[.int .i64 (webK cs), .slice ax (readyApps cs).length cx, .int .i64 (webR cs)] 24)).heap.size (w2.alloc (.cells #[.int .i64 (webK cs), .slice ax (readyApps cs).length cx, .int .i64 (webR cs)] 24)) w'›⟩
  · clear hac hc hs
    go_enter Tryd.func5, Tryd.ntmps5
    go_wp2_with fail
    refine (speaks28 _ ht h2).mono ?_
    rintro e w1 ⟨rfl, hb1⟩
    go_wp2
    go_ret
    exact ⟨rfl, hb1⟩
end Go.Proofs.YtjbbpmjbohedkaaDoor
