/- The walk of PickWeb. -/
import Derived.Test.YtjbbpmjbohedkaaDoorWeb3
import Derived.Laws.StructEq
namespace Go.Proofs.YtjbbpmjbohedkaaDoor
open Go.RowKit
theorem elCand : ElemTy Tryd.prog 30 32 5 24 (.agg #[.string ⟨#[]⟩, .bool false, .bool false, .bool false, .bool false]) := ⟨Tryd.underlying30, by kernel_rfl, rfl, by decide⟩
/-- Data that lie in no memory. -/
def Dat.prim : Dat → Bool
  | .int _ _ | .bool _ | .str _ | .nilp | .nilI => true
  | _ => false
theorem Rd.prim {S S' : Nat → Prop} {w w' : World} {v : Value} {d : Dat} (h : Rd S w v d) (hp : d.prim = true) : Rd S' w' v d := by
  cases h with
  | int k n => exact .int k n
  | bool b => exact .bool b
  | str s => exact .str s
  | nilp => exact .nilp
  | nilI => exact .nilI
  | list0 => cases hp
  | list => cases hp
  | ptr => cases hp
  | iface => cases hp
theorem Rds.prim {S S' : Nat → Prop} {w w' : World} {vs : List Value} {ds : List Dat} (h : Rds S w vs ds) (hp : ∀ d ∈ ds, d.prim = true) : Rds S' w' vs ds :=
  ⟨h.1, fun j u d hu hd => (h.2 j u d hu hd).prim (hp d (List.mem_of_getElem? hd))⟩
theorem cands_prim (cs : List Cand) : ∀ d ∈ cs.flatMap Cand.d, d.prim = true := by
  intro d hd
  obtain ⟨c, _, hc⟩ := List.mem_flatMap.1 hd
  simp [Cand.d] at hc
  rcases hc with rfl | rfl | rfl | rfl | rfl <;> rfl
theorem web_eq (cs : List Cand) : webK cs = rwebK cs ∧ webR cs = rwebR cs := by
  unfold webK rwebK webR rwebR chosenK chosenR ofK ofR
  by_cases h0 : (readyApps cs).length = 0
  · simp [h0]
  · by_cases h1 : (readyApps cs).length = 1
    · simp [h1]
    · have : 1 < (readyApps cs).length := by omega
      simp [h0, h1, this]
def DrewTo (n : Nat) (W : World) (i : Value) (wr : World) : Prop := ∃ j nq : Nat, i = .int .i64 j ∧ j ≤ n ∧ wr = W.drewN nq
def UpTo (n : Nat) (W : World) (i : Value) (wr : World) : Prop := ∃ j : Nat, i = .int .i64 j ∧ j ≤ n ∧ Below W.heap.size W wr
set_option maxHeartbeats 8000000 in
theorem pickWeb_any (v : Value) (cs : List Cand) (w : World) (ht : Tables w) (h2 : 2 ≤ w.heap.size) (hs : Rd (Own w) w v (candsD cs)) :
    Calls Tryd.prog 4 #[v] w fun e w' => e = .returned (.bool true) ∧ Below w.heap.size w w' := by
  obtain ⟨a, c, rfl, hac, _, hc⟩ := cands_inv hs
  by_cases hl : cs.length ≤ 200
  · go_enter Tryd.func4, Tryd.ntmps4
    go_wp2_with fail
    refine (speaks28 _ ht h2).mono ?_
    rintro e w1 ⟨rfl, hb1⟩
    have HC := Lib.hid hc; have HB1 := Lib.hid hb1; have HS := Lib.hid hs
    clear hc hb1 hs hac
    go_wp2_with fail
    go_loopw [15] (UpTo cs.length w1) (fun i _ => cs.length - (intOf i).toNat)
    case atStart => exact ⟨0, rfl, Nat.zero_le _, Below.refl _ _⟩
    case round =>
      obtain ⟨j, rfl, hj, hb⟩ := hrel
      by_cases hlt : j < cs.length
      · obtain ⟨b, off, rfl, hSb, hc⟩ := HC.out (by omega)
        obtain ⟨x, hx⟩ := get_ex cs j hlt
        obtain ⟨x0, x1, x2, x3, x4⟩ := hc j x hx
        have hz : b < w.heap.size := hSb
        rw [← bcell1 (ext_trans HB1.out hb) hz] at x0 x1 x2 x3 x4
        have hz1 : b < wr.heap.size := by have := hb.size; have := HB1.out.size; omega
        have HB := Lib.hid hb
        clear hx hc hb
        obtain ⟨r, hr⟩ : ∃ r, x.ready = r := ⟨_, rfl⟩
        have RD : ∀ W, Calls Tryd.prog 17 #[x.v] W fun e w' => e = .returned (.bool r) ∧ Below W.heap.size W w' := fun W => by rw [← hr]; exact ready_any x W
        have RR : ∀ W, Calls Tryd.prog 18 #[x.v] W fun e w' => e = .returned (.bool r) ∧ Below W.heap.size W w' := fun W => by rw [← hr]; exact rready_any x W
        have HRD := Lib.hid RD; have HRR := Lib.hid RR
        have tr : (r != r) = false := by simp
        have zb : wr.heap.size < (wr.alloc (.cells #[.string x.app, .bool x.claims, .bool x.verified, .bool x.lets, .bool x.off] 32)).heap.size := by simp
        clear RD RR hr
        go_wp2_with fail
        go_region_with (first | (go_at_call 17; refine (HRD.out _).mono ?_; rintro e w' ⟨rfl, hb⟩; have hq : Below (wr.alloc (.cells #[.string x.app, .bool x.claims, .bool x.verified, .bool x.lets, .bool x.off] 32)).heap.size (wr.alloc (.cells #[.string x.app, .bool x.claims, .bool x.verified, .bool x.lets, .bool x.off] 32)) w' := ⟨hb.os, hb.tape, hb.output, hb.size, hb.block⟩; have d1 := bcell1 hq zb; clear hb) | (go_at_call 18; refine (HRR.out _).mono ?_; rintro e w' ⟨rfl, hb⟩; have hq' : Below (wr.alloc (.cells #[.string x.app, .bool x.claims, .bool x.verified, .bool x.lets, .bool x.off] 32)).heap.size (wr.alloc (.cells #[.string x.app, .bool x.claims, .bool x.verified, .bool x.lets, .bool x.off] 32)) w' := ext_trans ‹Below (wr.alloc (.cells #[.string x.app, .bool x.claims, .bool x.verified, .bool x.lets, .bool x.off] 32)).heap.size (wr.alloc (.cells #[.string x.app, .bool x.claims, .bool x.verified, .bool x.lets, .bool x.off] 32)) _› hb; clear hb))
        all_goals go_wp2
        all_goals
          refine ⟨?_, by simp [intOf]; omega⟩
          have R : UpTo cs.length w1 (.int .i64 (j + 1)) w' := ⟨j + 1, by go_num, by omega, (ext_trans (ext_alloc HB.out _) ‹Below (wr.alloc (.cells #[.string x.app, .bool x.claims, .bool x.verified, .bool x.lets, .bool x.off] 32)).heap.size (wr.alloc (.cells #[.string x.app, .bool x.claims, .bool x.verified, .bool x.lets, .bool x.off] 32)) w'›)⟩
          first | exact R | ((repeat apply Exists.intro); exact ⟨R, rfl⟩)
      · have HB := Lib.hid (ext_trans HB1.out hb)
        clear hb
        have zw : w.heap.size ≤ wr.heap.size := HB.out.size
        have hr1 := (HS.out.ext HB.out).alloc (fun _ h => h) (.cells #[] 32)
        go_wp2_with (at_builtin; refine wpList_appD _ rfl _ _ 30 rfl wr.heap.size elCand _ 0 [] rfl (World.ownsRow_lit wr #[] 0 (Nat.le_refl _) ?c0 rfl) _ rfl _ cs.length hr1 ?c1 ?c2 ?c3 ?c4 ?_)
        case c0 => decide
        case c1 => exact flat_length (enc := Cand.d) (k := 5) (fun _ => rfl) cs
        case c2 => simp [maxLen]; omega
        case c3 => omega
        case c4 => simp
        intro v' w2 ys hown hys hgr
        obtain ⟨ao, cap, rfl, hform⟩ := owned_form hown
        try simp only [Nat.zero_add, List.nil_append] at hown hform
        have hb2 : Below wr.heap.size wr w2 := grown_below ((Below.refl _ wr).alloc (Nat.le_refl _) _) (World.ownsRow_lit wr #[] 0 (e := 32) (size := 5) (Nat.le_refl _) (by decide) rfl) hgr (by simp) (Nat.le_refl _)
        have hr2 : Rd (Own w2) w2 (.slice ao (0 + cs.length) cap) (candsD cs) := rd_owned (by simpa using hown) (hys.prim (cands_prim cs)) (fun g hg => (hown.lt g (by simpa using hg)).2)
        try simp only [Nat.zero_add] at hr2
        have hbw2 := ext_trans HB.out hb2
        have HB2 := Lib.hid hbw2; have HR2 := Lib.hid hr2
        clear hb2 hbw2 hown hgr hys hr1 hform
        try simp only [Nat.zero_add]
        go_wp2_with fail
        refine (web_any _ cs _ hr2 (by omega)).mono ?_
        rintro e w3 ⟨vx, rfl, hr3, hb3⟩
        obtain ⟨ax, cx, rfl, _, _, _⟩ := hr3.strs_inv
        have HB3 := Lib.hid hb3; have HR3 := Lib.hid hr3
        clear hb3 hr3 hr2
        go_wp2_with fail
        have hb3' := ext_alloc HB3.out (.cells #[.int .i64 (webK cs), .slice ax (readyApps cs).length cx, .int .i64 (webR cs)] 24)
        have hbx := ext_trans HB2.out hb3'
        obtain ⟨_, _, e9, _, _, hc9⟩ := cands_inv (HR2.out.ext hb3')
        cases e9
        obtain ⟨_, _, e8, _, _, hc8⟩ := cands_inv (HS.out.ext hbx)
        cases e8
        have H8 := Lib.hid hc8; have H9 := Lib.hid hc9; have HX := Lib.hid hbx
        clear hc8 hc9 hbx hb3'
        go_loopw [32] (DrewTo cs.length (w3.alloc (.cells #[.int .i64 (webK cs), .slice ax (readyApps cs).length cx, .int .i64 (webR cs)] 24))) (fun i _ => cs.length - (intOf i).toNat)
        case atStart => exact ⟨0, 0, rfl, Nat.zero_le _, rfl⟩
        case round =>
          obtain ⟨m, nq, rfl, hm', rfl⟩ := hrel
          by_cases hlt2 : m < cs.length
          · obtain ⟨b, off, rfl, _, hc8⟩ := H8.out (by omega)
            obtain ⟨b', off', rfl, _, hc9⟩ := H9.out (by omega)
            obtain ⟨x, hx⟩ := get_ex cs m hlt2
            obtain ⟨x0, x1, x2, x3, x4⟩ := hc8 m x hx
            obtain ⟨y0, y1, y2, y3, y4⟩ := hc9 m x hx
            clear hc8 hc9 hx
            go_wp2
            go_quiet (fail)
            go_wp2
            refine ⟨?_, by simp [intOf]; omega⟩
            have R : ∀ W k, DrewTo cs.length W (.int .i64 (m + 1)) (W.drewN k) := fun W k => ⟨m + 1, k, by go_num, by omega, rfl⟩
            first | exact R _ _ | ((repeat apply Exists.intro); exact ⟨R _ _, rfl⟩)
          · have HL : ∀ W, Below (w3.alloc (.cells #[.int .i64 (webK cs), .slice ax (readyApps cs).length cx, .int .i64 (webR cs)] 24)).heap.size (w3.alloc (.cells #[.int .i64 (webK cs), .slice ax (readyApps cs).length cx, .int .i64 (webR cs)] 24)) W → Rd (Own W) W (.slice a cs.length c) (candsD cs) := fun W hW => (HS.out.ext HX.out).ext hW
            have R1 : Rd (Own (w3.alloc (.cells #[.int .i64 (webK cs), .slice ax (readyApps cs).length cx, .int .i64 (webR cs)] 24))) (w3.alloc (.cells #[.int .i64 (webK cs), .slice ax (readyApps cs).length cx, .int .i64 (webR cs)] 24)) (.slice ax (readyApps cs).length cx) (strsD (readyApps cs)) := (HR3.out.alloc (fun b hb => hb.2) _).wide (fun b hb => Nat.lt_of_lt_of_le hb.2 (by simp))
            have SAME : ∀ W v2, Rd (Own W) W v2 (strsD (readyApps cs)) → Below (w3.alloc (.cells #[.int .i64 (webK cs), .slice ax (readyApps cs).length cx, .int .i64 (webR cs)] 24)).heap.size (w3.alloc (.cells #[.int .i64 (webK cs), .slice ax (readyApps cs).length cx, .int .i64 (webR cs)] 24)) W → Calls Tryd.prog 13 #[.agg #[.int .i64 (webK cs), .slice ax (readyApps cs).length cx, .int .i64 (webR cs)], .agg #[.int .i64 (rwebK cs), v2, .int .i64 (rwebR cs)]] W fun e w' => e = .returned (.bool true) ∧ Below W.heap.size W w' := fun W v2 hv2 hW => by
              have := same_any (.slice ax (readyApps cs).length cx) v2 (readyApps cs) (readyApps cs) (webK cs) (webR cs) (rwebK cs) (rwebR cs) W (R1.ext hW) hv2 (by have := readyApps_le cs; omega)
              rwa [show sameB (webK cs) (readyApps cs) (webR cs) (rwebK cs) (readyApps cs) (rwebR cs) = true from decide_eq_true ⟨(web_eq cs).1, (web_eq cs).2, rfl⟩] at this
            have h200 : cs.length ≤ 2000000 := by omega
            have zb : w3.heap.size < (w3.alloc (.cells #[.int .i64 (webK cs), .slice ax (readyApps cs).length cx, .int .i64 (webR cs)] 24)).heap.size := by simp
            have HHL := Lib.hid HL; have HSA := Lib.hid SAME
            clear HL R1 SAME
            go_wp2_with fail
            go_region_with (first | (go_at_call 20; refine (rweb_any _ cs _ (HHL.out _ (ext_drewN _ (Below.refl _ _))) h200).mono ?_; rintro e w' ⟨v2, rfl, hr, hb⟩; have hq : Below (w3.alloc (.cells #[.int .i64 (webK cs), .slice ax (readyApps cs).length cx, .int .i64 (webR cs)] 24)).heap.size (w3.alloc (.cells #[.int .i64 (webK cs), .slice ax (readyApps cs).length cx, .int .i64 (webR cs)] 24)) w' := ⟨hb.os, hb.tape, hb.output, hb.size, hb.block⟩; have d1 := bcell1 hq zb; have hr' := hr.wide (S' := Own w') (fun b hb => hb.2); obtain ⟨a2, c2, rfl, _, _, _⟩ := hr.strs_inv; clear hb hr) | (go_at_call 13; refine (HSA.out _ _ ‹_› ‹_›).mono ?_; rintro e w' ⟨rfl, hb⟩; have hq' : Below (w3.alloc (.cells #[.int .i64 (webK cs), .slice ax (readyApps cs).length cx, .int .i64 (webR cs)] 24)).heap.size (w3.alloc (.cells #[.int .i64 (webK cs), .slice ax (readyApps cs).length cx, .int .i64 (webR cs)] 24)) w' := ext_trans ‹Below (w3.alloc (.cells #[.int .i64 (webK cs), .slice ax (readyApps cs).length cx, .int .i64 (webR cs)] 24)).heap.size (w3.alloc (.cells #[.int .i64 (webK cs), .slice ax (readyApps cs).length cx, .int .i64 (webR cs)] 24)) _› hb; clear hb))
            all_goals go_wp2
            all_goals go_ret
            all_goals exact ⟨rfl, ext_trans HX.out ‹Below (w3.alloc (.cells #[.int .i64 (webK cs), .slice ax (readyApps cs).length cx, .int .i64 (webR cs)] 24)).heap.size (w3.alloc (.cells #[.int .i64 (webK cs), .slice ax (readyApps cs).length cx, .int .i64 (webR cs)] 24)) w'›⟩
  · clear hac hc hs
    go_enter Tryd.func4, Tryd.ntmps4
    go_wp2_with fail
    refine (speaks28 _ ht h2).mono ?_
    rintro e w1 ⟨rfl, hb1⟩
    go_wp2
    go_ret
    exact ⟨rfl, hb1⟩
end Go.Proofs.YtjbbpmjbohedkaaDoor
