/- Candidates: their data, and the small tests on them. -/
import Derived.Test.YtjbbpmjbohedkaaDoorPick5
namespace Go.Proofs.YtjbbpmjbohedkaaDoor
open Go.RowKit
structure Cand where
  app : ByteArray
  claims : Bool
  verified : Bool
  lets : Bool
  off : Bool
def Cand.v (c : Cand) : Value := .agg #[.string c.app, .bool c.claims, .bool c.verified, .bool c.lets, .bool c.off]
def Cand.d (c : Cand) : List Dat := [.str c.app, .bool c.claims, .bool c.verified, .bool c.lets, .bool c.off]
abbrev candsD (cs : List Cand) : Dat := .list 5 (cs.flatMap Cand.d)
def Cand.ready (c : Cand) : Bool := c.claims && c.verified && c.lets && !c.off
def Cand.t2 (c : Cand) : Bool := c.claims && c.verified && c.lets && c.off
def Cand.t3 (c : Cand) : Bool := c.claims && c.verified
def Cand.t4 (c : Cand) : Bool := c.claims
theorem cands_inv {S : Nat → Prop} {w : World} {v : Value} {cs : List Cand} (h : Rd S w v (candsD cs)) : ∃ a c, v = .slice a cs.length c ∧ (a = none → cs.length = 0 ∧ c = 0) ∧ cs.length ≤ c ∧
    (0 < cs.length → ∃ b off, a = some ⟨b, off, none⟩ ∧ S b ∧ ∀ (i : Nat) x, cs[i]? = some x → w.cell? ⟨b, off + i * 5, none⟩ = some (.string x.app) ∧ w.cell? ⟨b, off + i * 5 + 1, none⟩ = some (.bool x.claims) ∧
      w.cell? ⟨b, off + i * 5 + 2, none⟩ = some (.bool x.verified) ∧ w.cell? ⟨b, off + i * 5 + 3, none⟩ = some (.bool x.lets) ∧ w.cell? ⟨b, off + i * 5 + 4, none⟩ = some (.bool x.off)) := by
  obtain ⟨a, c, rfl, hac, hnc, h⟩ := h.rows_inv (enc := Cand.d) (fun _ => rfl) (by decide)
  refine ⟨a, c, rfl, hac, hnc, fun h0 => ?_⟩
  obtain ⟨b, off, rfl, hS, hc⟩ := h h0
  refine ⟨b, off, rfl, hS, fun i x hx => ?_⟩
  obtain ⟨u0, h0, r0⟩ := hc i x hx 0 _ rfl
  obtain ⟨u1, h1, r1⟩ := hc i x hx 1 _ rfl
  obtain ⟨u2, h2, r2⟩ := hc i x hx 2 _ rfl
  obtain ⟨u3, h3, r3⟩ := hc i x hx 3 _ rfl
  obtain ⟨u4, h4, r4⟩ := hc i x hx 4 _ rfl
  exact ⟨by rw [← r0.str_inv]; exact h0, by rw [← r1.bool_inv]; exact h1, by rw [← r2.bool_inv]; exact h2, by rw [← r3.bool_inv]; exact h3, by rw [← r4.bool_inv]; exact h4⟩

theorem ready_any (c : Cand) (w : World) : Calls Tryd.prog 17 #[c.v] w fun e w' => e = .returned (.bool c.ready) ∧ Below w.heap.size w w' := by
  obtain ⟨app, a, b, l, o⟩ := c
  have hb := (Below.refl w.heap.size w).alloc (Nat.le_refl _) (.cells #[.string app, .bool a, .bool b, .bool l, .bool o] 32)
  have HB := Lib.hid hb; clear hb
  simp only [Cand.v, Cand.ready]
  cases a <;> cases b <;> cases l <;> cases o
  all_goals
    go_enter Tryd.func17, Tryd.ntmps17
    go_wp2
    go_ret
    exact ⟨rfl, HB.out⟩
theorem rready_any (c : Cand) (w : World) : Calls Tryd.prog 18 #[c.v] w fun e w' => e = .returned (.bool c.ready) ∧ Below w.heap.size w w' := by
  obtain ⟨app, a, b, l, o⟩ := c
  have hb := (Below.refl w.heap.size w).alloc (Nat.le_refl _) (.cells #[.string app, .bool a, .bool b, .bool l, .bool o] 32)
  have HB := Lib.hid hb; clear hb
  simp only [Cand.v, Cand.ready]
  cases a <;> cases b <;> cases l <;> cases o
  all_goals
    go_enter Tryd.func18, Tryd.ntmps18
    go_wp2
    go_ret
    exact ⟨rfl, HB.out⟩
theorem t2_any (c : Cand) (w : World) : Calls Tryd.prog 79 #[c.v] w fun e w' => e = .returned (.bool c.t2) ∧ Below w.heap.size w w' := by
  obtain ⟨app, a, b, l, o⟩ := c
  have hb := (Below.refl w.heap.size w).alloc (Nat.le_refl _) (.cells #[.string app, .bool a, .bool b, .bool l, .bool o] 32)
  have HB := Lib.hid hb; clear hb
  simp only [Cand.v, Cand.t2]
  cases a <;> cases b <;> cases l <;> cases o
  all_goals
    go_enter Tryd.func79, Tryd.ntmps79
    go_wp2
    go_ret
    exact ⟨rfl, HB.out⟩
theorem t3_any (c : Cand) (w : World) : Calls Tryd.prog 80 #[c.v] w fun e w' => e = .returned (.bool c.t3) ∧ Below w.heap.size w w' := by
  obtain ⟨app, a, b, l, o⟩ := c
  have hb := (Below.refl w.heap.size w).alloc (Nat.le_refl _) (.cells #[.string app, .bool a, .bool b, .bool l, .bool o] 32)
  have HB := Lib.hid hb; clear hb
  simp only [Cand.v, Cand.t3]
  cases a <;> cases b
  all_goals
    go_enter Tryd.func80, Tryd.ntmps80
    go_wp2
    go_ret
    exact ⟨rfl, HB.out⟩
theorem t4_any (c : Cand) (w : World) : Calls Tryd.prog 81 #[c.v] w fun e w' => e = .returned (.bool c.t4) ∧ Below w.heap.size w w' := by
  obtain ⟨app, a, b, l, o⟩ := c
  have hb := (Below.refl w.heap.size w).alloc (Nat.le_refl _) (.cells #[.string app, .bool a, .bool b, .bool l, .bool o] 32)
  have HB := Lib.hid hb; clear hb
  simp only [Cand.v, Cand.t4]
  go_enter Tryd.func81, Tryd.ntmps81
  go_wp2
  go_ret
  exact ⟨rfl, HB.out⟩

/-- What a test that is handed over does. -/
structure Tests (k : FuncId) (p : Cand → Bool) : Prop where
  enters : ∀ args w, (callFunc k args).run Tryd.prog w = .ok (.enter k args) w
  calls : ∀ c w, Calls Tryd.prog k #[Cand.v c] w fun e w' => e = .returned (.bool (p c)) ∧ Below w.heap.size w w'
theorem enters_of {P : Program} {k : FuncId} {fn : Func} {c : Code} (hf : P.funcs[k]? = some fn) (hn : (fn.name == "runtime.NumGoroutine") = false) (hb : fn.body = some c) (args : Array Value) (w : World) : (callFunc k args).run P w = .ok (.enter k args) w := by
  have hn' := beq_eq_false_iff_ne.1 hn
  simp [callFunc, hf, hn', hb]
theorem tests2 : Tests 79 Cand.t2 := ⟨enters_of Tryd.func79 (by kernel_rfl) rfl, t2_any⟩
theorem tests3 : Tests 80 Cand.t3 := ⟨enters_of Tryd.func80 (by kernel_rfl) rfl, t3_any⟩
theorem tests4 : Tests 81 Cand.t4 := ⟨enters_of Tryd.func81 (by kernel_rfl) rfl, t4_any⟩
def IdxRel (cs : List Cand) (p : Cand → Bool) (W : World) (i : Value) (wr : World) : Prop := ∃ j : Nat, i = .int .i64 j ∧ j ≤ cs.length ∧ Below W.heap.size W wr ∧ ∀ (m : Nat) x, m < j → cs[m]? = some x → p x = false
/-- The first one that passes; -1: none does. -/
def firstIdx (cs : List Cand) (p : Cand → Bool) : Int := match cs.findIdx? p with | some i => i | none => -1
theorem firstIdx_some {cs : List Cand} {p : Cand → Bool} {j : Nat} {x : Cand} (hx : cs[j]? = some x) (hp : p x = true) (h : ∀ (m : Nat) x, m < j → cs[m]? = some x → p x = false) : firstIdx cs p = j := by
  have : cs.findIdx? p = some j := by
    rw [List.findIdx?_eq_some_iff_getElem]
    obtain ⟨hj, e⟩ := List.getElem?_eq_some_iff.1 hx
    exact ⟨hj, by rw [e]; exact hp, fun m hm => by have := h m cs[m] hm (List.getElem?_eq_getElem (by omega)); simp [this]⟩
  simp [firstIdx, this]
theorem firstIdx_none {cs : List Cand} {p : Cand → Bool} (h : ∀ (m : Nat) x, m < cs.length → cs[m]? = some x → p x = false) : firstIdx cs p = -1 := by
  have : cs.findIdx? p = none := by
    rw [List.findIdx?_eq_none_iff]
    intro x hx
    obtain ⟨i, hi⟩ := List.getElem?_of_mem hx
    exact h i x (List.getElem?_eq_some_iff.1 hi).1 hi
  simp [firstIdx, this]
theorem firstIdx_any (cs : List Cand) (p : Cand → Bool) : decide (0 ≤ firstIdx cs p) = cs.any p := by
  unfold firstIdx
  cases h : cs.findIdx? p with
  | none =>
    rw [List.findIdx?_eq_none_iff] at h
    have : cs.any p = false := by rw [List.any_eq_false]; intro x hx; simp [h x hx]
    simp [this]
  | some i =>
    rw [List.findIdx?_eq_some_iff_getElem] at h
    obtain ⟨hi, hp, _⟩ := h
    have : cs.any p = true := by rw [List.any_eq_true]; exact ⟨cs[i], List.getElem_mem _, hp⟩
    simp [this]

set_option maxHeartbeats 800000 in
set_option maxRecDepth 100000 in
theorem indexFunc_any {S : Nat → Prop} (k : FuncId) (p : Cand → Bool) (hp : Tests k p) (v : Value) (cs : List Cand) (w : World) (hs : Rd S w v (candsD cs)) (hS : ∀ b, S b → b < w.heap.size) (hm : cs.length ≤ 8000000000000) :
    Calls Tryd.prog 99 #[v, .func (.func k) #[] #[]] w fun e w' => e = .returned (.int .i64 (firstIdx cs p)) ∧ Below w.heap.size w w' := by
  obtain ⟨a, c, rfl, hac, _, hc⟩ := cands_inv hs
  have HC := Lib.hid hc
  have hen := hp.enters
  clear hc hac hs
  go_enter Tryd.func99, Tryd.ntmps99
  go_wp2_with fail
  go_loopw [5, 8] (fun _ i wr => IdxRel cs p w i wr) (fun _ i _ => cs.length - (intOf i).toNat)
  case atStart => exact ⟨0, rfl, Nat.zero_le _, Below.refl _ _, fun m x h => by omega⟩
  case round =>
    obtain ⟨j, rfl, hj, hb, hn⟩ := hrel
    by_cases hlt : j < cs.length
    · obtain ⟨b, off, rfl, hSb, hc⟩ := HC.out (by omega)
      obtain ⟨x, hx⟩ := get_ex cs j hlt
      obtain ⟨x0, x1, x2, x3, x4⟩ := hc j x hx
      have hz := hS b hSb
      rw [← bcell1 hb hz] at x0 x1 x2 x3 x4
      have HX := Lib.hid hx; have HN := Lib.hid hn; have HB := Lib.hid hb
      clear hx hn hb hc
      go_wp2_with fail
      refine (hp.calls x _).mono ?_
      rintro e w1 ⟨rfl, hb1⟩
      have hz1 := hb1.size
      have HB1 := Lib.hid (ext_trans HB.out hb1); clear hb1
      cases hpx : p x with
      | true =>
        have e : firstIdx cs p = j := firstIdx_some HX.out hpx HN.out
        have E := Lib.hid e; clear e
        go_wp2
        go_ret
        exact ⟨by rw [E.out]; rfl, HB1.out⟩
      | false =>
        have R : IdxRel cs p w (.int .i64 (j + 1)) w1 := ⟨j + 1, by go_num, by omega, HB1.out, fun m y hm hy => by
          by_cases e : m = j
          · rw [e, HX.out] at hy; cases hy; exact hpx
          · exact HN.out m y (by omega) hy⟩
        have HR := Lib.hid R; clear R hpx
        go_wp2
        refine ⟨?_, by simp [intOf]; omega⟩
        have R := HR.out
        first | exact R | ((repeat apply Exists.intro); exact ⟨R, rfl⟩)
    · have e : firstIdx cs p = -1 := firstIdx_none (fun m x hm => hn m x (by omega))
      have E := Lib.hid e; have HB := Lib.hid hb; clear e hn hb
      go_wp2
      go_ret
      exact ⟨by rw [E.out]; rfl, HB.out⟩

theorem contains_any {S : Nat → Prop} (k : FuncId) (p : Cand → Bool) (hp : Tests k p) (v : Value) (cs : List Cand) (w : World) (hs : Rd S w v (candsD cs)) (hS : ∀ b, S b → b < w.heap.size) (hm : cs.length ≤ 8000000000000) :
    Calls Tryd.prog 78 #[v, .func (.func k) #[] #[]] w fun e w' => e = .returned (.bool (cs.any p)) ∧ Below w.heap.size w w' := by
  have h := indexFunc_any k p hp v cs w hs hS hm
  have e := firstIdx_any cs p
  obtain ⟨a, c, rfl, _⟩ := cands_inv hs
  generalize firstIdx cs p = i at *
  generalize cs.any p = r at *
  have H := Lib.hid h; have E := Lib.hid e; clear h e hs
  go_enter Tryd.func78, Tryd.ntmps78
  go_wp2_with fail
  refine H.out.mono ?_
  rintro e w1 ⟨rfl, hb1⟩
  have HB1 := Lib.hid hb1; clear hb1
  go_wp2
  go_ret
  exact ⟨by rw [← E.out]; rfl, HB1.out⟩

/-- The closure over the list: its variable lies at block b. -/
theorem some_any (k : FuncId) (p : Cand → Bool) (hp : Tests k p) (b : Nat) (v : Value) (cs : List Cand) (w : World) (hc : w.cell? ⟨b, 0, none⟩ = some v) (hs : Rd (Own w) w v (candsD cs)) (hm : cs.length ≤ 8000000000000) :
    Calls Tryd.prog 77 #[.func (.func k) #[] #[], .pointer (some ⟨b, 0, none⟩)] w fun e w' => e = .returned (.bool (cs.any p)) ∧ Below w.heap.size w w' := by
  have h := contains_any k p hp v cs w hs (fun _ h => h) hm
  obtain ⟨a, c, rfl, _⟩ := cands_inv hs
  generalize cs.any p = r at *
  have H := Lib.hid h; clear h hs
  go_enter Tryd.func77, Tryd.ntmps77
  go_wp2_with fail
  refine H.out.mono ?_
  rintro e w1 ⟨rfl, hb1⟩
  have HB1 := Lib.hid hb1; clear hb1
  go_wp2
  go_ret
  exact ⟨rfl, HB1.out⟩

def reasonN (cs : List Cand) : Int := if cs.any Cand.t2 then 7 else if cs.any Cand.t3 then 6 else if cs.any Cand.t4 then 5 else 4
set_option maxHeartbeats 800000 in
theorem reason_any (v : Value) (cs : List Cand) (w : World) (hs : Rd (Own w) w v (candsD cs)) (hm : cs.length ≤ 8000000000000) :
    Calls Tryd.prog 47 #[v] w fun e w' => e = .returned (.int .i64 (reasonN cs)) ∧ Below w.heap.size w w' := by
  obtain ⟨a, c, rfl, _⟩ := cands_inv hs
  have hb0 : Below w.heap.size w (w.alloc (.cells #[.slice a cs.length c] 30)) := (Below.refl _ _).alloc (Nat.le_refl _) _
  have S : ∀ k p, Tests k p → ∀ W, Below (w.alloc (.cells #[.slice a cs.length c] 30)).heap.size (w.alloc (.cells #[.slice a cs.length c] 30)) W →
      Calls Tryd.prog 77 #[.func (.func k) #[] #[], .pointer (some ⟨w.heap.size, 0, none⟩)] W fun e w' => e = .returned (.bool (cs.any p)) ∧ Below W.heap.size W w' := fun k p hp W hW =>
    some_any k p hp w.heap.size _ cs W (by rw [bcell1 hW (by simp)]; simp) ((hs.ext hb0).ext hW) hm
  have HS := Lib.hid S; have HB0 := Lib.hid hb0
  clear S hb0 hs
  cases h2 : cs.any Cand.t2 with
  | true =>
    have e : reasonN cs = 7 := by simp [reasonN, h2]
    rw [e]
    go_enter Tryd.func47, Tryd.ntmps47
    go_wp2_with fail
    refine (HS.out _ _ tests2 _ (Below.refl _ _)).mono ?_
    rintro e w1 ⟨rfl, hb1⟩
    rw [h2]
    have HB1 := Lib.hid hb1; clear hb1 h2
    go_wp2
    go_ret
    exact ⟨rfl, ext_trans HB0.out HB1.out⟩
  | false =>
    cases h3 : cs.any Cand.t3 with
    | true =>
      have e : reasonN cs = 6 := by simp [reasonN, h2, h3]
      rw [e]
      go_enter Tryd.func47, Tryd.ntmps47
      go_wp2_with fail
      refine (HS.out _ _ tests2 _ (Below.refl _ _)).mono ?_
      rintro e w1 ⟨rfl, hb1⟩
      rw [h2]
      have HB1 := Lib.hid hb1; clear hb1 h2
      go_wp2_with fail
      refine (HS.out _ _ tests3 _ HB1.out).mono ?_
      rintro e w2 ⟨rfl, hb2⟩
      rw [h3]
      have HB2 := Lib.hid hb2; clear hb2 h3
      go_wp2
      go_ret
      exact ⟨rfl, ext_trans HB0.out (ext_trans HB1.out HB2.out)⟩
    | false =>
      have e : reasonN cs = if cs.any Cand.t4 then 5 else 4 := by simp [reasonN, h2, h3]
      rw [e]
      cases h4 : cs.any Cand.t4
      all_goals
        go_enter Tryd.func47, Tryd.ntmps47
        go_wp2_with fail
        refine (HS.out _ _ tests2 _ (Below.refl _ _)).mono ?_
        rintro e w1 ⟨rfl, hb1⟩
        rw [h2]
        have HB1 := Lib.hid hb1; clear hb1
        go_wp2_with fail
        refine (HS.out _ _ tests3 _ HB1.out).mono ?_
        rintro e w2 ⟨rfl, hb2⟩
        rw [h3]
        have HB2 := Lib.hid hb2; clear hb2
        go_wp2_with fail
        refine (HS.out _ _ tests4 _ (ext_trans HB1.out HB2.out)).mono ?_
        rintro e w3 ⟨rfl, hb3⟩
        rw [h4]
        have HB3 := Lib.hid hb3; clear hb3 h2 h3 h4
        go_wp2
        go_ret
        exact ⟨rfl, ext_trans HB0.out (ext_trans HB1.out (ext_trans HB2.out HB3.out))⟩
end Go.Proofs.YtjbbpmjbohedkaaDoor
