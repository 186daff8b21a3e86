/- How deep a JSON text is, and what the machine does within other bounds. Nothing of the program. -/
import Derived.Test.YtcaiibkgajhohaaGreatDoorYJsM6
import Derived.Test.YtcaiibkgajhohaaGreatDoorYJrP0sf
namespace Go.Proofs.YtcaiibkgajhohaaGreatDoor
open Go.RowKit
def chainF (ups : List Nat) : Nat → Nat → Nat
 | 0, _ => 0
 | f + 1, k => if k = 0 then 1 else match ups[k]? with
   | some u => chainF ups f u + 1
   | none => 0
/-- How many there are from a value up to the text's own. -/
def chainU (ups : List Nat) (k : Nat) : Nat := chainF ups (k + 1) k
theorem chainF_fuel {ups : List Nat} (hw : WfUps ups) : ∀ k f g, k < f → k < g → chainF ups f k = chainF ups g k := by
 intro k
 induction k using Nat.strongRecOn with
 | ind k ih =>
   intro f g hf hg
   cases f with
   | zero => omega
   | succ f =>
     cases g with
     | zero => omega
     | succ g =>
       rw [chainF, chainF]
       split
       · rfl
       · rename_i h0
         cases hu : ups[k]? with
         | none => rfl
         | some u =>
           have := hw k u (by omega) hu
           simp only
           rw [ih u this f g (by omega) (by omega)]
theorem chainU_up {ups : List Nat} (hw : WfUps ups) {k u : Nat} (h0 : 0 < k) (hu : ups[k]? = some u) : chainU ups k = chainU ups u + 1 := by
 unfold chainU
 rw [chainF, if_neg (by omega), hu]
 simp only
 have := hw k u h0 hu
 rw [chainF_fuel hw u k (u + 1) this (by omega)]
theorem chainF_pre {ups : List Nat} (hw : WfUps ups) (x : Nat) : ∀ f k, k < ups.length → chainF (ups ++ [x]) f k = chainF ups f k
 | 0, _, _ => rfl
 | f + 1, k, hk => by
   rw [chainF, chainF]
   split
   · rfl
   · rename_i h0
     rw [List.getElem?_append_left hk]
     cases hu : ups[k]? with
     | none => rfl
     | some u =>
       have := hw k u (by omega) hu
       simp only
       rw [chainF_pre hw x f u (by omega)]
theorem chainU_pre {ups : List Nat} (hw : WfUps ups) (x : Nat) {k : Nat} (hk : k < ups.length) : chainU (ups ++ [x]) k = chainU ups k := chainF_pre hw x _ k hk
/-- The deepest list, or object, of those ahead of a number. -/
def deepTo (js : List JN) (ups : List Nat) (n : Nat) : Nat := (List.range n).foldl (fun a i => match js[i]? with
 | some x => if x.kind < 5 then a else max a (chainU ups i)
 | none => a) 0
theorem deepTo_succ (js : List JN) (ups : List Nat) (n : Nat) : deepTo js ups (n + 1) = match js[n]? with
 | some x => if x.kind < 5 then deepTo js ups n else max (deepTo js ups n) (chainU ups n)
 | none => deepTo js ups n := by
 unfold deepTo
 rw [List.range_succ, List.foldl_append]
 rfl
def deepS (js : List JN) (ups : List Nat) : Nat := deepTo js ups js.length
theorem deepTo_pre {js : List JN} {ups : List Nat} (hw : WfUps ups) (hl : ups.length = js.length) (x : JN) (u : Nat) : ∀ n, n ≤ js.length → deepTo (js ++ [x]) (ups ++ [u]) n = deepTo js ups n
 | 0, _ => rfl
 | n + 1, hn => by
   rw [deepTo_succ, deepTo_succ, List.getElem?_append_left (by omega), deepTo_pre hw hl x u n (by omega), chainU_pre hw u (by omega)]
theorem deepS_snoc {js : List JN} {ups : List Nat} (hw : WfUps ups) (hl : ups.length = js.length) (x : JN) (u : Nat) : deepS (js ++ [x]) (ups ++ [u]) = if x.kind < 5 then deepS js ups else max (deepS js ups) (chainU (ups ++ [u]) js.length) := by
 unfold deepS
 rw [List.length_append, List.length_cons, List.length_nil, deepTo_succ, List.getElem?_append_right (Nat.le_refl _)]
 simp only [Nat.sub_self, List.getElem?_cons_zero]
 rw [deepTo_pre hw hl x u _ (Nat.le_refl _)]
def ChainOK (ups : List Nat) : List Op → Prop
 | [] => True
 | o :: r => (r ≠ [] → chainU ups o.id.toNat = r.length) ∧ ChainOK ups r
theorem ChainOK.top {ups : List Nat} {o o' : Op} {r : List Op} (h : ChainOK ups (o :: r)) (hi : o'.id = o.id) : ChainOK ups (o' :: r) := ⟨fun e => by rw [hi]; exact h.1 e, h.2⟩
theorem ChainOK.after {ups : List Nat} {r : List Op} (h : ChainOK ups r) : ChainOK ups (afterS r) := by
 cases r with
 | nil => exact h
 | cons o r => exact h.top rfl
theorem ChainOK.more {ups : List Nat} (hw : WfUps ups) (x : Nat) : ∀ {l : List Op}, GoodR ups.length l → ChainOK ups l → ChainOK (ups ++ [x]) l
 | [q], _, h => ⟨fun e => absurd rfl e, trivial⟩
 | o :: p :: r, hg, h => ⟨fun e => by rw [chainU_pre hw x (by have := hg.1; have := hg.2.1; omega)]; exact h.1 e, h.2.more hw x hg.2.2⟩
structure BI (s : PS) : Prop where
 pi : PI s
 len : s.ups.length = s.js.length
 wf : WfUps s.ups
 ch : ChainOK s.ups s.stack
theorem bi0 : BI ps0 := ⟨pi0, rfl, fun i u _ h => by simp [ps0] at h, ⟨fun e => absurd rfl e, trivial⟩⟩
def FitsJ (m : Bd) (d : Nat) : Prop := d = 0 ∨ (d : Int) ≤ m.deep
/-- What a step does within other bounds. -/
structure StepOK (B : ByteArray) (s s' : PS) (t : Tok) : Prop where
 bi : BI s'
 deep : deepS s.js s.ups ≤ deepS s'.js s'.ups
 len : s.js.length ≤ s'.js.length
 ok : ∀ m' : Bd, FitsJ m' (deepS s'.js s'.ups) → (s'.js.length : Int) ≤ m'.nodes → takeS B m' s t = .ok s'
 many : ∀ m' : Bd, (s.js.length : Int) ≤ m'.nodes → m'.nodes < s'.js.length → ∃ p, takeS B m' s t = .no 15 p
 over : ∀ m' : Bd, (s'.js.length : Int) ≤ m'.nodes → (deepS s.js s.ups : Int) ≤ m'.deep → m'.deep < deepS s'.js s'.ups → ∃ p, takeS B m' s t = .no 13 p
theorem StepOK.same {B : ByteArray} {s s' : PS} {t : Tok} (hb : BI s) (hp : PI s') (hj : s'.js = s.js) (hu : s'.ups = s.ups) (hc : ChainOK s.ups s'.stack) (h : ∀ m' : Bd, takeS B m' s t = .ok s') : StepOK B s s' t :=
 ⟨⟨hp, by rw [hj, hu]; exact hb.len, by rw [hu]; exact hb.wf, by rw [hu]; exact hc⟩, by rw [hj, hu]; exact Nat.le_refl _, by rw [hj]; exact Nat.le_refl _, fun m' _ _ => h m',
  fun m' h1 h2 => by rw [hj] at h2; omega, fun m' _ h1 h2 => by rw [hj, hu] at h2; omega⟩
theorem step_value {B : ByteArray} {m : Bd} {s s' : PS} {t : Tok} {o : Op} {r : List Op} (hb : BI s) (hs : s.stack = o :: r) (h5 : o.st ≠ 5) (ht : ∀ m' : Bd, takeS B m' s t = valueS B m' s o r t) (hv : valueS B m s o r t = .ok s') : StepOK B s s' t := by
 have hpi := (value_inv hb.pi hs h5 hv).1
 have hid := hb.pi.id hs h5
 have hg := hb.pi.good
 have hch := hb.ch
 have hw := hb.wf
 have hl := hb.len
 rw [hs] at hg hch
 rw [← hl] at hg
 have hwf' : WfUps (s.ups ++ [o.id.toNat]) := by
  rcases hid with h | ⟨_, h⟩
  · exact wfUps_snoc hw (by rw [hl]; omega)
  · have h0 : s.ups = [] := List.length_eq_zero_iff.1 (by rw [hl, h]; rfl)
    rw [h0]
    intro i x hi hx
    cases i <;> simp at hi hx
 unfold valueS at hv
 split at hv
 · unfold wrongS at hv
   split at hv <;> cases hv
 · rename_i k hk
   split at hv
   · cases hv
   · rename_i hm
     split at hv
     · rename_i h5'
       cases hv
       have hd : deepS (s.js ++ [nodeS B o k t]) (s.ups ++ [o.id.toNat]) = deepS s.js s.ups := by
        rw [deepS_snoc hw hl, if_pos (show (nodeS B o k t).kind < 5 from h5')]
       refine ⟨⟨hpi, by simp [addS, hl], hwf', (hch.more hw _ hg).after⟩, by simp only [addS]; rw [hd]; exact Nat.le_refl _, by simp [addS], fun m' _ hn => ?_, fun m' h1 h2 => ?_, fun m' _ h1 h2 => ?_⟩
       · rw [ht m']
         unfold valueS
         rw [hk]
         simp only [addS, List.length_append, List.length_cons, List.length_nil] at hn ⊢
         rw [if_neg (by omega), if_pos h5']
       · rw [ht m']
         unfold valueS
         rw [hk]
         simp only [addS, List.length_append, List.length_cons, List.length_nil] at h2 ⊢
         rw [if_pos (by omega)]
         exact ⟨_, rfl⟩
       · simp only [addS] at h2
         rw [hd] at h2; omega
     · rename_i h5'
       split at hv
       · cases hv
       · cases hv
         have hc : chainU (s.ups ++ [o.id.toNat]) s.js.length = r.length + 1 := by
          rcases hid with ⟨h0, h1⟩ | ⟨h0, h1⟩
          · rw [chainU_up (u := o.id.toNat) hwf' (by omega) (by rw [← hl]; simp), chainU_pre hw _ (by omega)]
            have : r ≠ [] := fun e => by
             rw [e] at hg
             have := hg.1
             omega
            rw [hch.1 this]
          · have hr : r = [] := by
              cases r with
              | nil => rfl
              | cons p q => have := hg.1; omega
            rw [h1, hr]; rfl
         have hd : deepS (s.js ++ [nodeS B o k t]) (s.ups ++ [o.id.toNat]) = max (deepS s.js s.ups) (r.length + 1) := by
          rw [deepS_snoc hw hl, if_neg (show ¬ (nodeS B o k t).kind < 5 from h5'), hc]
         refine ⟨⟨hpi, by simp [addS, hl], hwf', ⟨fun _ => ?_, hch.more hw _ hg⟩⟩, by simp only [addS]; rw [hd]; omega, by simp [addS], fun m' hf hn => ?_, fun m' h1 h2 => ?_, fun m' hn h1 h2 => ?_⟩
         · simp only [addS, Int.toNat_natCast]; rw [hc]; rfl
         · rw [ht m']
           unfold valueS
           rw [hk]
           unfold FitsJ at hf
           simp only [addS, List.length_append, List.length_cons, List.length_nil] at hn hf ⊢
           rw [hd] at hf
           rw [if_neg (by omega), if_neg h5', if_neg (by omega)]
         · rw [ht m']
           unfold valueS
           rw [hk]
           simp only [addS, List.length_append, List.length_cons, List.length_nil] at h2 ⊢
           rw [if_pos (by omega)]
           exact ⟨_, rfl⟩
         · rw [ht m']
           unfold valueS
           rw [hk]
           simp only [addS, List.length_append, List.length_cons, List.length_nil] at hn h2 ⊢
           rw [hd] at h2
           rw [if_neg (by omega), if_neg h5', if_pos (by omega)]
           exact ⟨_, rfl⟩
theorem step_key {B : ByteArray} {s s' : PS} {t : Tok} {o p : Op} {r : List Op} (hb : BI s) (hs : s.stack = o :: p :: r) (ht : ∀ m' : Bd, takeS B m' s t = keyS B s o (p :: r) t) (hv : keyS B s o (p :: r) t = .ok s') : StepOK B s s' t := by
 have hpi := (key_inv hb.pi hs hv).1
 have hch := hb.ch
 rw [hs] at hch
 have h' := hv
 unfold keyS at hv
 split at hv
 · unfold wrongS at hv
   split at hv <;> cases hv
 · split at hv
   · cases hv
     exact .same hb hpi rfl rfl (hch.top rfl) (fun m' => (ht m').trans h')
   · cases hv
theorem step_ok {B : ByteArray} {m : Bd} {s s' : PS} {t : Tok} (hb : BI s) (ht : takeS B m s t = .ok s') : StepOK B s s' t := by
 have hpi := (take_inv hb.pi ht).1
 have hg := hb.pi.good
 have hch := hb.ch
 have ht0 := ht
 unfold takeS at ht
 cases hs : s.stack with
 | nil => rw [hs] at hg; exact absurd hg (by simp [GoodR])
 | cons o r =>
   rw [hs] at ht hg hch
   simp only at ht
   split at ht
   · rename_i h5
     split at ht
     · rename_i h0
       cases ht
       exact .same hb hpi rfl rfl hb.ch (fun m' => by simp [takeS, hs, h5, h0])
     · unfold wrongS at ht
       split at ht <;> cases ht
   · rename_i h5
     split at ht
     · rename_i h3
       split at ht
       · rename_i hk
         cases ht
         exact .same hb hpi rfl rfl (hch.top rfl) (fun m' => by simp [takeS, hs, h3, hk])
       · unfold wrongS at ht
         split at ht <;> cases ht
     · rename_i h3
       split at ht
       · rename_i h4
         have hi : ∀ m' : Bd, takeS B m' s t = betweenS s o r t := fun m' => by simp [takeS, hs, h4]
         have hx := ht
         unfold betweenS at ht
         split at ht
         · cases ht
           exact .same hb hpi rfl rfl hch.2.after (fun m' => (hi m').trans hx)
         · split at ht
           · unfold wrongS at ht
             split at ht <;> cases ht
           · cases ht
             exact .same hb hpi rfl rfl (hch.top rfl) (fun m' => (hi m').trans hx)
       · rename_i h4
         split at ht
         · rename_i h0
           split at ht
           · rename_i he
             cases ht
             exact .same hb hpi rfl rfl hch.2.after (fun m' => by simp [takeS, hs, h0, he])
           · rename_i he
             split at ht
             · rename_i hob
               obtain ⟨p, r', rfl⟩ := hb.pi.deep hs h5 (by omega)
               exact step_key hb hs (fun m' => by simp [takeS, hs, h0, he, hob]) ht
             · rename_i hob
               exact step_value hb hs h5 (fun m' => by simp [takeS, hs, h0, he, hob]) ht
         · rename_i h0
           split at ht
           · rename_i h2
             obtain ⟨p, r', rfl⟩ := hb.pi.deep hs h5 (by omega)
             exact step_key hb hs (fun m' => by simp [takeS, hs, h2]) ht
           · rename_i h2
             exact step_value hb hs h5 (fun m' => by simp [takeS, hs, h5, h3, h4, h0, h2]) ht
structure RunOK (B : ByteArray) (f : Nat) (i : Int) (s sf : PS) : Prop where
 bi : BI sf
 deep : deepS s.js s.ups ≤ deepS sf.js sf.ups
 len : s.js.length ≤ sf.js.length
 ok : ∀ m' : Bd, FitsJ m' (deepS sf.js sf.ups) → (sf.js.length : Int) ≤ m'.nodes → runF B m' f i s = .ok sf
 many : ∀ m' : Bd, FitsJ m' (deepS sf.js sf.ups) → (s.js.length : Int) ≤ m'.nodes → m'.nodes < sf.js.length → ∃ p, runF B m' f i s = .no 15 p
 over : ∀ m' : Bd, (sf.js.length : Int) ≤ m'.nodes → (deepS s.js s.ups : Int) ≤ m'.deep → m'.deep < deepS sf.js sf.ups → ∃ p, runF B m' f i s = .no 13 p
theorem FitsJ.mono {m : Bd} {d e : Nat} (h : FitsJ m e) (hd : d ≤ e) : FitsJ m d := by unfold FitsJ at *; omega
theorem runs_ok (B : ByteArray) (m : Bd) : ∀ f i s sf, BI s → runF B m f i s = .ok sf → RunOK B f i s sf
 | 0, i, s, sf, hb, h => by
   cases h
   exact ⟨hb, Nat.le_refl _, Nat.le_refl _, fun _ _ _ => rfl, fun m' _ h1 h2 => by omega, fun m' _ h1 h2 => by omega⟩
 | f + 1, i, s, sf, hb, h => by
   rw [runF] at h
   obtain ⟨t, hn, h⟩ := Sc.bind_eq_ok h
   obtain ⟨s', ht, h⟩ := Sc.bind_eq_ok h
   have S := step_ok hb ht
   have hrun : ∀ m' : Bd, takeS B m' s t = .ok s' → runF B m' (f + 1) i s = if t.kind = 0 then .ok s' else runF B m' f t.to s' := fun m' h' => by
    rw [runF, hn, Sc.bind_ok, h', Sc.bind_ok]
   have hno : ∀ (m' : Bd) k p, takeS B m' s t = .no k p → runF B m' (f + 1) i s = .no k p := fun m' k p h' => by
    rw [runF, hn, Sc.bind_ok, h']; rfl
   split at h
   · rename_i h0
     cases h
     exact ⟨S.bi, S.deep, S.len, fun m' h1 h2 => by rw [hrun m' (S.ok m' h1 h2), if_pos h0], fun m' _ h1 h2 => by obtain ⟨p, hp⟩ := S.many m' h1 h2; exact ⟨p, hno _ _ _ hp⟩, fun m' h1 h2 h3 => by obtain ⟨p, hp⟩ := S.over m' h1 h2 h3; exact ⟨p, hno _ _ _ hp⟩⟩
   · rename_i h0
     have R := runs_ok B m f t.to s' sf S.bi h
     have d1 := S.deep; have d2 := R.deep; have l1 := S.len; have l2 := R.len
     refine ⟨R.bi, by omega, by omega, fun m' h1 h2 => ?_, fun m' hf h1 h2 => ?_, fun m' h1 h2 h3 => ?_⟩
     · rw [hrun m' (S.ok m' (h1.mono d2) (by omega)), if_neg h0]
       exact R.ok m' h1 h2
     · by_cases hc : (s'.js.length : Int) ≤ m'.nodes
       · rw [hrun m' (S.ok m' (hf.mono d2) hc), if_neg h0]
         exact R.many m' hf hc h2
       · obtain ⟨p, hp⟩ := S.many m' h1 (by omega)
         exact ⟨p, hno _ _ _ hp⟩
     · by_cases hc : (deepS s'.js s'.ups : Int) ≤ m'.deep
       · rw [hrun m' (S.ok m' (.inr hc) (by omega)), if_neg h0]
         exact R.over m' h1 hc h3
       · obtain ⟨p, hp⟩ := S.over m' (by omega) h2 (by omega)
         exact ⟨p, hno _ _ _ hp⟩
end Go.Proofs.YtcaiibkgajhohaaGreatDoor
