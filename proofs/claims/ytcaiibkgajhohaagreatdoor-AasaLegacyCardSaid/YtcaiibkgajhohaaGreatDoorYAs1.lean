/- Texts put together. -/
import Derived.Test.YtcaiibkgajhohaaGreatDoorYAs0
namespace Go.Proofs.YtcaiibkgajhohaaGreatDoor
open Go.RowKit
/-- Nothing but a fault was added. -/
structure Kp (s t : RdSt) : Prop where
 vars : t.vars = s.vars
 bad : s.bad = true → t.bad = true
theorem Kp.refl (s : RdSt) : Kp s s := ⟨rfl, id⟩
theorem Kp.trans {a b c : RdSt} (h : Kp a b) (k : Kp b c) : Kp a c := ⟨k.vars.trans h.vars, fun x => k.bad (h.bad x)⟩
theorem Kp.more (s : RdSt) (b : Bool) : Kp s ⟨s.bad || b, s.vars⟩ := ⟨rfl, fun h => by simp [h]⟩
theorem Kp.good {s t : RdSt} (h : Kp s t) (ht : t.bad = false) : s.bad = false := by
 cases hs : s.bad with
 | false => rfl
 | true => rw [h.bad hs] at ht; cases ht
section
variable (K : AsK) (js : List JN) (ups : List Nat)
theorem isA_kp (s : RdSt) (id : Nat) (k : Int) : Kp s (isA js s id k).2 := Kp.more s _
theorem txtA_kp (s : RdSt) (id : Nat) : Kp s (txtA js s id).2 := by
 unfold txtA
 split
 · exact isA_kp js s id 4
 · exact isA_kp js s id 4
theorem textsF_kp : ∀ (l : List Nat) (s : RdSt) (acc : List ByteArray), Kp s (textsF js l s acc).2
 | [], s, acc => Kp.refl s
 | k :: l, s, acc => by
   rw [textsF]
   split
   · exact txtA_kp js s k
   · exact (txtA_kp js s k).trans (textsF_kp l _ _)
theorem textsA_kp (s : RdSt) (id : Nat) : Kp s (textsA js ups s id).2 := by
 unfold textsA
 split
 · exact (isA_kp js s id 5).trans (textsF_kp js _ _ _)
 · exact isA_kp js s id 5
theorem flagA_kp (s : RdSt) (id : Nat) (key : ByteArray) (p : Bool) : Kp s (flagA js ups s id key p).2 := by
 unfold flagA
 split
 · exact Kp.refl s
 · exact Kp.more s _
theorem flagsA_kp (s : RdSt) (id : Nat) (a b : Bool) (ka kb : ByteArray) : Kp s (flagsA js ups s id a b ka kb).2 :=
 (flagA_kp js ups s id ka a).trans (flagA_kp js ups _ id kb b)
theorem defaultsA_kp (s : RdSt) (id : Nat) (a b : Bool) : Kp s (defaultsA js ups s id a b).2 := by
 unfold defaultsA
 split
 · exact Kp.refl s
 · split
   · exact (isA_kp js s _ 6).trans (flagsA_kp js ups _ _ a b _ _)
   · exact isA_kp js s _ 6
theorem checkedA_kp (s : RdSt) (id : Nat) : Kp s (checkedA K js s id).2 := by
 unfold checkedA
 split
 · exact txtA_kp js s id
 · exact (txtA_kp js s id).trans (Kp.more _ _)
theorem patternA_kp (s : RdSt) (id : Nat) (key : ByteArray) : Kp s (patternA K js ups s id key).2 := by
 unfold patternA
 split
 · exact Kp.refl s
 · exact checkedA_kp K js s _
theorem itemsF_kp : ∀ (l : List Nat) (s : RdSt) (acc : List ItA), Kp s (itemsF K js l s acc).2
 | [], s, acc => Kp.refl s
 | m :: l, s, acc => by
   rw [itemsF]
   exact (checkedA_kp K js s m).trans (itemsF_kp l _ _)
theorem queryA_kp (s : RdSt) (id : Nat) (x : RuA) : Kp s (queryA K js ups s id x).2 := by
 unfold queryA
 split
 · exact Kp.refl s
 · split
   · exact checkedA_kp K js s _
   · exact itemsF_kp K js _ s _
theorem componentA_kp (s : RdSt) (id : Nat) (a b : Bool) : Kp s (componentA K js ups s id a b).2 := by
 unfold componentA
 split
 · dsimp only
   have h := fun (x : RuA) => (isA_kp js s id 6).trans ((patternA_kp K js ups (isA js s id 6).2 id kSl).trans ((queryA_kp K js ups (patternA K js ups (isA js s id 6).2 id kSl).2 id x).trans ((patternA_kp K js ups (queryA K js ups (patternA K js ups (isA js s id 6).2 id kSl).2 id x).2 id kHa).trans ((flagA_kp js ups (patternA K js ups (queryA K js ups (patternA K js ups (isA js s id 6).2 id kSl).2 id x).2 id kHa).2 id kExc false).trans (flagsA_kp js ups (flagA js ups (patternA K js ups (queryA K js ups (patternA K js ups (isA js s id 6).2 id kSl).2 id x).2 id kHa).2 id kExc false).2 id a b kCase kPct)))))
   split
   · exact h _
   · exact (h _).trans (txtA_kp js _ _)
 · exact isA_kp js s id 6
theorem appA_kp (s : RdSt) (t : ByteArray) (apps : List AppA) : Kp s (appA s t apps).2 := Kp.more s _
theorem appsF_kp : ∀ (l : List Nat) (s : RdSt) (acc : List AppA), Kp s (appsF js l s acc).2
 | [], s, acc => Kp.refl s
 | k :: l, s, acc => by
   rw [appsF]
   split
   · exact txtA_kp js s k
   · split
     · exact (txtA_kp js s k).trans (appA_kp _ (txtA js s k).1 acc)
     · exact ((txtA_kp js s k).trans (appA_kp _ (txtA js s k).1 acc)).trans (appsF_kp l _ _)
theorem appsL_kp (s : RdSt) (id : Nat) (apps : List AppA) : Kp s (appsL js ups s id apps).2 := by
 unfold appsL
 split
 · exact Kp.refl s
 · split
   · exact (isA_kp js s _ 5).trans (appsF_kp js _ _ _)
   · exact isA_kp js s _ 5
theorem appsO_kp (s : RdSt) (id : Nat) (apps : List AppA) : Kp s (appsO js ups s id apps).2 := by
 unfold appsO
 split
 · exact Kp.refl s
 · split
   · exact txtA_kp js s _
   · rename_i k _ _
     exact (txtA_kp js s k).trans (appA_kp _ (txtA js s k).1 apps)
theorem keyed_kp (s : RdSt) (key : ByteArray) (keyed : Bool) : Kp s (if keyed = true then appA s key [] else ([], s)).2 := by
 split
 · exact appA_kp s key []
 · exact Kp.refl s
theorem appsA_kp (s : RdSt) (id : Nat) (key : ByteArray) (keyed : Bool) : Kp s (appsA js ups s id key keyed).2 := by
 have h0 := keyed_kp s key keyed
 have h1 := appsL_kp js ups (if keyed = true then appA s key [] else ([], s)).2 id (if keyed = true then appA s key [] else ([], s)).1
 unfold appsA
 dsimp only
 split
 · rename_i heq
   rw [heq] at h1
   exact h0.trans h1
 · rename_i l s1 heq
   rw [heq] at h1
   exact (h0.trans h1).trans ((appsO_kp js ups s1 id l).trans (Kp.more _ _))
theorem compF_kp : ∀ (l : List Nat) (s : RdSt) (a b : Bool) (acc : List RuA), Kp s (compF K js ups l s a b acc).2
 | [], s, _, _, acc => Kp.refl s
 | m :: l, s, a, b, acc => by
   rw [compF]
   exact (componentA_kp K js ups s m a b).trans (compF_kp l _ a b _)
theorem pathF_kp : ∀ (l : List Nat) (s : RdSt) (acc : List RuA), Kp s (pathF K js l s acc).2
 | [], s, acc => Kp.refl s
 | k :: l, s, acc => by
   rw [pathF]
   split
   · exact txtA_kp js s k
   · split
     · exact (txtA_kp js s k).trans ⟨rfl, fun _ => rfl⟩
     · exact (txtA_kp js s k).trans (pathF_kp l _ _)
theorem fewA_kp (s : RdSt) (n most : Nat) : Kp s (fewA s n most).2 := Kp.more s _
theorem listA_kp (s : RdSt) (k most : Nat) : Kp s (listA js ups s k most).2 := by
 unfold listA
 split
 · exact (isA_kp js s k 5).trans (fewA_kp _ _ _)
 · exact isA_kp js s k 5
theorem rulesA_kp (s : RdSt) (id : Nat) (a b : Bool) : Kp s (rulesA K js ups s id a b).2 := by
 unfold rulesA
 split
 · split
   · exact (listA_kp js ups s _ 512).trans (compF_kp K js ups _ _ a b _)
   · exact listA_kp js ups s _ 512
 · split
   · exact Kp.refl s
   · split
     · exact (listA_kp js ups s _ 512).trans (pathF_kp K js _ _ _)
     · exact listA_kp js ups s _ 512
theorem detailA_kp (s : RdSt) (id : Nat) (key : ByteArray) (keyed a b : Bool) : Kp s (detailA K js ups s id key keyed a b).2 := by
 unfold detailA
 split
 · exact (isA_kp js s id 6).trans ((appsA_kp js ups _ id key keyed).trans ((defaultsA_kp js ups _ id a b).trans (rulesA_kp K js ups _ id _ _)))
 · exact isA_kp js s id 6
theorem detF_kp : ∀ (l : List Nat) (s : RdSt) (keyed a b : Bool) (acc : List DeA), Kp s (detF K js ups l s keyed a b acc).2
 | [], s, _, _, _, acc => Kp.refl s
 | m :: l, s, keyed, a, b, acc => by
   rw [detF]
   split
   · exact detailA_kp K js ups s m _ keyed a b
   · exact (detailA_kp K js ups s m _ keyed a b).trans (detF_kp l _ keyed a b _)
theorem detailsA_kp (s : RdSt) (id : Nat) (a b : Bool) : Kp s (detailsA K js ups s id a b).2 := by
 unfold detailsA
 split
 · exact Kp.refl s
 · split
   · split
     · exact (fewA_kp s _ 256).trans (detF_kp K js ups _ _ true a b _)
     · exact fewA_kp s _ 256
   · split
     · split
       · exact (fewA_kp s _ 256).trans (detF_kp K js ups _ _ false a b _)
       · exact fewA_kp s _ 256
     · exact ⟨rfl, fun _ => rfl⟩
theorem varF_kp : ∀ (l : List Nat) (s : RdSt), (s.bad = true → (varF K js ups l s).bad = true) ∧ ((varF K js ups l s).bad = false → (varF K js ups l s).vars.length = s.vars.length + l.length)
 | [], s => ⟨fun h => h, fun _ => rfl⟩
 | m :: l, s => by
   have h1 := textsA_kp js ups s m
   rw [varF]
   split
   · rename_i hb
     exact ⟨fun _ => hb, fun h => by rw [hb] at h; cases h⟩
   · rename_i hb
     have h2 := varF_kp l ⟨(textsA js ups s m).2.bad || !K.okVar ⟨keyA js m, (textsA js ups s m).1⟩, (textsA js ups s m).2.vars ++ [⟨keyA js m, (textsA js ups s m).1⟩]⟩
     refine ⟨fun hs => absurd (h1.bad hs) hb, fun h => ?_⟩
     rw [h2.2 h, List.length_append, h1.vars, List.length_cons]
     simp only [List.length_cons, List.length_nil]
     omega
theorem varsA_kp (s : RdSt) (id : Nat) (hv : s.vars = []) : (s.bad = true → (varsA K js ups s id).bad = true) ∧ ((varsA K js ups s id).bad = false → (varsA K js ups s id).vars.length ≤ 64) := by
 unfold varsA
 split
 · exact ⟨fun h => h, fun _ => by rw [hv]; exact Nat.zero_le _⟩
 · rename_i k _
   have h1 := isA_kp js s k 6
   split
   · have h2 := varF_kp K js ups (membersS js (kids ups k)) ⟨(isA js s k 6).2.bad || decide (64 < (membersS js (kids ups k)).length), (isA js s k 6).2.vars⟩
     refine ⟨fun hs => h2.1 (by rw [h1.bad hs]; rfl), fun h => ?_⟩
     rw [h2.2 h]
     have hb : ¬ 64 < (membersS js (kids ups k)).length := fun hc => by
      rw [h2.1 (by rw [decide_eq_true hc, Bool.or_true])] at h; cases h
     show (isA js s k 6).2.vars.length + _ ≤ 64
     rw [h1.vars, hv, List.length_nil]
     omega
   · exact ⟨h1.bad, fun _ => by rw [h1.vars, hv]; exact Nat.zero_le _⟩
/-- An app's name is whole. -/
def AppOk (a : AppA) : Prop := a.team.size = 10 ∧ a.bundle ≠ noB
/-- A rule's parts that are not there are empty. -/
structure RuleOk (x : RuA) : Prop where
 query : x.hasQuery = true → x.items = []
 path : x.hasPath = false → x.path = noB
 quer : x.hasQuery = false → x.query = noB
 frag : x.hasFrag = false → x.frag = noB
theorem appA_ok {s : RdSt} {t : ByteArray} {apps : List AppA} (hg : (appA s t apps).2.bad = false) (h : ∀ a ∈ apps, AppOk a) : (∀ a ∈ (appA s t apps).1, AppOk a) ∧ (appA s t apps).1 ≠ [] := by
 have hR : appR t = [] := by
  have h2 : (s.bad || decide (appR t ≠ [])) = false := hg
  rw [Bool.or_eq_false_iff] at h2
  exact Decidable.not_not.1 (of_decide_eq_false h2.2)
 have hz := appR_size hR
 refine ⟨fun a ha => ?_, by unfold appA; simp⟩
 rcases List.mem_append.1 ha with ha | ha
 · exact h a ha
 · rw [List.mem_singleton.1 ha]
   refine ⟨?_, fun e => ?_⟩
   · show (appTeam t).size = 10
     unfold appTeam
     rw [if_pos hR]
     simp
     omega
   · have e2 : (appBundle t).size = 0 := by
       show (AppA.mk (appTeam t) (appBundle t)).bundle.size = 0
       rw [e]; rfl
     unfold appBundle at e2
     rw [if_pos hR] at e2
     simp at e2
     omega
theorem appsF_ok : ∀ (l : List Nat) (s : RdSt) (acc : List AppA) (r : List AppA), (appsF js l s acc).1 = some r → (appsF js l s acc).2.bad = false → (∀ a ∈ acc, AppOk a) → ∀ a ∈ r, AppOk a
 | [], s, acc, r, h, _, ha => by rw [appsF] at h; cases h; exact ha
 | k :: l, s, acc, r, h, hg, ha => by
   rw [appsF] at h hg
   split at h
   · cases h; exact ha
   · rename_i h1
     rw [if_neg h1] at hg
     split at h
     · cases h
     · rename_i h2
       rw [if_neg h2] at hg
       exact appsF_ok l _ _ r h hg (appA_ok (by simpa using h2) ha).1
theorem appsA_ok {s : RdSt} {id : Nat} {key : ByteArray} {keyed : Bool} (hg : (appsA js ups s id key keyed).2.bad = false) : (appsA js ups s id key keyed).1 ≠ [] ∧ ∀ a ∈ (appsA js ups s id key keyed).1, AppOk a := by
 have k0 := keyed_kp s key keyed
 have ko : ∀ r : List AppA × RdSt, r = (if keyed = true then appA s key [] else ([], s)) → r.2.bad = false → ∀ a ∈ r.1, AppOk a := fun r hr hb a ha => by
  subst hr
  split at ha
  · rename_i hk
    rw [if_pos hk] at hb
    exact (appA_ok hb (fun a h => (by cases h))).1 a ha
  · cases ha
 unfold appsA at hg ⊢
 dsimp only at hg ⊢
 obtain ⟨r, hr⟩ : ∃ r, (if keyed = true then appA s key [] else ([], s)) = r := ⟨_, rfl⟩
 rw [hr] at hg ⊢
 have ko := ko r hr.symm
 have k1 := appsL_kp js ups r.2 id r.1
 cases hl : appsL js ups r.2 id r.1 with
 | mk o s1 =>
   rw [hl] at hg k1
   cases o with
   | none =>
     exfalso
     dsimp only at hg
     unfold appsL at hl
     split at hl
     · cases hl
     · split at hl
       · have hn : ∀ (l : List Nat) (s : RdSt) (acc : List AppA), (appsF js l s acc).1 = none → (appsF js l s acc).2.bad = true := by
           intro l
           induction l with
           | nil => intro s acc h; rw [appsF] at h; cases h
           | cons k l ih =>
             intro s acc h
             rw [appsF] at h ⊢
             split at h
             · cases h
             · rename_i h1
               rw [if_neg h1]
               split at h
               · rename_i h2; rw [if_pos h2]; exact h2
               · rename_i h2; rw [if_neg h2]; exact ih _ _ h
         have := hn _ _ _ (congrArg Prod.fst hl)
         rw [congrArg Prod.snd hl] at this
         dsimp only at this
         rw [this] at hg; cases hg
       · cases hl
   | some l =>
     dsimp only at hg ⊢
     rw [Bool.or_eq_false_iff] at hg
     have ho := (appsO_kp js ups s1 id l).good hg.1
     have hb : r.2.bad = false := k1.good ho
     have hlok : ∀ a ∈ l, AppOk a := by
      unfold appsL at hl
      split at hl
      · cases hl; exact ko hb
      · split at hl
        · exact appsF_ok js _ _ _ l (congrArg Prod.fst hl) (by rw [congrArg Prod.snd hl]; exact ho) (ko hb)
        · cases hl; exact ko hb
     refine ⟨fun e => ?_, ?_⟩
     · rw [e] at hg; cases hg.2
     · intro a ha
       have hob := hg.1
       unfold appsO at ha hob
       split at ha
       · exact hlok a ha
       · rename_i k hk
         rw [hk] at hob
         dsimp only at hob
         split at ha
         · exact hlok a ha
         · rename_i h1
           rw [if_neg h1] at hob
           exact (appA_ok hob hlok).1 a ha
theorem componentA_ok (s : RdSt) (id : Nat) (a b : Bool) : RuleOk (componentA K js ups s id a b).1 := by
 unfold componentA
 split
 · dsimp only
   have hp : ∀ (s : RdSt) (key : ByteArray), (patternA K js ups s id key).1.2 = false → (patternA K js ups s id key).1.1 = noB := fun s key h => by
    unfold patternA at h ⊢
    split at h
    · rfl
    · cases h
   have hq : ∀ (s : RdSt) (x : RuA), x.items = [] → x.hasQuery = false → x.query = noB → ((queryA K js ups s id x).1.hasQuery = true → (queryA K js ups s id x).1.items = []) ∧ ((queryA K js ups s id x).1.hasQuery = false → (queryA K js ups s id x).1.query = noB) ∧ (queryA K js ups s id x).1.path = x.path ∧ (queryA K js ups s id x).1.hasPath = x.hasPath := fun s x h1 h2 h3 => by
    unfold queryA
    split
    · exact ⟨fun _ => h1, fun _ => h3, rfl, rfl⟩
    · split
      · exact ⟨fun _ => h1, fun h => (by cases h), rfl, rfl⟩
      · exact ⟨fun h => (by rw [h2] at h; cases h), fun _ => h3, rfl, rfl⟩
   obtain ⟨q1, q2, q3, q4⟩ := hq (patternA K js ups (isA js s id 6).2 id kSl).2 { ru0 with path := (patternA K js ups (isA js s id 6).2 id kSl).1.1, hasPath := (patternA K js ups (isA js s id 6).2 id kSl).1.2 } rfl rfl rfl
   exact ⟨q1, fun h => q3.trans (hp _ _ (q4.symm.trans h)), q2, fun h => hp _ _ h⟩
 · exact ⟨fun _ => rfl, fun _ => rfl, fun _ => rfl, fun _ => rfl⟩
theorem legacyA_ok {t : ByteArray} {x : RuA} (h : legacyA K t = some x) : RuleOk x := by
 unfold legacyA at h
 split at h
 · cases h; exact ⟨fun _ => rfl, fun h => (by cases h), fun _ => rfl, fun _ => rfl⟩
 · cases h
theorem compF_ok : ∀ (l : List Nat) (s : RdSt) (a b : Bool) (acc : List RuA), (∀ x ∈ acc, RuleOk x) → (∀ x ∈ (compF K js ups l s a b acc).1, RuleOk x) ∧ (compF K js ups l s a b acc).1.length = acc.length + l.length
 | [], s, _, _, acc, h => ⟨h, rfl⟩
 | m :: l, s, a, b, acc, h => by
   rw [compF]
   have := compF_ok l (componentA K js ups s m a b).2 a b (acc ++ [(componentA K js ups s m a b).1]) (fun x hx => by
    rcases List.mem_append.1 hx with hx | hx
    · exact h x hx
    · rw [List.mem_singleton.1 hx]; exact componentA_ok K js ups s m a b)
   refine ⟨this.1, this.2.trans ?_⟩
   rw [List.length_append, List.length_cons, List.length_cons, List.length_nil]; omega
theorem pathF_ok : ∀ (l : List Nat) (s : RdSt) (acc : List RuA), (∀ x ∈ acc, RuleOk x) → (∀ x ∈ (pathF K js l s acc).1, RuleOk x) ∧ (pathF K js l s acc).1.length ≤ acc.length + l.length
 | [], s, acc, h => ⟨h, Nat.le_refl _⟩
 | k :: l, s, acc, h => by
   rw [pathF]
   split
   · exact ⟨h, Nat.le_add_right _ _⟩
   · split
     · exact ⟨fun x hx => (by cases hx), Nat.zero_le _⟩
     · rename_i x0 hx0
       have := pathF_ok l (txtA js s k).2 (acc ++ [x0]) (fun x hx => by
        rcases List.mem_append.1 hx with hx | hx
        · exact h x hx
        · rw [List.mem_singleton.1 hx]; exact legacyA_ok K hx0)
       refine ⟨this.1, Nat.le_trans this.2 ?_⟩
       rw [List.length_append, List.length_cons, List.length_cons, List.length_nil]; omega
theorem few_ok {s : RdSt} {n most : Nat} (h : (fewA s n most).1 = true) : n ≤ most := by
 unfold fewA at h
 simp at h
 omega
theorem list_ok {s : RdSt} {k most : Nat} (h : (listA js ups s k most).1 = true) : (kids ups k).length ≤ most := by
 unfold listA at h
 split at h
 · exact few_ok h
 · cases h
theorem rulesA_ok (s : RdSt) (id : Nat) (a b : Bool) : (∀ x ∈ (rulesA K js ups s id a b).1, RuleOk x) ∧ (rulesA K js ups s id a b).1.length ≤ 512 := by
 unfold rulesA
 split
 · split
   · rename_i h
     have := compF_ok K js ups (kids ups ‹Nat›) (listA js ups s ‹Nat› 512).2 a b [] (fun x hx => (by cases hx))
     exact ⟨this.1, by rw [this.2, List.length_nil, Nat.zero_add]; exact list_ok js ups h⟩
   · exact ⟨fun x hx => (by cases hx), Nat.zero_le _⟩
 · split
   · exact ⟨fun x hx => (by cases hx), Nat.zero_le _⟩
   · split
     · rename_i h
       have := pathF_ok K js (kids ups ‹Nat›) (listA js ups s ‹Nat› 512).2 [] (fun x hx => (by cases hx))
       refine ⟨this.1, Nat.le_trans this.2 ?_⟩
       rw [List.length_nil, Nat.zero_add]; exact list_ok js ups h
     · exact ⟨fun x hx => (by cases hx), Nat.zero_le _⟩
/-- A detail is as AasaOrder says. -/
structure DetOk (d : DeA) : Prop where
 some_ : d.apps ≠ []
 apps : ∀ a ∈ d.apps, AppOk a
 rules : ∀ x ∈ d.rules, RuleOk x
 few : d.rules.length ≤ 512
theorem detailA_ok {s : RdSt} {id : Nat} {key : ByteArray} {keyed a b : Bool} (hg : (detailA K js ups s id key keyed a b).2.bad = false) : DetOk (detailA K js ups s id key keyed a b).1 := by
 unfold detailA at hg ⊢
 split at hg
 · rename_i h
   rw [if_pos h]
   dsimp only at hg ⊢
   have hr := (rulesA_kp K js ups _ id _ _).good hg
   have hd := (defaultsA_kp js ups _ id a b).good hr
   have ha := appsA_ok js ups hd
   have hu := rulesA_ok K js ups (defaultsA js ups (appsA js ups (isA js s id 6).2 id key keyed).2 id a b).2 id (defaultsA js ups (appsA js ups (isA js s id 6).2 id key keyed).2 id a b).1.1 (defaultsA js ups (appsA js ups (isA js s id 6).2 id key keyed).2 id a b).1.2
   exact ⟨ha.1, ha.2, hu.1, hu.2⟩
 · rename_i h
   exfalso
   unfold isA at h hg
   dsimp only at h hg
   rw [hg] at h
   exact h rfl
theorem detF_ok : ∀ (l : List Nat) (s : RdSt) (keyed a b : Bool) (acc : List DeA), (∀ d ∈ acc, DetOk d) → (∀ d ∈ (detF K js ups l s keyed a b acc).1, DetOk d) ∧ (detF K js ups l s keyed a b acc).1.length ≤ acc.length + l.length
 | [], s, _, _, _, acc, h => ⟨h, Nat.le_refl _⟩
 | m :: l, s, keyed, a, b, acc, h => by
   rw [detF]
   split
   · exact ⟨fun x hx => (by cases hx), Nat.zero_le _⟩
   · rename_i hb
     have := detF_ok l (detailA K js ups s m (keyA js m) keyed a b).2 keyed a b (acc ++ [(detailA K js ups s m (keyA js m) keyed a b).1]) (fun x hx => by
      rcases List.mem_append.1 hx with hx | hx
      · exact h x hx
      · rw [List.mem_singleton.1 hx]; exact detailA_ok K js ups (by simpa using hb))
     refine ⟨this.1, Nat.le_trans this.2 ?_⟩
     rw [List.length_append, List.length_cons, List.length_cons, List.length_nil]; omega
theorem detailsA_ok (s : RdSt) (id : Nat) (a b : Bool) : (∀ d ∈ (detailsA K js ups s id a b).1, DetOk d) ∧ (detailsA K js ups s id a b).1.length ≤ 256 := by
 have nil : (∀ d ∈ ([] : List DeA), DetOk d) ∧ ([] : List DeA).length ≤ 256 := ⟨fun x hx => (by cases hx), Nat.zero_le _⟩
 unfold detailsA
 split
 · exact nil
 · split
   · split
     · rename_i h
       have := detF_ok K js ups (membersS js (kids ups ‹Nat›)) (fewA s (membersS js (kids ups ‹Nat›)).length 256).2 true a b [] (fun x hx => (by cases hx))
       exact ⟨this.1, Nat.le_trans this.2 (by rw [List.length_nil, Nat.zero_add]; exact few_ok h)⟩
     · exact nil
   · split
     · split
       · rename_i h
         have := detF_ok K js ups (kids ups ‹Nat›) (fewA s (kids ups ‹Nat›).length 256).2 false a b [] (fun x hx => (by cases hx))
         exact ⟨this.1, Nat.le_trans this.2 (by rw [List.length_nil, Nat.zero_add]; exact few_ok h)⟩
       · exact nil
     · exact nil
/-- What was read is as AasaOrder says. -/
theorem docA_ok {d : AsA} (h : docA K js ups = some d) : d.vars.length ≤ 64 ∧ d.details.length ≤ 256 ∧ ∀ x ∈ d.details, DetOk x := by
 unfold docA at h
 dsimp only at h
 split at h
 · split at h
   · cases h
   · split at h
     · rename_i k _ _
       obtain ⟨f, hf⟩ : ∃ f, defaultsA js ups (isA js (isA js ⟨false, []⟩ 0 6).2 k 6).2 k true true = f := ⟨_, rfl⟩
       rw [hf] at h
       split at h
       · cases h
       · rename_i hb
         cases h
         have hk := defaultsA_kp js ups (isA js (isA js ⟨false, []⟩ 0 6).2 k 6).2 k true true
         rw [hf] at hk
         have hv := varsA_kp K js ups f.2 k (hk.vars.trans rfl)
         have hd := detailsA_kp K js ups (varsA K js ups f.2 k) k f.1.1 f.1.2
         have hok := detailsA_ok K js ups (varsA K js ups f.2 k) k f.1.1 f.1.2
         refine ⟨?_, hok.2, hok.1⟩
         rw [show (detailsA K js ups (varsA K js ups f.2 k) k f.1.1 f.1.2).2.vars = _ from hd.vars]
         exact hv.2 (hd.good (by simpa using hb))
     · cases h
 · cases h
end
end Go.Proofs.YtcaiibkgajhohaaGreatDoor
