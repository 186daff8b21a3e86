/- Url0, Url1 in one text (a claim holds at most 60 files). -/
import Derived.Test.YtbeodjipdpcaiaaGreatDoorYDec0s
namespace Go.Proofs.YtbeodjipdpcaiaaGreatDoor
section
open Go.RowKit
/-- What was read, or the errors, one from the other. -/
inductive Ch (α : Type) where
 | ok (a : α)
 | er (l : List (Int × Int))
def letN (c : Nat) : Bool := decide (97 ≤ c ∧ c ≤ 122 ∨ 65 ≤ c ∧ c ≤ 90)
def schN (i c : Nat) : Bool := letN c || (decide (0 < i) && (decD c || decide (c = 43 ∨ c = 45 ∨ c = 46)))
def badS (n : List Nat) (i : Nat) : Bool := decide (64 ≤ i) || !(schN i (n[i]?.getD 0))
/-- What is wrong with a scheme: the error's number (0: nothing), its place. -/
def schE (n : List Nat) : Nat × Nat := match (List.range n.length).find? (badS n) with
 | some i => (if 64 ≤ i then 14 else 11, i)
 | none => if n = [] then (10, 0) else (0, 0)
def notIn (m : List Nat) (c : Nat) : Bool := !(m.contains c)
/-- What stands ahead of the first of some bytes, and what stands from there on. -/
def untilA (m l : List Nat) : List Nat := l.takeWhile (notIn m)
def untilB (m l : List Nat) : List Nat := l.dropWhile (notIn m)
theorem until_eq (m l : List Nat) : untilA m l ++ untilB m l = l := List.takeWhile_append_dropWhile
def schemeL (b : List Nat) : Ch (List Nat) := match schE (untilA [58] b) with
 | (0, _) => if untilB [58] b = [] then .er [(20, b.length)] else .ok ((untilA [58] b).map lowN)
 | (k + 1, p) => .er [(20, p), ((k + 1 : Nat), p)]
def httpL : List Nat := [104, 116, 116, 112]
def httpsL : List Nat := [104, 116, 116, 112, 115]
def webL (s : List Nat) : Bool := decide (s = httpL) || decide (s = httpsL)
def ownP (s : List Nat) : Int := if s = httpL then 80 else if s = httpsL then 443 else -1
structure UrlP where
 scheme : List Nat
 hk : Nat
 ht : List Nat
 port : Int
 path : List Nat
 query : List Nat
 frag : List Nat
 hasQ : Bool
 hasF : Bool
/-- The parts of a text behind its scheme, and where they begin. -/
structure UParts where
 hasA : Bool
 auth : List Nat
 path : List Nat
 hasQ : Bool
 query : List Nat
 hasF : Bool
 frag : List Nat
 authAt : Nat
 pathAt : Nat
 queryAt : Nat
 fragAt : Nat
def slash2 (r : List Nat) : Bool := decide (r.take 2 = [47, 47])
def rest1 (r : List Nat) : List Nat := if slash2 r = true then untilB [47, 63, 35] (r.drop 2) else r
def rest2 (r : List Nat) : List Nat := untilB [63, 35] (rest1 r)
def hasQR (r : List Nat) : Bool := decide ((rest2 r).head? = some 63)
def rest3 (r : List Nat) : List Nat := if hasQR r = true then untilB [35] ((rest2 r).drop 1) else rest2 r
def partsL (b : List Nat) (at_ : Nat) : UParts where
 hasA := slash2 (b.drop at_)
 auth := if slash2 (b.drop at_) = true then untilA [47, 63, 35] ((b.drop at_).drop 2) else []
 path := untilA [63, 35] (rest1 (b.drop at_))
 hasQ := hasQR (b.drop at_)
 query := if hasQR (b.drop at_) = true then untilA [35] ((rest2 (b.drop at_)).drop 1) else []
 hasF := decide (rest3 (b.drop at_) ≠ [])
 frag := (rest3 (b.drop at_)).drop 1
 authAt := if slash2 (b.drop at_) = true then at_ + 2 else 0
 pathAt := b.length - (rest1 (b.drop at_)).length
 queryAt := if hasQR (b.drop at_) = true then b.length - (rest2 (b.drop at_)).length + 1 else 0
 fragAt := if rest3 (b.drop at_) ≠ [] then b.length - (rest3 (b.drop at_)).length + 1 else 0
/-- The last place of a byte. -/
def lastI (c : Nat) : List Nat → Option Nat
 | [] => none
 | a :: l => match lastI c l with
   | some i => some (i + 1)
   | none => if a = c then some 0 else none
/-- The place of the mark ahead of a port. -/
def colonI (a : List Nat) : Option Nat := match lastI 58 a with
 | some i => if (a.drop i).contains 93 = true then none else some i
 | none => none
def nameA (a : List Nat) : List Nat := match colonI a with
 | some i => a.take i
 | none => a
def portA (a : List Nat) : List Nat := match colonI a with
 | some i => a.drop (i + 1)
 | none => []
def portI (a : List Nat) : Nat := match colonI a with
 | some i => i + 1
 | none => 0
/-- What a text of digits tells, at most 65535. -/
def portL (p : List Nat) : Sc Nat := numberF 10 65535 (bytesL p)
/-- Host and port of an authority. -/
def authL (sch a : List Nat) (at_ : Nat) : Ch ((Nat × List Nat) × Int) :=
 if a.contains 64 = true then .er [(21, (at_ + (untilA [64] a).length : Nat))]
 else match (if nameA a ≠ [] ∨ webL sch = true then canonL (nameA a) else .ok 0 []) with
  | .er l => .er ((22, (at_ : Nat)) :: l)
  | .ok k t => if portA a = [] then .ok ((k, t), ownP sch) else match portL (portA a) with
    | .no e p => .er [(23, (at_ + portI a : Nat)), (e, p)]
    | .ok n => .ok ((k, t), n)
/-- A byte that is unreserved. -/
def plainN (c : Nat) : Bool := decide (97 ≤ c ∧ c ≤ 122 ∨ 65 ≤ c ∧ c ≤ 90 ∨ 48 ≤ c ∧ c ≤ 57 ∨ c = 45 ∨ c = 46 ∨ c = 95 ∨ c = 126)
def HXN (d : Nat) : Nat := if d < 10 then 48 + d else 55 + d
def evL (x : Nat × Bool) : List Nat := if x.2 = true ∧ plainN x.1 = false then [37, HXN (x.1 / 16), HXN (x.1 % 16)] else [x.1]
def normL (ev : List (Nat × Bool)) : List Nat := ev.flatMap evL
def normalL (p : List Nat) (at_ : Nat) : Ch (List Nat) := match pctL p with
 | .no k i => .er [(11, (at_ : Int) + i), (k, i)]
 | .ok ev => .ok (normL ev)
def badB (b : List Nat) (i : Nat) : Bool := decide (b[i]?.getD 0 ≤ 32 ∨ b[i]?.getD 0 = 127)
/-- What is wrong with a text's bytes. -/
def checksL (b : List Nat) : Option (Int × Int) := if 8192 < b.length then some (14, 8192) else match charsS (bytesL b) 0 [] with
 | .no k p => some (k, p)
 | .ok _ => match (List.range b.length).find? (badB b) with
   | some i => some (11, i)
   | none => none
def pathOf (sch p : List Nat) : List Nat := if p = [] ∧ webL sch = true then [47] else p
def finishU (sch : List Nat) (p : UParts) (h : (Nat × List Nat) × Int) : Ch UrlP := match normalL p.path p.pathAt with
 | .er l => .er l
 | .ok pa => match normalL p.query p.queryAt with
   | .er l => .er l
   | .ok q => match normalL p.frag p.fragAt with
     | .er l => .er l
     | .ok f => .ok ⟨sch, h.1.1, h.1.2, h.2, pathOf sch pa, q, f, p.hasQ, p.hasF⟩
def hostU (sch : List Nat) (p : UParts) (at_ : Nat) : Ch ((Nat × List Nat) × Int) := if p.hasA = true then authL sch p.auth p.authAt else if webL sch = true then .er [(22, (at_ : Nat))] else .ok ((0, []), ownP sch)
def urlL (b : List Nat) : Ch UrlP := match checksL b with
 | some e => .er [e]
 | none => match schemeL b with
   | .er l => .er l
   | .ok sch => match hostU sch (partsL b ((untilA [58] b).length + 1)) ((untilA [58] b).length + 1) with
     | .er l => .er l
     | .ok h => finishU sch (partsL b ((untilA [58] b).length + 1)) h
def decI (n : Int) : List Nat := decN n.toNat
def whereL (u : UrlP) : List Nat := textH u.hk u.ht ++ (if 0 ≤ u.port ∧ u.port ≠ ownP u.scheme then 58 :: decI u.port else [])
def noHost (u : UrlP) : Bool := decide (u.hk = 0) && decide (u.ht = [])
def textU (u : UrlP) : List Nat := u.scheme ++ 58 :: ((if noHost u = false ∨ webL u.scheme = true then 47 :: 47 :: whereL u else []) ++ u.path ++ (if u.hasQ = true then 63 :: u.query else []) ++ (if u.hasF = true then 35 :: u.frag else []))
end
section
open Go.RowKit
theorem HX_facts : ∀ d : Fin 16, digV (HXN d.val) = d.val ∧ hexD (HXN d.val) = true := by decide
theorem HX_dig {d : Nat} (h : d < 16) : digV (HXN d) = d := (HX_facts ⟨d, h⟩).1
theorem HX_hex {d : Nat} (h : d < 16) : hexD (HXN d) = true := (HX_facts ⟨d, h⟩).2
def EvOk (x : Nat × Bool) : Prop := x.1 < 256 ∧ (x.2 = false → x.1 ≠ 37)
theorem pctF_ev : ∀ (f : Nat) (l : List Nat) (i : Nat) (acc r : List (Nat × Bool)), ByteL l → pctF f l i acc = .ok r → l.length ≤ f → ∃ ev, r = acc ++ ev ∧ (∀ x ∈ ev, EvOk x ∧ (x.2 = false → x.1 ∈ l)) ∧ ev.length ≤ l.length
 | 0, l, i, acc, r, _, h, hl => ⟨[], by rw [pctF] at h; rw [← Sc.ok.inj h, List.append_nil], fun x hx => by simp at hx, Nat.zero_le _⟩
 | f + 1, [], i, acc, r, _, h, hl => ⟨[], by rw [pctF] at h; rw [← Sc.ok.inj h, List.append_nil], fun x hx => by simp at hx, Nat.zero_le _⟩
 | f + 1, c :: l, i, acc, r, hb, h, hl => by
   rw [List.length_cons] at hl
   rw [pctF] at h
   split at h
   · split at h
     · cases h
     · rename_i v hv
       obtain ⟨ev, h1, h2, h3⟩ := pctF_ev f _ _ _ r (fun x hx => hb x (List.mem_cons_of_mem _ (List.mem_of_mem_drop hx))) h (by rw [List.length_drop]; omega)
       refine ⟨(v, true) :: ev, by rw [h1]; simp, fun x hx => ?_, by rw [List.length_drop] at h3; simp; omega⟩
       rcases List.mem_cons.1 hx with rfl | hx
       · exact ⟨⟨escV_lt hv, by simp⟩, by simp⟩
       · have := h2 x hx
         exact ⟨this.1, fun hf => List.mem_cons_of_mem _ (List.mem_of_mem_drop (this.2 hf))⟩
   · rename_i hc
     obtain ⟨ev, h1, h2, h3⟩ := pctF_ev f _ _ _ r (fun x hx => hb x (List.mem_cons_of_mem _ hx)) h (by omega)
     refine ⟨(c, false) :: ev, by rw [h1]; simp, fun x hx => ?_, by simp; omega⟩
     rcases List.mem_cons.1 hx with rfl | hx
     · exact ⟨⟨hb c (by simp), fun _ => hc⟩, fun _ => by simp⟩
     · have := h2 x hx
       exact ⟨this.1, fun hf => List.mem_cons_of_mem _ (this.2 hf)⟩
theorem pct_ev {p : List Nat} {ev : List (Nat × Bool)} (hb : ByteL p) (h : pctL p = .ok ev) : (∀ x ∈ ev, EvOk x ∧ (x.2 = false → x.1 ∈ p)) ∧ ev.length ≤ p.length := by
 obtain ⟨ev', h1, h2, h3⟩ := pctF_ev _ _ _ _ _ hb h (Nat.le_refl _)
 rw [List.nil_append] at h1
 subst h1
 exact ⟨h2, h3⟩
def nrmE (x : Nat × Bool) : Nat × Bool := if x.2 = true ∧ plainN x.1 = false then (x.1, true) else (x.1, false)
theorem evL_nrm (x : Nat × Bool) : evL (nrmE x) = evL x := by
 unfold evL nrmE
 by_cases h : x.2 = true ∧ plainN x.1 = false
 · rw [if_pos h, if_pos h, if_pos ⟨rfl, h.2⟩]
 · rw [if_neg h, if_neg h, if_neg (by simp)]
theorem pct_again : ∀ (ev : List (Nat × Bool)) (i : Nat) (acc : List (Nat × Bool)), (∀ x ∈ ev, EvOk x) → pctG (normL ev) i acc = .ok (acc ++ ev.map nrmE)
 | [], i, acc, _ => by
   show pctG [] i acc = _
   rw [pctG_nil]; simp
 | x :: ev, i, acc, h => by
   have hx := h x (by simp)
   have ih := fun i acc => pct_again ev i acc (fun y hy => h y (by simp [hy]))
   show pctG (evL x ++ normL ev) i acc = _
   by_cases hc : x.2 = true ∧ plainN x.1 = false
   · have e : evL x = [37, HXN (x.1 / 16), HXN (x.1 % 16)] := by unfold evL; rw [if_pos hc]
     have h1 : x.1 / 16 < 16 := by have := hx.1; omega
     have h2 : x.1 % 16 < 16 := Nat.mod_lt _ (by decide)
     rw [e]
     show pctG (37 :: (HXN (x.1 / 16) :: HXN (x.1 % 16) :: normL ev)) i acc = _
     rw [pctG_esc (v := x.1) (by
      rw [escV, if_pos ⟨HX_hex h1, HX_hex h2⟩, HX_dig h1, HX_dig h2]
      congr 1; omega)]
     show pctG (normL ev) _ _ = _
     rw [ih, List.map_cons]
     have e2 : nrmE x = (x.1, true) := by unfold nrmE; rw [if_pos hc]
     rw [e2]; simp
   · have e : evL x = [x.1] := by unfold evL; rw [if_neg hc]
     have h37 : x.1 ≠ 37 := by
      by_cases hf : x.2 = false
      · exact hx.2 hf
      · have ht : x.2 = true := by simpa using hf
        intro e37
        exact hc ⟨ht, by rw [e37]; decide⟩
     rw [e, List.singleton_append, pctG_plain h37, ih, List.map_cons]
     have e2 : nrmE x = (x.1, false) := by unfold nrmE; rw [if_neg hc]
     rw [e2]; simp
theorem normL_nrm (ev : List (Nat × Bool)) : normL (ev.map nrmE) = normL ev := by
 unfold normL
 rw [List.flatMap_map]
 congr 1
 funext x
 exact evL_nrm x
/-- The normal form of a part is its own. -/
theorem norm_again {p : List Nat} {ev : List (Nat × Bool)} {at_ : Nat} (hb : ByteL p) (h : pctL p = .ok ev) : normalL (normL ev) at_ = .ok (normL ev) := by
 unfold normalL pctL
 rw [pct_again ev 0 [] (fun x hx => ((pct_ev hb h).1 x hx).1)]
 simp only [List.nil_append]
 rw [normL_nrm]
theorem plain_ne {c : Nat} (h : plainN c = true) : 32 < c ∧ c < 127 ∧ c ≠ 47 ∧ c ≠ 63 ∧ c ≠ 35 ∧ c ≠ 37 := by unfold plainN at h; simp at h; omega
theorem HXN_le {d : Nat} (h : d < 16) : (48 ≤ HXN d ∧ HXN d ≤ 57) ∨ (65 ≤ HXN d ∧ HXN d ≤ 70) := by unfold HXN; split <;> omega
/-- Which bytes a normal form has. -/
theorem norm_mem {p : List Nat} {ev : List (Nat × Bool)} (hb : ByteL p) (h : pctL p = .ok ev) : ∀ c ∈ normL ev, c ∈ p ∨ (32 < c ∧ c < 127 ∧ c ≠ 47 ∧ c ≠ 63 ∧ c ≠ 35) := fun c hc => by
 obtain ⟨x, hx, hcx⟩ := List.mem_flatMap.1 hc
 obtain ⟨h1, h2⟩ := (pct_ev hb h).1 x hx
 unfold evL at hcx
 split at hcx
 · rename_i hh
   have q1 := HXN_le (d := x.1 / 16) (by have := h1.1; omega)
   have q2 := HXN_le (d := x.1 % 16) (Nat.mod_lt _ (by decide))
   simp at hcx
   rcases hcx with rfl | rfl | rfl
   · exact .inr (by omega)
   · exact .inr (by omega)
   · exact .inr (by omega)
 · rename_i hh
   rw [List.mem_singleton.1 hcx]
   by_cases hf : x.2 = false
   · exact .inl (h2 hf)
   · have ht : x.2 = true := by simpa using hf
     have hp : plainN x.1 = true := by
      cases hq : plainN x.1 with
      | true => rfl
      | false => exact absurd ⟨ht, hq⟩ hh
     have := plain_ne hp
     exact .inr (by omega)
/-- A text that is characters' bytes. -/
def ValidL (b : List Nat) : Prop := ∃ cs, AllRight cs ∧ cs.flatMap putN = b
theorem valid_iff {b : List Nat} (hb : ByteL b) : (∃ cs, charsS (bytesL b) 0 [] = .ok cs) ↔ ValidL b := by
 constructor
 · rintro ⟨cs, h⟩
   exact ⟨cs, charsL_ok hb h⟩
 · rintro ⟨cs, h1, rfl⟩
   exact ⟨cs, charsL_puts h1⟩
theorem ValidL.append {a b : List Nat} (ha : ValidL a) (hb : ValidL b) : ValidL (a ++ b) := by
 obtain ⟨x, h1, rfl⟩ := ha
 obtain ⟨y, h2, rfl⟩ := hb
 refine ⟨x ++ y, fun c hc => ?_, List.flatMap_append⟩
 rcases List.mem_append.1 hc with hc | hc
 · exact h1 c hc
 · exact h2 c hc
theorem valid_small {l : List Nat} (h : ∀ x ∈ l, x < 128) : ValidL l := ⟨l, fun c hc => right_small (h c hc), flat_small h⟩
theorem valid_split : ∀ (cs : List Nat) (x y : List Nat) (c : Nat), AllRight cs → c < 128 → cs.flatMap putN = x ++ c :: y → ValidL x ∧ ValidL y
 | [], x, y, c, _, _, h => by simp at h
 | d :: cs, x, y, c, ha, hc, h => by
   rw [List.flatMap_cons] at h
   have ha' : AllRight cs := fun e he => ha e (by simp [he])
   by_cases hd : d < 128
   · rw [putN_small hd, List.singleton_append] at h
     cases x with
     | nil =>
       rw [List.nil_append] at h
       injection h with h1 h2
       exact ⟨valid_small (by simp), ⟨cs, ha', h2⟩⟩
     | cons e x =>
       rw [List.cons_append] at h
       injection h with h1 h2
       obtain ⟨i1, i2⟩ := valid_split cs x y c ha' hc h2
       subst h1
       exact ⟨(valid_small (l := [d]) (by simpa using hd)).append i1, i2⟩
   · have hw := putN_wide hd
     have hle : (putN d).length ≤ x.length := by
      refine Nat.le_of_not_lt (fun hlt => ?_)
      have h1 : (putN d ++ cs.flatMap putN)[x.length]? = some c := by rw [h, List.getElem?_append_right (Nat.le_refl _)]; simp
      rw [List.getElem?_append_left hlt] at h1
      have := hw c (List.mem_of_getElem? h1)
      omega
     obtain ⟨z, hz⟩ : ∃ z, x = putN d ++ z := by
      refine ⟨x.drop (putN d).length, ?_⟩
      have h1 := congrArg (List.take (putN d).length) h
      rw [List.take_left, List.take_append_of_le_length hle] at h1
      have h2 := List.take_append_drop (putN d).length x
      rw [← h1] at h2
      exact h2.symm
     subst hz
     rw [List.append_assoc] at h
     obtain ⟨i1, i2⟩ := valid_split cs z y c ha' hc (List.append_cancel_left h)
     exact ⟨ValidL.append ⟨[d], fun e he => by rw [List.mem_singleton.1 he]; exact ha d (by simp), by simp⟩ i1, i2⟩
theorem ValidL.cut {x y : List Nat} {c : Nat} (h : ValidL (x ++ c :: y)) (hc : c < 128) : ValidL x ∧ ValidL y := by
 obtain ⟨cs, h1, h2⟩ := h
 exact valid_split cs x y c h1 hc h2
theorem valid_cons {c : Nat} {l : List Nat} (hc : c < 128) (h : ValidL l) : ValidL (c :: l) := (valid_small (l := [c]) (by simpa using hc)).append h
theorem normL_append (a b : List (Nat × Bool)) : normL (a ++ b) = normL a ++ normL b := List.flatMap_append
theorem normL_raw (l : List Nat) : normL (l.map fun c => (c, false)) = l := by
 unfold normL
 rw [List.flatMap_map]
 have : (fun x => evL (x, false)) = fun x => [x] := by funext x; unfold evL; rw [if_neg (by simp)]
 rw [this]
 induction l with
 | nil => rfl
 | cons a l ih => rw [List.flatMap_cons, ih]; rfl
theorem split37 : ∀ (p : List Nat), (∀ c ∈ p, c ≠ 37) ∨ ∃ a r, p = a ++ 37 :: r ∧ ∀ c ∈ a, c ≠ 37
 | [] => .inl (by simp)
 | c :: p => by
   by_cases h : c = 37
   · subst h; exact .inr ⟨[], p, rfl, by simp⟩
   · rcases split37 p with h1 | ⟨a, r, rfl, h1⟩
     · exact .inl (fun d hd => by rcases List.mem_cons.1 hd with rfl | hd; exact h; exact h1 d hd)
     · exact .inr ⟨c :: a, r, rfl, fun d hd => by rcases List.mem_cons.1 hd with rfl | hd; exact h; exact h1 d hd⟩
theorem norm_valid : ∀ (n : Nat) (p : List Nat) (i : Nat) (acc r : List (Nat × Bool)), p.length ≤ n → ValidL p → pctG p i acc = .ok r → ∃ ev, r = acc ++ ev ∧ ValidL (normL ev) := by
 intro n
 induction n with
 | zero =>
   intro p i acc r hl _ h
   obtain rfl := List.eq_nil_of_length_eq_zero (show p.length = 0 by omega)
   rw [pctG_nil] at h
   exact ⟨[], by rw [← Sc.ok.inj h, List.append_nil], valid_small (by simp [normL])⟩
 | succ n ih =>
   intro p i acc r hl hv h
   rcases split37 p with h1 | ⟨a, t, rfl, h1⟩
   · rw [pctG_free _ _ _ h1] at h
     exact ⟨_, (Sc.ok.inj h).symm, by rw [normL_raw]; exact hv⟩
   · rw [pctG_app _ _ _ _ h1] at h
     obtain ⟨v1, v2⟩ := hv.cut (by decide)
     cases he : escV t with
     | none => rw [pctG_bad he] at h; cases h
     | some v =>
       rw [pctG_esc he] at h
       match t, he, h, v2, hl with
       | x :: y :: t, he, h, v2, hl =>
         have hvv := escV_lt he
         rw [escV] at he
         split at he
         · rename_i hh
           have hx := hexD_ne hh.1; have hy := hexD_ne hh.2
           obtain ⟨_, w1⟩ := ValidL.cut (x := []) (y := y :: t) (c := x) v2 hx.2.1
           obtain ⟨_, w2⟩ := ValidL.cut (x := []) (y := t) (c := y) w1 hy.2.1
           obtain ⟨ev, e1, e2⟩ := ih t _ _ r (by simp at hl; omega) w2 h
           refine ⟨a.map (fun c => (c, false)) ++ (v, true) :: ev, by rw [e1]; simp, ?_⟩
           rw [normL_append, normL_raw]
           refine v1.append ?_
           show ValidL (evL (v, true) ++ normL ev)
           refine ValidL.append (valid_small (fun c hc => ?_)) e2
           unfold evL at hc
           split at hc
           · have q1 := HXN_le (d := v / 16) (by omega)
             have q2 := HXN_le (d := v % 16) (Nat.mod_lt _ (by decide))
             simp at hc
             rcases hc with rfl | rfl | rfl <;> omega
           · rename_i hn
             have hp : plainN v = true := by
              cases hq : plainN v with
              | true => rfl
              | false => exact absurd ⟨rfl, hq⟩ hn
             have := plain_ne hp
             rw [List.mem_singleton.1 hc]; show v < 128; omega
         · cases he
theorem norm_val {p : List Nat} {ev : List (Nat × Bool)} (hv : ValidL p) (h : pctL p = .ok ev) : ValidL (normL ev) := by
 obtain ⟨ev', h1, h2⟩ := norm_valid _ _ _ _ _ (Nat.le_refl _) hv h
 rw [List.nil_append] at h1
 subst h1
 exact h2
section
variable {m : List Nat}
theorem until_free {a : List Nat} (h : ∀ c ∈ a, m.contains c = false) : untilA m a = a ∧ untilB m a = [] := by
 have h' : ∀ c ∈ a, notIn m c = true := fun c hc => by unfold notIn; rw [h c hc]; rfl
 have h1 : a.takeWhile (notIn m) = a := by
  have := List.takeWhile_append_of_pos (l₂ := []) h'
  simpa using this
 have h2 : a.dropWhile (notIn m) = [] := by
  have := List.dropWhile_append_of_pos (l₂ := []) h'
  simpa using this
 exact ⟨h1, h2⟩
theorem until_hit {a r : List Nat} {c : Nat} (h : ∀ c ∈ a, m.contains c = false) (hc : m.contains c = true) : untilA m (a ++ c :: r) = a ∧ untilB m (a ++ c :: r) = c :: r := by
 have h' : ∀ c ∈ a, notIn m c = true := fun c hc => by unfold notIn; rw [h c hc]; rfl
 have hn : notIn m c = false := by unfold notIn; rw [hc]; rfl
 unfold untilA untilB
 constructor
 · rw [List.takeWhile_append_of_pos h', List.takeWhile_cons, hn]; simp
 · rw [List.dropWhile_append_of_pos h', List.dropWhile_cons, hn]; simp
theorem until_all (m : List Nat) : ∀ (l : List Nat), ∀ c ∈ untilA m l, m.contains c = false
 | [], c, hc => by simp [untilA] at hc
 | a :: l, c, hc => by
   unfold untilA at hc
   rw [List.takeWhile_cons] at hc
   split at hc
   · rename_i hn
     rcases List.mem_cons.1 hc with rfl | hc
     · unfold notIn at hn; simpa using hn
     · exact until_all m l c hc
   · simp at hc
theorem untilB_head (m l : List Nat) : untilB m l = [] ∨ ∃ c r, untilB m l = c :: r ∧ m.contains c = true := by
 cases h : untilB m l with
 | nil => exact .inl rfl
 | cons c r =>
   refine .inr ⟨c, r, rfl, ?_⟩
   have : ∀ l : List Nat, ∀ c r, l.dropWhile (notIn m) = c :: r → notIn m c = false := by
    intro l
    induction l with
    | nil => intro c r h; simp at h
    | cons a l ih =>
      intro c r h
      rw [List.dropWhile_cons] at h
      split at h
      · exact ih c r h
      · rename_i hn
        injection h with h1 h2
        rw [← h1]; simpa using hn
   have := this l c r h
   unfold notIn at this
   simpa using this
end
end
end Go.Proofs.YtbeodjipdpcaiaaGreatDoor
