/- Url2, Url3 in one text (a claim holds at most 60 files). -/
import Derived.Test.YtbeodjipdpcaiaaGreatDoorYUrl0s
import Derived.Test.YtbeodjipdpcaiaaGreatDoorYDec4f
namespace Go.Proofs.YtbeodjipdpcaiaaGreatDoor
section
open Go.RowKit
def Good (x : List Nat) : Prop := ValidL x ∧ ∀ c ∈ x, 32 < c ∧ c ≠ 127 ∧ c < 256
theorem good_nil : Good [] := ⟨valid_small (by simp), by simp⟩
theorem Good.append {a b : List Nat} (ha : Good a) (hb : Good b) : Good (a ++ b) := ⟨ha.1.append hb.1, fun c hc => by
 rcases List.mem_append.1 hc with hc | hc
 · exact ha.2 c hc
 · exact hb.2 c hc⟩
theorem good_small {l : List Nat} (h : ∀ c ∈ l, 32 < c ∧ c < 127) : Good l := ⟨valid_small (fun c hc => by have := h c hc; omega), fun c hc => by have := h c hc; omega⟩
theorem good_cons {c : Nat} {l : List Nat} (h : 32 < c ∧ c < 127) (hl : Good l) : Good (c :: l) := (good_small (l := [c]) (by simpa using h)).append hl
theorem Good.cut {x y : List Nat} {c : Nat} (h : Good (x ++ c :: y)) (hc : c < 128) : Good x ∧ Good y := by
 obtain ⟨v1, v2⟩ := h.1.cut hc
 exact ⟨⟨v1, fun d hd => h.2 d (by simp [hd])⟩, ⟨v2, fun d hd => h.2 d (by simp [hd])⟩⟩
theorem Good.until {m l : List Nat} (hm : ∀ c ∈ m, c < 128) (h : Good l) : Good (untilA m l) ∧ Good (untilB m l) := by
 have e := until_eq m l
 rcases untilB_head m l with h1 | ⟨c, r, h1, h2⟩
 · rw [h1, List.append_nil] at e
   rw [e, h1]
   exact ⟨h, good_nil⟩
 · have hc := hm c (List.contains_iff_mem.1 h2)
   rw [h1] at e ⊢
   have h3 := h
   rw [← e] at h3
   obtain ⟨g1, g2⟩ := h3.cut hc
   exact ⟨g1, ⟨valid_cons hc g2.1, fun d hd => h.2 d (by rw [← e]; exact List.mem_append_right _ hd)⟩⟩
theorem Good.byte {l : List Nat} (h : Good l) : ByteL l := fun c hc => (h.2 c hc).2.2
theorem good_checks {b : List Nat} (hb : ByteL b) (h : checksL b = none) : b.length ≤ 8192 ∧ Good b := by
 unfold checksL at h
 split at h
 · cases h
 · split at h
   · cases h
   · rename_i cs hcs
     split at h
     · cases h
     · rename_i hf
       refine ⟨by omega, (valid_iff hb).1 ⟨cs, hcs⟩, fun c hc => ?_⟩
       obtain ⟨i, hi, rfl⟩ := List.mem_iff_getElem.1 hc
       have := find_none hf i hi
       unfold badB at this
       rw [List.getElem?_eq_getElem hi] at this
       have h256 := hb _ (List.getElem_mem hi)
       have := of_decide_eq_false this
       simp at this
       omega
theorem checks_good {b : List Nat} (hl : b.length ≤ 8192) (h : Good b) : checksL b = none := by
 obtain ⟨cs, hcs⟩ := (valid_iff h.byte).2 h.1
 unfold checksL
 rw [if_neg (by omega), hcs]
 simp only
 rw [find_no (fun i hi => by
  unfold badB
  rw [List.getElem?_eq_getElem hi]
  have := h.2 _ (List.getElem_mem hi)
  exact decide_eq_false (by simp; omega))]
/-- A part in its normal form. -/
structure NormOk (x : List Nat) : Prop where
 good : Good x
 again : ∀ at_, normalL x at_ = .ok x
theorem norm_ok {p x : List Nat} {at_ : Nat} (hg : Good p) (h : normalL p at_ = .ok x) : NormOk x ∧ (∀ c ∈ x, c ∈ p ∨ (c ≠ 47 ∧ c ≠ 63 ∧ c ≠ 35)) ∧ (p = [] → x = []) ∧ (∀ q, p = 47 :: q → ∃ y, x = 47 :: y) := by
 unfold normalL at h
 split at h
 · cases h
 · rename_i ev hev
   injection h with h
   subst h
   have hb := hg.byte
   have hm := norm_mem hb hev
   refine ⟨⟨⟨norm_val hg.1 hev, fun c hc => ?_⟩, fun at_ => norm_again hb hev⟩, fun c hc => (hm c hc).imp id (fun h => h.2.2), fun e => ?_, fun q e => ?_⟩
   · rcases hm c hc with h | h
     · exact hg.2 c h
     · omega
   · subst e
     have := Sc.ok.inj hev
     rw [← this]; rfl
   · subst e
     unfold pctL at hev
     rw [pctG_plain (by decide)] at hev
     obtain ⟨ev', h1, _⟩ := pctF_ev _ _ _ _ _ (fun x hx => hb x (by simp [hx])) hev (Nat.le_refl _)
     rw [h1, normL_append]
     exact ⟨_, rfl⟩
theorem letN_low {c : Nat} : letN (lowN c) = letN c := by
 unfold letN lowN
 split
 · rw [decide_eq_true (by omega), decide_eq_true (by omega)]
 · rfl
theorem schN_low (i c : Nat) : schN i (lowN c) = schN i c := by
 unfold schN
 rw [letN_low]
 unfold lowN
 split
 · rename_i h
   have : letN c = true := by unfold letN; exact decide_eq_true (by omega)
   rw [this]; rfl
 · rfl
/-- A scheme in its canonical form. -/
structure SchOk (s : List Nat) : Prop where
 right : schE s = (0, 0)
 low : s.map lowN = s
theorem schE_zero {n : List Nat} {p : Nat} (h : schE n = (0, p)) : n ≠ [] ∧ (∀ i, i < n.length → i < 64 ∧ schN i (n[i]?.getD 0) = true) := by
 unfold schE at h
 split at h
 · split at h <;> simp at h
 · rename_i hf
   split at h
   · simp at h
   · rename_i h0
     refine ⟨h0, fun i hi => ?_⟩
     have := find_none hf i hi
     unfold badS at this
     rw [Bool.or_eq_false_iff] at this
     exact ⟨by have := of_decide_eq_false this.1; omega, by simpa using this.2⟩
theorem schE_of {n : List Nat} (h0 : n ≠ []) (h : ∀ i, i < n.length → i < 64 ∧ schN i (n[i]?.getD 0) = true) : schE n = (0, 0) := by
 unfold schE
 rw [find_no (fun i hi => by
  unfold badS
  have := h i hi
  rw [this.2, decide_eq_false (by omega)]; rfl)]
 simp only
 rw [if_neg h0]
theorem lowN_low (c : Nat) : lowN (lowN c) = lowN c := by
 unfold lowN
 by_cases h : 65 ≤ c ∧ c ≤ 90
 · rw [if_pos h, if_neg (by omega)]
 · rw [if_neg h, if_neg h]
theorem sch_low {n : List Nat} {p : Nat} (h : schE n = (0, p)) : SchOk (n.map lowN) := by
 obtain ⟨h0, h1⟩ := schE_zero h
 refine ⟨schE_of (by simpa using h0) (fun i hi => ?_), ?_⟩
 · rw [List.length_map] at hi
   refine ⟨(h1 i hi).1, ?_⟩
   rw [List.getElem?_map, List.getElem?_eq_getElem hi]
   have := (h1 i hi).2
   rw [List.getElem?_eq_getElem hi] at this
   show schN i (lowN n[i]) = true
   rw [schN_low]; exact this
 · rw [List.map_map]
   exact List.map_congr_left (fun c _ => lowN_low c)
theorem schN_le {i c : Nat} (h : schN i c = true) : 32 < c ∧ c < 127 ∧ c ≠ 58 := by
 unfold schN letN decD at h
 rw [Bool.or_eq_true, Bool.and_eq_true, Bool.or_eq_true] at h
 simp only [decide_eq_true_eq] at h
 omega
theorem SchOk.bytes {s : List Nat} (h : SchOk s) : ∀ c ∈ s, 32 < c ∧ c < 127 ∧ c ≠ 58 := fun c hc => by
 obtain ⟨i, hi, rfl⟩ := List.mem_iff_getElem.1 hc
 have := ((schE_zero h.right).2 i hi).2
 rw [List.getElem?_eq_getElem hi] at this
 exact schN_le this
/-- What a URL that was read is. -/
structure UrlOk (u : UrlP) : Prop where
 sch : SchOk u.scheme
 path : NormOk u.path
 query : NormOk u.query
 frag : NormOk u.frag
 pathN : ∀ c ∈ u.path, c ≠ 63 ∧ c ≠ 35
 queryN : ∀ c ∈ u.query, c ≠ 35
 noQ : u.hasQ = false → u.query = []
 noF : u.hasF = false → u.frag = []
 host : (u.hk = 0 ∧ u.ht = []) ∨ (HostOk u.hk u.ht ∧ (u.path = [] ∨ ∃ q, u.path = 47 :: q))
 web : webL u.scheme = true → u.path ≠ [] ∧ HostOk u.hk u.ht
 port : u.port = ownP u.scheme ∨ (0 ≤ u.port ∧ u.port ≤ 65535)
theorem host_pos {k : Nat} {t : List Nat} (h : HostOk k t) : k ≠ 0 := by cases h <;> decide
theorem portL_le {p : List Nat} {n : Nat} (h : portL p = .ok n) : n ≤ 65535 := by
 unfold portL numberF at h
 split at h
 · cases h
 · split at h
   · cases h
   · split at h
     · cases h
     · have := Sc.ok.inj h; omega
theorem auth_ok {sch a : List Nat} {at_ : Nat} {k : Nat} {t : List Nat} {port : Int} (h : authL sch a at_ = .ok ((k, t), port)) : ((k = 0 ∧ t = [] ∧ webL sch = false) ∨ HostOk k t) ∧ (port = ownP sch ∨ (0 ≤ port ∧ port ≤ 65535)) := by
 unfold authL at h
 split at h
 · cases h
 · split at h
   · cases h
   · rename_i k' t' hc
     have hh : (k' = 0 ∧ t' = [] ∧ webL sch = false) ∨ HostOk k' t' := by
      split at hc
      · exact .inr (canon_ok hc)
      · rename_i hn
        injection hc with h1 h2
        exact .inl ⟨h1.symm, h2.symm, by
         cases hw : webL sch with
         | false => rfl
         | true => exact absurd (.inr hw) hn⟩
     split at h
     · injection h with h
       injection h with h1 h2
       injection h1 with h1 h3
       subst h1; subst h2; subst h3
       exact ⟨hh, .inl rfl⟩
     · split at h
       · cases h
       · rename_i n hn
         injection h with h
         injection h with h1 h2
         injection h1 with h1 h3
         subst h1; subst h2; subst h3
         have := portL_le hn
         exact ⟨hh, .inr ⟨by omega, by omega⟩⟩
theorem three47 : ∀ c ∈ [47, 63, 35], c < 128 := by decide
theorem two63 : ∀ c ∈ [63, 35], c < 128 := by decide
theorem one35 : ∀ c ∈ [35], c < 128 := by decide
theorem slash2_iff {r : List Nat} : slash2 r = true ↔ ∃ q, r = 47 :: 47 :: q := by
 unfold slash2
 rw [decide_eq_true_eq]
 constructor
 · intro h
   match r, h with
   | a :: b :: q, h => simp at h; exact ⟨q, by rw [h.1, h.2]⟩
   | [a], h => simp at h
   | [], h => simp at h
 · rintro ⟨q, rfl⟩; rfl
theorem url_ok {b : List Nat} {u : UrlP} (hb : ByteL b) (h : urlL b = .ok u) : UrlOk u := by
 unfold urlL at h
 split at h
 · cases h
 · rename_i hck
   obtain ⟨_, hg⟩ := good_checks hb hck
   split at h
   · cases h
   · rename_i sch hsch
     have hs : SchOk sch ∧ ∃ r, b = untilA [58] b ++ 58 :: r := by
      unfold schemeL at hsch
      split at hsch
      · rename_i p hp
        split at hsch
        · cases hsch
        · rename_i hne
          injection hsch with hsch
          subst hsch
          refine ⟨sch_low hp, ?_⟩
          rcases untilB_head [58] b with h1 | ⟨c, r, h1, h2⟩
          · exact absurd h1 hne
          · have hc : c = 58 := by simpa using h2
            subst hc
            exact ⟨r, by rw [← h1, until_eq]⟩
      · cases hsch
     obtain ⟨hs, r, hr⟩ := hs
     have hdrop : b.drop ((untilA [58] b).length + 1) = r := by
      have h1 : ∀ (a : List Nat), (a ++ 58 :: r).drop (a.length + 1) = r := fun a => by rw [← List.drop_drop, List.drop_left]; rfl
      have h2 := h1 (untilA [58] b)
      rw [← hr] at h2
      exact h2
     have hgr : Good r := by
      rw [hr] at hg
      exact (hg.cut (by decide)).2
     generalize hat : (untilA [58] b).length + 1 = at_ at *
     split at h
     · cases h
     · rename_i hh hho
       obtain ⟨⟨hk, ht⟩, port⟩ := hh
       have hpath : (partsL b at_).path = untilA [63, 35] (rest1 r) := by unfold partsL; rw [hdrop]
       have hquery : (partsL b at_).query = if hasQR r = true then untilA [35] ((rest2 r).drop 1) else [] := by unfold partsL; rw [hdrop]
       have hfrag : (partsL b at_).frag = (rest3 r).drop 1 := by unfold partsL; rw [hdrop]
       have hhq : (partsL b at_).hasQ = hasQR r := by unfold partsL; rw [hdrop]
       have hhf : (partsL b at_).hasF = decide (rest3 r ≠ []) := by unfold partsL; rw [hdrop]
       have hha : (partsL b at_).hasA = slash2 r := by unfold partsL; rw [hdrop]
       have g1 : Good (rest1 r) := by
        unfold rest1
        split
        · rename_i hsl
          obtain ⟨q, rfl⟩ := slash2_iff.1 hsl
          have := (Good.cut (x := [47]) (y := q) (c := 47) hgr (by decide)).2
          exact (this.until three47).2
        · exact hgr
       obtain ⟨g2, g3⟩ := g1.until two63
       have g4 : Good ((rest2 r).drop 1) := by
        show Good ((untilB [63, 35] (rest1 r)).drop 1)
        rcases untilB_head [63, 35] (rest1 r) with h1 | ⟨c, q, h1, h2⟩
        · rw [h1]; exact good_nil
        · rw [h1] at g3 ⊢
          exact (Good.cut (x := []) (y := q) (c := c) g3 (two63 c (List.contains_iff_mem.1 h2))).2
       have g5 : Good (rest3 r) := by
        unfold rest3
        split
        · exact (g4.until one35).2
        · exact g3
       have h35 : rest3 r = [] ∨ ∃ q, rest3 r = 35 :: q := by
        unfold rest3
        split
        · rcases untilB_head [35] ((rest2 r).drop 1) with h1 | ⟨c, q, h1, h2⟩
          · exact .inl h1
          · have : c = 35 := by simpa using h2
            subst this; exact .inr ⟨q, h1⟩
        · rename_i hnq
          unfold rest2
          rcases untilB_head [63, 35] (rest1 r) with h1 | ⟨c, q, h1, h2⟩
          · exact .inl h1
          · have hc : c = 63 ∨ c = 35 := by simpa using h2
            rcases hc with rfl | rfl
            · exfalso
              apply hnq
              unfold hasQR rest2
              rw [h1]; rfl
            · exact .inr ⟨q, h1⟩
       have g6 : Good ((rest3 r).drop 1) := by
        rcases h35 with h1 | ⟨q, h1⟩
        · rw [h1]; exact good_nil
        · rw [h1] at g5 ⊢
          exact (Good.cut (x := []) (y := q) (c := 35) g5 (by decide)).2
       unfold finishU at h
       rw [hpath, hquery, hfrag, hhq, hhf] at h
       split at h
       · cases h
       · rename_i pa hpa
         split at h
         · cases h
         · rename_i qq hq
           split at h
           · cases h
           · rename_i ff hf
             injection h with h
             subst h
             obtain ⟨p1, p2, p3, p4⟩ := norm_ok g2 hpa
             have gq : Good (if hasQR r = true then untilA [35] ((rest2 r).drop 1) else []) := by
              split
              · exact (g4.until one35).1
              · exact good_nil
             obtain ⟨q1, q2, q3, _⟩ := norm_ok gq hq
             obtain ⟨f1, _, f3, _⟩ := norm_ok g6 hf
             have hpathOf : NormOk (pathOf sch pa) ∧ (∀ c ∈ pathOf sch pa, c ≠ 63 ∧ c ≠ 35) := by
              unfold pathOf
              split
              · refine ⟨⟨good_small (by decide), fun _ => rfl⟩, by decide⟩
              · refine ⟨p1, fun c hc => ?_⟩
                rcases p2 c hc with h | h
                · have := until_all [63, 35] (rest1 r) c h
                  simp at this
                  exact this
                · exact h.2
             have hhost : ((hk = 0 ∧ ht = [] ∧ webL sch = false) ∨ (HostOk hk ht ∧ slash2 r = true)) ∧ (port = ownP sch ∨ (0 ≤ port ∧ port ≤ 65535)) := by
              unfold hostU at hho
              rw [hha] at hho
              split at hho
              · rename_i hsl
                have := auth_ok hho
                exact ⟨this.1.imp id (fun h => ⟨h, hsl⟩), this.2⟩
              · split at hho
                · cases hho
                · rename_i hw
                  injection hho with hho
                  injection hho with h1 h2
                  injection h1 with h1 h3
                  exact ⟨.inl ⟨h1.symm, h3.symm, by simpa using hw⟩, .inl h2.symm⟩
             refine ⟨hs, hpathOf.1, q1, f1, hpathOf.2, fun c hc => ?_, fun hq0 => ?_, fun hf0 => ?_, ?_, fun hw => ?_, hhost.2⟩
             · rcases q2 c hc with h | h
               · split at h
                 · have := until_all [35] _ c h
                   simpa using this
                 · simp at h
               · exact h.2.2
             · have hq0 : hasQR r = false := hq0
               refine q3 ?_
               rw [if_neg (by rw [hq0]; decide)]
             · have hf0 : decide (rest3 r ≠ []) = false := hf0
               refine f3 ?_
               have := of_decide_eq_false hf0
               rw [Decidable.not_not.1 this]; rfl
             · rcases hhost.1 with h | ⟨h1, h2⟩
               · exact .inl ⟨h.1, h.2.1⟩
               · refine .inr ⟨h1, ?_⟩
                 show pathOf sch pa = [] ∨ ∃ q, pathOf sch pa = 47 :: q
                 unfold pathOf
                 split
                 · exact .inr ⟨[], rfl⟩
                 · have hr1 : rest1 r = untilB [47, 63, 35] (r.drop 2) := by unfold rest1; rw [if_pos h2]
                   rcases untilB_head [47, 63, 35] (r.drop 2) with h3 | ⟨c, q, h3, h4⟩
                   · refine .inl (p3 ?_)
                     rw [hr1, h3]; rfl
                   · have hc : c = 47 ∨ c = 63 ∨ c = 35 := by simpa using h4
                     rcases hc with rfl | hc
                     · refine .inr (p4 (untilA [63, 35] q) ?_)
                       rw [hr1, h3]
                       show (47 :: q).takeWhile (notIn [63, 35]) = _
                       rw [List.takeWhile_cons, if_pos (by decide)]; rfl
                     · refine .inl (p3 ?_)
                       rw [hr1, h3]
                       show (c :: q).takeWhile (notIn [63, 35]) = _
                       rw [List.takeWhile_cons, if_neg (by rcases hc with rfl | rfl <;> decide)]
             · refine ⟨?_, ?_⟩
               · show pathOf sch pa ≠ []
                 unfold pathOf
                 have hw : webL sch = true := hw
                 split
                 · simp
                 · rename_i hn
                   exact fun e => hn ⟨e, hw⟩
               · rcases hhost.1 with h | ⟨h1, _⟩
                 · have hw : webL sch = true := hw
                   rw [h.2.2] at hw; cases hw
                 · exact h1
end
section
open Go.RowKit
theorem decN_bytes (n : Nat) : decN n ≠ [] ∧ ∀ c ∈ decN n, 48 ≤ c ∧ c ≤ 57 := by
 have hz : (decB n).size = lenD n := decS_size _ _
 have hp := lenD_pos n
 constructor
 · intro e
   have h1 := congrArg List.length e
   rw [show decN n = bytesN (decB n) from rfl, bytesN_len, hz] at h1
   simp at h1
   omega
 · intro c hc
   obtain ⟨i, hi, rfl⟩ := List.mem_iff_getElem.1 hc
   have hi' : i < (decB n).size := by rw [show decN n = bytesN (decB n) from rfl, bytesN_len] at hi; exact hi
   have h1 := bytesN_get hi'
   have h2 : (decN n)[i]? = some (decN n)[i] := List.getElem?_eq_getElem hi
   have h3 : (decN n)[i] = byteAt (decB n) i := Option.some.inj (h2.symm.trans h1)
   rw [h3]
   unfold decB
   rw [decS_at (by omega)]
   have := Nat.mod_lt (n / 10 ^ (lenD n - 1 - i)) (show 0 < 10 by decide)
   omega
theorem portL_dec {n : Nat} (h : n ≤ 65535) : portL (decN n) = .ok n := by
 unfold portL
 rw [show decN n = bytesN (decB n) from rfl, bytesL_bytesN]
 exact number_dec h
theorem lastI_none : ∀ {c : Nat} {l : List Nat}, (∀ x ∈ l, x ≠ c) → lastI c l = none
 | c, [], _ => rfl
 | c, a :: l, h => by
   rw [lastI, lastI_none (fun x hx => h x (by simp [hx]))]
   simp only
   rw [if_neg (h a (by simp))]
theorem lastI_hit : ∀ {c : Nat} (a : List Nat) {l : List Nat}, (∀ x ∈ l, x ≠ c) → lastI c (a ++ c :: l) = some a.length
 | c, [], l, h => by
   rw [List.nil_append, lastI, lastI_none h]; simp
 | c, b :: a, l, h => by
   rw [List.cons_append, lastI, lastI_hit a h]; simp
theorem lastI_snoc : ∀ {c x : Nat} (l : List Nat), x ≠ c → lastI c (l ++ [x]) = lastI c l
 | c, x, [], h => by rw [List.nil_append, lastI, lastI, if_neg h]; rfl
 | c, x, a :: l, h => by rw [List.cons_append, lastI, lastI, lastI_snoc l h]
theorem lastI_lt : ∀ {c : Nat} {l : List Nat} {i : Nat}, lastI c l = some i → i < l.length
 | c, [], i, h => by simp [lastI] at h
 | c, a :: l, i, h => by
   rw [lastI] at h
   cases hl : lastI c l with
   | none =>
     rw [hl] at h
     simp only at h
     split at h
     · have := Option.some.inj h; simp; omega
     · cases h
   | some j =>
     rw [hl] at h
     have := lastI_lt hl
     have := Option.some.inj h
     simp; omega
/-- Which bytes a host's text has. -/
theorem text_bytes {k : Nat} {t : List Nat} (h : HostOk k t) : ∀ c ∈ textH k t, 32 < c ∧ c < 127 ∧ c ≠ 47 ∧ c ≠ 63 ∧ c ≠ 35 ∧ c ≠ 64 := by
 have nm : ∀ {n : List Nat} {ts : List (List Nat)}, NameOk n ts → ∀ c ∈ n, 32 < c ∧ c < 127 ∧ c ≠ 47 ∧ c ≠ 63 ∧ c ≠ 35 ∧ c ≠ 64 := fun h c hc => by
  rcases h.small c hc with h | rfl
  · unfold lcN at h; simp at h; omega
  · decide
 cases h with
 | name n ts h hn => exact nm h
 | four a h => exact nm (quad_name a)
 | six g h8 h =>
   intro c hc
   have key : ∀ {l : List Nat}, Small6 l → ∀ c ∈ colons l, c = 58 ∨ hexD c = true := fun hl c hc => by
    rcases joinN_mem hc with rfl | ⟨p, hp, hc⟩
    · exact .inl rfl
    · obtain ⟨n, hn, rfl⟩ := List.mem_map.1 hp
      exact .inr (List.all_eq_true.1 (hexN_all (hl n hn)).2.2.1 c hc)
   have k2 : c = 91 ∨ c = 93 ∨ c = 58 ∨ hexD c = true := by
    have hc : c ∈ 91 :: text6 g ++ [93] := hc
    rcases List.mem_append.1 hc with hc | hc
    · rcases List.mem_cons.1 hc with hc | hc
      · exact .inl hc
      · unfold text6 at hc
        split at hc
        · exact .inr (.inr (key h c hc))
        · rcases List.mem_append.1 hc with hc | hc
          · exact .inr (.inr (key (fun n hn => h n (List.mem_of_mem_take hn)) c hc))
          · rcases List.mem_cons.1 hc with hc | hc
            · exact .inr (.inr (.inl hc))
            · rcases List.mem_cons.1 hc with hc | hc
              · exact .inr (.inr (.inl hc))
              · exact .inr (.inr (key (fun n hn => h n (List.mem_of_mem_drop hn)) c hc))
    · exact .inr (.inl (List.mem_singleton.1 hc))
   rcases k2 with rfl | rfl | rfl | hx
   · decide
   · decide
   · decide
   · unfold hexD at hx; simp at hx; omega
theorem name_no58 {n : List Nat} {ts : List (List Nat)} (h : NameOk n ts) : ∀ c ∈ n, c ≠ 58 ∧ c ≠ 93 := fun c hc => by
 rcases h.small c hc with h | rfl
 · unfold lcN at h; simp at h; omega
 · decide
/-- Where the mark ahead of a port stands in a host's text. -/
theorem colon_text {k : Nat} {t : List Nat} (h : HostOk k t) : colonI (textH k t) = none := by
 have nm : ∀ {n : List Nat} {ts : List (List Nat)}, NameOk n ts → colonI n = none := fun h => by
  unfold colonI
  rw [lastI_none (fun c hc => (name_no58 h c hc).1)]
 cases h with
 | name n ts h hn => exact nm h
 | four a h => exact nm (quad_name a)
 | six g h8 h =>
   show colonI (91 :: text6 g ++ [93]) = none
   unfold colonI
   rw [lastI_snoc _ (by decide)]
   cases hl : lastI 58 (91 :: text6 g) with
   | none => rfl
   | some i =>
     have hi := lastI_lt hl
     simp only
     rw [if_pos]
     rw [List.contains_iff_mem, List.drop_append_of_le_length (by omega)]
     simp
theorem colon_port {a p : List Nat} (hp : ∀ c ∈ p, 48 ≤ c ∧ c ≤ 57) : colonI (a ++ 58 :: p) = some a.length ∧ nameA (a ++ 58 :: p) = a ∧ portA (a ++ 58 :: p) = p := by
 have h1 : colonI (a ++ 58 :: p) = some a.length := by
  unfold colonI
  rw [lastI_hit a (fun c hc => by have := hp c hc; omega)]
  simp only
  rw [List.drop_left, if_neg]
  intro hc
  rw [List.contains_iff_mem] at hc
  rcases List.mem_cons.1 hc with h | h
  · cases h
  · have := hp 93 h; omega
 refine ⟨h1, ?_, ?_⟩
 · unfold nameA; rw [h1]; exact List.take_left
 · unfold portA
   rw [h1]
   show (a ++ 58 :: p).drop (a.length + 1) = p
   rw [← List.drop_drop, List.drop_left]; rfl
theorem where_bytes {u : UrlP} (h : HostOk u.hk u.ht) : ∀ c ∈ whereL u, 32 < c ∧ c < 127 ∧ c ≠ 47 ∧ c ≠ 63 ∧ c ≠ 35 ∧ c ≠ 64 := fun c hc => by
 unfold whereL at hc
 rcases List.mem_append.1 hc with hc | hc
 · exact text_bytes h c hc
 · split at hc
   · rcases List.mem_cons.1 hc with rfl | hc
     · decide
     · have := (decN_bytes u.port.toNat).2 c hc
       omega
   · simp at hc
theorem auth_back {u : UrlP} (hu : UrlOk u) (h : HostOk u.hk u.ht) (at_ : Nat) : authL u.scheme (whereL u) at_ = .ok ((u.hk, u.ht), u.port) := by
 unfold authL
 rw [if_neg (fun hc => by
  rw [List.contains_iff_mem] at hc
  exact (where_bytes h 64 hc).2.2.2.2.2 rfl)]
 by_cases hp : 0 ≤ u.port ∧ u.port ≠ ownP u.scheme
 · have hw : whereL u = textH u.hk u.ht ++ 58 :: decN u.port.toNat := by unfold whereL decI; rw [if_pos hp]
   have hn := decN_bytes u.port.toNat
   obtain ⟨_, c2, c3⟩ := colon_port (a := textH u.hk u.ht) (p := decN u.port.toNat) hn.2
   have hle : u.port.toNat ≤ 65535 := by
    rcases hu.port with h | h
    · exact absurd h hp.2
    · omega
   rw [hw, c2, c3, if_pos (.inl (text_first h).2), canon_back h]
   simp only
   rw [if_neg hn.1, portL_dec hle]
   simp only
   rw [Int.toNat_of_nonneg hp.1]
 · have hw : whereL u = textH u.hk u.ht := by unfold whereL; rw [if_neg hp, List.append_nil]
   have hc := colon_text h
   have hn : nameA (textH u.hk u.ht) = textH u.hk u.ht := by unfold nameA; rw [hc]
   have hq : portA (textH u.hk u.ht) = [] := by unfold portA; rw [hc]
   rw [hw, hn, hq, if_pos (.inl (text_first h).2), canon_back h]
   simp only [if_true]
   have : u.port = ownP u.scheme := by
    rcases hu.port with h | h
    · exact h
    · exact Decidable.byContradiction (fun e => hp ⟨h.1, e⟩)
   rw [this]
def qL63 (u : UrlP) : List Nat := if u.hasQ = true then 63 :: u.query else []
def fL35 (u : UrlP) : List Nat := if u.hasF = true then 35 :: u.frag else []
def tailU (u : UrlP) : List Nat := u.path ++ (qL63 u ++ fL35 u)
theorem fL35_head (u : UrlP) : fL35 u = [] ∨ ∃ r, fL35 u = 35 :: r := by
 unfold fL35
 split
 · exact .inr ⟨_, rfl⟩
 · exact .inl rfl
theorem qf_head (u : UrlP) : qL63 u ++ fL35 u = [] ∨ ∃ c r, qL63 u ++ fL35 u = c :: r ∧ (c = 63 ∨ c = 35) := by
 unfold qL63
 split
 · exact .inr ⟨63, _, rfl, .inl rfl⟩
 · rw [List.nil_append]
   rcases fL35_head u with h | ⟨r, h⟩
   · exact .inl h
   · exact .inr ⟨35, r, h, .inr rfl⟩
theorem good_tail {u : UrlP} (hu : UrlOk u) : Good (tailU u) := by
 have h1 : Good (qL63 u) := by
  unfold qL63
  split
  · exact good_cons (by decide) hu.query.good
  · exact good_nil
 have h2 : Good (fL35 u) := by
  unfold fL35
  split
  · exact good_cons (by decide) hu.frag.good
  · exact good_nil
 exact hu.path.good.append (h1.append h2)
/-- The parts of what stands behind host and port. -/
theorem parts_tail {u : UrlP} (hu : UrlOk u) {r : List Nat} (h1 : rest1 r = tailU u) : untilA [63, 35] (rest1 r) = u.path ∧ hasQR r = u.hasQ ∧ (if hasQR r = true then untilA [35] ((rest2 r).drop 1) else []) = u.query ∧ decide (rest3 r ≠ []) = u.hasF ∧ (rest3 r).drop 1 = u.frag := by
 have hp : ∀ c ∈ u.path, [63, 35].contains c = false := fun c hc => by
  have := hu.pathN c hc
  simp [this.1, this.2]
 have hsp : untilA [63, 35] (tailU u) = u.path ∧ untilB [63, 35] (tailU u) = qL63 u ++ fL35 u := by
  unfold tailU
  rcases qf_head u with h | ⟨c, q, h, hc⟩
  · rw [h, List.append_nil]; exact until_free hp
  · rw [h]
    exact until_hit hp (by rcases hc with rfl | rfl <;> rfl)
 have h2 : rest2 r = qL63 u ++ fL35 u := by unfold rest2; rw [h1, hsp.2]
 have hq : ∀ c ∈ u.query, [35].contains c = false := fun c hc => by
  have := hu.queryN c hc
  simp [this]
 have hhq : hasQR r = u.hasQ := by
  unfold hasQR
  rw [h2]
  cases hb : u.hasQ with
  | true =>
    have : qL63 u = 63 :: u.query := by unfold qL63; rw [if_pos hb]
    rw [this]; rfl
  | false =>
    have : qL63 u = [] := by unfold qL63; rw [if_neg (by rw [hb]; decide)]
    rw [this, List.nil_append]
    rcases fL35_head u with h | ⟨q, h⟩ <;> rw [h] <;> rfl
 have hsq : u.hasQ = true → untilA [35] ((rest2 r).drop 1) = u.query ∧ untilB [35] ((rest2 r).drop 1) = fL35 u := fun hb => by
  have : qL63 u = 63 :: u.query := by unfold qL63; rw [if_pos hb]
  rw [h2, this]
  show untilA [35] (u.query ++ fL35 u) = _ ∧ untilB [35] (u.query ++ fL35 u) = _
  rcases fL35_head u with h | ⟨q, h⟩
  · rw [h, List.append_nil]; exact until_free hq
  · rw [h]; exact until_hit hq rfl
 have h3 : rest3 r = fL35 u := by
  unfold rest3
  rw [hhq]
  cases hb : u.hasQ with
  | true => rw [if_pos rfl]; exact (hsq hb).2
  | false =>
    rw [if_neg (by decide), h2]
    have : qL63 u = [] := by unfold qL63; rw [if_neg (by rw [hb]; decide)]
    rw [this, List.nil_append]
 refine ⟨by rw [h1]; exact hsp.1, hhq, ?_, ?_, ?_⟩
 · rw [hhq]
   cases hb : u.hasQ with
   | true => rw [if_pos rfl]; exact (hsq hb).1
   | false => rw [if_neg (by decide)]; exact (hu.noQ hb).symm
 · rw [h3]
   unfold fL35
   cases hb : u.hasF with
   | true => rw [if_pos rfl]; simp
   | false => rw [if_neg (by decide)]; simp
 · rw [h3]
   unfold fL35
   cases hb : u.hasF with
   | true => rw [if_pos rfl]; rfl
   | false => rw [if_neg (by decide)]; exact (hu.noF hb).symm
theorem finish_back {u : UrlP} (hu : UrlOk u) {p : UParts} (h1 : p.path = u.path) (h2 : p.hasQ = u.hasQ) (h3 : p.query = u.query) (h4 : p.hasF = u.hasF) (h5 : p.frag = u.frag) : finishU u.scheme p ((u.hk, u.ht), u.port) = .ok u := by
 unfold finishU
 rw [h1, h3, h5, hu.path.again, hu.query.again, hu.frag.again, h2, h4]
 simp only
 have : pathOf u.scheme u.path = u.path := by
  unfold pathOf
  rw [if_neg (fun h => (hu.web h.2).1 h.1)]
 rw [this]
theorem scheme_back {s r : List Nat} (h : SchOk s) : untilA [58] (s ++ 58 :: r) = s ∧ schemeL (s ++ 58 :: r) = .ok s := by
 have hh := until_hit (m := [58]) (a := s) (r := r) (c := 58) (fun c hc => by
  have := (h.bytes c hc).2.2
  simp [this]) rfl
 refine ⟨hh.1, ?_⟩
 unfold schemeL
 rw [hh.1, hh.2, h.right]
 simp only
 rw [if_neg (by simp), h.low]
/-- A URL's text is read as it. -/
theorem url_back {u : UrlP} (hu : UrlOk u) (hn : noHost u = true → slash2 u.path = false ∧ u.port < 0) (hl : (textU u).length ≤ 8192) : urlL (textU u) = .ok u := by
 obtain ⟨R, hR⟩ : ∃ R, textU u = u.scheme ++ 58 :: R := ⟨_, rfl⟩
 have hgs : Good (u.scheme ++ [58]) := good_small (fun c hc => by
  rcases List.mem_append.1 hc with hc | hc
  · have := hu.sch.bytes c hc; omega
  · rw [List.mem_singleton.1 hc]; decide)
 have hgt := good_tail hu
 have hdrop : (u.scheme ++ 58 :: R).drop (u.scheme.length + 1) = R := by rw [← List.drop_drop, List.drop_left]; rfl
 have main : Good R → (∀ p : UParts, p = partsL (u.scheme ++ 58 :: R) (u.scheme.length + 1) → hostU u.scheme p (u.scheme.length + 1) = .ok ((u.hk, u.ht), u.port)) → rest1 R = tailU u → urlL (textU u) = .ok u := by
  intro hgR hho h1
  have hg : Good (textU u) := by
   rw [hR, show u.scheme ++ 58 :: R = (u.scheme ++ [58]) ++ R by simp]
   exact hgs.append hgR
  obtain ⟨s1, s2⟩ := scheme_back (r := R) hu.sch
  obtain ⟨p1, p2, p3, p4, p5⟩ := parts_tail hu h1
  unfold urlL
  rw [checks_good hl hg, hR, s2, s1]
  simp only
  rw [hho _ rfl]
  simp only
  refine finish_back hu ?_ ?_ ?_ ?_ ?_
  · unfold partsL; rw [hdrop]; exact p1
  · unfold partsL; rw [hdrop]; exact p2
  · unfold partsL; rw [hdrop]; exact p3
  · unfold partsL; rw [hdrop]; exact p4
  · unfold partsL; rw [hdrop]; exact p5
 have hRR : R = (if noHost u = false ∨ webL u.scheme = true then 47 :: 47 :: whereL u else []) ++ tailU u := by
  unfold textU at hR
  have := List.append_cancel_left hR
  injection this with _ h2
  rw [← h2]
  unfold tailU qL63 fL35
  simp
 by_cases hc : noHost u = false ∨ webL u.scheme = true
 · have hh : HostOk u.hk u.ht ∧ (u.path = [] ∨ ∃ q, u.path = 47 :: q) := by
     have h0 : HostOk u.hk u.ht := by
      rcases hc with hc | hc
      · rcases hu.host with ⟨h1, h2⟩ | h
        · unfold noHost at hc
          rw [h1, h2] at hc
          cases hc
        · exact h.1
      · exact (hu.web hc).2
     refine ⟨h0, ?_⟩
     rcases hu.host with ⟨h1, _⟩ | h
     · exact absurd h1 (host_pos h0)
     · exact h.2
   rw [if_pos hc] at hRR
   have hwb := where_bytes hh.1
   have hgw : Good (whereL u) := good_small (fun c hc => by have := hwb c hc; omega)
   have hwf : ∀ c ∈ whereL u, [47, 63, 35].contains c = false := fun c hc => by
    have := hwb c hc
    simp [this.2.2.1, this.2.2.2.1, this.2.2.2.2.1]
   have hsp : untilA [47, 63, 35] (whereL u ++ tailU u) = whereL u ∧ untilB [47, 63, 35] (whereL u ++ tailU u) = tailU u := by
    have ht : tailU u = [] ∨ ∃ c r, tailU u = c :: r ∧ (c = 47 ∨ c = 63 ∨ c = 35) := by
     unfold tailU
     rcases hh.2 with h | ⟨q, h⟩
     · rw [h, List.nil_append]
       rcases qf_head u with h | ⟨c, r, h, hc⟩
       · exact .inl h
       · exact .inr ⟨c, r, h, .inr hc⟩
     · rw [h]; exact .inr ⟨47, _, rfl, .inl rfl⟩
    rcases ht with h | ⟨c, r, h, hc⟩
    · rw [h, List.append_nil]; exact until_free hwf
    · rw [h]; exact until_hit hwf (by rcases hc with rfl | rfl | rfl <;> rfl)
   have hsl : slash2 R = true := by rw [hRR]; rfl
   have hd2 : R.drop 2 = whereL u ++ tailU u := by rw [hRR]; rfl
   refine main ?_ ?_ ?_
   · rw [hRR]
     exact good_cons (by decide) (good_cons (by decide) (hgw.append hgt))
   · intro p hp
     have hpa : p.hasA = true := by rw [hp]; unfold partsL; rw [hdrop]; exact hsl
     have hpu : p.auth = whereL u := by rw [hp]; unfold partsL; rw [hdrop]; show (if slash2 R = true then _ else _) = _; rw [if_pos hsl, hd2]; exact hsp.1
     unfold hostU
     rw [if_pos hpa, hpu, auth_back hu hh.1]
   · unfold rest1
     rw [if_pos hsl, hd2]
     exact hsp.2
 · rw [if_neg hc, List.nil_append] at hRR
   have hno : noHost u = true := by
    cases hx : noHost u with
    | true => rfl
    | false => exact absurd (.inl hx) hc
   have hw : webL u.scheme = false := by
    cases hx : webL u.scheme with
    | false => rfl
    | true => exact absurd (.inr hx) hc
   obtain ⟨hs0, hport⟩ := hn hno
   have hsl : slash2 R = false := by
    rw [hRR]
    unfold tailU
    cases hq : slash2 (u.path ++ (qL63 u ++ fL35 u)) with
    | false => rfl
    | true =>
      exfalso
      obtain ⟨q, he⟩ := slash2_iff.1 hq
      have hQ := qf_head u
      match hpp : u.path, he with
      | [], he =>
        rw [List.nil_append] at he
        rcases hQ with h | ⟨c, r, h, hc⟩
        · rw [h] at he; cases he
        · rw [h] at he
          injection he with h1 _
          omega
      | [a], he =>
        rw [List.singleton_append] at he
        injection he with _ h2
        rcases hQ with h | ⟨c, r, h, hc⟩
        · rw [h] at h2; cases h2
        · rw [h] at h2
          injection h2 with h1 _
          omega
      | a :: b :: t, he =>
        rw [List.cons_append, List.cons_append] at he
        injection he with h1 h2
        injection h2 with h2 _
        rw [hpp] at hs0
        have : slash2 (a :: b :: t) = true := slash2_iff.2 ⟨t, by rw [h1, h2]⟩
        rw [this] at hs0
        cases hs0
   refine main (by rw [hRR]; exact hgt) ?_ (by unfold rest1; rw [if_neg (by rw [hsl]; decide)]; exact hRR)
   intro p hp
   have hpa : p.hasA = false := by rw [hp]; unfold partsL; rw [hdrop]; exact hsl
   unfold hostU
   rw [if_neg (by rw [hpa]; decide), if_neg (by rw [hw]; decide)]
   unfold noHost at hno
   rw [Bool.and_eq_true] at hno
   have h1 := of_decide_eq_true hno.1
   have h2 := of_decide_eq_true hno.2
   have h3 : u.port = ownP u.scheme := by
    rcases hu.port with h | h
    · exact h
    · omega
   rw [h1, h2, h3]
end
end Go.Proofs.YtbeodjipdpcaiaaGreatDoor
