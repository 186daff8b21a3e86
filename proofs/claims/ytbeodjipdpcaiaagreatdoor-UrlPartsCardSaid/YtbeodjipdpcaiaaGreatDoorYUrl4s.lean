/- Url4, Url5 in one text (a claim holds at most 60 files). -/
import Derived.Test.YtbeodjipdpcaiaaGreatDoorYMore14
import Derived.Test.YtbeodjipdpcaiaaGreatDoorYUrl2s
namespace Go.Proofs.YtbeodjipdpcaiaaGreatDoor
section
open Go.RowKit
/-- Small letters alone. -/
def LetL (l : List Nat) : Prop := ∀ c ∈ l, 97 ≤ c ∧ c ≤ 122
theorem LetL.small {l : List Nat} (h : LetL l) : ∀ c ∈ l, lcN c = true := fun c hc => by
 have := h c hc
 unfold lcN; exact decide_eq_true (by omega)
theorem LetL.ends {l : List Nat} (h : LetL l) (h0 : l ≠ []) : endsOk l = true := by
 have h1 := h _ (first_mem h0)
 have h2 := h _ (last_mem h0)
 unfold endsOk
 rw [decide_eq_true (by omega), decide_eq_true (by omega)]; rfl
theorem LetL.coded {l : List Nat} (h : LetL l) : codedN l = false := by
 unfold codedN
 refine decide_eq_false (fun hc => ?_)
 have h2 : 2 < l.length := by omega
 have := h _ (List.getElem_mem h2)
 rw [List.getElem?_eq_getElem h2] at hc
 have hc := hc.2.1
 simp only [Option.getD_some] at hc
 omega
theorem LetL.right {l : List Nat} (h : LetL l) (h0 : l ≠ []) (hl : l.length ≤ 63) : rightL l = (0, 0) :=
 rightL_of h0 hl h.small (h.ends h0) (fun hc => by rw [h.coded] at hc; cases hc)
theorem LetL.low {l : List Nat} (h : LetL l) : l.map lowN = l := (List.map_congr_left (fun c hc => small_low (h.small c hc))).trans (List.map_id _)
def xL : List Nat := [120]
theorem xL_right : rightL xL = (0, 0) := by decide +kernel
theorem join_x (n : List Nat) : joinN 46 [n, xL] = n ++ [46, 120] := rfl
/-- The host 'name.x'. -/
theorem name_x {n : List Nat} (h : LetL n) (h0 : n ≠ []) (hl : n.length ≤ 63) : NameOk (n ++ [46, 120]) [n, xL] := by
 refine ⟨by simp, by simp, fun t ht => ?_, (join_x n).symm, by simp; omega⟩
 rcases List.mem_cons.1 ht with rfl | ht
 · exact h.right h0 hl
 · rw [List.mem_singleton.1 ht]; exact xL_right
theorem num_x {n : List Nat} (h : LetL n) (h0 : n ≠ []) (hl : n.length ≤ 63) : numericL (n ++ [46, 120]) = false := by
 have hn := name_x h h0 hl
 unfold numericL
 rw [trim_not hn.parts.trim.2]
 unfold lastP
 rw [hn.split]
 rfl
theorem host_x {n : List Nat} (h : LetL n) (h0 : n ≠ []) (hl : n.length ≤ 63) : HostOk 1 (n ++ [46, 120]) := .name _ _ (name_x h h0 hl) (num_x h h0 hl)
/-- No label, or one that is too long: no host. -/
theorem host_no {n : List Nat} (h : LetL n) (hb : n = [] ∨ 63 < n.length) : ∃ l, canonL (n ++ [46, 120]) = .er l := by
 have hm : ∀ c ∈ n ++ [46, 120], c < 128 ∧ c ≠ 37 ∧ c ≠ 91 := fun c hc => by
  rcases List.mem_append.1 hc with hc | hc
  · have := h c hc; omega
  · exact (by decide : ∀ c ∈ [46, 120], c < 128 ∧ c ≠ 37 ∧ c ≠ 91) c hc
 have hs : splitN 46 (n ++ [46, 120]) = [n, xL] := by
  rw [← join_x]
  exact splitN_join 46 (by simp) (fun p hp c hc => by
   rcases List.mem_cons.1 hp with rfl | hp
   · have := h c hc; omega
   · rw [List.mem_singleton.1 hp] at hc; exact (by decide : ∀ c ∈ xL, c ≠ 46) c hc)
 have hne : n ++ [46, 120] ≠ [] := by simp
 have ha : ∃ k p, asciiL n = .no k p := by
  have hsm : ∀ c ∈ n, c < 128 := fun c hc => by have := h c hc; omega
  unfold asciiL
  rw [charsL_small hsm]
  simp only
  rw [if_pos (List.all_eq_true.2 (fun c hc => decide_eq_true (hsm c hc))), h.low]
  rcases hb with rfl | hb
  · exact ⟨_, _, rfl⟩
  · have : rightL n = (14, 63) := by
      unfold rightL
      rw [if_neg (fun e => by rw [e] at hb; simp at hb), if_pos hb]
    rw [this]
    exact ⟨_, _, rfl⟩
 obtain ⟨k, p, ha⟩ := ha
 have hl2 : lastN (n ++ [46, 120]) = 120 := by rw [last_append (by simp)]; rfl
 have hnm : ∃ p, nameL (n ++ [46, 120]) = .no k p := by
  unfold nameL
  rw [trim_not (by rw [hl2]; decide), if_neg hne, fields_ok (by omega) (by rw [hs]; simp), hs]
  simp only
  rw [namesF, ha]
  exact ⟨_, rfl⟩
 obtain ⟨p, hnm⟩ := hnm
 rw [canon_plain hne (hm _ (first_mem hne)).2.2 (fun c hc => (hm c hc).2.1), hnm]
 exact ⟨_, rfl⟩
theorem LetL.norm {l : List Nat} (h : ∀ c ∈ l, c ≠ 37) (at_ : Nat) : normalL l at_ = .ok l := by
 unfold normalL pctL
 rw [pctG_free _ _ _ h]
 simp only [List.nil_append]
 rw [normL_raw]
/-- What stands in 'scheme://authority/path?query#fragment' is read so. -/
theorem url_of {sch raw auth path : List Nat} {Q F : Option (List Nat)} {k : Nat} {t : List Nat} {port : Int}
    (hsch : schE raw = (0, 0)) (hlow : raw.map lowN = sch)
    (ha : ∀ c ∈ auth, 32 < c ∧ c < 127 ∧ c ≠ 47 ∧ c ≠ 63 ∧ c ≠ 35) (hau : ∀ at_, authL sch auth at_ = .ok ((k, t), port))
    (hp : ∀ c ∈ path, 32 < c ∧ c < 127 ∧ c ≠ 63 ∧ c ≠ 35 ∧ c ≠ 37) (hq : ∀ q, Q = some q → ∀ c ∈ q, 32 < c ∧ c < 127 ∧ c ≠ 35 ∧ c ≠ 37) (hf : ∀ f, F = some f → ∀ c ∈ f, 32 < c ∧ c < 127 ∧ c ≠ 37)
    (hl : (raw ++ 58 :: 47 :: 47 :: (auth ++ 47 :: path ++ (match Q with | some q => 63 :: q | none => []) ++ (match F with | some f => 35 :: f | none => []))).length ≤ 8192) :
    urlL (raw ++ 58 :: 47 :: 47 :: (auth ++ 47 :: path ++ (match Q with | some q => 63 :: q | none => []) ++ (match F with | some f => 35 :: f | none => []))) = .ok ⟨sch, k, t, port, 47 :: path, Q.getD [], F.getD [], Q.isSome, F.isSome⟩ := by
 have hraw : ∀ c ∈ raw, 32 < c ∧ c < 127 ∧ c ≠ 58 := fun c hc => by
  obtain ⟨i, hi, rfl⟩ := List.mem_iff_getElem.1 hc
  have := ((schE_zero hsch).2 i hi).2
  rw [List.getElem?_eq_getElem hi] at this
  exact schN_le this
 -- a URL with these parts; its tail is read by 'parts_tail''s own way
 obtain ⟨Qt, hQt⟩ : ∃ Qt, (match Q with | some q => 63 :: q | none => []) = Qt := ⟨_, rfl⟩
 obtain ⟨Ft, hFt⟩ : ∃ Ft, (match F with | some f => 35 :: f | none => []) = Ft := ⟨_, rfl⟩
 rw [hQt, hFt] at hl ⊢
 have hFh : Ft = [] ∨ ∃ r, Ft = 35 :: r := by
  cases F with
  | none => exact .inl hFt.symm
  | some f => exact .inr ⟨f, hFt.symm⟩
 have gq : Good Qt := by
  cases Q with
  | none => rw [← hQt]; exact good_nil
  | some q => rw [← hQt]; exact good_cons (by decide) (good_small (fun c hc => by have := hq q rfl c hc; omega))
 have gf : Good Ft := by
  cases F with
  | none => rw [← hFt]; exact good_nil
  | some q => rw [← hFt]; exact good_cons (by decide) (good_small (fun c hc => by have := hf q rfl c hc; omega))
 have gp : Good (47 :: path) := good_cons (by decide) (good_small (fun c hc => by have := hp c hc; omega))
 have ga : Good auth := good_small (fun c hc => by have := ha c hc; omega)
 obtain ⟨T, hT⟩ : ∃ T, 47 :: path ++ Qt ++ Ft = T := ⟨_, rfl⟩
 have hTT : auth ++ 47 :: path ++ Qt ++ Ft = auth ++ T := by rw [← hT]; simp
 rw [hTT] at hl ⊢
 have gT : Good T := by rw [← hT]; exact (gp.append gq).append gf
 have gall : Good (raw ++ 58 :: 47 :: 47 :: (auth ++ T)) := (good_small (fun c hc => by have := hraw c hc; omega)).append (good_cons (by decide) (good_cons (by decide) (good_cons (by decide) (ga.append gT))))
 have hsp : untilA [58] (raw ++ 58 :: 47 :: 47 :: (auth ++ T)) = raw ∧ untilB [58] (raw ++ 58 :: 47 :: 47 :: (auth ++ T)) = 58 :: 47 :: 47 :: (auth ++ T) := until_hit (fun c hc => by have := (hraw c hc).2.2; simp [this]) rfl
 have hsl : schemeL (raw ++ 58 :: 47 :: 47 :: (auth ++ T)) = .ok sch := by
  unfold schemeL
  rw [hsp.1, hsp.2, hsch]
  simp only
  rw [if_neg (by simp), hlow]
 have hdrop : (raw ++ 58 :: 47 :: 47 :: (auth ++ T)).drop (raw.length + 1) = 47 :: 47 :: (auth ++ T) := by rw [← List.drop_drop, List.drop_left]; rfl
 obtain ⟨R, hR⟩ : ∃ R, 47 :: 47 :: (auth ++ T) = R := ⟨_, rfl⟩
 have hs2 : slash2 R = true := by rw [← hR]; rfl
 have hd2 : R.drop 2 = auth ++ T := by rw [← hR]; rfl
 have hTh : ∃ r, T = 47 :: r := ⟨_, hT.symm⟩
 have hau2 : untilA [47, 63, 35] (auth ++ T) = auth ∧ untilB [47, 63, 35] (auth ++ T) = T := by
  obtain ⟨r, hr⟩ := hTh
  rw [hr]
  exact until_hit (fun c hc => by have := ha c hc; simp [this.2.2]) rfl
 have h1 : rest1 R = T := by unfold rest1; rw [if_pos hs2, hd2]; exact hau2.2
 have hpf : ∀ c ∈ 47 :: path, [63, 35].contains c = false := fun c hc => by
  rcases List.mem_cons.1 hc with rfl | hc
  · rfl
  · have := hp c hc; simp [this.2.2.1, this.2.2.2.1]
 have hpa : untilA [63, 35] T = 47 :: path ∧ untilB [63, 35] T = Qt ++ Ft := by
  rw [← hT, List.append_assoc]
  have hq : Qt ++ Ft = [] ∨ ∃ c r, Qt ++ Ft = c :: r ∧ [63, 35].contains c = true := by
   cases Q with
   | some q => rw [← hQt]; exact .inr ⟨63, _, rfl, rfl⟩
   | none =>
     rw [← hQt, List.nil_append]
     rcases hFh with h | ⟨r, h⟩
     · exact .inl h
     · exact .inr ⟨35, r, h, rfl⟩
  rcases hq with h | ⟨c, r, h, hc⟩
  · rw [h, List.append_nil]; exact until_free hpf
  · rw [h]; exact until_hit hpf hc
 have h2 : rest2 R = Qt ++ Ft := by unfold rest2; rw [h1, hpa.2]
 have hhq : hasQR R = Q.isSome := by
  unfold hasQR
  rw [h2]
  cases Q with
  | some q => rw [← hQt]; rfl
  | none =>
    rw [← hQt, List.nil_append]
    rcases hFh with h | ⟨r, h⟩ <;> rw [h] <;> rfl
 have hqq : (if hasQR R = true then untilA [35] ((rest2 R).drop 1) else []) = Q.getD [] ∧ rest3 R = Ft := by
  unfold rest3
  rw [hhq, h2]
  cases Q with
  | none =>
    rw [← hQt]
    simp
  | some q =>
    rw [← hQt]
    have hfree : ∀ c ∈ q, [35].contains c = false := fun c hc => by have := hq q rfl c hc; simp [this.2.2.1]
    show untilA [35] (q ++ Ft) = q ∧ untilB [35] (q ++ Ft) = Ft
    rcases hFh with h | ⟨r, h⟩
    · rw [h, List.append_nil]; exact until_free hfree
    · rw [h]; exact until_hit hfree rfl
 have hff : decide (rest3 R ≠ []) = F.isSome ∧ (rest3 R).drop 1 = F.getD [] := by
  rw [hqq.2]
  cases F with
  | none => rw [← hFt]; exact ⟨by simp, rfl⟩
  | some f => rw [← hFt]; exact ⟨by simp, rfl⟩
 unfold urlL
 rw [checks_good hl gall, hsl, hsp.1]
 simp only
 have p0 : (partsL (raw ++ 58 :: 47 :: 47 :: (auth ++ T)) (raw.length + 1)).hasA = true := by unfold partsL; rw [hdrop, hR]; exact hs2
 have p1 : (partsL (raw ++ 58 :: 47 :: 47 :: (auth ++ T)) (raw.length + 1)).auth = auth := by unfold partsL; rw [hdrop, hR]; show (if slash2 R = true then _ else _) = _; rw [if_pos hs2, hd2]; exact hau2.1
 have p2 : (partsL (raw ++ 58 :: 47 :: 47 :: (auth ++ T)) (raw.length + 1)).path = 47 :: path := by unfold partsL; rw [hdrop, hR]; show untilA _ (rest1 R) = _; rw [h1]; exact hpa.1
 have p3 : (partsL (raw ++ 58 :: 47 :: 47 :: (auth ++ T)) (raw.length + 1)).hasQ = Q.isSome := by unfold partsL; rw [hdrop, hR]; exact hhq
 have p4 : (partsL (raw ++ 58 :: 47 :: 47 :: (auth ++ T)) (raw.length + 1)).query = Q.getD [] := by unfold partsL; rw [hdrop, hR]; exact hqq.1
 have p5 : (partsL (raw ++ 58 :: 47 :: 47 :: (auth ++ T)) (raw.length + 1)).hasF = F.isSome := by unfold partsL; rw [hdrop, hR]; exact hff.1
 have p6 : (partsL (raw ++ 58 :: 47 :: 47 :: (auth ++ T)) (raw.length + 1)).frag = F.getD [] := by unfold partsL; rw [hdrop, hR]; exact hff.2
 unfold hostU
 rw [p0, if_pos rfl, p1, hau]
 simp only
 unfold finishU
 rw [p2, p3, p4, p5, p6, LetL.norm (fun c hc => by
  rcases List.mem_cons.1 hc with rfl | hc
  · decide
  · exact (hp c hc).2.2.2.2), LetL.norm (fun c hc => by
  cases Q with
  | none => simp at hc
  | some q => exact (hq q rfl c hc).2.2.2), LetL.norm (fun c hc => by
  cases F with
  | none => simp at hc
  | some q => exact (hf q rfl c hc).2.2)]
 simp only
 unfold pathOf
 rw [if_neg (by simp)]
end
section
open Go.RowKit
def schS (secure : Bool) : List Nat := if secure then httpsL else httpL
/-- The scheme in mixed letters. -/
def schM (secure : Bool) : List Nat := if secure then [104, 84, 84, 112, 115] else [72, 116, 84, 112]
def portS (secure : Bool) : List Nat := if secure then [52, 52, 51] else [56, 48]
theorem sch_facts (b : Bool) : schE (schS b) = (0, 0) ∧ (schS b).map lowN = schS b ∧ schE (schM b) = (0, 0) ∧ (schM b).map lowN = schS b ∧ webL (schS b) = true ∧ portL (portS b) = .ok (if b then 443 else 80) ∧ ownP (schS b) = (if b then 443 else 80) := by
 cases b <;> exact ⟨by decide +kernel, by decide, by decide +kernel, by decide, by decide, by kernel_rfl, by decide⟩
def upN (c : Nat) : Nat := c - 32
theorem up_low {l : List Nat} (h : LetL l) : (l.map upN).map lowN = l := by
 rw [List.map_map]
 refine (List.map_congr_left (fun c hc => ?_)).trans (List.map_id _)
 have := h c hc
 show lowN (c - 32) = c
 unfold lowN
 rw [if_pos (by omega)]; omega
theorem auth_plain {sch a : List Nat} {k : Nat} {t : List Nat} (h64 : ∀ c ∈ a, c ≠ 64) (h58 : ∀ c ∈ a, c ≠ 58) (h0 : a ≠ []) (hc : canonL a = .ok k t) (at_ : Nat) : authL sch a at_ = .ok ((k, t), ownP sch) := by
 have hn : colonI a = none := by
  unfold colonI
  rw [lastI_none h58]
 unfold authL
 rw [if_neg (fun h => by rw [List.contains_iff_mem] at h; exact h64 64 h rfl)]
 have e1 : nameA a = a := by unfold nameA; rw [hn]
 have e2 : portA a = [] := by unfold portA; rw [hn]
 rw [e1, e2, if_pos (.inl h0), hc]
 simp only [if_true]
theorem auth_ported {sch a p : List Nat} {k n : Nat} {t : List Nat} (h64 : ∀ c ∈ a, c ≠ 64) (h0 : a ≠ []) (hc : canonL a = .ok k t) (hp : ∀ c ∈ p, 48 ≤ c ∧ c ≤ 57) (hp0 : p ≠ []) (hn : portL p = .ok n) (at_ : Nat) : authL sch (a ++ 58 :: p) at_ = .ok ((k, t), n) := by
 obtain ⟨c1, c2, c3⟩ := colon_port (a := a) hp
 unfold authL
 rw [if_neg (fun h => by
  rw [List.contains_iff_mem] at h
  rcases List.mem_append.1 h with h | h
  · exact h64 64 h rfl
  · rcases List.mem_cons.1 h with h | h
    · cases h
    · have := hp 64 h; omega), c2, c3, if_pos (.inl h0), hc]
 simp only
 rw [if_neg hp0, hn]
theorem auth_none {sch a : List Nat} (h64 : ∀ c ∈ a, c ≠ 64) (h58 : ∀ c ∈ a, c ≠ 58) (h0 : a ≠ []) (hc : ∃ l, canonL a = .er l) (at_ : Nat) : ∃ l, authL sch a at_ = .er l := by
 obtain ⟨l, hc⟩ := hc
 have hn : colonI a = none := by
  unfold colonI
  rw [lastI_none h58]
 refine ⟨(22, (at_ : Nat)) :: l, ?_⟩
 unfold authL
 rw [if_neg (fun h => by rw [List.contains_iff_mem] at h; exact h64 64 h rfl)]
 have e1 : nameA a = a := by unfold nameA; rw [hn]
 rw [e1, if_pos (.inl h0), hc]
def caseX (b : Bool) (name path : List Nat) : List Nat := schS b ++ 58 :: 47 :: 47 :: (name ++ [46, 120] ++ 47 :: path)
def caseY (b : Bool) (name path : List Nat) : List Nat := schM b ++ 58 :: 47 :: 47 :: (name.map upN ++ [46, 88, 46] ++ 58 :: portS b ++ 47 :: path)
def caseZ (b : Bool) (name path : List Nat) : List Nat := schS b ++ 58 :: 47 :: 47 :: (name ++ [46, 120] ++ [58, 56, 49] ++ 47 :: path)
theorem let_bytes {n : List Nat} (h : LetL n) : ∀ c ∈ n ++ [46, 120], 32 < c ∧ c < 127 ∧ c ≠ 47 ∧ c ≠ 63 ∧ c ≠ 35 ∧ c ≠ 64 ∧ c ≠ 58 := fun c hc => by
 rcases List.mem_append.1 hc with hc | hc
 · have := h c hc; omega
 · exact (by decide : ∀ c ∈ [46, 120], 32 < c ∧ c < 127 ∧ c ≠ 47 ∧ c ≠ 63 ∧ c ≠ 35 ∧ c ≠ 64 ∧ c ≠ 58) c hc
theorem let_path {n : List Nat} (h : LetL n) : ∀ c ∈ n, 32 < c ∧ c < 127 ∧ c ≠ 63 ∧ c ≠ 35 ∧ c ≠ 37 := fun c hc => by have := h c hc; omega
def urlC (b : Bool) (name path : List Nat) (port : Int) : UrlP := ⟨schS b, 1, name ++ [46, 120], port, 47 :: path, [], [], false, false⟩
theorem sch_len (b : Bool) : (schS b).length ≤ 5 ∧ (schM b).length ≤ 5 ∧ (portS b).length ≤ 3 := by cases b <;> decide
theorem case_x {b : Bool} {name path : List Nat} (hn : LetL name) (h0 : name ≠ []) (h63 : name.length ≤ 63) (hp : ∀ c ∈ path, 32 < c ∧ c < 127 ∧ c ≠ 63 ∧ c ≠ 35 ∧ c ≠ 37) (hl : path.length ≤ 400) : urlL (caseX b name path) = .ok (urlC b name path (ownP (schS b))) := by
 obtain ⟨s1, s2, _⟩ := sch_facts b
 have hlen := (sch_len b).1
 have hb := let_bytes hn
 have ha := fun at_ => auth_plain (sch := schS b) (fun c hc => (hb c hc).2.2.2.2.2.1) (fun c hc => (hb c hc).2.2.2.2.2.2) (by simp) (by have := canon_back (host_x hn h0 h63); exact this) at_
 have := url_of (Q := none) (F := none) s1 s2 (fun c hc => by have := hb c hc; omega) ha hp (fun q h => by cases h) (fun q h => by cases h) (by simp; omega)
 simp only [List.append_nil] at this
 exact this
theorem case_y {b : Bool} {name path : List Nat} (hn : LetL name) (h0 : name ≠ []) (h63 : name.length ≤ 63) (hp : LetL path) (hl : path.length ≤ 400) : urlL (caseY b name path) = .ok (urlC b name path (ownP (schS b))) := by
 obtain ⟨_, _, s1, s2, _, s6, s7⟩ := sch_facts b
 have hlen := sch_len b
 have hup : ∀ c ∈ name.map upN ++ [46, 88, 46], 32 < c ∧ c < 127 ∧ c ≠ 47 ∧ c ≠ 63 ∧ c ≠ 35 ∧ c ≠ 64 := fun c hc => by
  rcases List.mem_append.1 hc with hc | hc
  · obtain ⟨d, hd, rfl⟩ := List.mem_map.1 hc
    have := hn d hd
    show 32 < d - 32 ∧ _
    unfold upN; omega
  · exact (by decide : ∀ c ∈ [46, 88, 46], 32 < c ∧ c < 127 ∧ c ≠ 47 ∧ c ≠ 63 ∧ c ≠ 35 ∧ c ≠ 64) c hc
 have hps : ∀ c ∈ portS b, 48 ≤ c ∧ c ≤ 57 := by cases b <;> decide
 have hc : canonL (name.map upN ++ [46, 88, 46]) = .ok 1 (name ++ [46, 120]) := by
  have := canon_great (host_x hn h0 h63) (b := name.map upN ++ [46, 88]) (by
   rw [List.map_append, up_low hn]; rfl)
  rw [List.append_assoc] at this
  exact this
 have ha := fun at_ => auth_ported (sch := schS b) (fun c hc => (hup c hc).2.2.2.2.2) (by simp) hc hps (by cases b <;> decide) s6 at_
 have := url_of (Q := none) (F := none) s1 s2 (fun c hc => by
  rcases List.mem_append.1 hc with hc | hc
  · have := hup c hc; omega
  · rcases List.mem_cons.1 hc with rfl | hc
    · decide
    · have := hps c hc; omega) ha (let_path hp) (fun q h => by cases h) (fun q h => by cases h) (by simp; omega)
 simp only [List.append_nil] at this
 have e : ((if b = true then 443 else 80 : Nat) : Int) = ownP (schS b) := by rw [s7]; cases b <;> rfl
 rw [e] at this
 exact this
theorem case_z {b : Bool} {name path : List Nat} (hn : LetL name) (h0 : name ≠ []) (h63 : name.length ≤ 63) (hp : LetL path) (hl : path.length ≤ 400) : urlL (caseZ b name path) = .ok (urlC b name path 81) := by
 obtain ⟨s1, s2, _⟩ := sch_facts b
 have hlen := sch_len b
 have hb := let_bytes hn
 have ha := fun at_ => auth_ported (sch := schS b) (a := name ++ [46, 120]) (p := [56, 49]) (n := 81) (fun c hc => (hb c hc).2.2.2.2.2.1) (by simp) (by have := canon_back (host_x hn h0 h63); exact this) (by decide) (by decide) (by kernel_rfl) at_
 have := url_of (Q := none) (F := none) s1 s2 (fun c hc => by
  rcases List.mem_append.1 hc with hc | hc
  · have := hb c hc; omega
  · exact (by decide : ∀ c ∈ [58, 56, 49], 32 < c ∧ c < 127 ∧ c ≠ 47 ∧ c ≠ 63 ∧ c ≠ 35) c hc) ha (let_path hp) (fun q h => by cases h) (fun q h => by cases h) (by simp; omega)
 simp only [List.append_nil] at this
 exact this
end
end Go.Proofs.YtbeodjipdpcaiaaGreatDoor
