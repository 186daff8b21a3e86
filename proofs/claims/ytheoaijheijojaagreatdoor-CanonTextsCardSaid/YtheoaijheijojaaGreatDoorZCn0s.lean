/- Cn0, Cn1, Cn2 in one text (a claim holds at most 60 files). -/
import Derived.Test.YtheoaijheijojaaGreatDoorZArena0s
import Derived.Test.YtheoaijheijojaaGreatDoorZScan4s
import Derived.Test.YtheoaijheijojaaGreatDoorZQuo0s
import Derived.Test.YtheoaijheijojaaGreatDoorZIdl0s
import Derived.Test.YtheoaijheijojaaGreatDoorZJsN1
import Derived.Lib.Join
import Derived.Test.YtheoaijheijojaaGreatDoorZJrP1s
namespace Go.Proofs.YtheoaijheijojaaGreatDoor
section
open Go.RowKit
/-- A text that is characters' bytes. -/
def RightB (s : ByteArray) : Prop := ∃ cs, charsS s 0 [] = .ok cs
theorem rightB_nil : RightB ⟨#[]⟩ := ⟨[], charsS_end (by decide)⟩
theorem strOf_right {cs : List Nat} (h : AllRight cs) : RightB (strOf cs) := by
  refine ⟨cs, ?_⟩
  have := charsS_puts (Q := strOf cs) cs 0 [] h (fun m x hx => ?_) (by rw [strOf_size]; omega)
  · simpa using this
  · rw [Nat.zero_add]
    have hx2 : x < 256 := by
      obtain ⟨c, hc, hxc⟩ := List.mem_flatMap.1 (List.mem_of_getElem? hx)
      exact putN_lt (right_lt (h c hc)) x hxc
    unfold byteAt strOf
    simp only [List.getElem?_toArray, List.getElem?_map, hx, Option.map_some, Option.getD_some]
    simp; omega
theorem tok_right {B : ByteArray} {t : Tok} {x : ByteArray} (h : textTok B t = some x) : RightB x := by
  unfold textTok at h
  split at h
  · split at h
    · split at h
      · rename_i z hz
        cases h
        exact strOf_right (textS_right hz)
      · cases h
    · cases h
  · cases h
/-- The nodes and keys that stand in what is being read. -/
def GOK (R : ByteArray → Prop) (Q : JN → Prop) (s : PS) : Prop := (∀ x ∈ s.js, Q x) ∧ (∀ o ∈ s.stack, R o.key)
theorem kindS_lt {a k : Int} (h : kindS a = some k) : 0 ≤ k ∧ k ≤ 6 := by
  unfold kindS at h
  repeat' split at h
  all_goals cases h
  all_goals decide
section
variable {R : ByteArray → Prop} {Q : JN → Prop} (h0 : R ⟨#[]⟩)
theorem gok_cons {o : Op} {r : List Op} (h1 : R o.key) (h2 : ∀ p ∈ r, R p.key) : ∀ p ∈ o :: r, R p.key := fun p hp => by
  rcases List.mem_cons.1 hp with rfl | hp
  · exact h1
  · exact h2 p hp
theorem gok_after {r : List Op} (h : ∀ o ∈ r, R o.key) : ∀ o ∈ afterS r, R o.key := by
  cases r with
  | nil => exact h
  | cons o r => exact gok_cons (show R (aftO o).key from h o (by simp)) (fun p hp => h p (by simp [hp]))
include h0
theorem take_gok {B : ByteArray} {m : Bd} {s s' : PS} {t : Tok} (hK : ∀ t x, textTok B t = some x → R x) (hN : ∀ (o : Op) (k : Int) (t : Tok), R o.key → 0 ≤ k ∧ k ≤ 6 → Q (nodeS B o k t)) (hk : GOK R Q s) (h : takeS B m s t = .ok s') : GOK R Q s' := by
  unfold takeS at h
  cases hs : s.stack with
  | nil => rw [hs] at h; cases h; exact hk
  | cons o r =>
    rw [hs] at h
    simp only at h
    have ho : R o.key := hk.2 o (by rw [hs]; simp)
    have hr : ∀ p ∈ r, R p.key := fun p hp => hk.2 p (by rw [hs]; simp [hp])
    have hw : ∀ {b : PS}, (wrongS t : Sc PS) = .ok b → GOK R Q b := fun h => by unfold wrongS at h; split at h <;> cases h
    have hv : valueS B m s o r t = .ok s' → GOK R Q s' := fun h => by
      unfold valueS at h
      split at h
      · exact hw h
      · rename_i kk hkk
        have hkk := kindS_lt hkk
        split at h
        · cases h
        · split at h
          · cases h
            exact ⟨fun x hx => by
              rcases List.mem_append.1 hx with hx | hx
              · exact hk.1 x hx
              · rw [List.mem_singleton.1 hx]; exact hN _ _ _ ho hkk, gok_after (gok_cons ho hr)⟩
          · split at h
            · cases h
            · cases h
              exact ⟨fun x hx => by
                rcases List.mem_append.1 hx with hx | hx
                · exact hk.1 x hx
                · rw [List.mem_singleton.1 hx]; exact hN _ _ _ ho hkk, gok_cons h0 (gok_cons ho hr)⟩
    have hy : keyS B s o r t = .ok s' → GOK R Q s' := fun h => by
      unfold keyS at h
      split at h
      · exact hw h
      · split at h
        · rename_i x hx
          cases h
          exact ⟨hk.1, gok_cons (hK _ _ hx) hr⟩
        · cases h
    have hb : betweenS s o r t = .ok s' → GOK R Q s' := fun h => by
      unfold betweenS at h
      split at h
      · cases h; exact ⟨hk.1, gok_after hr⟩
      · split at h
        · exact hw h
        · cases h; exact ⟨hk.1, gok_cons ho hr⟩
    split at h
    · split at h
      · cases h; exact hk
      · exact hw h
    · split at h
      · split at h
        · cases h; exact ⟨hk.1, gok_cons ho hr⟩
        · exact hw h
      · split at h
        · exact hb h
        · split at h
          · split at h
            · cases h; exact ⟨hk.1, gok_after hr⟩
            · split at h
              · exact hy h
              · exact hv h
          · split at h
            · exact hy h
            · exact hv h
theorem run_gok {B : ByteArray} {m : Bd} (hK : ∀ t x, textTok B t = some x → R x) (hN : ∀ (o : Op) (k : Int) (t : Tok), R o.key → 0 ≤ k ∧ k ≤ 6 → Q (nodeS B o k t)) : ∀ f i s s', GOK R Q s → runF B m f i s = .ok s' → GOK R Q s'
  | 0, i, s, s', hk, h => by cases h; exact hk
  | f + 1, i, s, s', hk, h => by
    rw [runF] at h
    obtain ⟨t, hn, h⟩ := Sc.bind_eq_ok h
    obtain ⟨s2, ht, h⟩ := Sc.bind_eq_ok h
    have h2 := take_gok h0 hK hN hk ht
    split at h
    · cases h; exact h2
    · exact run_gok hK hN f _ s2 s' h2 h
end
/-- A node of a text of so many bytes: its texts are characters' bytes, and not long. -/
structure NodeOK (K : Nat) (x : JN) : Prop where
  key : RightB x.key
  text : x.kind = 4 → RightB x.text
  lo : 0 ≤ x.kind
  hi : x.kind ≤ 6
  ks : x.key.size ≤ K
  ts : x.text.size ≤ K
theorem textTok_le {B : ByteArray} {t : Tok} {x : ByteArray} (h : textTok B t = some x) : x.size ≤ 4 * B.size := by
  unfold textTok at h
  split at h
  · rename_i y hy
    split at h
    · rename_i hc
      split at h
      · rename_i z hz
        cases h
        have hs := tok_shape hy
        obtain ⟨rfl, h7⟩ := hc
        have := textS_len (by omega) hz
        have := strOf_le z.1
        omega
      · cases h
    · cases h
  · cases h
theorem parse_nodes {B : ByteArray} {m : Bd} {s : PS} (h : parseS B m = .ok s) : ∀ x ∈ s.js, NodeOK (4 * B.size) x := by
  unfold parseS at h
  split at h
  · cases h
  · refine (run_gok (R := fun y => RightB y ∧ y.size ≤ 4 * B.size) (Q := NodeOK (4 * B.size)) ⟨rightB_nil, Nat.zero_le _⟩ (fun t x hx => ⟨tok_right hx, textTok_le hx⟩) (fun o k t ho hk => ?_) _ _ _ _ ⟨fun x hx => by simp [ps0] at hx, fun o ho => by simp [ps0] at ho; subst ho; exact ⟨rightB_nil, Nat.zero_le _⟩⟩ h).1
    have hkey : RightB (nodeS B o k t).key ∧ (nodeS B o k t).key.size ≤ 4 * B.size := by
      unfold nodeS
      simp only
      split
      · exact ho
      · exact ⟨rightB_nil, Nat.zero_le _⟩
    refine ⟨hkey.1, fun h4 => ?_, hk.1, hk.2, hkey.2, ?_⟩
    · have h4 : k = 4 := h4
      show RightB (textN B k t)
      unfold textN
      rw [if_pos h4]
      cases ht : textTok B t with
      | none => exact rightB_nil
      | some x => exact tok_right ht
    · show (textN B k t).size ≤ _
      unfold textN
      split
      · cases ht : textTok B t with
        | none => exact Nat.zero_le _
        | some x => exact textTok_le ht
      · split
        · rw [ByteArray.size_extract]; omega
        · exact Nat.zero_le _
end
section
open Go.RowKit
abbrev KV : Type := ByteArray × ByteArray
def keyLt (a b : ByteArray) : Bool := cB a.data.toList b.data.toList
theorem bytes_ext {a b : ByteArray} (h : a.data.toList = b.data.toList) : a = b := by
  cases a; cases b; congr 1; exact Array.toList_inj.1 h
theorem keyLt_irrefl (a : ByteArray) : keyLt a a = false := cB_irrefl _
theorem keyLt_trans {a b c : ByteArray} (h : keyLt a b = true) (k : keyLt b c = true) : keyLt a c = true := cB_trans _ _ _ h k
theorem keyLt_total {a b : ByteArray} (h : keyLt a b = false) (k : keyLt b a = false) : a = b := bytes_ext (cB_total _ _ h k)
theorem keyLt_asymm {a b : ByteArray} (h : keyLt a b = true) : keyLt b a = false := by
  rw [Bool.eq_false_iff]; intro k
  have := keyLt_trans h k
  rw [keyLt_irrefl] at this; cases this
theorem keyLt_ntrans {a b c : ByteArray} (h : keyLt a b = false) (k : keyLt b c = false) : keyLt a c = false := by
  cases hac : keyLt a c with
  | false => rfl
  | true =>
    cases hba : keyLt b a with
    | true => rw [keyLt_trans hba hac] at k; cases k
    | false => obtain rfl := keyLt_total h hba; rw [hac] at k; cases k
def kvLe (a b : KV) : Bool := !(keyLt b.1 a.1)
/-- Texts with a comma between. -/
def J (l : List ByteArray) : ByteArray := ⟨(Lib.join (l.map (·.data.toList)) [44]).toArray⟩
def partB (p : KV) : ByteArray := quoteB p.1 ++ ⟨#[58]⟩ ++ p.2
def objB (l : List KV) : ByteArray := ⟨#[123]⟩ ++ J ((l.mergeSort kvLe).map partB) ++ ⟨#[125]⟩
def lstB (l : List ByteArray) : ByteArray := ⟨#[91]⟩ ++ J l ++ ⟨#[93]⟩
theorem J_nil : J [] = ⟨#[]⟩ := rfl
theorem J_one (x : ByteArray) : J [x] = x := by
  apply bytes_ext
  simp [J, Lib.join_one]
theorem join_snoc (sep x : List UInt8) : ∀ l : List (List UInt8), l ≠ [] → Lib.join (l ++ [x]) sep = Lib.join l sep ++ sep ++ x
  | [], h => absurd rfl h
  | [a], _ => by simp [Lib.join, List.intercalate]
  | a :: b :: l, _ => by
    have ih := join_snoc sep x (b :: l) (by simp)
    have e : ∀ (c : List UInt8) (r : List (List UInt8)), r ≠ [] → Lib.join (c :: r) sep = c ++ sep ++ Lib.join r sep := fun c r hr => by
      cases r with
      | nil => exact absurd rfl hr
      | cons d r => simp [Lib.join, List.intercalate, List.intersperse]
    rw [List.cons_append, e a _ (by simp), ih, e a _ (by simp)]
    simp
theorem J_snoc (l : List ByteArray) (x : ByteArray) (h : l ≠ []) : J (l ++ [x]) = J l ++ ⟨#[44]⟩ ++ x := by
  apply bytes_ext
  unfold J
  rw [List.map_append, List.map_cons, List.map_nil, join_snoc _ _ _ (by simpa using h)]
  simp [ByteArray.data_append]
theorem J_step {l : List ByteArray} {n : Nat} {x : ByteArray} (hx : l[n]? = some x) (pre : ByteArray) : (if 0 < n then pre ++ J (l.take n) ++ ⟨#[44]⟩ else pre ++ J (l.take n)) ++ x = pre ++ J (l.take (n + 1)) := by
  obtain ⟨hn, rfl⟩ := List.getElem?_eq_some_iff.1 hx
  rw [List.take_succ_eq_append_getElem hn]
  by_cases h0 : 0 < n
  · rw [if_pos h0, J_snoc _ _ (by intro e; have h1 := congrArg List.length e; rw [List.length_take, List.length_nil] at h1; omega)]
    simp [ByteArray.append_assoc]
  · obtain rfl : n = 0 := by omega
    rw [if_neg h0, List.take_zero, List.nil_append, J_one, J_nil]
    show pre ++ ByteArray.empty ++ _ = _
    rw [ByteArray.append_empty]
/-- The least key of those not taken. -/
def keyAt (l : List ByteArray) (i : Nat) : ByteArray := (l[i]?).getD ⟨#[]⟩
def bestS (keys : List ByteArray) (tk : Nat → Bool) : Nat → Option Nat
  | 0 => none
  | n + 1 => if tk n then bestS keys tk n else match bestS keys tk n with
    | none => some n
    | some b => if keyLt (keyAt keys n) (keyAt keys b) then some n else some b
theorem best_some {keys : List ByteArray} {tk : Nat → Bool} : ∀ (n b : Nat), bestS keys tk n = some b → b < n ∧ tk b = false ∧ ∀ i, i < n → tk i = false → keyLt (keyAt keys i) (keyAt keys b) = false
  | 0, b, h => by cases h
  | n + 1, b, h => by
    rw [bestS] at h
    cases ht : tk n with
    | true =>
      rw [ht, if_pos rfl] at h
      obtain ⟨h1, h2, h3⟩ := best_some n b h
      exact ⟨by omega, h2, fun i hi hti => h3 i (by rcases Nat.lt_succ_iff_lt_or_eq.1 hi with h | rfl; exact h; rw [ht] at hti; cases hti) hti⟩
    | false =>
      rw [ht, if_neg (by simp)] at h
      cases hb : bestS keys tk n with
      | none =>
        rw [hb] at h
        cases h
        refine ⟨by omega, ht, fun i hi hti => ?_⟩
        rcases Nat.lt_succ_iff_lt_or_eq.1 hi with hlt | rfl
        · exact absurd hb (best_ne n i hlt hti)
        · exact keyLt_irrefl _
      | some c =>
        rw [hb] at h
        obtain ⟨h1, h2, h3⟩ := best_some n c hb
        simp only at h
        split at h
        · rename_i hlt
          cases h
          refine ⟨by omega, ht, fun i hi hti => ?_⟩
          rcases Nat.lt_succ_iff_lt_or_eq.1 hi with hl | rfl
          · exact keyLt_ntrans (h3 i hl hti) (keyLt_asymm hlt)
          · exact keyLt_irrefl _
        · rename_i hlt
          cases h
          refine ⟨by omega, h2, fun i hi hti => ?_⟩
          rcases Nat.lt_succ_iff_lt_or_eq.1 hi with hl | rfl
          · exact h3 i hl hti
          · simpa using hlt
where best_ne : ∀ (n i : Nat), i < n → tk i = false → bestS keys tk n ≠ none
  | 0, i, h, _ => by omega
  | n + 1, i, h, ht => by
    rw [bestS]
    cases hn : tk n with
    | true =>
      rw [if_pos rfl]
      rcases Nat.lt_succ_iff_lt_or_eq.1 h with hl | rfl
      · exact best_ne n i hl ht
      · rw [hn] at ht; cases ht
    | false =>
      rw [if_neg (by simp)]
      cases bestS keys tk n with
      | none => simp
      | some b => simp only; split <;> simp
/-- The places of keys in order. -/
def sigma (keys : List ByteArray) : List Nat := (List.range keys.length).mergeSort fun i j => !(keyLt (keyAt keys j) (keyAt keys i))
theorem sigma_len (keys : List ByteArray) : (sigma keys).length = keys.length := by unfold sigma; rw [List.length_mergeSort, List.length_range]
theorem sigma_mem (keys : List ByteArray) (i : Nat) : i ∈ sigma keys ↔ i < keys.length := by unfold sigma; rw [List.mem_mergeSort, List.mem_range]
theorem sigma_nodup (keys : List ByteArray) : (sigma keys).Nodup := ((List.mergeSort_perm _ _).nodup_iff).2 List.nodup_range
theorem sigma_sorted (keys : List ByteArray) : (sigma keys).Pairwise fun i j => keyLt (keyAt keys j) (keyAt keys i) = false := by
  have h := List.pairwise_mergeSort (le := fun i j => !(keyLt (keyAt keys j) (keyAt keys i))) (fun a b c h1 h2 => by
    simp only [Bool.not_eq_true'] at *
    exact keyLt_ntrans h2 h1) (fun a b => by
    cases h1 : keyLt (keyAt keys b) (keyAt keys a) with
    | false => simp
    | true => simp [keyLt_asymm h1]) (List.range keys.length)
  exact h.imp (fun h => by simpa using h)
theorem best_sigma {keys : List ByteArray} {tk : Nat → Bool} {m x : Nat} (hn : ∀ i j, i < keys.length → j < keys.length → keyAt keys i = keyAt keys j → i = j) (hx : (sigma keys)[m]? = some x) (ht : ∀ i, i < keys.length → (tk i = true ↔ i ∈ (sigma keys).take m)) : bestS keys tk keys.length = some x := by
  obtain ⟨hm, rfl⟩ := List.getElem?_eq_some_iff.1 hx
  have hxl := (sigma_mem keys (sigma keys)[m]).1 (List.getElem_mem hm)
  have hnt : tk (sigma keys)[m] = false := by
    rw [Bool.eq_false_iff]
    intro h
    obtain ⟨q, hq, he⟩ := List.mem_iff_getElem.1 ((ht _ hxl).1 h)
    rw [List.length_take] at hq
    rw [List.getElem_take] at he
    exact List.pairwise_iff_getElem.1 (sigma_nodup keys) q m (by omega) hm (by omega) he
  cases hb : bestS keys tk keys.length with
  | none => exact absurd hb (best_some.best_ne keys.length _ hxl hnt)
  | some b =>
    obtain ⟨h1, h2, h3⟩ := best_some _ _ hb
    have hbs := (sigma_mem keys b).2 h1
    obtain ⟨q, hq, he⟩ := List.mem_iff_getElem.1 hbs
    have hmq : m ≤ q := by
      refine Nat.le_of_not_lt fun hlt => ?_
      have : tk b = true := (ht b h1).2 (List.mem_iff_getElem.2 ⟨q, by rw [List.length_take]; omega, by rw [List.getElem_take]; exact he⟩)
      rw [h2] at this; cases this
    have hle : keyLt (keyAt keys b) (keyAt keys (sigma keys)[m]) = false := by
      rcases Nat.lt_or_eq_of_le hmq with hlt | rfl
      · have := List.pairwise_iff_getElem.1 (sigma_sorted keys) m q hm hq hlt
        rw [he] at this; exact this
      · rw [← he]; exact keyLt_irrefl _
    rw [hn b _ h1 hxl (keyLt_total hle (h3 _ hxl hnt))]
theorem zip_range : ∀ (keys forms : List ByteArray), keys.length = forms.length → keys.zip forms = (List.range keys.length).map fun i => (keyAt keys i, keyAt forms i) := by
  intro keys forms hl
  apply List.ext_getElem
  · simp; omega
  · intro i h1 h2
    have hk : i < keys.length := by simpa using h2
    simp [keyAt, hk, hl ▸ hk]
/-- The document's object. -/
def objR (keys forms : List ByteArray) : ByteArray := ⟨#[123]⟩ ++ J ((sigma keys).map fun i => partB (keyAt keys i, keyAt forms i)) ++ ⟨#[125]⟩
theorem objR_eq (keys forms : List ByteArray) (hl : keys.length = forms.length) : objR keys forms = objB (keys.zip forms) := by
  unfold objR objB
  rw [zip_range keys forms hl]
  have h := List.map_mergeSort (r := fun i j => !(keyLt (keyAt keys j) (keyAt keys i))) (s := kvLe) (f := fun i => (keyAt keys i, keyAt forms i)) (l := List.range keys.length) (fun a _ b _ => rfl)
  rw [← h, List.map_map]
  rfl
theorem members_inj {js : List JN} {all : List Nat} {a b : Nat} (ha : a ∈ membersS js all) (hb : b ∈ membersS js all) (h : keyA js a = keyA js b) : a = b := by
  have h1 := (List.mem_filter.1 ha).2
  have h2 := (List.mem_filter.1 hb).2
  unfold isLast at h1 h2
  rw [beq_iff_eq] at h1 h2
  rw [h, h2] at h1
  omega
end
section
open Go.RowKit
def nullB : ByteArray := ⟨#[110, 117, 108, 108]⟩
def falseB : ByteArray := ⟨#[102, 97, 108, 115, 101]⟩
def trueB : ByteArray := ⟨#[116, 114, 117, 101]⟩
def formF (js : List JN) (ups : List Nat) : Nat → Nat → ByteArray
  | 0, _ => ⟨#[]⟩
  | f + 1, i => if (textA js i).kind = 0 then nullB else if (textA js i).kind = 1 then falseB else if (textA js i).kind = 2 then trueB
    else if (textA js i).kind = 3 then (textA js i).text else if (textA js i).kind = 4 then quoteB (textA js i).text
    else if (textA js i).kind = 6 then objB ((membersS js (kids ups i)).map fun k => (keyA js k, formF js ups f k)) else lstB ((kids ups i).map (formF js ups f))
theorem escB_le (c : Nat) : (escB c).length ≤ 6 := (escB_len c).2
theorem flat_le {α β : Type} (g : α → List β) (k : Nat) (h : ∀ x, (g x).length ≤ k) : ∀ l : List α, (l.flatMap g).length ≤ k * l.length
  | [] => by simp
  | x :: l => by
    have := flat_le g k h l
    have := h x
    rw [List.flatMap_cons, List.length_append, List.length_cons, Nat.mul_add]; omega
theorem quoteB_le (B : ByteArray) : (quoteB B).size ≤ 6 * B.size + 2 := by
  rw [quoteB_size]
  unfold quoteL
  have := flat_le escB 6 escB_le (bytesN B)
  have e : (bytesN B).length = B.size := by unfold bytesN; rw [List.length_map, Array.length_toList]; rfl
  rw [e] at this
  rw [List.length_cons, List.length_append, List.length_singleton]; omega
theorem J_size : ∀ l : List ByteArray, (J l).size ≤ (l.map fun x => x.size + 1).sum := by
  intro l
  have key : ∀ l : List (List UInt8), (Lib.join l [44]).length ≤ (l.map fun x => x.length + 1).sum := by
    intro l
    cases l with
    | nil => simp [Lib.join_nil]
    | cons x l =>
      rw [Lib.join_cons, List.length_append, List.map_cons, List.sum_cons]
      have : ∀ l : List (List UInt8), (Lib.joinTail [44] l).length = (l.map fun x => x.length + 1).sum := by
        intro l
        induction l with
        | nil => rfl
        | cons y l ih => simp [Lib.joinTail] at ih ⊢; omega
      rw [this]; omega
  have := key (l.map (·.data.toList))
  rw [List.map_map] at this
  have e : (J l).size = (Lib.join (l.map (·.data.toList)) [44]).length := by unfold J; show (List.toArray _).size = _; simp
  rw [e]
  refine Nat.le_trans this (Nat.le_of_eq ?_)
  congr 1
theorem sum_perm {l m : List Nat} (h : l.Perm m) : l.sum = m.sum := h.sum_nat
theorem sum_filter {α : Type} (p : α → Bool) (g : α → Nat) : ∀ l : List α, ((l.filter p).map g).sum ≤ (l.map g).sum
  | [] => by simp
  | x :: l => by
    have := sum_filter p g l
    rw [List.filter_cons]
    split
    · simp; omega
    · simp; omega
theorem sum_le {α : Type} {g h : α → Nat} : ∀ l : List α, (∀ x ∈ l, g x ≤ h x) → (l.map g).sum ≤ (l.map h).sum
  | [], _ => by simp
  | x :: l, hl => by
    have := sum_le l (fun y hy => hl y (by simp [hy]))
    have := hl x (by simp)
    simp; omega
theorem objB_size (l : List KV) : (objB l).size ≤ (l.map fun p => 6 * p.1.size + p.2.size + 4).sum + 2 := by
  have h := J_size ((l.mergeSort kvLe).map partB)
  rw [List.map_map] at h
  have e : (((l.mergeSort kvLe).map ((fun x => x.size + 1) ∘ partB)).sum) = (l.map ((fun x => x.size + 1) ∘ partB)).sum := sum_perm ((List.mergeSort_perm l kvLe).map _)
  rw [e] at h
  have h2 : (l.map ((fun x => x.size + 1) ∘ partB)).sum ≤ (l.map fun p => 6 * p.1.size + p.2.size + 4).sum := sum_le l (fun p _ => by
    show (partB p).size + 1 ≤ _
    unfold partB
    have := quoteB_le p.1
    rw [ByteArray.size_append, ByteArray.size_append]
    show (quoteB p.1).size + 1 + p.2.size + 1 ≤ _
    omega)
  unfold objB
  rw [ByteArray.size_append, ByteArray.size_append]
  show 1 + (J _).size + 1 ≤ _
  omega
theorem lstB_size (l : List ByteArray) : (lstB l).size ≤ (l.map fun x => x.size + 1).sum + 2 := by
  have h := J_size l
  unfold lstB
  rw [ByteArray.size_append, ByteArray.size_append]
  show 1 + (J _).size + 1 ≤ _
  omega
end
end Go.Proofs.YtheoaijheijojaaGreatDoor
