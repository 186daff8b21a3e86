/- Texts put together. -/
import Derived.Test.YtbeodjipdpcaiaaGreatDoorYUrl0s
import Derived.Test.YtbeodjipdpcaiaaGreatDoorYCut0s
import Derived.Test.YtbeodjipdpcaiaaGreatDoorYIdent1s
import Derived.Test.YtbeodjipdpcaiaaGreatDoorYUrl2s
import Derived.Test.YtbeodjipdpcaiaaGreatDoorYHsw1s
import Derived.Lib.LastIndexByte
namespace Go.Proofs.YtbeodjipdpcaiaaGreatDoor
section
open Go.RowKit
theorem u8_beq (b c : UInt8) : (b == c) = decide (b.toNat = c.toNat) := by
 rw [Bool.eq_iff_iff, beq_iff_eq, decide_eq_true_eq]
 exact ⟨fun h => by rw [h], fun h => UInt8.toNat.inj h⟩
theorem notIn_one (k c : Nat) : notIn [k] c = decide (c ≠ k) := by
 unfold notIn
 by_cases h : c = k
 · rw [decide_eq_false (fun e => e h), h]; simp
 · rw [decide_eq_true h]; simp [h]
def ixN (k : Nat) (l : List Nat) : Int := if untilB [k] l = [] then -1 else ((untilA [k] l).length : Nat)
theorem ixN_nil (k : Nat) : ixN k [] = -1 := rfl
theorem ixN_cons (k c : Nat) (l : List Nat) : ixN k (c :: l) = if c = k then 0 else if ixN k l = -1 then -1 else ixN k l + 1 := by
 unfold ixN untilA untilB
 rw [List.takeWhile_cons, List.dropWhile_cons, notIn_one]
 by_cases h : c = k
 · rw [if_pos h, decide_eq_false (fun e => e h)]
   simp
 · rw [if_neg h, decide_eq_true h]
   simp only [if_true, List.length_cons]
   by_cases h2 : List.dropWhile (notIn [k]) l = []
   · simp only [if_pos h2, if_true]
   · simp only [if_neg h2]
     have hne : ¬ (((List.takeWhile (notIn [k]) l).length : Int) = -1) := by omega
     rw [if_neg hne]
     push_cast; rfl
theorem ixB_eq (c : UInt8) : ∀ l : List UInt8, Lib.indexByte l c = ixN c.toNat (l.map (·.toNat))
 | [] => rfl
 | b :: l => by
   rw [Lib.indexByte, List.map_cons, ixN_cons, ← ixB_eq c l, u8_beq]
   by_cases h : b.toNat = c.toNat
   · rw [if_pos h, if_pos (decide_eq_true h)]
   · rw [if_neg h, if_neg (by rw [decide_eq_false h]; decide)]
     by_cases h2 : Lib.indexByte l c = -1
     · rw [if_pos h2, if_pos (beq_iff_eq.2 h2)]
     · rw [if_neg h2, if_neg (by rw [beq_iff_eq]; exact h2)]
theorem ix1_eq (c : UInt8) : ∀ l : List UInt8, Lib.index l [c] = ixN c.toNat (l.map (·.toNat))
 | [] => rfl
 | b :: l => by
   rw [Lib.index, List.map_cons, ixN_cons, ← ix1_eq c l]
   have hp : ([c] : List UInt8).isPrefixOf (b :: l) = decide (b.toNat = c.toNat) := by
    simp only [List.isPrefixOf, Bool.and_true]
    rw [u8_beq]
    exact decide_eq_decide.2 ⟨fun h => h.symm, fun h => h.symm⟩
   rw [hp]
   by_cases h : b.toNat = c.toNat
   · rw [if_pos h, if_pos (decide_eq_true h)]
   · rw [if_neg h, if_neg (by rw [decide_eq_false h]; decide)]
     by_cases h2 : Lib.index l [c] = -1
     · rw [if_pos h2, if_pos (beq_iff_eq.2 h2)]
     · rw [if_neg h2, if_neg (by rw [beq_iff_eq]; exact h2)]
theorem until_take (m l : List Nat) : untilA m l = l.take (untilA m l).length := by
 have h := until_eq m l
 have h2 := congrArg (List.take (untilA m l).length) h
 rw [List.take_left] at h2
 exact h2
theorem until_drop (m l : List Nat) : untilB m l = l.drop (untilA m l).length := by
 have h := until_eq m l
 have h2 := congrArg (List.drop (untilA m l).length) h
 rw [List.drop_left] at h2
 exact h2
theorem until_len (m l : List Nat) : (untilA m l).length + (untilB m l).length = l.length := by
 have h := congrArg List.length (until_eq m l)
 rw [List.length_append] at h; exact h
/-- What strings.Cut gives at one byte. -/
theorem cut_one (s : ByteArray) (c : UInt8) : (untilB [c.toNat] (bytesN s) = [] ∧ untilA [c.toNat] (bytesN s) = bytesN s ∧ Lib.cut s.data.toList [c] = (s.data.toList, [], false)) ∨ (untilB [c.toNat] (bytesN s) ≠ [] ∧ Lib.cut s.data.toList [c] = (s.data.toList.take (untilA [c.toNat] (bytesN s)).length, s.data.toList.drop ((untilA [c.toNat] (bytesN s)).length + 1), true)) := by
 have h := ix1_eq c s.data.toList
 have e : s.data.toList.map (·.toNat) = bytesN s := rfl
 rw [e] at h
 unfold Lib.cut
 by_cases h0 : untilB [c.toNat] (bytesN s) = []
 · refine .inl ⟨h0, ?_, ?_⟩
   · have := until_eq [c.toNat] (bytesN s)
     rw [h0, List.append_nil] at this; exact this
   · rw [h]
     unfold ixN
     rw [if_pos h0, if_neg (by decide)]
 · refine .inr ⟨h0, ?_⟩
   rw [h]
   unfold ixN
   rw [if_neg h0, if_pos (by omega)]
   rfl
/-- The last place of a byte, from the end on. -/
theorem lastIx_lastI (s : ByteArray) (c : Nat) : ∀ k, k ≤ s.size → Go.Lib.lastIdx s (c : Int) k = match lastI c ((bytesN s).take k) with
    | some i => ((i : Nat) : Int)
    | none => -1
 | 0, _ => by rw [List.take_zero]; rfl
 | k + 1, h => by
   have ih := lastIx_lastI s c k (by omega)
   have e : ((s.data[k]!).toNat : Int) = (byteAt s k : Int) := by
    have h' : k < s.data.size := h
    unfold byteAt; rw [Array.getElem?_eq_getElem h', getElem!_pos s.data k h']; rfl
   rw [Go.Lib.lastIdx, e, ih, List.take_add_one, bytesN_get (by omega)]
   simp only [Option.toList_some]
   by_cases hc : byteAt s k = c
   · rw [if_pos (by omega), hc, lastI_hit' ((bytesN s).take k)]
     simp only [List.length_take, bytesN_len]
     rw [Nat.min_eq_left (by omega)]
   · rw [if_neg (by omega), lastI_snoc' ((bytesN s).take k) hc]
where
 lastI_hit' : ∀ {c : Nat} (a : List Nat), lastI c (a ++ [c]) = some a.length
  | c, [] => by simp [lastI]
  | c, x :: a => by rw [List.cons_append, lastI, lastI_hit' a]; rfl
 lastI_snoc' : ∀ {c x : Nat} (l : List Nat), x ≠ c → lastI c (l ++ [x]) = lastI c l
  | c, x, [], h => by simp [lastI, h]
  | c, x, y :: l, h => by rw [List.cons_append, lastI, lastI, lastI_snoc' l h]
theorem lastIxB (s : ByteArray) (c : Nat) : Go.Lib.lastIndexByte s (c : Int) = match lastI c (bytesN s) with
    | some i => ((i : Nat) : Int)
    | none => -1 := by
 have h := lastIx_lastI s c s.size (Nat.le_refl _)
 rw [List.take_of_length_le (by rw [bytesN_len]; exact Nat.le_refl _)] at h
 exact h
theorem pre_one (l : List UInt8) (c : UInt8) : Lib.hasPrefix l [c] = decide ((l.map (·.toNat)).head? = some c.toNat) := by
 unfold Lib.hasPrefix
 cases l with
 | nil => simp [List.isPrefixOf]
 | cons b l =>
   simp only [List.isPrefixOf, Bool.and_true, List.map_cons, List.head?_cons, Option.some.injEq]
   rw [u8_beq]
   exact decide_eq_decide.2 ⟨fun h => h.symm, fun h => h.symm⟩
theorem pre_slash (l : List UInt8) : Lib.hasPrefix l [47, 47] = slash2 (l.map (·.toNat)) := by
 unfold Lib.hasPrefix slash2
 rcases l with _ | ⟨b, _ | ⟨c, l⟩⟩
 · rfl
 · simp [List.isPrefixOf]
 · simp only [List.isPrefixOf, Bool.and_true, List.map_cons, List.take_succ_cons, List.take_zero]
   rw [u8_beq, u8_beq, ← Bool.decide_and]
   have e : (47 : UInt8).toNat = 47 := rfl
   rw [e]
   refine decide_eq_decide.2 ⟨fun h => by rw [← h.1, ← h.2], fun h => ?_⟩
   injection h with h1 h2
   injection h2 with h2 _
   exact ⟨h1.symm, h2.symm⟩
/-- The tests of ident.Scheme. -/
def schB (i c : Nat) : Bool := letterB c || (decide (0 < i) && (digitB c || (decide (c = 43) || (decide (c = 45) || decide (c = 46)))))
theorem schB_N (i c : Nat) : schB i c = schN i c := by
 unfold schB schN letN decD letterB smallB greatB digitB
 rw [Bool.eq_iff_iff]
 simp only [Bool.or_eq_true, Bool.and_eq_true, decide_eq_true_eq]
 try omega
theorem readR_schE (s : ByteArray) : readR s 64 schB (decide (0 < s.size)) = match schE (bytesN s) with
    | (0, _) => []
    | (k + 1, p) => [(((k + 1 : Nat) : Int), (p : Int))] := by
 unfold readR schE
 have hb : badAt s 64 schB = badS (bytesN s) := by
  funext i
  unfold badAt badS
  rw [schB_N, byteAt_bytesN]
 rw [hb, bytesN_len]
 cases hf : (List.range s.size).find? (badS (bytesN s)) with
 | some i =>
   simp only
   by_cases h : 64 ≤ i
   · rw [if_pos h, if_pos h]; rfl
   · rw [if_neg h, if_neg h]; rfl
 | none =>
   simp only
   by_cases h : bytesN s = []
   · have hz : s.size = 0 := by rw [← bytesN_len, h]; rfl
     rw [if_pos h, hz]; simp
   · have hz : 0 < s.size := Nat.pos_of_ne_zero (fun e => h (List.eq_nil_of_length_eq_zero (by rw [bytesN_len]; exact e)))
     rw [if_neg h, decide_eq_true hz]; rfl
end
section
open Go.RowKit
/-- The cells of a URL. -/
def urlA (s : ByteArray) (k : Int) (t : ByteArray) (p : Int) (pa q f : ByteArray) (hq hf : Bool) : Array Value := #[.string s, .int .i64 k, .string t, .int .i64 p, .string pa, .string q, .string f, .bool hq, .bool hf]
def urlCells (u : UrlP) : Array Value := urlA (bytesL u.scheme) u.hk (bytesL u.ht) u.port (bytesL u.path) (bytesL u.query) (bytesL u.frag) u.hasQ u.hasF
def urlZ : Array Value := urlA ⟨#[]⟩ 0 ⟨#[]⟩ 0 ⟨#[]⟩ ⟨#[]⟩ ⟨#[]⟩ false false
def UpPost (w : World) (r : Ch UrlP) (e : Ending) (w' : World) : Prop := Below w.heap.size w w' ∧ match r with
 | .ok u => e = .returned (.tuple #[.agg (urlCells u), .nilIface])
 | .er c => ∃ v, e = .returned (.tuple #[.agg urlZ, v]) ∧ Er w' v c
def colonB : ByteArray := ⟨#[58]⟩
def slashesB : ByteArray := ⟨#[47, 47]⟩
def askB : ByteArray := ⟨#[63]⟩
def hashB : ByteArray := ⟨#[35]⟩
def ownB (s : ByteArray) : Int := ownP (bytesN s)
def webB (s : ByteArray) : Bool := webL (bytesN s)
def wherePortB (s : ByteArray) (p : Int) : Bool := decide (0 ≤ p) && decide (p ≠ ownB s)
def whereB (s : ByteArray) (k : Int) (t : ByteArray) (p : Int) : ByteArray := if wherePortB s p = true then hostT k t ++ (colonB ++ decB p.toNat) else hostT k t
def hostedB (s : ByteArray) (k : Int) (t : ByteArray) : Bool := !(decide (k = 0) && decide (t = ⟨#[]⟩)) || webB s
def textB1 (s : ByteArray) (k : Int) (t : ByteArray) (p : Int) : ByteArray := if hostedB s k t = true then (s ++ colonB) ++ (slashesB ++ whereB s k t p) else s ++ colonB
def textB2 (A q : ByteArray) (hq : Bool) : ByteArray := if hq = true then A ++ (askB ++ q) else A
def textB3 (A f : ByteArray) (hf : Bool) : ByteArray := if hf = true then A ++ (hashB ++ f) else A
def textB (s : ByteArray) (k : Int) (t : ByteArray) (p : Int) (pa q f : ByteArray) (hq hf : Bool) : ByteArray := textB3 (textB2 (textB1 s k t p ++ pa) q hq) f hf
theorem decN_nat (n : Nat) : bytesL (decN n) = decB n := bytesL_bytesN _
theorem whereB_L (u : UrlP) (hs : ByteL u.scheme) : whereB (bytesL u.scheme) u.hk (bytesL u.ht) u.port = bytesL (whereL u) := by
 unfold whereB whereL wherePortB ownB
 rw [bytesN_bytesL hs, hostT_bytes, bytesL_append]
 by_cases h : 0 ≤ u.port ∧ u.port ≠ ownP u.scheme
 · rw [if_pos (by rw [decide_eq_true h.1, decide_eq_true h.2]; rfl), if_pos h]
   have : bytesL (58 :: decI u.port) = colonB ++ decB u.port.toNat := by
    show bytesL ([58] ++ decN u.port.toNat) = _
    rw [bytesL_append, decN_nat]; rfl
   rw [this]
 · rw [if_neg (by rw [Bool.and_eq_true, decide_eq_true_eq, decide_eq_true_eq]; exact h), if_neg h]
   have : bytesL ([] : List Nat) = ⟨#[]⟩ := rfl
   rw [this]
   exact (toList_inj (by rw [ByteArray.toList_eq, ByteArray.toList_eq, ByteArray.data_append]; simp)).symm
theorem hosted_L (u : UrlP) (hs : ByteL u.scheme) : hostedB (bytesL u.scheme) u.hk (bytesL u.ht) = (!(noHost u) || webL u.scheme) := by
 unfold hostedB noHost webB
 rw [bytesN_bytesL hs]
 congr 2
 congr 1
 · exact decide_eq_decide.2 (by omega)
 · refine decide_eq_decide.2 ⟨fun h => ?_, fun h => by rw [h]; rfl⟩
   have := congrArg ByteArray.size h
   rw [bytesL_size] at this
   exact List.eq_nil_of_length_eq_zero this
theorem bempty_append (a : ByteArray) : a ++ (⟨#[]⟩ : ByteArray) = a := toList_inj (by rw [ByteArray.toList_eq, ByteArray.toList_eq, ByteArray.data_append]; simp)
theorem textB_L (u : UrlP) (hs : ByteL u.scheme) : textB (bytesL u.scheme) u.hk (bytesL u.ht) u.port (bytesL u.path) (bytesL u.query) (bytesL u.frag) u.hasQ u.hasF = bytesL (textU u) := by
 have e1 : textB1 (bytesL u.scheme) u.hk (bytesL u.ht) u.port = bytesL (u.scheme ++ 58 :: (if noHost u = false ∨ webL u.scheme = true then 47 :: 47 :: whereL u else [])) := by
  unfold textB1
  rw [hosted_L u hs, whereB_L u hs]
  have ec : ∀ l : List Nat, u.scheme ++ 58 :: l = (u.scheme ++ [58]) ++ l := fun l => by simp
  rw [ec, bytesL_append, bytesL_append]
  by_cases h : noHost u = false ∨ webL u.scheme = true
  · rw [if_pos (by rcases h with h | h <;> simp [h]), if_pos h]
    have : bytesL (47 :: 47 :: whereL u) = slashesB ++ bytesL (whereL u) := by
     show bytesL ([47, 47] ++ whereL u) = _
     rw [bytesL_append]; rfl
    rw [this]; rfl
  · have h1 : noHost u = true := by cases hn : noHost u with
      | true => rfl
      | false => exact absurd (.inl hn) h
    have h2 : webL u.scheme = false := by cases hn : webL u.scheme with
     | false => rfl
     | true => exact absurd (.inr hn) h
    rw [if_neg (by rw [h1, h2]; simp), if_neg h]
    exact (bempty_append _).symm
 unfold textB
 rw [e1]
 unfold textU textB2 textB3
 have e2 : ∀ l : List Nat, bytesL (63 :: l) = askB ++ bytesL l := fun l => by
  show bytesL ([63] ++ l) = _
  rw [bytesL_append]; rfl
 have e3 : ∀ l : List Nat, bytesL (35 :: l) = hashB ++ bytesL l := fun l => by
  show bytesL ([35] ++ l) = _
  rw [bytesL_append]; rfl
 cases u.hasQ <;> cases u.hasF <;> simp only [if_true, if_false, Bool.false_eq_true, ← e2, ← e3, ← bytesL_append] <;> simp
theorem bapp_size (a b : ByteArray) : (a ++ b).size = a.size + b.size := ByteArray.size_append
theorem decB_size {n : Nat} (h : n < 18446744073709551616) : (decB n).size ≤ 20 := by
 unfold decB; rw [decS_size]; exact lenD_le h
theorem whereB_size (s : ByteArray) (k : Int) (t : ByteArray) (p : Int) (hp : p < 9223372036854775808) : (whereB s k t p).size ≤ t.size + 23 := by
 have h1 := hostT_size k t
 unfold whereB
 split
 · rw [bapp_size, bapp_size]
   have h2 : (decB p.toNat).size ≤ 20 := decB_size (by omega)
   have h3 : colonB.size = 1 := rfl
   omega
 · omega
end
end Go.Proofs.YtbeodjipdpcaiaaGreatDoor
