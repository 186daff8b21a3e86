/- Texts put together. -/
import Derived.Test.YtbeodjipdpcaiaaGreatDoorYUrw6
namespace Go.Proofs.YtbeodjipdpcaiaaGreatDoor
open Go.RowKit
/-- Any parts are stored over zero ones. -/
theorem pt_put (p : UParts) (b : Nat) (w : World) (h : w.heap[b]? = some (.cells (partV ⟨#[]⟩ ⟨#[]⟩ ⟨#[]⟩ ⟨#[]⟩ false false false 0 0 0 0) 107 (0, 0))) : (storeVar 107 ⟨b, 0, none⟩ (.agg (partC p))).run Tryz.prog w = .ok () (w.setRow b (partC p)) :=
 run_storeVar_row (P := Tryz.prog) w b 107 107 _ (partC p) h pt_info rfl (by
  rw [Array.all_eq_true_iff_forall_mem]
  intro v hv
  simp only [partC, partV, List.mem_toArray, List.mem_cons, List.not_mem_nil, or_false] at hv
  rcases hv with rfl | rfl | rfl | rfl | rfl | rfl | rfl | rfl | rfl | rfl | rfl <;> rfl)
theorem byteL_until {m l : List Nat} (h : ByteL l) : ByteL (untilA m l) ∧ ByteL (untilB m l) := ⟨fun c hc => h c (by rw [until_take] at hc; exact List.mem_of_mem_take hc), fun c hc => h c (by rw [until_drop] at hc; exact List.mem_of_mem_drop hc)⟩
theorem untilB_le (m l : List Nat) : (untilB m l).length ≤ l.length := by have := until_len m l; omega
theorem untilA_le (m l : List Nat) : (untilA m l).length ≤ l.length := by have := until_len m l; omega
theorem rest1_byte {r : List Nat} (h : ByteL r) : ByteL (rest1 r) ∧ (rest1 r).length ≤ r.length := by
 unfold rest1
 split
 · exact ⟨(byteL_until (h.drop 2)).2, by have := untilB_le [47, 63, 35] (r.drop 2); rw [List.length_drop] at this; omega⟩
 · exact ⟨h, Nat.le_refl _⟩
theorem rest2_byte {r : List Nat} (h : ByteL r) : ByteL (rest2 r) ∧ (rest2 r).length ≤ r.length := by
 obtain ⟨h1, h2⟩ := rest1_byte h
 exact ⟨(byteL_until h1).2, by have := untilB_le [63, 35] (rest1 r); unfold rest2; omega⟩
theorem rest3_byte {r : List Nat} (h : ByteL r) : ByteL (rest3 r) ∧ (rest3 r).length ≤ r.length := by
 obtain ⟨h1, h2⟩ := rest2_byte h
 unfold rest3
 split
 · exact ⟨(byteL_until (h1.drop 1)).2, by have := untilB_le [35] ((rest2 r).drop 1); rw [List.length_drop] at this; omega⟩
 · exact ⟨h1, h2⟩
theorem parts_byte {b : List Nat} {a : Nat} (h : ByteL b) : ByteL (partsL b a).auth ∧ ByteL (partsL b a).path ∧ ByteL (partsL b a).query ∧ ByteL (partsL b a).frag := by
 have hr : ByteL (b.drop a) := h.drop a
 have h1 := (rest1_byte hr).1
 have h2 := (rest2_byte hr).1
 have h3 := (rest3_byte hr).1
 refine ⟨?_, (byteL_until h1).1, ?_, h3.drop 1⟩
 · show ByteL (if slash2 (b.drop a) = true then _ else _)
   split
   · exact (byteL_until (hr.drop 2)).1
   · exact fun c hc => by cases hc
 · show ByteL (if hasQR (b.drop a) = true then _ else _)
   split
   · exact (byteL_until (h2.drop 1)).1
   · exact fun c hc => by cases hc
theorem parts_len {b : List Nat} {a : Nat} (ha : a ≤ b.length) : (partsL b a).auth.length ≤ b.length ∧ (partsL b a).path.length ≤ b.length ∧ (partsL b a).query.length ≤ b.length ∧ (partsL b a).frag.length ≤ b.length ∧ (partsL b a).authAt ≤ b.length + 2 ∧ (partsL b a).pathAt ≤ b.length ∧ (partsL b a).queryAt ≤ b.length + 1 ∧ (partsL b a).fragAt ≤ b.length + 1 := by
 have l0 : (b.drop a).length ≤ b.length := by rw [List.length_drop]; omega
 have r1 : (rest1 (b.drop a)).length ≤ (b.drop a).length := by
  unfold rest1
  split
  · have := untilB_le [47, 63, 35] ((b.drop a).drop 2); rw [List.length_drop] at this; omega
  · exact Nat.le_refl _
 have r2 : (rest2 (b.drop a)).length ≤ (rest1 (b.drop a)).length := untilB_le _ _
 have r3 : (rest3 (b.drop a)).length ≤ (rest2 (b.drop a)).length := by
  unfold rest3
  split
  · have := untilB_le [35] ((rest2 (b.drop a)).drop 1); rw [List.length_drop] at this; omega
  · exact Nat.le_refl _
 refine ⟨?_, ?_, ?_, ?_, ?_, ?_, ?_, ?_⟩
 · show (if slash2 (b.drop a) = true then _ else _ : List Nat).length ≤ _
   split
   · have := untilA_le [47, 63, 35] ((b.drop a).drop 2); rw [List.length_drop] at this; omega
   · exact Nat.zero_le _
 · have := untilA_le [63, 35] (rest1 (b.drop a))
   show (untilA [63, 35] (rest1 (b.drop a))).length ≤ _
   omega
 · show (if hasQR (b.drop a) = true then _ else _ : List Nat).length ≤ _
   split
   · have := untilA_le [35] ((rest2 (b.drop a)).drop 1); rw [List.length_drop] at this; omega
   · exact Nat.zero_le _
 · show ((rest3 (b.drop a)).drop 1).length ≤ _
   rw [List.length_drop]; omega
 · show (if slash2 (b.drop a) = true then a + 2 else 0) ≤ _
   split <;> omega
 · show b.length - _ ≤ _
   omega
 · show (if hasQR (b.drop a) = true then _ else 0) ≤ _
   split <;> omega
 · show (if rest3 (b.drop a) ≠ [] then _ else 0) ≤ _
   split <;> omega
theorem until_call (l : List Nat) (marks : ByteArray) (m : List Nat) (W : World) (hm : bytesN marks = m) (hb : ByteL l) (hl : l.length ≤ 1000000) (hz : marks.size ≤ 1000) : Calls Tryz.prog 143 #[.string (bytesL l), .string marks] W fun e w' => e = .returned (.tuple #[.string (bytesL (untilA m l)), .string (bytesL (untilB m l))]) ∧ Below W.heap.size W w' := by
 have := until_any (bytesL l) marks m W hm (by rw [bytesL_size]; exact hl) hz
 unfold UtlPost at this
 rw [bytesN_bytesL hb] at this
 exact this
theorem slice_call (l : List Nat) (i : Nat) (hb : ByteL l) (hi : i ≤ l.length) (W : World) : (Instr.slice 9 (.string (bytesL l)) (some (.int .i64 (i : Int))) none none).run Tryz.prog W = .ok (.string (bytesL (l.drop i))) W := by
 refine sl_from (bytesL l) i (by rw [bytesL_size]; exact hi) _ ?_ W
 have := extract_drop (bytesL l) i
 rw [bytesN_bytesL hb] at this
 exact this
theorem pre_call (l : List Nat) (p : ByteArray) (t : Bool) (_hb : ByteL l) (h : Lib.hasPrefix (bytesL l).data.toList p.data.toList = t) (W : World) : Calls Tryz.prog 114 #[.string (bytesL l), .string p] W fun e w' => e = .returned (.bool t) ∧ w' = W := by
 have := Tryz.strings_HasPrefix (bytesL l) p W
 rw [h] at this
 exact this
theorem bytesL_nats {l : List Nat} (hb : ByteL l) : (bytesL l).data.toList.map (·.toNat) = l := bytesN_bytesL hb
set_option maxRecDepth 100000 in
/-- url.split -/
theorem split_any (s : ByteArray) (at_ : Nat) (w : World) (hs : s.size ≤ 900000) (ha : at_ ≤ s.size) : Calls Tryz.prog 76 #[.string s, .int .i64 (at_ : Int)] w fun e w' => e = .returned (.agg (partC (partsL (bytesN s) at_))) ∧ Below w.heap.size w w' := by
 have hb : ByteL (bytesN s) := bytesN_lt s
 obtain ⟨r, hr⟩ : ∃ r, (bytesN s).drop at_ = r := ⟨_, rfl⟩
 have hrb : ByteL r := by rw [← hr]; exact hb.drop at_
 have hrl : r.length + at_ = s.size := by rw [← hr, List.length_drop, bytesN_len]; omega
 obtain ⟨b1, l1⟩ := rest1_byte hrb
 obtain ⟨b2, l2⟩ := rest2_byte hrb
 obtain ⟨b3, l3⟩ := rest3_byte hrb
 have hz : (bytesN s).length = s.size := bytesN_len s
 have h2 : slash2 r = true → 2 ≤ r.length := fun h => by
  unfold slash2 at h
  have h := of_decide_eq_true h
  have h3 := congrArg List.length h
  rw [List.length_take] at h3
  simp at h3; omega
 have hq1 : hasQR r = true → 1 ≤ (rest2 r).length := fun h => by
  unfold hasQR at h
  have h := of_decide_eq_true h
  cases hh : rest2 r with
  | nil => rw [hh] at h; cases h
  | cons c l => simp
 have hf1 : (decide (rest3 r ≠ [])) = true → 1 ≤ (rest3 r).length := fun h => by
  have h := of_decide_eq_true h
  exact Nat.pos_of_ne_zero (fun e => h (List.eq_nil_of_length_eq_zero e))
 have e : partC (partsL (bytesN s) at_) = partV (bytesL (if slash2 r = true then untilA [47, 63, 35] (r.drop 2) else [])) (bytesL (untilA [63, 35] (rest1 r))) (bytesL (if hasQR r = true then untilA [35] ((rest2 r).drop 1) else [])) (bytesL ((rest3 r).drop 1)) (slash2 r) (hasQR r) (decide (rest3 r ≠ []))
     (if slash2 r = true then at_ + 2 else 0) (s.size - (rest1 r).length) (if hasQR r = true then s.size - (rest2 r).length + 1 else 0) (if rest3 r ≠ [] then s.size - (rest3 r).length + 1 else 0) := by
  unfold partC partsL
  rw [hr, hz]
 rw [e]
 have hsz : ∀ l : List Nat, (bytesL l).size = l.length := bytesL_size
 refine split_core s at_ w (bytesL r) (bytesL (r.drop 2)) _ (bytesL (rest1 r)) _ (bytesL (rest2 r)) (bytesL ((rest2 r).drop 1)) _ (bytesL (rest3 r)) _ _ _ _ _ _ _ _ (s.size - (rest2 r).length) (s.size - (rest3 r).length) (by omega) (by omega) ?_ ?_ ?_ ?_ ?_ ?_ ?_ ?_ ?_ ?_ ?_ ?_ ?_ ?_ ?_ ?_ ?_ ?_ ?_
 · intro W
   have := slice_call (bytesN s) at_ hb (by rw [hz]; exact ha) W
   rw [bytesL_bytesN, hr] at this
   exact this
 · exact fun h W => slice_call r 2 hrb (h2 h) W
 · exact fun h W => slice_call (rest2 r) 1 b2 (hq1 h) W
 · exact fun h W => slice_call (rest3 r) 1 b3 (hf1 h) W
 · exact fun W => pre_call r _ _ hrb (by
     have := pre_slash (bytesL r).data.toList
     rw [bytesL_nats hrb] at this
     exact this) W
 · intro h W
   have := until_call (r.drop 2) ⟨#[47, 63, 35]⟩ [47, 63, 35] W rfl (hrb.drop 2) (by rw [List.length_drop]; omega) (by decide)
   have e1 : rest1 r = untilB [47, 63, 35] (r.drop 2) := by unfold rest1; rw [if_pos h]
   rw [if_pos h, e1]
   exact this
 · exact fun W => until_call (rest1 r) ⟨#[63, 35]⟩ [63, 35] W rfl b1 (by omega) (by decide)
 · exact fun W => pre_call (rest2 r) _ _ b2 (by
     have := pre_one (bytesL (rest2 r)).data.toList 63
     rw [bytesL_nats b2] at this
     exact this) W
 · intro h W
   have := until_call ((rest2 r).drop 1) ⟨#[35]⟩ [35] W rfl (b2.drop 1) (by rw [List.length_drop]; omega) (by decide)
   have e1 : rest3 r = untilB [35] ((rest2 r).drop 1) := by unfold rest3; rw [if_pos h]
   rw [if_pos h, e1]
   exact this
 · by_cases h : rest3 r = []
   · rw [h, decide_eq_false (fun x => x rfl)]
     show (⟨#[]⟩ : ByteArray).toList.isEmpty = true
     rw [ByteArray.toList_eq]; rfl
   · rw [decide_eq_true h]
     exact str_ne (by rw [bytesL_size]; exact fun e => h (List.eq_nil_of_length_eq_zero e))
 · intro h
   refine ⟨?_, ?_, ?_⟩
   · unfold rest1; rw [if_neg (by rw [h]; decide)]
   · rw [if_neg (by rw [h]; decide)]; rfl
   · rw [if_neg (by rw [h]; decide)]
 · intro h
   refine ⟨?_, ?_, ?_⟩
   · unfold rest3; rw [if_neg (by rw [h]; decide)]
   · rw [if_neg (by rw [h]; decide)]; rfl
   · rw [if_neg (by rw [h]; decide)]
 · intro h
   have h0 : rest3 r = [] := by simpa using h
   exact ⟨by rw [h0]; rfl, by rw [if_neg (fun x => x h0)]⟩
 · intro h
   rw [if_pos h]
   exact (IntWalk.i64_in _ (by omega)).trans (by omega)
 · rw [hsz]
   exact (IntWalk.i64_in _ (by omega)).trans (by omega)
 · intro _
   rw [hsz]
   exact (IntWalk.i64_in _ (by omega)).trans (by omega)
 · intro h
   rw [if_pos h]
   exact (IntWalk.i64_in _ (by omega)).trans (by omega)
 · intro _
   rw [hsz]
   exact (IntWalk.i64_in _ (by omega)).trans (by omega)
 · intro h
   rw [if_pos (of_decide_eq_true h)]
   exact (IntWalk.i64_in _ (by omega)).trans (by omega)
theorem ix_call (l : List Nat) (c : Nat) (hb : ByteL l) (hc : c < 256) (W : World) : Calls Tryz.prog 75 #[.string (bytesL l), .int .u8 c] W fun e w' => e = .returned (.int .i64 (ixN c l)) ∧ w' = W := by
 have K := Tryz.strings_IndexByte (bytesL l) (c : Int) W
 rw [ixB_eq, bytesL_nats hb] at K
 have e1 : ((c : Int).toNat.toUInt8).toNat = c := by simp; omega
 rw [e1] at K
 exact K.mono (by rintro e w' ⟨rfl, h⟩; exact ⟨rfl, h⟩)
theorem lix_call (l : List Nat) (c : Nat) (hb : ByteL l) (hl : l.length ≤ 1000000) (W : World) : Calls Tryz.prog 106 #[.string (bytesL l), .int .u8 (c : Int)] W fun e w' => e = .returned (.int .i64 (match lastI c l with
    | some i => ((i : Nat) : Int)
    | none => -1)) ∧ w' = W := by
 have K := Tryz.strings_LastIndexByte (bytesL l) (c : Int) (by rw [bytesL_size]; omega) W
 rw [lastIxB, bytesN_bytesL hb] at K
 exact K
theorem ixN_hit {c : Nat} {l : List Nat} (h : l.contains c = true) : ixN c l = ((untilA [c] l).length : Nat) := by
 have := ixN_mem c l
 rw [h] at this
 have h2 := of_decide_eq_true this
 unfold ixN at h2 ⊢
 split
 · rename_i h3; rw [if_pos h3] at h2; omega
 · rfl
theorem ixN_miss {c : Nat} {l : List Nat} (h : l.contains c = false) : ixN c l = -1 := by
 have := ixN_mem c l
 rw [h] at this
 have h2 := of_decide_eq_false this
 unfold ixN at h2 ⊢
 split
 · rfl
 · rename_i h3; rw [if_neg h3] at h2; omega
theorem canon_er_ne {a : List Nat} {c : List (Int × Int)} (h : canonL a = .er c) : c ≠ [] := fun e => by
 subst e
 unfold canonL at h
 split at h
 · injection h with h; cases h
 · split at h
   · unfold literalL at h
     split at h
     · split at h
       · injection h with h; cases h
       · cases h
     · injection h with h; cases h
   · split at h
     · injection h with h; cases h
     · unfold nameH at h
       split at h
       · injection h with h; cases h
       · split at h
         · split at h
           · injection h with h; cases h
           · cases h
         · cases h
/-- url.authority -/
theorem authority_any (b : Nat) (sch : ByteArray) (p : UParts) (w : World) (hw : w.heap[b]? = some (.cells (urlA sch 0 ⟨#[]⟩ (ownB sch) ⟨#[]⟩ ⟨#[]⟩ ⟨#[]⟩ false false) 50 (0, 0))) (hA : ByteL p.auth) (hAz : p.auth.length ≤ 900000) (hia : p.authAt ≤ 1000000) (hEn : HEnv w) :
    Calls Tryz.prog 78 #[.pointer (some ⟨b, 0, none⟩), .agg (partC p)] w (AuPost b sch w (authL (bytesN sch) p.auth p.authAt)) := by
 unfold partC
 obtain ⟨a, ha⟩ : ∃ a, p.auth = a := ⟨_, rfl⟩
 rw [ha] at hA hAz ⊢
 have hz : (bytesL a).size ≤ 1000000 := by rw [bytesL_size]; omega
 unfold authL
 by_cases h64 : a.contains 64 = true
 · rw [if_pos h64]
   have hu := untilA_le [64] a
   exact au_user b sch _ _ _ _ _ _ _ _ _ _ _ _ w (untilA [64] a).length (by omega) (fun W => by have := ix_call a 64 hA (by decide) W; rw [ixN_hit h64] at this; exact this) hw hz hia
 · rw [if_neg h64]
   have h64' : a.contains 64 = false := by simpa using h64
   have c64 := fun W => by have := ix_call a 64 hA (by decide) W; rw [ixN_miss h64'] at this; exact this
   have cweb := fun W => uweb_any sch W
   have ccan : ∀ (N : List Nat), ByteL N → N.length ≤ 900000 → ∀ W, Below w.heap.size w W → Calls Tryz.prog 15 #[.string (bytesL N)] W (HcPost W (canonL N)) := fun N hN hl W hW => by
    have := hcanon_any (bytesL N) W (by rw [bytesL_size]; omega) (hEn.ext hW)
    rw [bytesN_bytesL hN] at this
    exact this
   have hbe : ∀ N : List Nat, bytesL N = ⟨#[]⟩ ↔ N = [] := fun N => ⟨fun h => by
    have := congrArg ByteArray.size h
    rw [bytesL_size] at this
    exact List.eq_nil_of_length_eq_zero this, fun h => by rw [h]; rfl⟩
   have clix := fun W => lix_call a 58 hA (by omega) W
   cases hl : lastI 58 a with
   | none =>
     rw [hl] at clix
     have hco : colonI a = none := by unfold colonI; rw [hl]
     have hN : nameA a = a := by unfold nameA; rw [hco]
     have hP : portA a = [] := by unfold portA; rw [hco]
     rw [hN]
     by_cases hh : a ≠ [] ∨ webL (bytesN sch) = true
     · rw [if_pos hh]
       have hh' : bytesL a ≠ ⟨#[]⟩ ∨ (bytesL a = ⟨#[]⟩ ∧ ∀ W, Calls Tryz.prog 34 #[.string sch] W fun e w' => e = .returned (.bool true) ∧ w' = W) := by
        by_cases h0 : a = []
        · rcases hh with hh | hh
          · exact absurd h0 hh
          · exact .inr ⟨(hbe a).2 h0, fun W => by have := cweb W; rw [hh] at this; exact this⟩
        · exact .inl (fun e => h0 ((hbe a).1 e))
       have cc := ccan a hA hAz
       cases hc : canonL a with
       | er c =>
         rw [hc] at cc
         exact au_n1_he b sch _ _ _ _ _ _ _ _ _ _ _ _ w c64 clix hh' c cc (canon_er_ne hc) hw hz hia
       | ok k t =>
         rw [hc] at cc
         simp only
         rw [if_pos hP]
         exact au_n1_ho_p0 b sch _ _ _ _ _ _ _ _ _ _ _ _ w c64 clix hh' k t _ rfl cc hw hz hia
     · rw [if_neg hh]
       simp only
       rw [if_pos hP]
       have hn : ¬ a ≠ [] := fun x => hh (.inl x)
       have hw2 : webL (bytesN sch) = false := by simpa using fun x => hh (.inr x)
       exact au_n1_nh_p0 b sch _ _ _ _ _ _ _ _ _ _ _ _ w c64 clix ((hbe a).2 (Classical.not_not.1 hn)) (fun W => by have := cweb W; rw [hw2] at this; exact this) hw hz hia
   | some i =>
     rw [hl] at clix
     have hi := lastI_lt hl
     have hdb : ByteL (a.drop i) := hA.drop i
     have hsl := fun W => slice_call a i hA (Nat.le_of_lt hi) W
     by_cases h93 : (a.drop i).contains 93 = true
     · have hco : colonI a = none := by unfold colonI; rw [hl]; simp only; rw [if_pos h93]
       have hN : nameA a = a := by unfold nameA; rw [hco]
       have hP : portA a = [] := by unfold portA; rw [hco]
       have c93 := fun W => by have := ix_call (a.drop i) 93 hdb (by decide) W; rw [ixN_hit h93] at this; exact this
       rw [hN]
       by_cases hh : a ≠ [] ∨ webL (bytesN sch) = true
       · rw [if_pos hh]
         have hh' : bytesL a ≠ ⟨#[]⟩ ∨ (bytesL a = ⟨#[]⟩ ∧ ∀ W, Calls Tryz.prog 34 #[.string sch] W fun e w' => e = .returned (.bool true) ∧ w' = W) := .inl (fun e => by rw [(hbe a).1 e] at hi; simp at hi)
         have cc := ccan a hA hAz
         cases hc : canonL a with
         | er c =>
           rw [hc] at cc
           exact au_n2_he b sch _ _ _ _ _ _ _ _ _ _ _ _ w c64 i _ _ (by rw [bytesL_size]; omega) hsl clix c93 hh' c cc (canon_er_ne hc) hw hz hia
         | ok k t =>
           rw [hc] at cc
           simp only
           rw [if_pos hP]
           exact au_n2_ho_p0 b sch _ _ _ _ _ _ _ _ _ _ _ _ w c64 i _ _ (by rw [bytesL_size]; omega) hsl clix c93 hh' k t _ rfl cc hw hz hia
       · exact absurd (.inl (fun e => by rw [e] at hi; simp at hi)) hh
     · have h93' : (a.drop i).contains 93 = false := by simpa using h93
       have hco : colonI a = some i := by unfold colonI; rw [hl]; simp only; rw [if_neg h93]
       have hN : nameA a = a.take i := by unfold nameA; rw [hco]
       have hP : portA a = a.drop (i + 1) := by unfold portA; rw [hco]
       have hI : portI a = i + 1 := by unfold portI; rw [hco]
       have c93 := fun W => by have := ix_call (a.drop i) 93 hdb (by decide) W; rw [ixN_miss h93'] at this; exact this
       have hNb : ByteL (a.take i) := hA.take i
       have hPb : ByteL (a.drop (i + 1)) := hA.drop (i + 1)
       have hNl : (a.take i).length ≤ 900000 := by rw [List.length_take]; omega
       have hslN : ∀ W, (Instr.slice 9 (.string (bytesL a)) none (some (.int .i64 (i : Int))) none).run Tryz.prog W = .ok (.string (bytesL (a.take i))) W := fun W => by
        refine sl_to (bytesL a) i (by rw [bytesL_size]; omega) _ ?_ W
        rw [extract_bytesL, bytesN_bytesL hA]; simp
       have hslP : ∀ W, (Instr.slice 9 (.string (bytesL a)) (some (.int .i64 ((i : Int) + 1))) none none).run Tryz.prog W = .ok (.string (bytesL (a.drop (i + 1)))) W := fun W => slice_call a (i + 1) hA hi W
       have hPz : (bytesL (a.drop (i + 1))).size ≤ 1000000 := by rw [bytesL_size, List.length_drop]; omega
       have cdec := fun W => dec_any (bytesL (a.drop (i + 1))) 65535 W hPz (by decide)
       have hat : ((p.authAt : Int) + (i : Int) + 1) = ((p.authAt + portI a : Nat) : Int) := by rw [hI]; omega
       rw [hN, hP]
       rw [← hat]
       have cc := ccan (a.take i) hNb hNl
       have hib : i < (bytesL a).size := by rw [bytesL_size]; exact hi
       by_cases hh : a.take i ≠ [] ∨ webL (bytesN sch) = true
       · rw [if_pos hh]
         have hh' : bytesL (a.take i) ≠ ⟨#[]⟩ ∨ (bytesL (a.take i) = ⟨#[]⟩ ∧ ∀ W, Calls Tryz.prog 34 #[.string sch] W fun e w' => e = .returned (.bool true) ∧ w' = W) := by
          by_cases h0 : a.take i = []
          · rcases hh with hh | hh
            · exact absurd h0 hh
            · exact .inr ⟨(hbe _).2 h0, fun W => by have := cweb W; rw [hh] at this; exact this⟩
          · exact .inl (fun e => h0 ((hbe _).1 e))
         cases hc : canonL (a.take i) with
         | er c =>
           rw [hc] at cc
           exact au_co_he b sch _ _ _ _ _ _ _ _ _ _ _ _ w c64 i _ _ _ hib hsl hslN hslP clix c93 hh' c cc (canon_er_ne hc) hw hz hia
         | ok k t =>
           rw [hc] at cc
           simp only
           by_cases h0 : a.drop (i + 1) = []
           · rw [if_pos h0]
             exact au_co_ho_pz b sch _ _ _ _ _ _ _ _ _ _ _ _ w c64 i _ _ _ hib hsl hslN hslP clix c93 hh' k t _ rfl cc ((hbe _).2 h0) hw hz hia
           · rw [if_neg h0]
             have hne : bytesL (a.drop (i + 1)) ≠ ⟨#[]⟩ := fun e => h0 ((hbe _).1 e)
             cases hd : portL (a.drop (i + 1)) with
             | no pk pp =>
               have hd' : numberF 10 65535 (bytesL (a.drop (i + 1))) = .no pk pp := hd
               rw [hd'] at cdec
               exact au_co_ho_pe b sch _ _ _ _ _ _ _ _ _ _ _ _ w c64 i _ _ _ hib hsl hslN hslP clix c93 hh' k t _ rfl cc hne pk pp cdec hw hz hia
             | ok n =>
               have hd' : numberF 10 65535 (bytesL (a.drop (i + 1))) = .ok n := hd
               rw [hd'] at cdec
               exact au_co_ho_po b sch _ _ _ _ _ _ _ _ _ _ _ _ w c64 i _ _ _ hib hsl hslN hslP clix c93 hh' k t _ rfl cc hne n (portL_le hd) cdec hw hz hia
       · rw [if_neg hh]
         have hn : ¬ a.take i ≠ [] := fun x => hh (.inl x)
         have hw2 : webL (bytesN sch) = false := by simpa using fun x => hh (.inr x)
         have hN0 := (hbe (a.take i)).2 (Classical.not_not.1 hn)
         have cw : ∀ W, Calls Tryz.prog 34 #[.string sch] W fun e w' => e = .returned (.bool false) ∧ w' = W := fun W => by have := cweb W; rw [hw2] at this; exact this
         simp only
         by_cases h0 : a.drop (i + 1) = []
         · rw [if_pos h0]
           exact au_co_nh_pz b sch _ _ _ _ _ _ _ _ _ _ _ _ w c64 i _ _ _ hib hsl hslN hslP clix c93 hN0 cw ((hbe _).2 h0) hw hz hia
         · rw [if_neg h0]
           have hne : bytesL (a.drop (i + 1)) ≠ ⟨#[]⟩ := fun e => h0 ((hbe _).1 e)
           cases hd : portL (a.drop (i + 1)) with
           | no pk pp =>
             have hd' : numberF 10 65535 (bytesL (a.drop (i + 1))) = .no pk pp := hd
             rw [hd'] at cdec
             exact au_co_nh_pe b sch _ _ _ _ _ _ _ _ _ _ _ _ w c64 i _ _ _ hib hsl hslN hslP clix c93 hN0 cw hne pk pp cdec hw hz hia
           | ok n =>
             have hd' : numberF 10 65535 (bytesL (a.drop (i + 1))) = .ok n := hd
             rw [hd'] at cdec
             exact au_co_nh_po b sch _ _ _ _ _ _ _ _ _ _ _ _ w c64 i _ _ _ hib hsl hslN hslP clix c93 hN0 cw hne n (portL_le hd) cdec hw hz hia
end Go.Proofs.YtbeodjipdpcaiaaGreatDoor
