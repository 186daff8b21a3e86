/- The keys of a text that was read are no longer than four times the text. Nothing of the program. -/
import Derived.Test.YtcaiibkgajhohaaGreatDoorYJbP0
import Derived.Test.YtcaiibkgajhohaaGreatDoorYJsM7
import Derived.Test.YtcaiibkgajhohaaGreatDoorYJsN1
import Derived.Test.YtcaiibkgajhohaaGreatDoorYOwn0s
namespace Go.Proofs.YtcaiibkgajhohaaGreatDoor
open Go.RowKit
theorem textTok_size {B : ByteArray} {t : Tok} {x : ByteArray} (h : textTok B t = some x) : x.size ≤ 4 * B.size := by
 unfold textTok at h
 split at h
 · rename_i y hy
   split at h
   · rename_i hc
     split at h
     · rename_i z hz
       cases h
       have hs := tok_shape hy
       obtain ⟨rfl, h7⟩ := hc
       have := textS_len (by omega) hz
       have := strOf_le z.1
       omega
     · cases h
   · cases h
 · cases h
def KOK (K : Nat) (s : PS) : Prop := (∀ x ∈ s.js, x.key.size ≤ K) ∧ (∀ o ∈ s.stack, o.key.size ≤ K)
theorem kok_cons {K : Nat} {o : Op} {r : List Op} (h1 : o.key.size ≤ K) (h2 : ∀ p ∈ r, p.key.size ≤ K) : ∀ p ∈ o :: r, p.key.size ≤ K := fun p hp => by
 rcases List.mem_cons.1 hp with rfl | hp
 · exact h1
 · exact h2 p hp
theorem kok_after {K : Nat} {r : List Op} (h : ∀ o ∈ r, o.key.size ≤ K) : ∀ o ∈ afterS r, o.key.size ≤ K := by
 cases r with
 | nil => exact h
 | cons o r => exact kok_cons (show (aftO o).key.size ≤ K from h o (by simp)) (fun p hp => h p (by simp [hp]))
theorem kok_node {K : Nat} {B : ByteArray} {o : Op} {k : Int} {t : Tok} (h : o.key.size ≤ K) : (nodeS B o k t).key.size ≤ K := by
 unfold nodeS
 simp only
 split
 · exact h
 · exact Nat.zero_le _
theorem take_key {K : Nat} {B : ByteArray} {m : Bd} {s s' : PS} {t : Tok} (hK : ∀ t x, textTok B t = some x → x.size ≤ K) (hk : KOK K s) (h : takeS B m s t = .ok s') : KOK K s' := by
 unfold takeS at h
 cases hs : s.stack with
 | nil => rw [hs] at h; cases h; exact hk
 | cons o r =>
   rw [hs] at h
   simp only at h
   have ho : o.key.size ≤ K := hk.2 o (by rw [hs]; simp)
   have hr : ∀ p ∈ r, p.key.size ≤ K := fun p hp => hk.2 p (by rw [hs]; simp [hp])
   have hw : ∀ {a b : PS}, (wrongS t : Sc PS) = .ok b → KOK K b := fun h => by unfold wrongS at h; split at h <;> cases h
   have hv : valueS B m s o r t = .ok s' → KOK K s' := fun h => by
    unfold valueS at h
    split at h
    · exact hw (a := s) h
    · split at h
      · cases h
      · split at h
        · cases h
          exact ⟨fun x hx => by
           rcases List.mem_append.1 hx with hx | hx
           · exact hk.1 x hx
           · rw [List.mem_singleton.1 hx]; exact kok_node ho, kok_after (kok_cons ho hr)⟩
        · split at h
          · cases h
          · cases h
            exact ⟨fun x hx => by
             rcases List.mem_append.1 hx with hx | hx
             · exact hk.1 x hx
             · rw [List.mem_singleton.1 hx]; exact kok_node ho, kok_cons (Nat.zero_le _) (kok_cons ho hr)⟩
   have hy : keyS B s o r t = .ok s' → KOK K s' := fun h => by
    unfold keyS at h
    split at h
    · exact hw (a := s) h
    · split at h
      · rename_i x hx
        cases h
        exact ⟨hk.1, kok_cons (hK _ _ hx) hr⟩
      · cases h
   have hb : betweenS s o r t = .ok s' → KOK K s' := fun h => by
    unfold betweenS at h
    split at h
    · cases h; exact ⟨hk.1, kok_after hr⟩
    · split at h
      · exact hw (a := s) h
      · cases h; exact ⟨hk.1, kok_cons ho hr⟩
   split at h
   · split at h
     · cases h; exact hk
     · exact hw (a := s) h
   · split at h
     · split at h
       · cases h; exact ⟨hk.1, kok_cons ho hr⟩
       · exact hw (a := s) h
     · split at h
       · exact hb h
       · split at h
         · split at h
           · cases h; exact ⟨hk.1, kok_after hr⟩
           · split at h
             · exact hy h
             · exact hv h
         · split at h
           · exact hy h
           · exact hv h
theorem run_key {K : Nat} {B : ByteArray} {m : Bd} (hK : ∀ t x, textTok B t = some x → x.size ≤ K) : ∀ f i s s', KOK K s → runF B m f i s = .ok s' → KOK K s'
 | 0, i, s, s', hk, h => by cases h; exact hk
 | f + 1, i, s, s', hk, h => by
   rw [runF] at h
   obtain ⟨t, hn, h⟩ := Sc.bind_eq_ok h
   obtain ⟨s2, ht, h⟩ := Sc.bind_eq_ok h
   have h2 := take_key hK hk ht
   split at h
   · cases h; exact h2
   · exact run_key hK f _ s2 s' h2 h
theorem parse_key {B : ByteArray} {m : Bd} {s : PS} (h : parseS B m = .ok s) (k : Nat) : (keyA s.js k).size ≤ 4 * B.size := by
 unfold parseS at h
 split at h
 · cases h
 · have hk := run_key (K := 4 * B.size) (fun t x hx => textTok_size hx) _ _ _ _ ⟨fun x hx => by simp [ps0] at hx, fun o ho => by simp [ps0] at ho; subst ho; exact Nat.zero_le _⟩ h
   unfold keyA
   split
   · rename_i x hx
     exact hk.1 x (List.mem_of_getElem? hx)
   · exact Nat.zero_le _
end Go.Proofs.YtcaiibkgajhohaaGreatDoor
namespace Go.Proofs.YtcaiibkgajhohaaGreatDoor
open Go.RowKit
theorem take_len2 {B : ByteArray} {m : Bd} {s s' : PS} {t : Tok} (h : takeS B m s t = .ok s') : s'.js.length ≤ s.js.length + 1 ∧ (t.kind = 0 → s'.js.length = s.js.length) := by
 unfold takeS valueS keyS betweenS wrongS addS at h
 repeat' split at h
 all_goals first
  | (cases h; done)
  | (cases h; exact ⟨by simp, fun _ => rfl⟩)
  | (cases h; exact ⟨by simp, fun h0 => absurd h0 (kindS_pos (by assumption))⟩)
theorem run_len2 (B : ByteArray) (m : Bd) : ∀ f (i : Int) s s', (s.js.length : Int) ≤ i → i ≤ B.size → runF B m f i s = .ok s' → s'.js.length ≤ B.size
 | 0, i, s, s', h1, h2, h => by cases h; omega
 | f + 1, i, s, s', h1, h2, h => by
   rw [runF] at h
   obtain ⟨t, hn, h⟩ := Sc.bind_eq_ok h
   obtain ⟨s2, ht, h⟩ := Sc.bind_eq_ok h
   have hs := tok_shape hn
   have hl := take_len2 ht
   split at h
   · rename_i h0
     cases h
     have := hl.2 h0
     omega
   · exact run_len2 B m f t.to s2 s' (by omega) (by omega) h
theorem parse_len {B : ByteArray} {m : Bd} {s : PS} (h : parseS B m = .ok s) : s.js.length ≤ B.size := by
 unfold parseS at h
 split at h
 · cases h
 · exact run_len2 B m _ 0 ps0 s (Int.le_refl _) (by omega) h
end Go.Proofs.YtcaiibkgajhohaaGreatDoor
namespace Go.Proofs.YtcaiibkgajhohaaGreatDoor
open Go.RowKit
theorem foldK_none {js : List JN} {key : ByteArray} : ∀ (l : List Nat) (a : Int), (∀ k ∈ l, keyA js k ≠ key) → l.foldl (fun a k => if keyA js k = key then (k : Int) else a) a = a
 | [], _, _ => rfl
 | k :: l, a, h => by
   rw [List.foldl_cons, if_neg (h k (by simp))]
   exact foldK_none l a (fun k' hk => h k' (by simp [hk]))
/-- What a call for a kind tells: an error's number and its place. -/
def checkS (js : List JN) (id kind : Int) : Int × Int := if 0 ≤ id then match js[id.toNat]? with
    | some x => if x.kind = kind ∨ kind = 2 ∧ x.kind = 1 then (0, 0) else (32, x.at_)
    | none => (30, id)
 else (30, id)
theorem checkS_in {js : List JN} {i : Nat} {x : JN} (hx : js[i]? = some x) (kind : Int) : checkS js i kind = if x.kind = kind ∨ kind = 2 ∧ x.kind = 1 then (0, 0) else (32, x.at_) := by
 unfold checkS
 rw [if_pos (by omega), Int.toNat_natCast, hx]
theorem checkS_out {js : List JN} {id : Int} (h : ¬ (0 ≤ id ∧ id < js.length)) (kind : Int) : checkS js id kind = (30, id) := by
 unfold checkS
 by_cases h0 : 0 ≤ id
 · rw [if_pos h0, List.getElem?_eq_none (by omega)]
 · rw [if_neg h0]
/-- The texts of a list, up to the first value that is none. -/
def textA (js : List JN) (k : Nat) : JN := (js[k]?).getD jz
end Go.Proofs.YtcaiibkgajhohaaGreatDoor
namespace Go.Proofs.YtcaiibkgajhohaaGreatDoor
open Go.RowKit
def OffRow (B : Nat) (w : World) (v : Value) (b : Nat) : Prop := B ≤ b ∧ b < w.heap.size ∧ v.ownBlock ≠ some b
def RowD (B : Nat) (e : TypeId) (k : Nat) (w : World) (v : Value) (n : Nat) (ds : List Dat) : Prop := ∃ cells, w.ownsRow B e k v n cells ∧ Rds (OffRow B w v) w cells ds
section
variable {B k n m : Nat} {e : TypeId} {w w' w6 : World} {v v2 : Value} {ds dn : List Dat} {cells news : List Value}
theorem RowD.nil : RowD B e k w (.slice none 0 0) 0 [] := ⟨[], World.ownsRow_nil w B e k, Rds.nil⟩
theorem RowD.turn {T : Nat → Prop} (h : RowD B e k w v n ds) (ho : Only T w w') (hT : ∀ b, T b → b < B) : RowD B e k w' v n ds := by
 obtain ⟨cells, h1, h2⟩ := h
 exact ⟨cells, aown_ext h1 (fun g hg => ho.block g (h1.lt g hg).2 (fun t => by have := hT _ t; have := (h1.lt g hg).1; omega)) (Nat.le_refl _), h2.mono (fun b hb => ho.block b hb.2.1 (fun t => by have := hT _ t; have := hb.1; omega)) (fun b hb => ⟨hb.1, Nat.lt_of_lt_of_le hb.2.1 ho.size, hb.2.2⟩)⟩
theorem RowD.ext (h : RowD B e k w v n ds) (hb : Below w.heap.size w w') : RowD B e k w' v n ds := h.turn (T := fun _ => False) (Only.of hb) (fun _ h => h.elim)
theorem RowD.low {B' : Nat} (h : RowD B e k w v n ds) (hB : B' ≤ B) : RowD B' e k w v n ds := by
 obtain ⟨cells, h1, h2⟩ := h
 exact ⟨cells, aown_ext h1 (fun _ _ => rfl) hB, h2.mono (fun _ _ => rfl) (fun b hb => ⟨Nat.le_trans hB hb.1, hb.2⟩)⟩
theorem RowD.lt (h : RowD B e k w v n ds) : ∀ g, v.ownBlock = some g → B ≤ g ∧ g < w.heap.size := by
 obtain ⟨cells, h1, _⟩ := h
 exact h1.lt
/-- An element is appended. -/
theorem RowD.push {o : Obj} (h2 : Rds (OffRow B w v) w cells ds) (hn : Rds (OffRow B w v) w news dn) (ho : w6.ownsRow B e k v2 m (cells ++ news)) (hg : (w.alloc o).grownBy w6 v.ownBlock) (hat : v.ownBlock = v2.ownBlock ∨ v2.ownBlock = some (w.heap.size + 1)) : RowD B e k w6 v2 m (ds ++ dn) := by
 refine ⟨_, ho, (h2.append hn).mono (fun b hb => ?_) (fun b hb => ⟨hb.1, ?_, ?_⟩)⟩
 · have hl : b < (w.alloc o).heap.size := by have := hb.2.1; simp; omega
   exact (hg.block b hl (fun e => hb.2.2 e.symm)).trans (Below.heap_alloc w o b hb.2.1)
 · have := hb.2.1; have h1 := hg.size; simp at h1; omega
 · rcases hat with h | h
   · rw [← h]; exact hb.2.2
   · rw [h]; intro h1; cases h1; have := hb.2.1; omega
theorem Rds.fresh {lo : Nat} (hn : Rds (fun b => lo ≤ b ∧ b < w.heap.size) w news dn) (hB : B ≤ lo) (hv : ∀ g, v.ownBlock = some g → g < lo) : Rds (OffRow B w v) w news dn :=
 hn.mono (fun _ _ => rfl) (fun b hb => ⟨Nat.le_trans hB hb.1, hb.2, fun e => by have := hv b e; have := hb.1; omega⟩)
theorem RowD.rd (h : RowD B e k w v n ds) : Rd (fun b => B ≤ b ∧ b < w.heap.size) w v (.list k ds) := by
 obtain ⟨cells, h1, h2⟩ := h
 exact rd_owned h1 (h2.mono (fun _ _ => rfl) (fun b hb => ⟨hb.1, hb.2.1⟩)) h1.lt
end
end Go.Proofs.YtcaiibkgajhohaaGreatDoor
namespace Go.Proofs.YtcaiibkgajhohaaGreatDoor
open Go.RowKit
/-- What a call answers: a value, and an error that is told by a number and a place. -/
def AnsPost (w : World) (chk : Int × Int) (good : Value → World → Prop) (bad : Value) (e : Ending) (w' : World) : Prop :=
 (chk.1 = 0 ∧ ∃ v, e = .returned (.tuple #[v, .nilIface]) ∧ good v w' ∧ Below w.heap.size w w') ∨
 (chk.1 ≠ 0 ∧ ∃ p, e = .returned (.tuple #[bad, .iface 85 (.pointer (some p))]) ∧ Rd (Own w') w' (.iface 85 (.pointer (some p))) (errD 85 [chk]) ∧ Below w.heap.size w w')
theorem chk_mem {js : List JN} {i : Nat} {x : JN} {kind : Int} {ks : List Int} (hx : js[i]? = some x) (hk : x.kind ∈ ks ↔ (x.kind = kind ∨ kind = 2 ∧ x.kind = 1)) : checkS js i kind = if x.kind ∈ ks then (0, 0) else (32, x.at_) := by
 rw [checkS_in hx kind]
 by_cases h : x.kind ∈ ks
 · rw [if_pos h, if_pos (hk.1 h)]
 · rw [if_neg h, if_neg (fun h2 => h (hk.2 h2))]
/-- From what `of` tells. -/
theorem of_cases {w w' : World} {js : List JN} {id : Int} {ks : List Int} {kind : Int} {e : Ending} (hk : ∀ k : Int, k ∈ ks ↔ (k = kind ∨ kind = 2 ∧ k = 1)) (h : OfPost w js id ks e w') :
    (∃ (i : Nat) (x : JN), id = i ∧ js[i]? = some x ∧ checkS js id kind = (0, 0) ∧ (x.kind = kind ∨ kind = 2 ∧ x.kind = 1) ∧ e = .returned (.tuple #[.agg #[.int .i64 x.kind, .string x.key, .string x.text, .int .i64 x.at_], .nilIface]) ∧ Below w.heap.size w w') ∨
    ((checkS js id kind).1 ≠ 0 ∧ ∃ p, e = .returned (.tuple #[.agg #[.int .i64 0, .string ⟨#[]⟩, .string ⟨#[]⟩, .int .i64 0], .iface 85 (.pointer (some p))]) ∧ Rd (Own w') w' (.iface 85 (.pointer (some p))) (errD 85 [checkS js id kind]) ∧ Below w.heap.size w w') := by
 rcases h with ⟨i, x, rfl, hx, h⟩ | ⟨hn, u, rfl, hf⟩
 · have hc := chk_mem (ks := ks) hx (hk x.kind)
   rcases h with ⟨hm, rfl, hb⟩ | ⟨hm, u, rfl, hf⟩
   · rw [if_pos hm] at hc
     exact .inl ⟨i, x, rfl, hx, hc, (hk _).1 hm, rfl, hb⟩
   · rw [if_neg hm] at hc
     refine .inr ⟨by rw [hc]; show (32 : Int) ≠ 0; decide, u, rfl, ?_, hf.2⟩
     rw [hc]; exact hf.1.wide (fun b hb => hb.2)
 · have hc := checkS_out hn kind
   refine .inr ⟨by rw [hc]; show (30 : Int) ≠ 0; decide, u, rfl, ?_, hf.2⟩
   rw [hc]; exact hf.1.wide (fun b hb => hb.2)
theorem ks1 (w : World) (k : Int) : Rd (Own (w.alloc (.cells #[.int .i64 k] 3))) (w.alloc (.cells #[.int .i64 k] 3)) (.slice (some ⟨w.heap.size, 0, none⟩) 1 1) (.list 1 (([k] : List Int).map (.int .i64))) := by
 have ho := World.ownsRow_lit (base := w.heap.size) (e := 3) (size := 1) w #[.int .i64 k] 1 (Nat.le_refl _) (by decide) rfl
 refine rd_owned ho ⟨rfl, fun j u d hu hd => ?_⟩ (fun g hg => (ho.lt g hg).2)
 cases j with
 | zero => simp at hu hd; subst hu; subst hd; exact .int _ _
 | succ j => simp at hu
theorem ks2 (w : World) (k l : Int) : Rd (Own (w.alloc (.cells #[.int .i64 k, .int .i64 l] 3))) (w.alloc (.cells #[.int .i64 k, .int .i64 l] 3)) (.slice (some ⟨w.heap.size, 0, none⟩) 2 2) (.list 1 (([k, l] : List Int).map (.int .i64))) := by
 have ho := World.ownsRow_lit (base := w.heap.size) (e := 3) (size := 1) w #[.int .i64 k, .int .i64 l] 2 (Nat.le_refl _) (by decide) rfl
 refine rd_owned ho ⟨rfl, fun j u d hu hd => ?_⟩ (fun g hg => (ho.lt g hg).2)
 cases j with
 | zero => simp at hu hd; subst hu; subst hd; exact .int _ _
 | succ j => cases j with
   | zero => simp at hu hd; subst hu; subst hd; exact .int _ _
   | succ j => simp at hu
set_option maxRecDepth 100000 in
set_option maxHeartbeats 4000000 in
theorem items_any (w : World) (base D T : Nat) (s : PS) (nodes : Int) (tv : Value) (ns : List ANode) (id : Int) (h : DocAt w base D s nodes T tv ns) (hj : s.js.length ≤ 100000) :
    Calls Tryz.prog 59 #[ptrV D, .int .i64 id] w (AnsPost w (checkS s.js id 5) (fun v w' => Rd (Fresh w w') w' v (intsD (kids s.ups id.toNat))) (.slice none 0 0)) := by
 have hl := h.len
 have hgl := h.good.len
 have cD := h.cD
 have hDw := heap_lt h.doc
 have OF := Lib.hid (fun ob (kv : Value) (hk : Rd (Own (w.alloc ob)) (w.alloc ob) kv (.list 1 (([5] : List Int).map (.int .i64)))) => of_any (w.alloc ob) base D T s nodes tv ns id kv [5] (h.below (ext_alloc (Below.refl _ _) ob)) (by omega) hk (by decide))
 have K5 := Lib.hid (ks1 w 5)
 have hb1 := Lib.hid (fun ob : Obj => ext_alloc (Below.refl _ w) ob)
 have H := Lib.hid h
 clear h
 go_enter Tryz.func59, Tryz.ntmps59
 go_wp2_with fail
 refine (OF.out _ _ K5.out).mono ?_
 intro e w2 hp
 rcases of_cases (kind := 5) (fun k => by simp) hp with ⟨i, x, rfl, hx, hc, _, rfl, hb2⟩ | ⟨hc, p, rfl, hr, hb2⟩
 · have HC := Lib.hid hc
   have HB2 := Lib.hid (fun ob => ext_alloc (ext_trans (hb1.out _) hb2) ob)
   have hcd : ∀ ob, (w2.alloc ob).cell? ⟨D, 0, none⟩ = some (ptrV T) := fun ob => (bcell1 (HB2.out ob) hDw 0).trans cD
   have hil := (List.getElem?_eq_some_iff.1 hx).1
   have KD := Lib.hid (fun ob => kids_any T tv ns s.ups nodes i (w2.alloc ob) ((H.out.below (HB2.out ob)).tree) H.out.good (by omega) (by omega))
   clear hp hb2 hx hc
   go_wp2_with fail
   refine (KD.out _).mono ?_
   rintro e w3 ⟨v3, rfl, hr3, hb3⟩
   have HF := Lib.hid (ext_trans (HB2.out _) hb3)
   have HR := Lib.hid (hr3.wide (S' := Fresh w w3) (fun b hb => ⟨Nat.le_trans (HB2.out _).size hb.1, hb.2⟩))
   clear hr3 hb3
   go_wp2
   go_ret2
   exact .inl ⟨by rw [HC.out], _, rfl, by rw [Int.toNat_natCast]; exact HR.out, HF.out⟩
 · have HF := Lib.hid (fun W (hW : Below w2.heap.size w2 W) => show AnsPost w (checkS s.js id 5) (fun v w' => Rd (Fresh w w') w' v (intsD (kids s.ups id.toNat))) (.slice none 0 0) (.returned (.tuple #[.slice none 0 0, .iface 85 (.pointer (some p))])) W from .inr ⟨hc, p, rfl, hr.ext hW, ext_trans (ext_trans (hb1.out _) hb2) hW⟩)
   clear hp hc hr hb2
   go_wp2
   go_ret2
   exact HF.out _ (by first | exact Below.refl _ _ | exact ext_alloc (Below.refl _ _) _)
set_option maxRecDepth 100000 in
set_option maxHeartbeats 4000000 in
theorem dtext_any (w : World) (base D T : Nat) (s : PS) (nodes : Int) (tv : Value) (ns : List ANode) (id : Int) (h : DocAt w base D s nodes T tv ns) (hj : s.js.length ≤ 100000) :
    Calls Tryz.prog 127 #[ptrV D, .int .i64 id] w (AnsPost w (checkS s.js id 4) (fun v _ => v = .string (textA s.js id.toNat).text) (.string ⟨#[]⟩)) := by
 have hDw := heap_lt h.doc
 have OF := Lib.hid (fun W (hW : Below w.heap.size w W) (kv : Value) (hk : Rd (Own W) W kv (.list 1 (([4] : List Int).map (.int .i64)))) => of_any W base D T s nodes tv ns id kv [4] (h.below hW) (by omega) hk (by decide))
 have K4 := Lib.hid (fun W => ks1 W 4)
 have hb1 := Lib.hid (fun ob : Obj => ext_alloc (Below.refl _ w) ob)
 have hb2 := Lib.hid (fun ob o2 : Obj => ext_alloc (ext_alloc (Below.refl _ w) ob) o2)
 clear h
 go_enter Tryz.func127, Tryz.ntmps127
 go_wp2_with fail
 refine (OF.out _ (by first | exact hb1.out _ | exact hb2.out _ _) _ (K4.out _)).mono ?_
 intro e w2 hp
 rcases of_cases (kind := 4) (fun k => by simp) hp with ⟨i, x, rfl, hx, hc, _, rfl, hbb⟩ | ⟨hc, p, rfl, hr, hbb⟩
 · have HC := Lib.hid hc
   have HB2 := Lib.hid (ext_trans (by first | exact hb1.out _ | exact hb2.out _ _) hbb)
   have HTX := Lib.hid (show (textA s.js i).text = x.text by unfold textA; rw [hx]; rfl)
   clear hp hbb hx hc
   go_wp2
   go_ret2
   exact .inl ⟨by rw [HC.out], _, rfl, by rw [Int.toNat_natCast, HTX.out]; rfl, (by first | exact HB2.out | exact ext_alloc HB2.out _)⟩
 · have HF := Lib.hid (fun W (hW : Below w2.heap.size w2 W) => show AnsPost w (checkS s.js id 4) (fun v _ => v = .string (textA s.js id.toNat).text) (.string ⟨#[]⟩) (.returned (.tuple #[.string ⟨#[]⟩, .iface 85 (.pointer (some p))])) W from .inr ⟨hc, p, rfl, hr.ext hW, ext_trans (ext_trans (by first | exact hb1.out _ | exact hb2.out _ _) hbb) hW⟩)
   clear hp hc hr hbb
   go_wp2
   go_ret2
   exact HF.out _ (by first | exact Below.refl _ _ | exact ext_alloc (Below.refl _ _) _)
set_option maxRecDepth 100000 in
set_option maxHeartbeats 4000000 in
theorem dflag_any (w : World) (base D T : Nat) (s : PS) (nodes : Int) (tv : Value) (ns : List ANode) (id : Int) (h : DocAt w base D s nodes T tv ns) (hj : s.js.length ≤ 100000) :
    Calls Tryz.prog 126 #[ptrV D, .int .i64 id] w (AnsPost w (checkS s.js id 2) (fun v _ => v = .bool ((textA s.js id.toNat).kind == 2)) (.bool false)) := by
 have hDw := heap_lt h.doc
 have OF := Lib.hid (fun W (hW : Below w.heap.size w W) (kv : Value) (hk : Rd (Own W) W kv (.list 1 (([2, 1] : List Int).map (.int .i64)))) => of_any W base D T s nodes tv ns id kv [2, 1] (h.below hW) (by omega) hk (by decide))
 have K4 := Lib.hid (fun W => ks2 W 2 1)
 have hb1 := Lib.hid (fun ob : Obj => ext_alloc (Below.refl _ w) ob)
 have hb2 := Lib.hid (fun ob o2 : Obj => ext_alloc (ext_alloc (Below.refl _ w) ob) o2)
 clear h
 go_enter Tryz.func126, Tryz.ntmps126
 go_wp2_with fail
 refine (OF.out _ (by first | exact hb1.out _ | exact hb2.out _ _) _ (K4.out _)).mono ?_
 intro e w2 hp
 rcases of_cases (kind := 2) (fun k => by simp) hp with ⟨i, x, rfl, hx, hc, _, rfl, hbb⟩ | ⟨hc, p, rfl, hr, hbb⟩
 · have HC := Lib.hid hc
   have HB2 := Lib.hid (ext_trans (by first | exact hb1.out _ | exact hb2.out _ _) hbb)
   have HTX := Lib.hid (show (textA s.js i).kind = x.kind by unfold textA; rw [hx]; rfl)
   clear hp hbb hx hc
   go_wp2
   go_ret2
   exact .inl ⟨by rw [HC.out], _, rfl, by rw [Int.toNat_natCast, HTX.out]; rfl, (by first | exact HB2.out | exact ext_alloc HB2.out _)⟩
 · have HF := Lib.hid (fun W (hW : Below w2.heap.size w2 W) => show AnsPost w (checkS s.js id 2) (fun v _ => v = .bool ((textA s.js id.toNat).kind == 2)) (.bool false) (.returned (.tuple #[.bool false, .iface 85 (.pointer (some p))])) W from .inr ⟨hc, p, rfl, hr.ext hW, ext_trans (ext_trans (by first | exact hb1.out _ | exact hb2.out _ _) hbb) hW⟩)
   clear hp hc hr hbb
   go_wp2
   go_ret2
   exact HF.out _ (by first | exact Below.refl _ _ | exact ext_alloc (Below.refl _ _) _)
set_option maxRecDepth 100000 in
set_option maxHeartbeats 4000000 in
theorem membersF_any (w : World) (base D T : Nat) (s : PS) (nodes : Int) (tv : Value) (ns : List ANode) (id : Int) (h : DocAt w base D s nodes T tv ns) (hj : s.js.length ≤ 100000) (hc : (checkS s.js id 6).1 ≠ 0) :
    Calls Tryz.prog 55 #[ptrV D, .int .i64 id] w (AnsPost w (checkS s.js id 6) (fun _ _ => False) (.slice none 0 0)) := by
 have hDw := heap_lt h.doc
 have OF := Lib.hid (fun W (hW : Below w.heap.size w W) (kv : Value) (hk : Rd (Own W) W kv (.list 1 (([6] : List Int).map (.int .i64)))) => of_any W base D T s nodes tv ns id kv [6] (h.below hW) (by omega) hk (by decide))
 have K4 := Lib.hid (fun W => ks1 W 6)
 have hb1 := Lib.hid (fun ob : Obj => ext_alloc (Below.refl _ w) ob)
 have hb2 := Lib.hid (fun ob o2 : Obj => ext_alloc (ext_alloc (Below.refl _ w) ob) o2)
 have HC := Lib.hid hc
 clear h hc
 go_enter Tryz.func55, Tryz.ntmps55
 go_wp2_with fail
 refine (OF.out _ (by first | exact hb1.out _ | exact hb2.out _ _) _ (K4.out _)).mono ?_
 intro e w2 hp
 rcases of_cases (kind := 6) (fun k => by simp) hp with ⟨i, x, rfl, hx, hc, _, rfl, hbb⟩ | ⟨hc, p, rfl, hr, hbb⟩
 · exact absurd (by rw [hc]) HC.out
 · have HF := Lib.hid (fun W (hW : Below w2.heap.size w2 W) => show AnsPost w (checkS s.js id 6) (fun _ _ => False) (.slice none 0 0) (.returned (.tuple #[.slice none 0 0, .iface 85 (.pointer (some p))])) W from .inr ⟨hc, p, rfl, hr.ext hW, ext_trans (ext_trans (by first | exact hb1.out _ | exact hb2.out _ _) hbb) hW⟩)
   clear hp hc hr hbb
   go_wp2
   go_ret2
   exact HF.out _ (by first | exact Below.refl _ _ | exact ext_alloc (Below.refl _ _) _)
set_option maxRecDepth 100000 in
set_option maxHeartbeats 4000000 in
theorem memberF_any (w : World) (base D T : Nat) (s : PS) (nodes : Int) (tv : Value) (ns : List ANode) (id : Int) (key : ByteArray) (h : DocAt w base D s nodes T tv ns) (hj : s.js.length ≤ 100000) (hc : (checkS s.js id 6).1 ≠ 0) :
    Calls Tryz.prog 52 #[ptrV D, .int .i64 id, .string key] w (AnsPost w (checkS s.js id 6) (fun _ _ => False) (.int .i64 0)) := by
 have hDw := heap_lt h.doc
 have OF := Lib.hid (fun W (hW : Below w.heap.size w W) (kv : Value) (hk : Rd (Own W) W kv (.list 1 (([6] : List Int).map (.int .i64)))) => of_any W base D T s nodes tv ns id kv [6] (h.below hW) (by omega) hk (by decide))
 have K4 := Lib.hid (fun W => ks1 W 6)
 have hb1 := Lib.hid (fun ob : Obj => ext_alloc (Below.refl _ w) ob)
 have hb2 := Lib.hid (fun ob o2 : Obj => ext_alloc (ext_alloc (Below.refl _ w) ob) o2)
 have HC := Lib.hid hc
 clear h hc
 go_enter Tryz.func52, Tryz.ntmps52
 go_wp2_with fail
 refine (OF.out _ (by first | exact hb1.out _ | exact hb2.out _ _) _ (K4.out _)).mono ?_
 intro e w2 hp
 rcases of_cases (kind := 6) (fun k => by simp) hp with ⟨i, x, rfl, hx, hc, _, rfl, hbb⟩ | ⟨hc, p, rfl, hr, hbb⟩
 · exact absurd (by rw [hc]) HC.out
 · have HF := Lib.hid (fun W (hW : Below w2.heap.size w2 W) => show AnsPost w (checkS s.js id 6) (fun _ _ => False) (.int .i64 0) (.returned (.tuple #[.int .i64 0, .iface 85 (.pointer (some p))])) W from .inr ⟨hc, p, rfl, hr.ext hW, ext_trans (ext_trans (by first | exact hb1.out _ | exact hb2.out _ _) hbb) hW⟩)
   clear hp hc hr hbb
   go_wp2
   go_ret2
   exact HF.out _ (by first | exact Below.refl _ _ | exact ext_alloc (Below.refl _ _) _)
end Go.Proofs.YtcaiibkgajhohaaGreatDoor
