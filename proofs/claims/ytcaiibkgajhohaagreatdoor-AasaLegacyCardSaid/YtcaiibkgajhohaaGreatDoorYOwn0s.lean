/- Texts put together. -/
import Derived.Test.YtcaiibkgajhohaaGreatDoorYLib0s
import Derived.Test.YtcaiibkgajhohaaGreatDoorYScan0s
import Derived.Test.YtcaiibkgajhohaaGreatDoorYScan4s
import Derived.Test.YtcaiibkgajhohaaGreatDoorYUtf0s
import Derived.Test.YtcaiibkgajhohaaGreatDoorYQuo0f
import Derived.Test.YtcaiibkgajhohaaGreatDoorYFold0s
import Derived.Laws.OwnMore
import Derived.Test.YtcaiibkgajhohaaGreatDoorProg
import Derived.Lib.SmallJoins
import Derived.Laws.BytesString
import Derived.Deep.AppendLies
import Derived.Lib.RuneBytes
namespace Go.Proofs.YtcaiibkgajhohaaGreatDoor
section
open Go.RowKit
section
variable {α β : Type} {enc : α → List β} {k : Nat}
theorem vflat_length (hk : ∀ x, (enc x).length = k) : ∀ xs : List α, (xs.flatMap enc).length = xs.length * k
 | [] => by simp
 | x :: xs => by rw [List.flatMap_cons, List.length_append, vflat_length hk xs, hk, List.length_cons, Nat.add_mul]; omega
theorem vflat_get? (hk : ∀ x, (enc x).length = k) : ∀ (xs : List α) (i j : Nat) (x : α), xs[i]? = some x → j < k → (xs.flatMap enc)[i * k + j]? = (enc x)[j]?
 | [], i, j, x, h, _ => by simp at h
 | y :: ys, 0, j, x, h, hj => by
   simp at h; subst h
   rw [List.flatMap_cons, List.getElem?_append_left (by rw [hk]; omega)]; simp
 | y :: ys, i + 1, j, x, h, hj => by
   simp at h
   rw [List.flatMap_cons, List.getElem?_append_right (by rw [hk, Nat.add_mul]; omega), hk, ← vflat_get? hk ys i j x h hj]
   congr 1; rw [Nat.add_mul]; omega
theorem vflat_set (hk : ∀ x, (enc x).length = k) {y : α} {u : β} {j : Nat} (hj : j < k) : ∀ (xs : List α) (i : Nat) (x : α), xs[i]? = some x → enc y = (enc x).set j u → (xs.flatMap enc).set (i * k + j) u = (xs.set i y).flatMap enc
 | [], i, x, h, _ => by simp at h
 | z :: zs, 0, x, h, he => by
   simp at h; subst h
   rw [List.flatMap_cons, List.set_cons_zero, List.flatMap_cons, he, List.set_append_left _ _ (by rw [hk]; omega)]
   simp
 | z :: zs, i + 1, x, h, he => by
   simp at h
   rw [List.flatMap_cons, List.set_cons_succ, List.flatMap_cons, List.set_append_right _ _ (by rw [hk, Nat.add_mul]; omega), hk, ← vflat_set hk hj zs i x h he]
   congr 2; rw [Nat.add_mul]; omega
end
section
variable {α : Type} {enc : α → List Value} {k : Nat} {w : World} {base g n cap : Nat} {e : TypeId} {xs : List α}
theorem row_cell (hk : ∀ x, (enc x).length = k) (hown : w.ownsRow base e k (.slice (some ⟨g, 0, none⟩) n cap) n (xs.flatMap enc)) {i j : Nat} {x : α} (hx : xs[i]? = some x) (hj : j < k) : w.cell? ⟨g, i * k + j, none⟩ = (enc x)[j]? := by
 have hl := hown.1
 rw [vflat_length hk] at hl
 have hi := (List.getElem?_eq_some_iff.1 hx).1
 have h1 : (i + 1) * k ≤ xs.length * k := Nat.mul_le_mul_right _ hi
 rw [Nat.add_mul] at h1
 rw [hown.cellAt _ (by omega), vflat_get? hk xs i j x hx hj]
theorem row_store (hk : ∀ x, (enc x).length = k) (hown : w.ownsRow base e k (.slice (some ⟨g, 0, none⟩) n cap) n (xs.flatMap enc)) {i j : Nat} {x y : α} {u : Value} (hx : xs[i]? = some x) (hj : j < k) (he : enc y = (enc x).set j u) :
    (w.setCell ⟨g, i * k + j, none⟩ u).ownsRow base e k (.slice (some ⟨g, 0, none⟩) n cap) n ((xs.set i y).flatMap enc) := by
 have := (hown.stored (i * k + j) u).1
 rwa [vflat_set hk hj xs i x hx he] at this
end
theorem aown_form {w : World} {base : Nat} {e : TypeId} {sz n : Nat} {v : Value} {xs : List Value} (h : w.ownsRow base e sz v n xs) :
    ∃ ao cap, v = .slice ao n cap ∧ (n = 0 ∧ ao = none ∨ ∃ g, ao = some ⟨g, 0, none⟩ ∧ base ≤ g ∧ g < w.heap.size) := by
 have hlt := h.lt
 rcases h.2 with ⟨rfl, rfl⟩ | ⟨g, cap, cur, rfl, _⟩
 · exact ⟨none, 0, rfl, .inl ⟨rfl, rfl⟩⟩
 · exact ⟨_, cap, rfl, .inr ⟨g, rfl, hlt g rfl⟩⟩
theorem aown_ext {w w' : World} {base base' : Nat} {e : TypeId} {sz n : Nat} {v : Value} {xs : List Value} (h : w.ownsRow base e sz v n xs) (hb : ∀ g, v.ownBlock = some g → w'.heap[g]? = w.heap[g]?) (hB : base' ≤ base) : w'.ownsRow base' e sz v n xs := by
 refine ⟨h.1, ?_⟩
 rcases h.2 with h2 | ⟨g, cap, cur, rfl, h3, hg, h4⟩
 · exact .inl h2
 · exact .inr ⟨g, cap, cur, rfl, Nat.le_trans hB h3, by rw [hb g rfl]; exact hg, h4⟩
/-- Nothing has turned but the blocks in T; blocks may have been made. -/
structure Only (T : Nat → Prop) (w w' : World) : Prop where
 os : w'.os = w.os
 tape : w'.tape = w.tape
 output : w'.output = w.output
 size : w.heap.size ≤ w'.heap.size
 block : ∀ k, k < w.heap.size → ¬ T k → w'.heap[k]? = w.heap[k]?
theorem Only.refl (T : Nat → Prop) (w : World) : Only T w w := ⟨rfl, rfl, rfl, Nat.le_refl _, fun _ _ _ => rfl⟩
theorem Only.of {T : Nat → Prop} {w w' : World} (h : Below w.heap.size w w') : Only T w w' := ⟨h.os, h.tape, h.output, h.size, fun k hk _ => h.block k hk⟩
theorem Only.trans {T : Nat → Prop} {a b c : World} (h : Only T a b) (k : Only T b c) : Only T a c :=
 ⟨k.os.trans h.os, k.tape.trans h.tape, k.output.trans h.output, Nat.le_trans h.size k.size, fun j hj hn => (k.block j (Nat.lt_of_lt_of_le hj h.size) hn).trans (h.block j hj hn)⟩
theorem Only.wide {T T' : Nat → Prop} {a b : World} (h : Only T a b) (hT : ∀ k, k < a.heap.size → T k → T' k) : Only T' a b := ⟨h.os, h.tape, h.output, h.size, fun k hk hn => h.block k hk (fun ht => hn (hT k hk ht))⟩
theorem Only.below {T : Nat → Prop} {B : Nat} {a b : World} (h : Only T a b) (hB : B ≤ a.heap.size) (hT : ∀ k, T k → B ≤ k) : Below B a b :=
 ⟨h.os, h.tape, h.output, h.size, fun k hk => h.block k (by omega) (fun ht => by have := hT k ht; omega)⟩
theorem Only.alloc {T : Nat → Prop} {a b : World} (h : Only T a b) (o : Obj) : Only T a (b.alloc o) := h.trans (.of (ext_alloc (Below.refl _ _) o))
theorem Only.set {T : Nat → Prop} {a b : World} (h : Only T a b) {p : Addr} (hp : p.block < a.heap.size → T p.block) (u : Value) : Only T a (b.setCell p u) :=
 ⟨h.os, h.tape, h.output, by simpa using h.size, fun k hk hn => (Below.heap_setCell b p u k (fun e => hn (by rw [e]; exact hp (by omega)))).trans (h.block k hk hn)⟩
theorem Only.grown {T : Nat → Prop} {a b c : World} {row : Option Nat} (h : Only T a b) (hg : b.grownBy c row) (hr : ∀ k, row = some k → k < a.heap.size → T k) : Only T a c :=
 ⟨hg.os.trans h.os, hg.tape.trans h.tape, hg.output.trans h.output, Nat.le_trans h.size hg.size, fun k hk hn => (hg.block k (Nat.lt_of_lt_of_le hk h.size) (fun e => hn (hr k e.symm hk))).trans (h.block k hk hn)⟩
end
section
open Go.RowKit
theorem elInt : ElemTy Tryz.prog 106 3 1 8 (.int .i64 0) := ⟨Tryz.underlying106, by kernel_rfl, rfl, by decide⟩
def intsV (l : List Nat) : List Value := l.map fun n : Nat => .int .i64 (n : Int)
def intsD (l : List Nat) : Dat := .list 1 (l.map fun n : Nat => .int .i64 (n : Int))
theorem intsV_rds {S : Nat → Prop} {w : World} (l : List Nat) : Rds S w (intsV l) (l.map fun n : Nat => Dat.int .i64 (n : Int)) :=
 ⟨by simp [intsV], fun i u d h1 h2 => by
  simp only [intsV, List.getElem?_map] at h1 h2
  cases hl : l[i]? with
  | none => rw [hl] at h1; cases h1
  | some n => rw [hl] at h1 h2; cases h1; cases h2; exact .int _ _⟩
theorem size_zero {B : ByteArray} (h : ¬ 0 < B.size) : B = ByteArray.empty := by
 cases B with
 | mk d =>
   have : d.size = 0 := by have h' : ¬ 0 < d.size := h; omega
   rw [Array.eq_empty_of_size_eq_zero this]; rfl
def byV (B : ByteArray) : List Value := B.data.toList.map fun x => Value.int .u8 (x.toNat : Nat)
def byD (B : ByteArray) : List Dat := B.data.toList.map fun x => Dat.int .u8 (x.toNat : Nat)
theorem bytesDB_eq (B : ByteArray) : bytesDB B = .list 1 (byD B) := rfl
theorem byV_rds {S : Nat → Prop} {w : World} (B : ByteArray) : Rds S w (byV B) (byD B) :=
 ⟨by simp [byV, byD], fun i u d hu hd => by
  simp only [byV, byD, List.getElem?_map, Option.map_eq_some_iff] at hu hd
  obtain ⟨x, hx, rfl⟩ := hu
  obtain ⟨y, hy, rfl⟩ := hd
  rw [hx] at hy; cases hy; exact .int _ _⟩
theorem byD_app (P B : ByteArray) : byD (P ++ B) = byD P ++ byD B := by simp [byD, ByteArray.data_append]
theorem size_push (P : ByteArray) (x : UInt8) : (P.push x).size = P.size + 1 := by
 show (P.data.push x).size = P.data.size + 1
 exact Array.size_push _
end
section
open Go.RowKit
def putC (n : Nat) : List Value := (putN n).map fun x : Nat => Value.int .u8 (x : Int)
theorem byV_strOf : ∀ {acc : List Nat}, AllRight acc → byV (strOf acc) = acc.flatMap putC
 | [], _ => rfl
 | c :: acc, h => by
   have ih := byV_strOf (acc := acc) (fun x hx => h x (List.mem_cons_of_mem _ hx))
   have hc := right_lt (h c (by simp))
   unfold byV strOf at ih ⊢
   rw [List.toList_toArray] at ih ⊢
   rw [List.flatMap_cons, List.map_append, List.map_append, ih, List.flatMap_cons]
   congr 1
   unfold putC
   rw [List.map_map]
   apply List.map_congr_left
   intro x hx
   have := putN_lt hc x hx
   simp; omega
theorem strOf_le : ∀ acc : List Nat, (strOf acc).size ≤ 4 * acc.length
 | [] => by simp [strOf_size]
 | c :: acc => by
   have ih := strOf_le acc
   have := putN_len c
   rw [strOf_size] at ih ⊢
   rw [List.flatMap_cons, List.length_append, List.length_cons]; omega
theorem rune_put {c : Nat} (h : rightN (c : Int) = true) : Go.Lib.runeCells (c : Int) = putC c := by
 have hc := (right_iff _).1 h
 unfold Go.Lib.runeCells putC putN
 by_cases h1 : c < 128
 · rw [if_pos h1, Go.Lib.encodeRuneZ_one (by omega) (by omega)]; rfl
 · rw [if_neg h1]
   by_cases h2 : c < 2048
   · rw [if_pos h2, Go.Lib.encodeRuneZ_two (by omega) (by omega)]
     simp
   · rw [if_neg h2]
     by_cases h3 : c < 65536
     · rw [if_pos h3, Go.Lib.encodeRuneZ_three (by omega)]
       simp
     · rw [if_neg h3, Go.Lib.encodeRuneZ_four (by omega) (by omega)]
       simp
theorem byV_length (B : ByteArray) : (byV B).length = B.size := by simp [byV]
theorem strOf_snoc {acc : List Nat} {c : Nat} (h : AllRight acc) (hc : rightN (c : Int) = true) : byV (strOf (acc ++ [c])) = byV (strOf acc) ++ putC c := by
 rw [byV_strOf (h.snoc hc), byV_strOf h, List.flatMap_append]; simp
theorem take_snoc {acc : List Nat} {j : Nat} (hj : j < acc.length) : acc.take (j + 1) = acc.take j ++ [acc[j]] := List.take_succ_eq_append_getElem hj
/-- The characters of a text that was read are right. -/
theorem textF_right {B : ByteArray} : ∀ f i acc x, AllRight acc → textF B f i acc = .ok x → AllRight x.1
 | 0, i, acc, x, _, h => by cases h
 | f + 1, i, acc, x, ha, h => by
   rw [textF] at h
   split at h
   · cases h
   · split at h
     · cases h; exact ha
     · split at h
       · cases h
       · obtain ⟨y, h1, h2⟩ := Sc.bind_eq_ok h
         exact textF_right f _ _ x (ha.snoc (textStep_right h1)) h2
theorem textS_right {B : ByteArray} {i : Nat} {x : List Nat × Nat} (h : textS B i [] = .ok x) : AllRight x.1 := textF_right _ _ _ _ (fun c hc => by cases hc) h
theorem textF_len {B : ByteArray} : ∀ f i acc x, i ≤ B.size → textF B f i acc = .ok x → x.1.length ≤ acc.length + (B.size - i)
 | 0, i, acc, x, _, h => by cases h
 | f + 1, i, acc, x, hi, h => by
   rw [textF] at h
   split at h
   · cases h
   · split at h
     · cases h; simp
     · split at h
       · cases h
       · obtain ⟨y, h1, h2⟩ := Sc.bind_eq_ok h
         have hs := textStep_ok (by omega) h1
         have := textF_len f _ _ x hs.2 h2
         rw [List.length_append, List.length_cons, List.length_nil] at this
         omega
theorem textS_len {B : ByteArray} {i : Nat} {x : List Nat × Nat} (hi : i ≤ B.size) (h : textS B i [] = .ok x) : x.1.length ≤ B.size := by
 have := textF_len _ _ _ _ hi h; simp at this; omega
/-- What a token stands for. -/
def textTok (B : ByteArray) (t : Tok) : Option ByteArray := match nextI B t.fr with
 | .ok x => if x = t ∧ t.kind = 7 then (match textS B (t.fr.toNat + 1) [] with | .ok y => some (strOf y.1) | .no _ _ => none) else none
 | .no _ _ => none
/-- A text's token: where it begins a mark stands, and it ends. -/
theorem tok_text {B : ByteArray} {t : Tok} (h : nextI B t.fr = .ok t) (h7 : t.kind = 7) : ∃ (p : Nat) (y : List Nat × Nat), t.fr = p ∧ p < B.size ∧ byteAt B p = 34 ∧ textS B (p + 1) [] = .ok y := by
 unfold nextI at h
 split at h
 · cases h
 · rename_i hn
   obtain ⟨p, hp⟩ := Int.eq_ofNat_of_zero_le (show 0 ≤ t.fr by omega)
   rw [hp, Int.toNat_natCast] at h
   unfold nextS at h
   obtain ⟨x, h1, h2⟩ := Sc.bind_eq_ok h
   have h2' := Sc.ok.inj h2
   have hk : x.1 = 7 := by have := congrArg Tok.kind h2'; simp only at this; omega
   have hf : skip isBlank B p = p := by have := congrArg Tok.fr h2'; simp only at this; omega
   rw [hf] at h1
   have hple : p ≤ B.size := by omega
   unfold tokenS at h1
   split at h1
   · cases h1; simp at hk
   · rename_i hpe
     split at h1
     · rename_i hm
       have hlt : marksL.idxOf (byteAt B p) < 6 := List.idxOf_lt_length_iff.2 (by simpa using hm)
       cases h1; simp only at hk; omega
     · split at h1
       · rename_i h34
         obtain ⟨y, h3, h4⟩ := Sc.bind_eq_ok h1
         exact ⟨p, y, hp, by omega, h34, h3⟩
       · split at h1
         · obtain ⟨y, h3, h4⟩ := Sc.bind_eq_ok h1; cases h4; simp at hk
         · split at h1
           · obtain ⟨y, h3, h4⟩ := Sc.bind_eq_ok h1; cases h4; simp at hk
           · split at h1
             · obtain ⟨y, h3, h4⟩ := Sc.bind_eq_ok h1; cases h4; simp at hk
             · split at h1
               · obtain ⟨y, h3, h4⟩ := Sc.bind_eq_ok h1; cases h4; simp at hk
               · cases h1
/-! ### Errors have a number -/
end
section
open Go.RowKit
theorem conv_rd {S : Nat → Prop} {w : World} {v : Value} {B : ByteArray} (h : Rd S w v (bytesDB B)) : (convert 22 9 v).run Tryz.prog w = .ok (.string B) w := by
 obtain ⟨a, c, rfl, _, _, hx⟩ := h.by_inv
 by_cases h0 : 0 < B.size
 · obtain ⟨b, off, rfl, _, hx⟩ := hx h0
   exact bytes_back w b off B.size c B rfl hx
 · obtain rfl := size_zero h0
   rw [run_convert_bytes_string w 22 9 5 a _ c Tryz.underlying22 Tryz.underlying5 Tryz.underlying9]
   cases a with
   | none => simp [Conv.bytesToString]
   | some a =>
     exact run_bytesToString w a 0 c [] (by simp [loadCells, loadCellsFrom])
theorem rd_of_cells {S : Nat → Prop} {w : World} {b cap : Nat} {B : ByteArray} (hS : S b) (hcap : B.size ≤ cap) (h : ∀ i, i < B.size → w.cell? ⟨b, i, none⟩ = some (.int .u8 (byteAt B i))) : Rd S w (.slice (some ⟨b, 0, none⟩) B.size cap) (bytesDB B) := by
 by_cases h0 : B.size = 0
 · have e := empty_of h0
   subst e
   exact .list0 _ _ _ nofun
 · refine .list b 0 B.size cap 1 _ (fun j => .int .u8 (byteAt B j)) hS (by omega) hcap (by simp) (fun j hj => ?_) (fun j hj => ?_)
   · rw [Nat.zero_add]; exact h j (by simpa using hj)
   · have hj' : j < B.data.size := by simpa using hj
     have e : (B.data.toList.map fun x => Dat.int .u8 ((x.toNat : Nat) : Int))[j] = Dat.int .u8 (byteAt B j) := by
      simp only [List.getElem_map, Array.getElem_toList]
      unfold byteAt; rw [Array.getElem?_eq_getElem hj']; rfl
     rw [e]; exact .int _ _
end
end Go.Proofs.YtcaiibkgajhohaaGreatDoor
