/- Lib0, Bytes0 in one text (a claim holds at most 60 files). -/
import Derived.WalkKit
import Derived.Lib.Hide
import Derived.Deep.QuietTactic
import Derived.BigQuiet
namespace Go.Proofs.YtcaiibkgajhohaaGreatDoor
section
open Go.RowKit

/-- Data that are never written again once they are made. -/
inductive Dat where
 | int (k : IntKind) (n : Int)
 | bool (b : Bool)
 | str (s : ByteArray)
 | list (size : Nat) (cells : List Dat)
 | nilp
 | ptr (cells : List Dat)
 | nilI
 | iface (T : TypeId) (d : Dat)

/-- The value v reads, in the world w, as the datum d; each block that is read is in S. -/
inductive Rd (S : Nat → Prop) (w : World) : Value → Dat → Prop
 | int (k : IntKind) (n : Int) : Rd S w (.int k n) (.int k n)
 | bool (b : Bool) : Rd S w (.bool b) (.bool b)
 | str (s : ByteArray) : Rd S w (.string s) (.str s)
 | list0 (a : Option Addr) (c sz : Nat) (hac : a = none → c = 0) : Rd S w (.slice a 0 c) (.list sz [])
 | list (b off n c sz : Nat) (ds : List Dat) (f : Nat → Value) (hS : S b) (hn : 0 < n) (hnc : n ≤ c) (hl : ds.length = n * sz)
     (hc : ∀ j, j < ds.length → w.cell? ⟨b, off + j, none⟩ = some (f j)) (hd : ∀ j (h : j < ds.length), Rd S w (f j) ds[j]) :
     Rd S w (.slice (some ⟨b, off, none⟩) n c) (.list sz ds)
 | nilp : Rd S w (.pointer none) .nilp
 | ptr (b off : Nat) (ds : List Dat) (f : Nat → Value) (hS : S b)
     (hc : ∀ j, j < ds.length → w.cell? ⟨b, off + j, none⟩ = some (f j)) (hd : ∀ j (h : j < ds.length), Rd S w (f j) ds[j]) :
     Rd S w (.pointer (some ⟨b, off, none⟩)) (.ptr ds)
 | nilI : Rd S w .nilIface .nilI
 | iface (T : TypeId) (v : Value) (d : Dat) (h : Rd S w v d) : Rd S w (.iface T v) (.iface T d)

/-- All blocks that there are. -/
def Own (w : World) : Nat → Prop := fun b => b < w.heap.size

theorem cell_keep {w w' : World} {b o : Nat} (h : w'.heap[b]? = w.heap[b]?) : w'.cell? ⟨b, o, none⟩ = w.cell? ⟨b, o, none⟩ :=
 World.cell?_of_block (a := ⟨b, o, none⟩) h

theorem Rd.mono {S S' : Nat → Prop} {w w' : World} {v : Value} {d : Dat} (h : Rd S w v d) (hk : ∀ b, S b → w'.heap[b]? = w.heap[b]?) (hS : ∀ b, S b → S' b) : Rd S' w' v d := by
 induction h with
 | int k n => exact .int k n
 | bool b => exact .bool b
 | str s => exact .str s
 | list0 a c sz hac => exact .list0 a c sz hac
 | list b off n c sz ds f hSb hn hnc hl hc _ ih => exact .list b off n c sz ds f (hS _ hSb) hn hnc hl (fun j hj => by rw [cell_keep (hk b hSb)]; exact hc j hj) ih
 | nilp => exact .nilp
 | ptr b off ds f hSb hc _ ih => exact .ptr b off ds f (hS _ hSb) (fun j hj => by rw [cell_keep (hk b hSb)]; exact hc j hj) ih
 | nilI => exact .nilI
 | iface T v d _ ih => exact .iface T v d ih

/-- Behind a call that has made memory, and turned none that there was. -/
theorem Rd.ext {w w' : World} {v : Value} {d : Dat} (h : Rd (Own w) w v d) (hb : Below w.heap.size w w') : Rd (Own w') w' v d :=
 h.mono (fun b hS => hb.block b hS) (fun _ hS => Nat.lt_of_lt_of_le hS hb.size)
theorem Rd.under {B : Nat} {w w' : World} {v : Value} {d : Dat} (h : Rd (· < B) w v d) (hb : Below B w w') : Rd (· < B) w' v d :=
 h.mono (fun b hS => hb.block b hS) (fun _ hS => hS)
theorem Rd.wide {S S' : Nat → Prop} {w : World} {v : Value} {d : Dat} (h : Rd S w v d) (hS : ∀ b, S b → S' b) : Rd S' w v d := h.mono (fun _ _ => rfl) hS

theorem Rd.set {S : Nat → Prop} {w : World} {v : Value} {d : Dat} (h : Rd S w v d) {p : Addr} (hne : ∀ b, S b → b ≠ p.block) (u : Value) : Rd S (w.setCell p u) v d :=
 h.mono (fun b hS => Below.heap_setCell w p u b (hne b hS)) (fun _ h => h)
theorem Rd.alloc {S : Nat → Prop} {w : World} {v : Value} {d : Dat} (h : Rd S w v d) (hS : ∀ b, S b → b < w.heap.size) (o : Obj) : Rd S (w.alloc o) v d :=
 h.mono (fun b hb => Below.heap_alloc w o b (hS b hb)) (fun _ h => h)
theorem Rd.drewN {S : Nat → Prop} {w : World} {v : Value} {d : Dat} (h : Rd S w v d) (n : Nat) : Rd S (w.drewN n) v d := h.mono (fun _ _ => rfl) (fun _ h => h)
theorem quiet_eq {P : Program} {f : FuncId} {args : Array Value} {w : World} {n : Nat} {v : Value}
    (h : Calls P f args (w.drewN n) fun e w' => e = .returned v ∧ w.drewN n = w') : Calls P f args (w.drewN n) fun e w'' => e = .returned v ∧ ∃ m, w'' = w.drewN m :=
 h.mono fun _ _ ⟨he, hm⟩ => ⟨he, n, hm.symm⟩
theorem ext_trans {a b c : World} (h : Below a.heap.size a b) (k : Below b.heap.size b c) : Below a.heap.size a c := h.trans (k.mono h.size)
theorem ext_alloc {a b : World} (h : Below a.heap.size a b) (o : Obj) : Below a.heap.size a (b.alloc o) := h.alloc h.size o
theorem ext_drewN {a b : World} (n : Nat) (h : Below a.heap.size a b) : Below a.heap.size a (b.drewN n) := ⟨h.os, h.tape, h.output, h.size, h.block⟩
/-- Strings, as the walk compares them. -/
theorem toList_inj {a b : ByteArray} (h : a.toList = b.toList) : a = b := by
 rw [ByteArray.toList_eq, ByteArray.toList_eq] at h
 cases a; cases b
 simpa using Array.toList_inj.1 h
theorem beqS_t {a b : ByteArray} (h : a = b) : (a.toList == b.toList) = true := by rw [h]; exact beq_self_eq_true _
theorem beqS_f {a b : ByteArray} (h : a ≠ b) : (a.toList == b.toList) = false := beq_eq_false_iff_ne.2 (fun e => h (toList_inj e))
theorem get_ex {α : Type} (l : List α) (i : Nat) (h : i < l.length) : ∃ x, l[i]? = some x := ⟨l[i], List.getElem?_eq_getElem h⟩
/-- Nothing but block B has turned. -/
def OnlyB (B : Nat) (w w' : World) : Prop := w'.heap.size = w.heap.size ∧ ∀ k, k ≠ B → w'.heap[k]? = w.heap[k]?
theorem OnlyB.refl (B : Nat) (w : World) : OnlyB B w w := ⟨rfl, fun _ _ => rfl⟩
theorem OnlyB.set {B : Nat} {w w' : World} {o : Nat} {u : Value} (h : OnlyB B w w') : OnlyB B w (w'.setCell ⟨B, o, none⟩ u) :=
 ⟨by rw [← h.1]; simp [World.setCell], fun k hk => (Below.heap_setCell w' ⟨B, o, none⟩ u k hk).trans (h.2 k hk)⟩
theorem Rd.only {S S' : Nat → Prop} {w w' : World} {v : Value} {d : Dat} {B : Nat} (h : Rd S w v d) (ho : OnlyB B w w') (hne : ∀ b, S b → b ≠ B) (hS : ∀ b, S b → S' b) : Rd S' w' v d :=
 h.mono (fun b hb => ho.2 b (hne b hb)) hS
/-- A fresh block is fresh. -/
def Fresh (w w' : World) : Nat → Prop := fun b => w.heap.size ≤ b ∧ b < w'.heap.size
/-- What came of a call inside, behind a block of the caller's own, still fresh for the caller. -/
theorem Rd.res {w w1 w2 w3 : World} {o : Obj} {v : Value} {d : Dat} (h : Rd (Fresh (w.alloc o) w1) w1 v d) (hb : Below w1.heap.size w1 w2) (ho : OnlyB w.heap.size w2 w3) : Rd (Fresh w w3) w3 v d :=
 h.mono (fun b hS => by have := hS.1; simp at this; rw [ho.2 b (by omega)]; exact hb.block b hS.2) (fun b hS => by have h1 := hS.1; have h2 := hS.2; simp at h1; have := hb.size; have := ho.1; exact ⟨by omega, by omega⟩)
/-- What a call leaves of a block of the caller's own. -/
theorem bcell1 {W w1 : World} {B b : Nat} (hb : Below B W w1) (h : b < B) : ∀ o, w1.cell? ⟨b, o, none⟩ = W.cell? ⟨b, o, none⟩ :=
 fun o => hb.cell (p := ⟨b, o, none⟩) h
theorem bfrozen1 {W w1 : World} {B b : Nat} (hb : Below B W w1) (h : b < B) : ∀ o, w1.frozen? ⟨b, o, none⟩ = W.frozen? ⟨b, o, none⟩ :=
 fun o => hb.frozen (p := ⟨b, o, none⟩) h

section
variable {S : Nat → Prop} {w : World} {v : Value}
theorem Rd.int_inv {k : IntKind} {n : Int} (h : Rd S w v (.int k n)) : v = .int k n := by cases h; rfl
theorem Rd.bool_inv {b : Bool} (h : Rd S w v (.bool b)) : v = .bool b := by cases h; rfl
theorem Rd.str_inv {s : ByteArray} (h : Rd S w v (.str s)) : v = .string s := by cases h; rfl
theorem Rd.nilI_inv (h : Rd S w v .nilI) : v = .nilIface := by cases h; rfl
theorem Rd.iface_inv {T : TypeId} {d : Dat} (h : Rd S w v (.iface T d)) : ∃ u, v = .iface T u ∧ Rd S w u d := by cases h with | iface _ u _ h => exact ⟨u, rfl, h⟩
theorem Rd.ptr_inv {ds : List Dat} (h : Rd S w v (.ptr ds)) : ∃ b off, v = .pointer (some ⟨b, off, none⟩) ∧ S b ∧ ∀ j (hj : j < ds.length), ∃ u, w.cell? ⟨b, off + j, none⟩ = some u ∧ Rd S w u ds[j] := by
 cases h with | ptr b off ds f hS hc hd => exact ⟨b, off, rfl, hS, fun j hj => ⟨f j, hc j hj, hd j hj⟩⟩
theorem Rd.list_inv {sz : Nat} {ds : List Dat} (h : Rd S w v (.list sz ds)) : ∃ a n c, v = .slice a n c ∧ ds.length = n * sz ∧ (a = none → n = 0 ∧ c = 0) ∧ n ≤ c ∧
    (0 < n → ∃ b off, a = some ⟨b, off, none⟩ ∧ S b ∧ ∀ j (hj : j < ds.length), ∃ u, w.cell? ⟨b, off + j, none⟩ = some u ∧ Rd S w u ds[j]) := by
 cases h with
 | list0 a c _ hac => exact ⟨a, 0, c, rfl, by simp, fun h => ⟨rfl, hac h⟩, Nat.zero_le _, fun h => by omega⟩
 | list b off n c sz ds f hS hn hnc hl hc hd => exact ⟨_, n, c, rfl, hl, nofun, hnc, fun _ => ⟨b, off, rfl, hS, fun j hj => ⟨f j, hc j hj, hd j hj⟩⟩⟩

/-- A slice of strings. -/
theorem Rd.strs_inv {ss : List ByteArray} (h : Rd S w v (.list 1 (ss.map .str))) : ∃ a c, v = .slice a ss.length c ∧ (a = none → ss.length = 0 ∧ c = 0) ∧ ss.length ≤ c ∧
    (0 < ss.length → ∃ b off, a = some ⟨b, off, none⟩ ∧ S b ∧ ∀ (i : Nat) x, ss[i]? = some x → w.cell? ⟨b, off + i, none⟩ = some (.string x)) := by
 obtain ⟨a, n, c, rfl, hl, hac, hnc, h⟩ := h.list_inv
 simp only [List.length_map, Nat.mul_one] at hl
 subst hl
 refine ⟨a, c, rfl, hac, hnc, fun h0 => ?_⟩
 obtain ⟨b, off, rfl, hS, hc⟩ := h h0
 refine ⟨b, off, rfl, hS, fun i x hx => ?_⟩
 obtain ⟨hi, rfl⟩ := List.getElem?_eq_some_iff.1 hx
 obtain ⟨u, hu, hr⟩ := hc i (by simpa using hi)
 rw [List.getElem_map] at hr
 rw [hu, hr.str_inv]
/-- A slice of numbers. -/
theorem Rd.ints_inv {k : IntKind} {xs : List Int} (h : Rd S w v (.list 1 (xs.map (.int k)))) : ∃ a c, v = .slice a xs.length c ∧ (a = none → xs.length = 0 ∧ c = 0) ∧ xs.length ≤ c ∧
    (0 < xs.length → ∃ b off, a = some ⟨b, off, none⟩ ∧ S b ∧ ∀ (i : Nat) x, xs[i]? = some x → w.cell? ⟨b, off + i, none⟩ = some (.int k x)) := by
 obtain ⟨a, n, c, rfl, hl, hac, hnc, h⟩ := h.list_inv
 simp only [List.length_map, Nat.mul_one] at hl
 subst hl
 refine ⟨a, c, rfl, hac, hnc, fun h0 => ?_⟩
 obtain ⟨b, off, rfl, hS, hc⟩ := h h0
 refine ⟨b, off, rfl, hS, fun i x hx => ?_⟩
 obtain ⟨hi, rfl⟩ := List.getElem?_eq_some_iff.1 hx
 obtain ⟨u, hu, hr⟩ := hc i (by simpa using hi)
 rw [List.getElem_map] at hr
 rw [hu, hr.int_inv]

theorem flat_length {α : Type} {enc : α → List Dat} {k : Nat} (hk : ∀ x, (enc x).length = k) : ∀ xs : List α, (xs.flatMap enc).length = xs.length * k
 | [] => by simp
 | x :: xs => by rw [List.flatMap_cons, List.length_append, flat_length hk xs, hk, List.length_cons, Nat.add_mul]; omega
theorem flat_get? {α : Type} {enc : α → List Dat} {k : Nat} (hk : ∀ x, (enc x).length = k) : ∀ (xs : List α) (i j : Nat) (x : α), xs[i]? = some x → j < k → (xs.flatMap enc)[i * k + j]? = (enc x)[j]?
 | [], i, j, x, h, _ => by simp at h
 | y :: ys, 0, j, x, h, hj => by
   simp at h; subst h
   rw [List.flatMap_cons, List.getElem?_append_left (by rw [hk]; omega)]; simp
 | y :: ys, i + 1, j, x, h, hj => by
   simp at h
   rw [List.flatMap_cons, List.getElem?_append_right (by rw [hk, Nat.add_mul]; omega), hk, ← flat_get? hk ys i j x h hj]
   congr 1; rw [Nat.add_mul]; omega

end

/-- Values that read as data, one by one. -/
def Rds (S : Nat → Prop) (w : World) (vs : List Value) (ds : List Dat) : Prop := vs.length = ds.length ∧ ∀ (j : Nat) u d, vs[j]? = some u → ds[j]? = some d → Rd S w u d
theorem Rds.nil {S : Nat → Prop} {w : World} : Rds S w [] [] := ⟨rfl, fun j u d h => by simp at h⟩
theorem Rds.cons {S : Nat → Prop} {w : World} {v : Value} {d : Dat} {vs : List Value} {ds : List Dat} (h : Rd S w v d) (hs : Rds S w vs ds) : Rds S w (v :: vs) (d :: ds) :=
 ⟨by simp [hs.1], fun j u e hu he => by
  cases j with
  | zero => simp at hu he; subst hu; subst he; exact h
  | succ j => exact hs.2 j u e (by simpa using hu) (by simpa using he)⟩
theorem Rds.append {S : Nat → Prop} {w : World} {vs us : List Value} {ds es : List Dat} (h : Rds S w vs ds) (hs : Rds S w us es) : Rds S w (vs ++ us) (ds ++ es) :=
 ⟨by simp [h.1, hs.1], fun j u e hu he => by
  by_cases hj : j < vs.length
  · rw [List.getElem?_append_left hj] at hu; rw [List.getElem?_append_left (by rw [← h.1]; exact hj)] at he; exact h.2 j u e hu he
  · rw [List.getElem?_append_right (by omega)] at hu; rw [List.getElem?_append_right (by rw [← h.1]; omega), ← h.1] at he; exact hs.2 _ u e hu he⟩
theorem Rds.mono {S S' : Nat → Prop} {w w' : World} {vs : List Value} {ds : List Dat} (h : Rds S w vs ds) (hk : ∀ b, S b → w'.heap[b]? = w.heap[b]?) (hS : ∀ b, S b → S' b) : Rds S' w' vs ds :=
 ⟨h.1, fun j u d hu hd => (h.2 j u d hu hd).mono hk hS⟩

/-- Behind an append: what the call owns, as data. -/
theorem rd_owned {S : Nat → Prop} {w : World} {base : Nat} {e : TypeId} {sz n : Nat} {v : Value} {vs : List Value} {ds : List Dat} (h : w.ownsRow base e sz v n vs) (hds : Rds S w vs ds) (hS : ∀ g, v.ownBlock = some g → S g) : Rd S w v (.list sz ds) := by
 obtain ⟨hl, hd⟩ := hds
 have hlen := h.1
 have hcs := @World.ownsRow.cells _ _ _ _ _ _ _ h
 rcases h.2 with ⟨rfl, rfl⟩ | ⟨g, cap, cur, rfl, _, _, hnc, _⟩
 · simp only [Nat.zero_mul] at hlen
   obtain rfl : ds = [] := List.eq_nil_of_length_eq_zero (by omega)
   exact .list0 _ _ _ (fun _ => rfl)
 · by_cases h0 : n = 0
   · subst h0
     simp only [Nat.zero_mul] at hlen
     obtain rfl : ds = [] := List.eq_nil_of_length_eq_zero (by omega)
     exact .list0 _ _ _ nofun
   · refine .list g 0 n cap sz ds (fun j => (vs[j]?).getD undef) (hS g rfl) (by omega) hnc (by omega) (fun j hj => ?_) (fun j hj => ?_)
     · have hj' : j < vs.length := by omega
       have := hcs (g := g) rfl j vs[j] (List.getElem?_eq_getElem hj')
       have hadd : (⟨g, 0, none⟩ : Addr).add j = ⟨g, 0 + j, none⟩ := by unfold Addr.add; split <;> simp_all
       rw [hadd] at this
       rw [this]; simp [hj']
     · have hj' : j < vs.length := by omega
       have := hd j vs[j] ds[j] (List.getElem?_eq_getElem hj') (List.getElem?_eq_getElem hj)
       simpa [hj'] using this

/-- An error: its kinds and places, the outermost one first. T: the type of a pointer to a Fault. -/
def errD (T : TypeId) : List (Int × Int) → Dat
 | [] => .nilI
 | (k, a) :: r => .iface T (.ptr [.int .i64 k, .int .i64 a, errD T r])

/-- What the program's table says of a slice type's elements. -/
structure ElemTy (P : Program) (t e : TypeId) (size bytes : Nat) (z : Value) : Prop where
 ht : P.underlying t = some (.slice e)
 hi : (P.info? e).map (fun i => (i.zero, i.size, i.bytes)) = some (some z, size, bytes)
 hz : z.cells.size = size
 h0 : 0 < size

/-- 'append' of whatever slice onto one that the call owns. -/
theorem wpList_app {P : Program} (w : World) {ops : Array Oper} {rest : List Oper} {o : Oper} {a : Act} {Q : Exit → Act → World → Prop} (hgd : o.guard = none) (s x : Operand) (t : TypeId)
    (ho : o.op = .call { callee := .builtin .append, args := #[s, x], argTypes := #[t, t] })
    (base : Nat) {e : TypeId} {z : Value} {size bytes : Nat} (T : ElemTy P t e size bytes z)
    (v : Value) (n : Nat) (xs : List Value) (hs : a.eval s = v) (hown : w.ownsRow base e size v n xs)
    (ao : Option Addr) (m c : Nat) (news : List Value) (hx : a.eval x = .slice ao m c) (hl : news.length = m * size) (hao : ao = none → m = 0 ∧ c = 0)
    (hnews : 0 < news.length → ∃ b off, ao = some ⟨b, off, none⟩ ∧ ∀ (j : Nat) u, news[j]? = some u → w.cell? ⟨b, off + j, none⟩ = some u) (h1 : ∀ u ∈ news, u.oneCell' = true)
    (h63 : n + m ≤ maxLen) (hbytes : (n + m) * bytes ≤ 140737488355328) (hbase : base ≤ w.heap.size)
    (hK : ∀ v' w', w'.ownsRow base e size v' (n + m) (xs ++ news) → w.grownBy w' v.ownBlock → wpList P ops Q rest (a.put o.dst v') w') : wpList P ops Q (o :: rest) a w := by
 obtain ⟨i, hi, hz, hsz, hby⟩ := info_parts T.hi
 cases ao with
 | none =>
   obtain ⟨rfl, rfl⟩ := hao rfl
   have hnews : news = [] := List.eq_nil_of_length_eq_zero (by simpa using hl)
   subst hnews
   refine wpList_plain hgd fun K hK' => ?_
   have hrun := run_append_owned_none (P := P) w base t o.type e i size T.ht hi v n xs hown
   unfold Oper.wp
   simp [execOp, ho, resolve, invoke, builtin, hs, hx, hrun, Result.andThen]
   exact hK' _ _ (hK v w (by simpa using hown) (World.grownBy.refl _ _))
 | some ad =>
   refine wpList_append_own w hgd s x t ho base e i z size bytes T.ht hi hz hsz hby T.hz T.h0 v n xs hs hown ad m c news hx hl (fun j u hu => ?_) h1 h63 hbytes hbase (fun v' w' a1 a2 _ => hK v' w' a1 a2)
   obtain ⟨b, off, hb, hc⟩ := hnews (by have := (List.getElem?_eq_some_iff.1 hu).1; omega)
   obtain rfl := Option.some.inj hb
   rw [Addr.add_lit]; exact hc j u hu

theorem cell_alloc {w : World} {a : Addr} {v : Value} (o : Obj) (h : w.cell? a = some v) : (w.alloc o).cell? a = some v := by
 rw [← h]; exact World.cell?_of_block (Below.heap_alloc w o a.block (World.block_lt_of_cell? w a h))
theorem new_cells (w : World) (arr : Array Value) (t : TypeId) : ∀ (j : Nat) u, arr.toList[j]? = some u → (w.alloc (.cells arr t)).cell? ⟨w.heap.size, 0 + j, none⟩ = some u := by
 intro j u hu
 rw [cell_of_row _ w.heap.size (0 + j) arr t (0, 0) (heap_alloc_new w _), Nat.zero_add]
 simpa using hu

/-- 'append' of one element, which has just been laid in a block of its own. -/
theorem wpList_app1 {P : Program} (w : World) {ops : Array Oper} {rest : List Oper} {o : Oper} {a : Act} {Q : Exit → Act → World → Prop} (arr : Array Value) (te : TypeId) (hgd : o.guard = none) (s x : Operand) (t : TypeId)
    (ho : o.op = .call { callee := .builtin .append, args := #[s, x], argTypes := #[t, t] })
    (base : Nat) {e : TypeId} {z : Value} {size bytes : Nat} (T : ElemTy P t e size bytes z)
    (v : Value) (n : Nat) (xs : List Value) (hs : a.eval s = v) (hown : w.ownsRow base e size v n xs) (hx : a.eval x = .slice (some ⟨w.heap.size, 0, none⟩) 1 1)
    (hsz : arr.size = size) (h1 : ∀ u ∈ arr.toList, u.oneCell' = true)
    (h63 : n + 1 ≤ maxLen) (hbytes : (n + 1) * bytes ≤ 140737488355328) (hbase : base ≤ w.heap.size)
    (hK : ∀ v' w', w'.ownsRow base e size v' (n + 1) (xs ++ arr.toList) → (w.alloc (.cells arr te)).grownBy w' v.ownBlock → wpList P ops Q rest (a.put o.dst v') w') : wpList P ops Q (o :: rest) a (w.alloc (.cells arr te)) :=
 wpList_app _ hgd s x t ho base T v n xs hs (hown.alloc _) _ 1 1 arr.toList hx (by simp [hsz]) nofun (fun _ => ⟨_, _, rfl, new_cells w arr te⟩) h1 h63 hbytes (by simp; omega) hK

/-- What was appended is written nowhere but into the row's own block. -/
theorem grown_below {W w w' : World} {B : Nat} {base : Nat} {e : TypeId} {sz n : Nat} {v : Value} {xs : List Value} (h : Below B W w) (hown : w.ownsRow base e sz v n xs) (hg : w.grownBy w' v.ownBlock) (hB : B ≤ w.heap.size) (hb : B ≤ base) : Below B W w' :=
 h.grown hg hB (fun k hk => Nat.le_trans hb (hown.lt k hk).1)
end
section
open Go.RowKit
def byteAt (s : ByteArray) (i : Nat) : Nat := (s.data[i]?.getD 0).toNat
theorem byteAt_lt (s : ByteArray) (i : Nat) : byteAt s i < 256 := UInt8.toNat_lt _
/-- What was read, or the number of an error and its place. -/
inductive Sc (α : Type) where
 | ok (a : α)
 | no (k : Nat) (i : Int)
deriving DecidableEq
def Sc.bind {α β : Type} (r : Sc α) (f : α → Sc β) : Sc β := match r with
 | .ok a => f a
 | .no k i => .no k i
@[simp] theorem Sc.bind_ok {α β : Type} (a : α) (f : α → Sc β) : (Sc.ok a).bind f = f a := rfl
@[simp] theorem Sc.bind_no {α β : Type} (k : Nat) (i : Int) (f : α → Sc β) : (Sc.no k i : Sc α).bind f = .no k i := rfl
/-- The first place from i on that does not pass. -/
def skipF (p : Nat → Bool) (B : ByteArray) : Nat → Nat → Nat
 | 0, i => i
 | f + 1, i => if i < B.size ∧ p (byteAt B i) = true then skipF p B f (i + 1) else i
def skip (p : Nat → Bool) (B : ByteArray) (i : Nat) : Nat := skipF p B (B.size - i) i
theorem skip_go {p : Nat → Bool} {B : ByteArray} {i : Nat} (h : i < B.size) (hp : p (byteAt B i) = true) : skip p B i = skip p B (i + 1) := by
 have e : B.size - i = (B.size - (i + 1)) + 1 := by omega
 unfold skip
 rw [e, skipF, if_pos ⟨h, hp⟩]
theorem skip_stop {p : Nat → Bool} {B : ByteArray} {i : Nat} (h : i < B.size → p (byteAt B i) = false) : skip p B i = i := by
 unfold skip
 cases hf : B.size - i with
 | zero => rfl
 | succ f => rw [skipF, if_neg (by rintro ⟨h1, h2⟩; rw [h h1] at h2; cases h2)]
theorem skipF_ge (p : Nat → Bool) (B : ByteArray) : ∀ f i, i ≤ skipF p B f i
 | 0, i => Nat.le_refl _
 | f + 1, i => by
   rw [skipF]; split
   · have := skipF_ge p B f (i + 1); omega
   · exact Nat.le_refl _
theorem skip_ge (p : Nat → Bool) (B : ByteArray) (i : Nat) : i ≤ skip p B i := skipF_ge _ _ _ _
theorem skipF_le (p : Nat → Bool) (B : ByteArray) : ∀ f i, i ≤ B.size → skipF p B f i ≤ B.size
 | 0, i, h => h
 | f + 1, i, h => by
   rw [skipF]; split
   · rename_i hc; exact skipF_le p B f (i + 1) hc.1
   · exact h
theorem skip_le (p : Nat → Bool) (B : ByteArray) (i : Nat) (h : i ≤ B.size) : skip p B i ≤ B.size := skipF_le _ _ _ _ h
/-- Where it stopped nothing passes; all ahead of it passed. -/
theorem skip_end (p : Nat → Bool) (B : ByteArray) : ∀ n i, B.size - i = n → skip p B i < B.size → p (byteAt B (skip p B i)) = false
 | 0, i, hn, h => by
   have := skip_ge p B i; omega
 | n + 1, i, hn, h => by
   by_cases hp : p (byteAt B i) = true
   · have hi : i < B.size := by omega
     rw [skip_go hi hp] at h ⊢
     exact skip_end p B n (i + 1) (by omega) h
   · have hp' : p (byteAt B i) = false := by simpa using hp
     rw [skip_stop (fun _ => hp')]; exact hp'
/-- One of some bytes stands at a place. -/
def onAt (l : List Nat) (B : ByteArray) (i : Nat) : Bool := decide (i < B.size) && l.contains (byteAt B i)
theorem onAt_in {l : List Nat} {B : ByteArray} {i : Nat} (h : i < B.size) : onAt l B i = l.contains (byteAt B i) := by simp [onAt, h]
theorem onAt_out {l : List Nat} {B : ByteArray} {i : Nat} (h : B.size ≤ i) : onAt l B i = false := by simp [onAt]; omega
theorem onAt_lt {l : List Nat} {B : ByteArray} {i : Nat} (h : onAt l B i = true) : i < B.size := by simp [onAt] at h; exact h.1
/-- A text's bytes, as a slice has them. -/
def bytesDB (B : ByteArray) : Dat := .list 1 (B.data.toList.map fun x => Dat.int .u8 (x.toNat : Nat))
theorem Rd.by_inv {S : Nat → Prop} {w : World} {v : Value} {B : ByteArray} (h : Rd S w v (bytesDB B)) : ∃ a c, v = .slice a B.size c ∧ (a = none → B.size = 0 ∧ c = 0) ∧ B.size ≤ c ∧
    (0 < B.size → ∃ b off, a = some ⟨b, off, none⟩ ∧ S b ∧ ∀ i, i < B.size → w.cell? ⟨b, off + i, none⟩ = some (.int .u8 (byteAt B i))) := by
 obtain ⟨a, n, c, rfl, hl, hac, hnc, hc⟩ := h.list_inv
 have hs : n = B.size := by
  simp only [List.length_map, Nat.mul_one] at hl
  exact hl.symm
 subst hs
 refine ⟨a, c, rfl, hac, hnc, fun h0 => ?_⟩
 obtain ⟨b, off, rfl, hS, hcc⟩ := hc h0
 refine ⟨b, off, rfl, hS, fun i hi => ?_⟩
 obtain ⟨u, hu, hr⟩ := hcc i (by rw [hl, Nat.mul_one]; exact hi)
 have hi' : i < B.data.size := hi
 have e : (B.data.toList.map fun x => Dat.int .u8 ((x.toNat : Nat) : Int))[i]'(by simpa using hi) = Dat.int .u8 (byteAt B i) := by
  simp only [List.getElem_map, Array.getElem_toList]
  unfold byteAt; rw [Array.getElem?_eq_getElem hi']; rfl
 rw [e] at hr
 rw [hu, hr.int_inv]
end
end Go.Proofs.YtcaiibkgajhohaaGreatDoor
