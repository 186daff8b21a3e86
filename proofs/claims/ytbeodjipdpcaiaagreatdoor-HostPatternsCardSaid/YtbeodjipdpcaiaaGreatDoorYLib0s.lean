/- Lib0, Lib2, Bytes0 in one text (a claim holds at most 60 files). -/
import Derived.WalkKit
import Derived.Lib.Hide
import Derived.Deep.QuietTactic
import Derived.BigQuiet
import Derived.Test.YtbeodjipdpcaiaaGreatDoorRows
import Derived.ProofKit
import Derived.OpenShut
import Derived.Lib.LaidTab
namespace Go.Proofs.YtbeodjipdpcaiaaGreatDoor
section
open Go.RowKit

inductive Dat where
 | int (k : IntKind) (n : Int)
 | bool (b : Bool)
 | str (s : ByteArray)
 | list (size : Nat) (cells : List Dat)
 | nilp
 | ptr (cells : List Dat)
 | nilI
 | iface (T : TypeId) (d : Dat)

inductive Rd (S : Nat → Prop) (w : World) : Value → Dat → Prop
 | int (k : IntKind) (n : Int) : Rd S w (.int k n) (.int k n)
 | bool (b : Bool) : Rd S w (.bool b) (.bool b)
 | str (s : ByteArray) : Rd S w (.string s) (.str s)
 | list0 (a : Option Addr) (c sz : Nat) (hac : a = none → c = 0) : Rd S w (.slice a 0 c) (.list sz [])
 | list (b off n c sz : Nat) (ds : List Dat) (f : Nat → Value) (hS : S b) (hn : 0 < n) (hnc : n ≤ c) (hl : ds.length = n * sz)
     (hc : ∀ j, j < ds.length → w.cell? ⟨b, off + j, none⟩ = some (f j)) (hd : ∀ j (h : j < ds.length), Rd S w (f j) ds[j]) :
     Rd S w (.slice (some ⟨b, off, none⟩) n c) (.list sz ds)
 | nilp : Rd S w (.pointer none) .nilp
 | ptr (b off : Nat) (ds : List Dat) (f : Nat → Value) (hS : S b)
     (hc : ∀ j, j < ds.length → w.cell? ⟨b, off + j, none⟩ = some (f j)) (hd : ∀ j (h : j < ds.length), Rd S w (f j) ds[j]) :
     Rd S w (.pointer (some ⟨b, off, none⟩)) (.ptr ds)
 | nilI : Rd S w .nilIface .nilI
 | iface (T : TypeId) (v : Value) (d : Dat) (h : Rd S w v d) : Rd S w (.iface T v) (.iface T d)

def Own (w : World) : Nat → Prop := fun b => b < w.heap.size

theorem cell_keep {w w' : World} {b o : Nat} (h : w'.heap[b]? = w.heap[b]?) : w'.cell? ⟨b, o, none⟩ = w.cell? ⟨b, o, none⟩ :=
 World.cell?_of_block (a := ⟨b, o, none⟩) h

theorem Rd.mono {S S' : Nat → Prop} {w w' : World} {v : Value} {d : Dat} (h : Rd S w v d) (hk : ∀ b, S b → w'.heap[b]? = w.heap[b]?) (hS : ∀ b, S b → S' b) : Rd S' w' v d := by
 induction h with
 | int k n => exact .int k n
 | bool b => exact .bool b
 | str s => exact .str s
 | list0 a c sz hac => exact .list0 a c sz hac
 | list b off n c sz ds f hSb hn hnc hl hc _ ih => exact .list b off n c sz ds f (hS _ hSb) hn hnc hl (fun j hj => by rw [cell_keep (hk b hSb)]; exact hc j hj) ih
 | nilp => exact .nilp
 | ptr b off ds f hSb hc _ ih => exact .ptr b off ds f (hS _ hSb) (fun j hj => by rw [cell_keep (hk b hSb)]; exact hc j hj) ih
 | nilI => exact .nilI
 | iface T v d _ ih => exact .iface T v d ih

theorem Rd.ext {w w' : World} {v : Value} {d : Dat} (h : Rd (Own w) w v d) (hb : Below w.heap.size w w') : Rd (Own w') w' v d :=
 h.mono (fun b hS => hb.block b hS) (fun _ hS => Nat.lt_of_lt_of_le hS hb.size)
theorem Rd.wide {S S' : Nat → Prop} {w : World} {v : Value} {d : Dat} (h : Rd S w v d) (hS : ∀ b, S b → S' b) : Rd S' w v d := h.mono (fun _ _ => rfl) hS

theorem Rd.set {S : Nat → Prop} {w : World} {v : Value} {d : Dat} (h : Rd S w v d) {p : Addr} (hne : ∀ b, S b → b ≠ p.block) (u : Value) : Rd S (w.setCell p u) v d :=
 h.mono (fun b hS => Below.heap_setCell w p u b (hne b hS)) (fun _ h => h)
theorem Rd.alloc {S : Nat → Prop} {w : World} {v : Value} {d : Dat} (h : Rd S w v d) (hS : ∀ b, S b → b < w.heap.size) (o : Obj) : Rd S (w.alloc o) v d :=
 h.mono (fun b hb => Below.heap_alloc w o b (hS b hb)) (fun _ h => h)
theorem Rd.drewN {S : Nat → Prop} {w : World} {v : Value} {d : Dat} (h : Rd S w v d) (n : Nat) : Rd S (w.drewN n) v d := h.mono (fun _ _ => rfl) (fun _ h => h)
theorem quiet_eq {P : Program} {f : FuncId} {args : Array Value} {w : World} {n : Nat} {v : Value}
    (h : Calls P f args (w.drewN n) fun e w' => e = .returned v ∧ w.drewN n = w') : Calls P f args (w.drewN n) fun e w'' => e = .returned v ∧ ∃ m, w'' = w.drewN m :=
 h.mono fun _ _ ⟨he, hm⟩ => ⟨he, n, hm.symm⟩
theorem ext_trans {a b c : World} (h : Below a.heap.size a b) (k : Below b.heap.size b c) : Below a.heap.size a c := h.trans (k.mono h.size)
theorem ext_alloc {a b : World} (h : Below a.heap.size a b) (o : Obj) : Below a.heap.size a (b.alloc o) := h.alloc h.size o
theorem ext_drewN {a b : World} (n : Nat) (h : Below a.heap.size a b) : Below a.heap.size a (b.drewN n) := ⟨h.os, h.tape, h.output, h.size, h.block⟩
theorem toList_inj {a b : ByteArray} (h : a.toList = b.toList) : a = b := by
 rw [ByteArray.toList_eq, ByteArray.toList_eq] at h
 cases a; cases b
 simpa using Array.toList_inj.1 h
theorem beqS_t {a b : ByteArray} (h : a = b) : (a.toList == b.toList) = true := by rw [h]; exact beq_self_eq_true _
theorem beqS_f {a b : ByteArray} (h : a ≠ b) : (a.toList == b.toList) = false := beq_eq_false_iff_ne.2 (fun e => h (toList_inj e))
theorem get_ex {α : Type} (l : List α) (i : Nat) (h : i < l.length) : ∃ x, l[i]? = some x := ⟨l[i], List.getElem?_eq_getElem h⟩
def OnlyB (B : Nat) (w w' : World) : Prop := w'.heap.size = w.heap.size ∧ ∀ k, k ≠ B → w'.heap[k]? = w.heap[k]?
theorem OnlyB.refl (B : Nat) (w : World) : OnlyB B w w := ⟨rfl, fun _ _ => rfl⟩
theorem OnlyB.set {B : Nat} {w w' : World} {o : Nat} {u : Value} (h : OnlyB B w w') : OnlyB B w (w'.setCell ⟨B, o, none⟩ u) :=
 ⟨by rw [← h.1]; simp [World.setCell], fun k hk => (Below.heap_setCell w' ⟨B, o, none⟩ u k hk).trans (h.2 k hk)⟩
theorem Rd.only {S S' : Nat → Prop} {w w' : World} {v : Value} {d : Dat} {B : Nat} (h : Rd S w v d) (ho : OnlyB B w w') (hne : ∀ b, S b → b ≠ B) (hS : ∀ b, S b → S' b) : Rd S' w' v d :=
 h.mono (fun b hb => ho.2 b (hne b hb)) hS
def Fresh (w w' : World) : Nat → Prop := fun b => w.heap.size ≤ b ∧ b < w'.heap.size
theorem Rd.res {w w1 w2 w3 : World} {o : Obj} {v : Value} {d : Dat} (h : Rd (Fresh (w.alloc o) w1) w1 v d) (hb : Below w1.heap.size w1 w2) (ho : OnlyB w.heap.size w2 w3) : Rd (Fresh w w3) w3 v d :=
 h.mono (fun b hS => by have := hS.1; simp at this; rw [ho.2 b (by omega)]; exact hb.block b hS.2) (fun b hS => by have h1 := hS.1; have h2 := hS.2; simp at h1; have := hb.size; have := ho.1; exact ⟨by omega, by omega⟩)
theorem bcell1 {W w1 : World} {B b : Nat} (hb : Below B W w1) (h : b < B) : ∀ o, w1.cell? ⟨b, o, none⟩ = W.cell? ⟨b, o, none⟩ :=
 fun o => hb.cell (p := ⟨b, o, none⟩) h
theorem bfrozen1 {W w1 : World} {B b : Nat} (hb : Below B W w1) (h : b < B) : ∀ o, w1.frozen? ⟨b, o, none⟩ = W.frozen? ⟨b, o, none⟩ :=
 fun o => hb.frozen (p := ⟨b, o, none⟩) h

section
variable {S : Nat → Prop} {w : World} {v : Value}
theorem Rd.int_inv {k : IntKind} {n : Int} (h : Rd S w v (.int k n)) : v = .int k n := by cases h; rfl
theorem Rd.str_inv {s : ByteArray} (h : Rd S w v (.str s)) : v = .string s := by cases h; rfl
theorem Rd.nilI_inv (h : Rd S w v .nilI) : v = .nilIface := by cases h; rfl
theorem Rd.iface_inv {T : TypeId} {d : Dat} (h : Rd S w v (.iface T d)) : ∃ u, v = .iface T u ∧ Rd S w u d := by cases h with | iface _ u _ h => exact ⟨u, rfl, h⟩
theorem Rd.ptr_inv {ds : List Dat} (h : Rd S w v (.ptr ds)) : ∃ b off, v = .pointer (some ⟨b, off, none⟩) ∧ S b ∧ ∀ j (hj : j < ds.length), ∃ u, w.cell? ⟨b, off + j, none⟩ = some u ∧ Rd S w u ds[j] := by
 cases h with | ptr b off ds f hS hc hd => exact ⟨b, off, rfl, hS, fun j hj => ⟨f j, hc j hj, hd j hj⟩⟩
theorem Rd.list_inv {sz : Nat} {ds : List Dat} (h : Rd S w v (.list sz ds)) : ∃ a n c, v = .slice a n c ∧ ds.length = n * sz ∧ (a = none → n = 0 ∧ c = 0) ∧ n ≤ c ∧
    (0 < n → ∃ b off, a = some ⟨b, off, none⟩ ∧ S b ∧ ∀ j (hj : j < ds.length), ∃ u, w.cell? ⟨b, off + j, none⟩ = some u ∧ Rd S w u ds[j]) := by
 cases h with
 | list0 a c _ hac => exact ⟨a, 0, c, rfl, by simp, fun h => ⟨rfl, hac h⟩, Nat.zero_le _, fun h => by omega⟩
 | list b off n c sz ds f hS hn hnc hl hc hd => exact ⟨_, n, c, rfl, hl, nofun, hnc, fun _ => ⟨b, off, rfl, hS, fun j hj => ⟨f j, hc j hj, hd j hj⟩⟩⟩

end

def Rds (S : Nat → Prop) (w : World) (vs : List Value) (ds : List Dat) : Prop := vs.length = ds.length ∧ ∀ (j : Nat) u d, vs[j]? = some u → ds[j]? = some d → Rd S w u d
theorem Rds.nil {S : Nat → Prop} {w : World} : Rds S w [] [] := ⟨rfl, fun j u d h => by simp at h⟩
theorem Rds.cons {S : Nat → Prop} {w : World} {v : Value} {d : Dat} {vs : List Value} {ds : List Dat} (h : Rd S w v d) (hs : Rds S w vs ds) : Rds S w (v :: vs) (d :: ds) :=
 ⟨by simp [hs.1], fun j u e hu he => by
  cases j with
  | zero => simp at hu he; subst hu; subst he; exact h
  | succ j => exact hs.2 j u e (by simpa using hu) (by simpa using he)⟩
theorem Rds.append {S : Nat → Prop} {w : World} {vs us : List Value} {ds es : List Dat} (h : Rds S w vs ds) (hs : Rds S w us es) : Rds S w (vs ++ us) (ds ++ es) :=
 ⟨by simp [h.1, hs.1], fun j u e hu he => by
  by_cases hj : j < vs.length
  · rw [List.getElem?_append_left hj] at hu; rw [List.getElem?_append_left (by rw [← h.1]; exact hj)] at he; exact h.2 j u e hu he
  · rw [List.getElem?_append_right (by omega)] at hu; rw [List.getElem?_append_right (by rw [← h.1]; omega), ← h.1] at he; exact hs.2 _ u e hu he⟩
theorem Rds.mono {S S' : Nat → Prop} {w w' : World} {vs : List Value} {ds : List Dat} (h : Rds S w vs ds) (hk : ∀ b, S b → w'.heap[b]? = w.heap[b]?) (hS : ∀ b, S b → S' b) : Rds S' w' vs ds :=
 ⟨h.1, fun j u d hu hd => (h.2 j u d hu hd).mono hk hS⟩

theorem rd_owned {S : Nat → Prop} {w : World} {base : Nat} {e : TypeId} {sz n : Nat} {v : Value} {vs : List Value} {ds : List Dat} (h : w.ownsRow base e sz v n vs) (hds : Rds S w vs ds) (hS : ∀ g, v.ownBlock = some g → S g) : Rd S w v (.list sz ds) := by
 obtain ⟨hl, hd⟩ := hds
 have hlen := h.1
 have hcs := @World.ownsRow.cells _ _ _ _ _ _ _ h
 rcases h.2 with ⟨rfl, rfl⟩ | ⟨g, cap, cur, rfl, _, _, hnc, _⟩
 · simp only [Nat.zero_mul] at hlen
   obtain rfl : ds = [] := List.eq_nil_of_length_eq_zero (by omega)
   exact .list0 _ _ _ (fun _ => rfl)
 · by_cases h0 : n = 0
   · subst h0
     simp only [Nat.zero_mul] at hlen
     obtain rfl : ds = [] := List.eq_nil_of_length_eq_zero (by omega)
     exact .list0 _ _ _ nofun
   · refine .list g 0 n cap sz ds (fun j => (vs[j]?).getD undef) (hS g rfl) (by omega) hnc (by omega) (fun j hj => ?_) (fun j hj => ?_)
     · have hj' : j < vs.length := by omega
       have := hcs (g := g) rfl j vs[j] (List.getElem?_eq_getElem hj')
       have hadd : (⟨g, 0, none⟩ : Addr).add j = ⟨g, 0 + j, none⟩ := by unfold Addr.add; split <;> simp_all
       rw [hadd] at this
       rw [this]; simp [hj']
     · have hj' : j < vs.length := by omega
       have := hd j vs[j] ds[j] (List.getElem?_eq_getElem hj') (List.getElem?_eq_getElem hj)
       simpa [hj'] using this

def errD (T : TypeId) : List (Int × Int) → Dat
 | [] => .nilI
 | (k, a) :: r => .iface T (.ptr [.int .i64 k, .int .i64 a, errD T r])

structure ElemTy (P : Program) (t e : TypeId) (size bytes : Nat) (z : Value) : Prop where
 ht : P.underlying t = some (.slice e)
 hi : (P.info? e).map (fun i => (i.zero, i.size, i.bytes)) = some (some z, size, bytes)
 hz : z.cells.size = size
 h0 : 0 < size

theorem wpList_app {P : Program} (w : World) {ops : Array Oper} {rest : List Oper} {o : Oper} {a : Act} {Q : Exit → Act → World → Prop} (hgd : o.guard = none) (s x : Operand) (t : TypeId)
    (ho : o.op = .call { callee := .builtin .append, args := #[s, x], argTypes := #[t, t] })
    (base : Nat) {e : TypeId} {z : Value} {size bytes : Nat} (T : ElemTy P t e size bytes z)
    (v : Value) (n : Nat) (xs : List Value) (hs : a.eval s = v) (hown : w.ownsRow base e size v n xs)
    (ao : Option Addr) (m c : Nat) (news : List Value) (hx : a.eval x = .slice ao m c) (hl : news.length = m * size) (hao : ao = none → m = 0 ∧ c = 0)
    (hnews : 0 < news.length → ∃ b off, ao = some ⟨b, off, none⟩ ∧ ∀ (j : Nat) u, news[j]? = some u → w.cell? ⟨b, off + j, none⟩ = some u) (h1 : ∀ u ∈ news, u.oneCell' = true)
    (h63 : n + m ≤ maxLen) (hbytes : (n + m) * bytes ≤ 140737488355328) (hbase : base ≤ w.heap.size)
    (hK : ∀ v' w', w'.ownsRow base e size v' (n + m) (xs ++ news) → w.grownBy w' v.ownBlock → wpList P ops Q rest (a.put o.dst v') w') : wpList P ops Q (o :: rest) a w := by
 obtain ⟨i, hi, hz, hsz, hby⟩ := info_parts T.hi
 cases ao with
 | none =>
   obtain ⟨rfl, rfl⟩ := hao rfl
   have hnews : news = [] := List.eq_nil_of_length_eq_zero (by simpa using hl)
   subst hnews
   refine wpList_plain hgd fun K hK' => ?_
   have hrun := run_append_owned_none (P := P) w base t o.type e i size T.ht hi v n xs hown
   unfold Oper.wp
   simp [execOp, ho, resolve, invoke, builtin, hs, hx, hrun, Result.andThen]
   exact hK' _ _ (hK v w (by simpa using hown) (World.grownBy.refl _ _))
 | some ad =>
   refine wpList_append_own w hgd s x t ho base e i z size bytes T.ht hi hz hsz hby T.hz T.h0 v n xs hs hown ad m c news hx hl (fun j u hu => ?_) h1 h63 hbytes hbase (fun v' w' a1 a2 _ => hK v' w' a1 a2)
   obtain ⟨b, off, hb, hc⟩ := hnews (by have := (List.getElem?_eq_some_iff.1 hu).1; omega)
   obtain rfl := Option.some.inj hb
   rw [Addr.add_lit]; exact hc j u hu

theorem cell_alloc {w : World} {a : Addr} {v : Value} (o : Obj) (h : w.cell? a = some v) : (w.alloc o).cell? a = some v := by
 rw [← h]; exact World.cell?_of_block (Below.heap_alloc w o a.block (World.block_lt_of_cell? w a h))
theorem new_cells (w : World) (arr : Array Value) (t : TypeId) : ∀ (j : Nat) u, arr.toList[j]? = some u → (w.alloc (.cells arr t)).cell? ⟨w.heap.size, 0 + j, none⟩ = some u := by
 intro j u hu
 rw [cell_of_row _ w.heap.size (0 + j) arr t (0, 0) (heap_alloc_new w _), Nat.zero_add]
 simpa using hu

theorem wpList_app1 {P : Program} (w : World) {ops : Array Oper} {rest : List Oper} {o : Oper} {a : Act} {Q : Exit → Act → World → Prop} (arr : Array Value) (te : TypeId) (hgd : o.guard = none) (s x : Operand) (t : TypeId)
    (ho : o.op = .call { callee := .builtin .append, args := #[s, x], argTypes := #[t, t] })
    (base : Nat) {e : TypeId} {z : Value} {size bytes : Nat} (T : ElemTy P t e size bytes z)
    (v : Value) (n : Nat) (xs : List Value) (hs : a.eval s = v) (hown : w.ownsRow base e size v n xs) (hx : a.eval x = .slice (some ⟨w.heap.size, 0, none⟩) 1 1)
    (hsz : arr.size = size) (h1 : ∀ u ∈ arr.toList, u.oneCell' = true)
    (h63 : n + 1 ≤ maxLen) (hbytes : (n + 1) * bytes ≤ 140737488355328) (hbase : base ≤ w.heap.size)
    (hK : ∀ v' w', w'.ownsRow base e size v' (n + 1) (xs ++ arr.toList) → (w.alloc (.cells arr te)).grownBy w' v.ownBlock → wpList P ops Q rest (a.put o.dst v') w') : wpList P ops Q (o :: rest) a (w.alloc (.cells arr te)) :=
 wpList_app _ hgd s x t ho base T v n xs hs (hown.alloc _) _ 1 1 arr.toList hx (by simp [hsz]) nofun (fun _ => ⟨_, _, rfl, new_cells w arr te⟩) h1 h63 hbytes (by simp; omega) hK

end
section
open Go.RowKit Go.ChangeShapes Go.WideShapes
variable {H : Type} {enc : TypeId × Value → H} {P : Program} {W : World} {base : Nat} {sp : Nat → Bool} {held : Bool}

def Opens (enc : TypeId × Value → H) (P : Program) (W : World) (base : Nat) (sp : Nat → Bool) (held : Bool) (t : TypeId) (α : Type) (cd : α → List Dat) (ok : α → Prop) (bk : α → Nat) : Prop :=
 ∀ fuel cs x, DataW.trod enc P W base sp held fuel t cs = some x → ∃ a : α, Rds (Own W) W cs (cd a) ∧ ok a ∧ bk a ≤ Rows.uptoBulk x.1

theorem opens_str {t : TypeId} (ht : P.underlying t = some .string) : Opens enc P W base sp held t ByteArray (fun s => [.str s]) (fun s => s.size ≤ maxLen) (fun s => s.size + 1) := by
 intro fuel cs x h
 obtain ⟨s, rfl, rfl, hw⟩ := DataW.trod_string ht h
 exact ⟨s, .cons (.str _) .nil, hw, by simp [Rows.uptoBulk]⟩

theorem Opens.map {t : TypeId} {α β : Type} {cd : α → List Dat} {ok : α → Prop} {bk : α → Nat} (h : Opens enc P W base sp held t α cd ok bk) (g : α → β) {cd' : β → List Dat} {ok' : β → Prop} {bk' : β → Nat}
    (hc : ∀ a, cd' (g a) = cd a) (ho : ∀ a, ok a → ok' (g a)) (hb : ∀ a, bk' (g a) ≤ bk a) : Opens enc P W base sp held t β cd' ok' bk' := by
 intro fuel cs x hx
 obtain ⟨a, r, o, b⟩ := h fuel cs x hx
 exact ⟨g a, by rw [hc]; exact r, ho a o, Nat.le_trans (hb a) b⟩

theorem Opens.one {t : TypeId} {α : Type} {cd : α → List Dat} {ok : α → Prop} {bk : α → Nat} (h : Opens enc P W base sp held t α cd ok bk) {v : Value} {d : DataW H} {p : List MemPlace}
    (hd : DataW.Trod enc P W base sp held t v d p) : ∃ a, Rds (Own W) W v.cells.toList (cd a) ∧ ok a ∧ bk a ≤ Rows.uptoBulk d := by
 obtain ⟨fuel, hf⟩ := hd
 exact h fuel _ _ hf
theorem Rds.one {S : Nat → Prop} {w : World} {v : Value} {d : Dat} (h : Rds S w [v] [d]) : Rd S w v d := h.2 0 v d rfl rfl
theorem trodAll_below {W' : World} (hl : laidOutB P = true) (hb : Below W.heap.size W W') : ∀ {ts : List TypeId} {vs : List Value} {ds : List (DataW H)} {ps : List MemPlace}, (∀ t ∈ ts, P.readableRec t = true ∧ t < P.types.size) →
    DataW.TrodAll enc P W 0 (fun _ => true) true ts vs ds ps → (∀ x ∈ ps, x.block < W.heap.size) → DataW.TrodAll enc P W' 0 (fun b => decide (b < W.heap.size)) true ts vs ds ps
 | [], [], [], ps, _, h, _ => h
 | t :: ts, v :: vs, d :: ds, ps, ht, h, hlt => by
   obtain ⟨p, q, hp, hq, rfl⟩ := h
   exact ⟨p, q, Below.trod hl (ht t (by simp)).1 (ht t (by simp)).2 hp hb (fun x hx => hlt x (by simp [hx])), trodAll_below hl hb (fun t ht' => ht t (by simp [ht'])) hq (fun x hx => hlt x (by simp [hx])), rfl⟩

theorem law_post {fn : Func} {s : ChangeSpec} {f : FuncId} {args : Array Value} {ds gs : List (DataW H)} {before : List MemPlace} {tb : TypeId} (hl : laidOutB P = true)
    (ht : ∀ t ∈ fn.params.toList, P.readableRec t = true ∧ t < P.types.size) (hr : fn.resultTypes = #[tb]) (hb : P.underlying tb = some .bool) (hv : s.vars = [])
    (hW : DataW.Whole enc P fn.params.toList s.vars false W args.toList ds gs before) (h1 : (s.fn H (ds ++ [])).results = [.lit (.bool true)]) (h2 : (s.fn H (ds ++ [])).args = ds) (h3 : (s.fn H (ds ++ [])).vars = [])
    (calls : Calls P f args W fun e W' => e = .returned (.bool true) ∧ Below W.heap.size W W') :
    Calls P f args W fun e W' => ∃ v, e = .returned v ∧ s.post enc P fn false true false false W args v W' := by
 refine calls.mono fun e W' ⟨he, hb'⟩ => ⟨_, he, ?_⟩
 have hW' := hW
 have hlt := hW.lt
 obtain ⟨p, q, hA, hV, rfl, _, _⟩ := hW
 rw [hv] at hV
 obtain ⟨rfl, rfl⟩ := trodVars_none hV
 refine ⟨ds, [], _, [], p, [], hW', ?_, ?_, ?_, hb'.frame _, nofun⟩
 · rw [h1, hr]
   exact trodAll_cons_mk (shut_bool hb _) trodAll_mk0
 · rw [h2]
   exact trodAll_below hl hb' ht hA (fun x hx => hlt x (by simp [hx]))
 · rw [hv, h3]
   rfl
end
section
open Go.RowKit
def byteAt (s : ByteArray) (i : Nat) : Nat := (s.data[i]?.getD 0).toNat
theorem byteAt_lt (s : ByteArray) (i : Nat) : byteAt s i < 256 := UInt8.toNat_lt _
theorem byteAt_get (s : ByteArray) (i : Nat) (h : i < s.size) : byteAt s i = (s[i]'h).toNat := by
 have h' : i < s.data.size := h
 unfold byteAt; rw [Array.getElem?_eq_getElem h']; rfl
theorem byteAt_out (s : ByteArray) (i : Nat) (h : s.size ≤ i) : byteAt s i = 0 := by
 have h' : s.data.size ≤ i := h
 unfold byteAt; rw [Array.getElem?_eq_none h']; rfl
inductive Sc (α : Type) where
 | ok (a : α)
 | no (k : Nat) (i : Int)
deriving DecidableEq
def Sc.bind {α β : Type} (r : Sc α) (f : α → Sc β) : Sc β := match r with
 | .ok a => f a
 | .no k i => .no k i
@[simp] theorem Sc.bind_ok {α β : Type} (a : α) (f : α → Sc β) : (Sc.ok a).bind f = f a := rfl
@[simp] theorem Sc.bind_no {α β : Type} (k : Nat) (i : Int) (f : α → Sc β) : (Sc.no k i : Sc α).bind f = .no k i := rfl
def skipF (p : Nat → Bool) (B : ByteArray) : Nat → Nat → Nat
 | 0, i => i
 | f + 1, i => if i < B.size ∧ p (byteAt B i) = true then skipF p B f (i + 1) else i
def skip (p : Nat → Bool) (B : ByteArray) (i : Nat) : Nat := skipF p B (B.size - i) i
def bytesDB (B : ByteArray) : Dat := .list 1 (B.data.toList.map fun x => Dat.int .u8 (x.toNat : Nat))
theorem Rd.by_inv {S : Nat → Prop} {w : World} {v : Value} {B : ByteArray} (h : Rd S w v (bytesDB B)) : ∃ a c, v = .slice a B.size c ∧ (a = none → B.size = 0 ∧ c = 0) ∧ B.size ≤ c ∧
    (0 < B.size → ∃ b off, a = some ⟨b, off, none⟩ ∧ S b ∧ ∀ i, i < B.size → w.cell? ⟨b, off + i, none⟩ = some (.int .u8 (byteAt B i))) := by
 obtain ⟨a, n, c, rfl, hl, hac, hnc, hc⟩ := h.list_inv
 have hs : n = B.size := by
  simp only [List.length_map, Nat.mul_one] at hl
  exact hl.symm
 subst hs
 refine ⟨a, c, rfl, hac, hnc, fun h0 => ?_⟩
 obtain ⟨b, off, rfl, hS, hcc⟩ := hc h0
 refine ⟨b, off, rfl, hS, fun i hi => ?_⟩
 obtain ⟨u, hu, hr⟩ := hcc i (by rw [hl, Nat.mul_one]; exact hi)
 have hi' : i < B.data.size := hi
 have e : (B.data.toList.map fun x => Dat.int .u8 ((x.toNat : Nat) : Int))[i]'(by simpa using hi) = Dat.int .u8 (byteAt B i) := by
  simp only [List.getElem_map, Array.getElem_toList]
  unfold byteAt; rw [Array.getElem?_eq_getElem hi']; rfl
 rw [e] at hr
 rw [hu, hr.int_inv]
end
abbrev dcT := @decide_eq_true
abbrev dcF := @decide_eq_false
abbrev hid := @Lib.hid
abbrev xT := @ext_trans
abbrev i64n := @IntWalk.i64_in
abbrev bneI := @beq_eq_false_iff_ne
theorem ltT (j n : Nat) (h : j < n) : decide ((j : Int) < (n : Int)) = true ∧ decide (j < n) = true := ⟨decide_eq_true (by omega), decide_eq_true h⟩
theorem ltF (j n : Nat) (h : ¬ j < n) : decide ((j : Int) < (n : Int)) = false ∧ decide (j < n) = false := ⟨decide_eq_false (by omega), decide_eq_false h⟩
theorem inc (j : Nat) (h : j < 9000000000000000000) : IntKind.i64.wrap ((j : Int) + 1) = (j : Int) + 1 := IntWalk.i64_in _ (by omega)
end Go.Proofs.YtbeodjipdpcaiaaGreatDoor
