/- An append that tells where the row lies. Nothing of the program. -/
import Derived.Test.YtcaiibkgajhohaaGreatDoorYLib0s
import Derived.Test.YtcaiibkgajhohaaGreatDoorYJrP0sf
import Derived.Test.YtcaiibkgajhohaaGreatDoorYJrP2f
import Derived.Maps.AppendAt
import Derived.Deep.AppendLies
import Derived.Test.YtcaiibkgajhohaaGreatDoorProg
import Derived.WalkKit
import Derived.Shelf.Vars
import Derived.Test.YtcaiibkgajhohaaGreatDoorZShelf
namespace Go.Proofs.YtcaiibkgajhohaaGreatDoor
open Go.RowKit
theorem wpList_appAt {P : Program} (w : World) {ops : Array Oper} {rest : List Oper} {o : Oper} {a : Act} {Q : Exit → Act → World → Prop} (hgd : o.guard = none) (s x : Operand) (t : TypeId)
    (ho : o.op = .call { callee := .builtin .append, args := #[s, x], argTypes := #[t, t] })
    (base : Nat) {e : TypeId} {z : Value} {size bytes : Nat} (T : ElemTy P t e size bytes z)
    (v : Value) (n : Nat) (xs : List Value) (hs : a.eval s = v) (hown : w.ownsRow base e size v n xs)
    (ad : Addr) (m c : Nat) (news : List Value) (hx : a.eval x = .slice (some ad) m c) (hl : news.length = m * size)
    (hnews : ∀ (j : Nat) u, news[j]? = some u → w.cell? (ad.add j) = some u) (h1 : ∀ u ∈ news, u.oneCell' = true)
    (h63 : n + m ≤ maxLen) (hbytes : (n + m) * bytes ≤ 140737488355328) (hbase : base ≤ w.heap.size)
    (hK : ∀ v' w', w'.ownsRow base e size v' (n + m) (xs ++ news) → w.grownBy w' v.ownBlock → (v'.ownBlock = v.ownBlock ∨ v'.ownBlock = some w.heap.size) → wpList P ops Q rest (a.put o.dst v') w') : wpList P ops Q (o :: rest) a w := by
 obtain ⟨i, hi, hz, hsz, hby⟩ := info_parts T.hi
 exact wpList_append_own_at w hgd s x t ho base e i z size bytes T.ht hi hz hsz hby T.hz T.h0 v n xs hs hown ad m c news hx hl hnews h1 h63 hbytes hbase (fun v' w' a1 a2 _ a4 => hK v' w' a1 a2 a4)
end Go.Proofs.YtcaiibkgajhohaaGreatDoor
namespace Go.Proofs.YtcaiibkgajhohaaGreatDoor
open Go.RowKit
def appD (a : AppA) : List Dat := [.str a.team, .str a.bundle]
def itD (i : ItA) : List Dat := [.str i.name, .str i.value, .bool true]
def ruD (x : RuA) : List Dat := [.str x.path, .str x.query, .str x.frag, .bool x.hasPath, .bool x.hasQuery, .bool x.hasFrag, .list 3 (x.items.flatMap itD), .bool x.exclude, .bool x.fold, .bool x.decoded]
def deD (d : DeA) : List Dat := [.list 2 (d.apps.flatMap appD), .list 10 (d.rules.flatMap ruD)]
def vaD (v : VaA) : List Dat := [.str v.name, .list 1 (v.values.map .str)]
end Go.Proofs.YtcaiibkgajhohaaGreatDoor
namespace Go.Proofs.YtcaiibkgajhohaaGreatDoor
open Go.RowKit
/-- The library's variable holds some number. -/
def MaxT (w : World) : Prop := 2 < w.heap.size ∧ ∃ m, w.cell? ⟨2, 0, none⟩ = some (.int .i64 m)
theorem MaxT.ext {w w' : World} (h : MaxT w) (hb : Below w.heap.size w w') : MaxT w' := by
 obtain ⟨h1, m, h2⟩ := h
 exact ⟨Nat.lt_of_lt_of_le h1 hb.size, m, (bcell1 hb h1 0).trans h2⟩
theorem maxT_of {w : World} (h : w.ShapedOpen Tryz.prog) : MaxT w := by
 have hg : 2 < Tryz.prog.globals.size := of_decide_eq_true (by kernel_rfl)
 obtain ⟨m, hm⟩ := cell_of_shapedOpen_int (P := Tryz.prog) (g := 2) (t := 3) (zero := #[.int .i64 0]) (k := .i64) h hg (by kernel_rfl) rfl (by kernel_rfl) (by kernel_rfl) Tryz.underlying3
 refine ⟨?_, m, hm⟩
 exact World.block_lt_of_cell? w ⟨2, 0, none⟩ hm
end Go.Proofs.YtcaiibkgajhohaaGreatDoor
namespace Go.Proofs.YtcaiibkgajhohaaGreatDoor
open Go.RowKit
def MkRel (s : ByteArray) (f : UInt8 → Bool) (R : Bool) (W0 : World) (k : Value) (wr : World) : Prop := ∃ j : Nat, k = .int .i64 j ∧ j ≤ s.size ∧ wr = W0 ∧ (s.data.toList.drop j).any f = R
theorem byte_at {s : ByteArray} {j : Nat} (h : j < s.size) : ∃ c : UInt8, byteAt s j = c.toNat ∧ s.data.toList.drop j = c :: s.data.toList.drop (j + 1) := by
 have h' : j < s.data.toList.length := by simpa using h
 refine ⟨s.data.toList[j], ?_, List.drop_eq_getElem_cons h'⟩
 have h2 : j < s.data.size := h
 unfold byteAt
 rw [Array.getElem?_eq_getElem h2]
 simp
set_option maxRecDepth 100000 in
set_option maxHeartbeats 4000000 in
/-- subst.marked -/
theorem smarked_any (s m : ByteArray) (w : World) (hs : s.size ≤ 1100000) : Calls Tryz.prog 98 #[.string s, .string m] w fun e w' => e = .returned (.bool (markedB s m.data.toList)) ∧ Below w.heap.size w w' := by
 obtain ⟨W0, cap, hcv, hcap, hb0, hz0, hcell⟩ := bytes_of_string s w
 have IB := Lib.hid (fun c : UInt8 => (show Calls Tryz.prog 81 #[.string m, .int .u8 (c.toNat : Nat)] W0 fun e w' => e = .returned (.int .i64 (Go.Lib.indexByte m.data.toList c)) ∧ w' = W0 from by
  have h := Tryz.strings_IndexByte m ((c.toNat : Nat) : Int) W0
  rwa [show ((((c.toNat : Nat) : Int).toNat).toUInt8) = c by rw [Int.toNat_natCast]; exact UInt8.ofNat_toNat] at h))
 unfold markedB
 obtain ⟨f, hf⟩ : ∃ f : UInt8 → Bool, (fun c => decide (0 ≤ Go.Lib.indexByte m.data.toList c)) = f := ⟨_, rfl⟩
 have hfc : ∀ c, decide (0 ≤ Go.Lib.indexByte m.data.toList c) = f c := fun c => congrFun hf c
 rw [hf]
 obtain ⟨R, hR⟩ : ∃ R, s.data.toList.any f = R := ⟨_, rfl⟩
 rw [hR]
 have HR := Lib.hid hR; have HF := Lib.hid hfc; have HB := Lib.hid hb0; have HC := Lib.hid hcell
 obtain ⟨n, hn⟩ : ∃ n, s.size = n := ⟨_, rfl⟩
 have HN := Lib.hid hn
 rw [hn] at hs hcv
 clear hR hf hfc hb0 hcell hn hcap
 go_enter Tryz.func98, Tryz.ntmps98
 go_wp2_with fail
 go_loopw [10] (MkRel s f R W0) (fun k _ => n - (intOf k).toNat)
 case atStart => exact ⟨0, rfl, Nat.zero_le _, rfl, by rw [List.drop_zero]; exact HR.out⟩
 case round =>
  obtain ⟨j, rfl, hj, rfl, hr⟩ := hrel
  rw [HN.out] at hj
  by_cases hlt : j < n
  · have t1 : decide ((j : Int) < (n : Int)) = true := decide_eq_true (by omega)
    have t1' : decide (j < n) = true := decide_eq_true hlt
    have q1 : IntKind.i64.wrap ((j : Int) + 1) = (j : Int) + 1 := IntWalk.i64_in _ (by omega)
    obtain ⟨c, hc, hd⟩ := byte_at (s := s) (j := j) (by rw [HN.out]; exact hlt)
    have e0 := HC.out j (by rw [HN.out]; exact hlt)
    rw [hc] at e0
    rw [hd, List.any_cons, ← HF.out c] at hr
    have IBc := Lib.hid (IB.out c)
    obtain ⟨i, hi⟩ : ∃ i, Go.Lib.indexByte m.data.toList c = i := ⟨_, rfl⟩
    rw [hi] at hr IBc
    have HRR := Lib.hid hr
    clear hr hc hd hi
    go_wp2_with fail
    go_at_call 81
    refine IBc.out.mono ?_
    rintro e w1 ⟨rfl, rfl⟩
    by_cases h0 : 0 ≤ i
    · have t2 : decide ((0 : Int) ≤ i) = true := decide_eq_true h0
      have hT : R = true := by have := HRR.out; rw [t2] at this; exact this.symm
      subst hT
      clear h0
      go_wp2
      go_ret
      exact ⟨rfl, HB.out⟩
    · have t2 : decide ((0 : Int) ≤ i) = false := decide_eq_false h0
      have RL := Lib.hid (show MkRel s f R w1 (.int .i64 ((j : Int) + 1)) w1 from ⟨j + 1, by go_num, by rw [HN.out]; omega, rfl, by have := HRR.out; rw [t2] at this; simpa using this⟩)
      clear h0
      go_wp2
      refine ⟨?_, by simp [intOf]; omega⟩
      have R := RL.out
      first | exact R | ((repeat apply Exists.intro); exact ⟨R, rfl⟩)
  · have t1 : decide ((j : Int) < (n : Int)) = false := decide_eq_false (by omega)
    have t1' : decide (j < n) = false := decide_eq_false hlt
    rw [List.drop_eq_nil_of_le (by have : s.data.toList.length = s.size := by simp
                                   rw [this, HN.out]; omega)] at hr
    obtain rfl : R = false := hr.symm
    clear hr
    go_wp2
    go_ret
    exact ⟨rfl, HB.out⟩
end Go.Proofs.YtcaiibkgajhohaaGreatDoor
namespace Go.Proofs.YtcaiibkgajhohaaGreatDoor
open Go.RowKit
def ErrIs (w : World) (u : Value) (p : Int × Int) : Prop := (p.1 = 0 ∧ u = .nilIface) ∨ (p.1 ≠ 0 ∧ Rd (Own w) w u (errD 85 [p]))
theorem ErrIs.ext {w w' : World} {u : Value} {p : Int × Int} (h : ErrIs w u p) (hb : Below w.heap.size w w') : ErrIs w' u p := by
 rcases h with h | ⟨h1, h2⟩
 · exact .inl h
 · exact .inr ⟨h1, h2.ext hb⟩
set_option maxRecDepth 100000 in
def nodeA (js : List JN) (id : Int) : JN := if 0 ≤ id then (js[id.toNat]?).getD jz else jz
theorem nodeA_in {js : List JN} {i : Nat} {x : JN} (h : js[i]? = some x) : nodeA js i = x := by unfold nodeA; rw [if_pos (by omega), Int.toNat_natCast, h]; rfl
theorem nodeA_out {js : List JN} {id : Int} (h : ¬ (0 ≤ id ∧ id < js.length)) : nodeA js id = jz := by
 unfold nodeA
 by_cases h0 : 0 ≤ id
 · rw [if_pos h0, List.getElem?_eq_none (by omega)]; rfl
 · rw [if_neg h0]
theorem checkS_zero {js : List JN} {id kind : Int} (h : (checkS js id kind).1 = 0) : ∃ (i : Nat) (x : JN), id = i ∧ js[i]? = some x ∧ (x.kind = kind ∨ kind = 2 ∧ x.kind = 1) ∧ i < js.length := by
 by_cases hid : 0 ≤ id ∧ id < js.length
 · obtain ⟨i, rfl⟩ : ∃ i : Nat, id = i := ⟨id.toNat, by omega⟩
   obtain ⟨x, hx⟩ := get_ex js i (by omega)
   rw [checkS_in hx] at h
   by_cases hk : x.kind = kind ∨ kind = 2 ∧ x.kind = 1
   · exact ⟨i, x, rfl, hx, hk, by omega⟩
   · rw [if_neg hk] at h; exact absurd h (by show ¬ (32 : Int) = 0; decide)
 · rw [checkS_out hid] at h; exact absurd h (by show ¬ (30 : Int) = 0; decide)
def UPost (w : World) (chk : Int × Int) (good : Value → World → Prop) (bad : Value) (e : Ending) (w' : World) : Prop :=
 ∃ v u, e = .returned (.tuple #[v, u]) ∧ ErrIs w' u chk ∧ (chk.1 = 0 → good v w') ∧ (chk.1 ≠ 0 → v = bad) ∧ Below w.heap.size w w'
theorem ans_u {w w' : World} {chk : Int × Int} {good : Value → World → Prop} {bad : Value} {e : Ending} (h : AnsPost w chk good bad e w') : UPost w chk good bad e w' := by
 rcases h with ⟨h0, v, rfl, hg, hb⟩ | ⟨h0, p, rfl, hr, hb⟩
 · exact ⟨v, _, rfl, .inl ⟨h0, rfl⟩, fun _ => hg, fun h => absurd h0 h, hb⟩
 · exact ⟨bad, _, rfl, .inr ⟨h0, hr⟩, fun h => absurd h h0, fun _ => rfl, hb⟩
/-- Member's answer: a number, and an error. -/
def MuPost (w : World) (s : PS) (id : Int) (key : ByteArray) (e : Ending) (w' : World) : Prop :=
 ∃ (one : Int) (u : Value), e = .returned (.tuple #[.int .i64 one, u]) ∧ Below w.heap.size w w' ∧
  ((checkS s.js id 6).1 ≠ 0 → one = 0 ∧ ErrIs w' u (checkS s.js id 6)) ∧
  ((checkS s.js id 6).1 = 0 → one = lastK s.js (kids s.ups id.toNat) key ∧ ErrIs w' u (if anyK s.js (kids s.ups id.toNat) key = true then (0, 0) else (30, (nodeA s.js id).at_)))
theorem lastK_none {js : List JN} {l : List Nat} {key : ByteArray} (h : anyK js l key = false) : lastK js l key = 0 := by
 unfold lastK
 refine foldK_none l 0 (fun k hk e => ?_)
 rw [Bool.eq_false_iff] at h
 exact h (List.any_eq_true.2 ⟨k, hk, decide_eq_true e⟩)
structure PView (w : World) (base D T : Nat) (s : PS) (nodes : Int) (tv : Value) (ns : List ANode) : Prop where
 d : DocAt w base D s nodes T tv ns
 jl : s.js.length ≤ 100000
 ks : ∀ k, (keyA s.js k).size ≤ maxLen
theorem PView.below {w w' : World} {base D T : Nat} {s : PS} {nodes : Int} {tv : Value} {ns : List ANode} (h : PView w base D T s nodes tv ns) (hb : Below w.heap.size w w') : PView w' base D T s nodes tv ns :=
 ⟨h.d.below hb, h.jl, h.ks⟩
section
variable {w : World} {base D T : Nat} {s : PS} {nodes : Int} {tv : Value} {ns : List ANode}
theorem node_p (h : PView w base D T s nodes tv ns) (id : Int) : Calls Tryz.prog 90 #[ptrV D, .int .i64 id] w fun e w' => e = .returned (.tuple #[.agg #[.int .i64 (nodeA s.js id).kind, .string (nodeA s.js id).key, .string (nodeA s.js id).text, .int .i64 (nodeA s.js id).at_], .bool (decide (0 ≤ id ∧ id < s.js.length))]) ∧ Below w.heap.size w w' :=
 (node_any w base D T s nodes tv ns id h.d (by have := h.jl; omega)).mono (fun e w' hp => by
   rcases hp with ⟨i, x, rfl, hx, rfl, hb⟩ | ⟨hn, rfl, hb⟩
   · have := (List.getElem?_eq_some_iff.1 hx).1
     rw [nodeA_in hx, decide_eq_true (by omega : 0 ≤ (i : Int) ∧ (i : Int) < s.js.length)]
     exact ⟨rfl, hb⟩
   · rw [nodeA_out hn, decide_eq_false hn]
     exact ⟨rfl, hb⟩)
theorem items_p (h : PView w base D T s nodes tv ns) (id : Int) : Calls Tryz.prog 59 #[ptrV D, .int .i64 id] w (UPost w (checkS s.js id 5) (fun v w' => Rd (Fresh w w') w' v (intsD (kids s.ups id.toNat))) (.slice none 0 0)) :=
 (items_any w base D T s nodes tv ns id h.d h.jl).mono (fun e w' hp => by
   have := ans_u hp
   obtain ⟨v, u, h1, h2, h3, h4, h5⟩ := this
   exact ⟨v, u, h1, h2, h3, h4, h5⟩)
theorem text_p (h : PView w base D T s nodes tv ns) (id : Int) : Calls Tryz.prog 127 #[ptrV D, .int .i64 id] w (UPost w (checkS s.js id 4) (fun v _ => v = .string (nodeA s.js id).text) (.string ⟨#[]⟩)) :=
 (dtext_any w base D T s nodes tv ns id h.d h.jl).mono (fun e w' hp => by
   obtain ⟨v, u, h1, h2, h3, h4, h5⟩ := ans_u hp
   refine ⟨v, u, h1, h2, fun h0 => ?_, h4, h5⟩
   obtain ⟨i, x, rfl, hx, _, _⟩ := checkS_zero h0
   rw [h3 h0, nodeA_in hx]
   unfold textA
   rw [Int.toNat_natCast, hx]; rfl)
theorem flag_p (h : PView w base D T s nodes tv ns) (id : Int) : Calls Tryz.prog 126 #[ptrV D, .int .i64 id] w (UPost w (checkS s.js id 2) (fun v _ => v = .bool ((nodeA s.js id).kind == 2)) (.bool false)) :=
 (dflag_any w base D T s nodes tv ns id h.d h.jl).mono (fun e w' hp => by
   obtain ⟨v, u, h1, h2, h3, h4, h5⟩ := ans_u hp
   refine ⟨v, u, h1, h2, fun h0 => ?_, h4, h5⟩
   obtain ⟨i, x, rfl, hx, _, _⟩ := checkS_zero h0
   rw [h3 h0, nodeA_in hx]
   unfold textA
   rw [Int.toNat_natCast, hx]; rfl)
theorem members_p (h : PView w base D T s nodes tv ns) (id : Int) : Calls Tryz.prog 55 #[ptrV D, .int .i64 id] w (UPost w (checkS s.js id 6) (fun v w' => Rd (Fresh w w') w' v (intsD (membersS s.js (kids s.ups id.toNat)))) (.slice none 0 0)) := by
 by_cases h0 : (checkS s.js id 6).1 = 0
 · obtain ⟨i, x, rfl, hx, hk, _⟩ := checkS_zero h0
   have h6 : x.kind = 6 := by
    rcases hk with hk | ⟨hk, _⟩
    · exact hk
    · cases hk
   refine (members_any w base D T s nodes tv ns i x h.d h.jl hx h6 h.ks).mono (fun e w' hp => ?_)
   obtain ⟨v, rfl, hr, hb⟩ := hp
   exact ⟨v, _, rfl, .inl ⟨h0, rfl⟩, fun _ => by rw [Int.toNat_natCast]; exact hr, fun h => absurd h0 h, hb⟩
 · refine (membersF_any w base D T s nodes tv ns id h.d h.jl h0).mono (fun e w' hp => ?_)
   obtain ⟨v, u, h1, h2, h3, h4, h5⟩ := ans_u hp
   exact ⟨v, u, h1, h2, fun h => absurd h h0, h4, h5⟩
theorem member_p (h : PView w base D T s nodes tv ns) (id : Int) (key : ByteArray) : Calls Tryz.prog 52 #[ptrV D, .int .i64 id, .string key] w (MuPost w s id key) := by
 by_cases h0 : (checkS s.js id 6).1 = 0
 · obtain ⟨i, x, rfl, hx, hk, _⟩ := checkS_zero h0
   have h6 : x.kind = 6 := by
    rcases hk with hk | ⟨hk, _⟩
    · exact hk
    · cases hk
   refine (member_any w base D T s nodes tv ns i x key h.d h.jl hx h6).mono (fun e w' hp => ?_)
   rcases hp with ⟨ha, rfl, hb⟩ | ⟨ha, u, rfl, hf⟩
   · refine ⟨_, _, rfl, hb, fun h => absurd h0 h, fun _ => ?_⟩
     rw [Int.toNat_natCast, ha, if_pos rfl]
     exact ⟨rfl, .inl ⟨rfl, rfl⟩⟩
   · refine ⟨_, _, rfl, hf.2, fun h => absurd h0 h, fun _ => ?_⟩
     rw [Int.toNat_natCast, ha, if_neg (by decide), nodeA_in hx, lastK_none ha]
     exact ⟨rfl, .inr ⟨by show (30 : Int) ≠ 0; decide, hf.1.wide (fun b hb => hb.2)⟩⟩
 · refine (memberF_any w base D T s nodes tv ns id key h.d h.jl h0).mono (fun e w' hp => ?_)
   rcases hp with ⟨h1, _⟩ | ⟨_, p, rfl, hr, hb⟩
   · exact absurd h1 h0
   · exact ⟨0, _, rfl, hb, fun _ => ⟨rfl, .inr ⟨h0, hr⟩⟩, fun h => absurd h h0⟩
end
end Go.Proofs.YtcaiibkgajhohaaGreatDoor
