/- Texts put together. -/
import Derived.Test.YtbeodjipdpcaiaaGreatDoorYLib0s
import Derived.Test.YtbeodjipdpcaiaaGreatDoorYDec0s
import Derived.Test.YtbeodjipdpcaiaaGreatDoorYUrp0s
import Derived.Test.YtbeodjipdpcaiaaGreatDoorYQb1s
import Derived.Test.YtbeodjipdpcaiaaGreatDoorYUrw9s
import Derived.Test.YtbeodjipdpcaiaaGreatDoorYUrx4
import Derived.WalkKit
import Derived.Lib.Hide
import Derived.Deep.QuietTactic
import Derived.BigQuiet
import Derived.ProofKit
import Derived.OpenShut
import Derived.Lib.LaidTab
import Derived.Lib.LastIndexByte
import Derived.ChangeKeysEq
namespace Go.Proofs.YtbeodjipdpcaiaaGreatDoor
section
section
open Go.RowKit

section
variable {S : Nat → Prop} {w : World} {v : Value}
theorem Rd.bool_inv {b : Bool} (h : Rd S w v (.bool b)) : v = .bool b := by cases h; rfl
end

end
section
open Go.RowKit Go.ChangeShapes Go.WideShapes
variable {H : Type} {enc : TypeId × Value → H} {P : Program} {W : World} {base : Nat} {sp : Nat → Bool} {held : Bool}

theorem opens_int {t : TypeId} {k : IntKind} (ht : P.underlying t = some (.int k)) : Opens enc P W base sp held t Int (fun n => [.int k n]) (fun n => (Lit.int k n).wf = true) (fun _ => 1) := by
 intro fuel cs x h
 obtain ⟨n, rfl, rfl, hw⟩ := DataW.trod_int ht h
 exact ⟨n, .cons (.int _ _) .nil, hw, by simp [Rows.uptoBulk]⟩
theorem opens_bool {t : TypeId} (ht : P.underlying t = some .bool) : Opens enc P W base sp held t Bool (fun b => [.bool b]) (fun _ => True) (fun _ => 1) := by
 intro fuel cs x h
 obtain ⟨n, rfl, rfl⟩ := DataW.trod_bool ht h
 exact ⟨n, .cons (.bool _) .nil, trivial, by simp [Rows.uptoBulk]⟩
/-- A row of fields, the first of which lies at offset off. -/
def OpensF (enc : TypeId × Value → H) (P : Program) (W : World) (base : Nat) (sp : Nat → Bool) (held : Bool) (fs : List Field) (off tot : Nat) (α : Type) (cd : α → List Dat) (ok : α → Prop) (bk : α → Nat) : Prop :=
 ∀ (n : Nat) (cs : List Value) (xs : List (DataW H × List MemPlace)), xs.length = fs.length → off + tot ≤ cs.length → (∀ (i : Nat) f, fs[i]? = some f → DataW.trod enc P W base sp held n f.type ((cs.drop f.offset).take (P.cellsOf f.type)) = xs[i]?) →
  ∃ a : α, Rds (Own W) W ((cs.drop off).take tot) (cd a) ∧ ok a ∧ bk a ≤ Rows.uptoBulkAll (xs.map (·.1))
theorem opensF_nil {off : Nat} : OpensF enc P W base sp held [] off 0 Unit (fun _ => []) (fun _ => True) (fun _ => 0) := by
 intro n cs xs hx _ _
 obtain rfl := List.eq_nil_of_length_eq_zero hx
 exact ⟨(), by simpa using Rds.nil, trivial, Nat.zero_le _⟩
theorem opensF_cons {f : Field} {fs : List Field} {off k tot : Nat} {α β : Type} {cd : α → List Dat} {ok : α → Prop} {bk : α → Nat} {cd' : β → List Dat} {ok' : β → Prop} {bk' : β → Nat}
    (ho : f.offset = off) (hk : P.cellsOf f.type = k) (h : Opens enc P W base sp held f.type α cd ok bk) (hs : OpensF enc P W base sp held fs (off + k) tot β cd' ok' bk') :
    OpensF enc P W base sp held (f :: fs) off (k + tot) (α × β) (fun a => cd a.1 ++ cd' a.2) (fun a => ok a.1 ∧ ok' a.2) (fun a => bk a.1 + bk' a.2) := by
 intro n cs xs hx hc hf
 cases xs with
 | nil => simp at hx
 | cons x xs =>
   have h0 := hf 0 f rfl
   simp only [List.getElem?_cons_zero, ho, hk] at h0
   obtain ⟨a, r1, o1, b1⟩ := h _ _ _ h0
   obtain ⟨b, r2, o2, b2⟩ := hs n cs xs (by simpa using hx) (by omega) (fun i g hg => by simpa using hf (i + 1) g (by simpa using hg))
   refine ⟨(a, b), ?_, ⟨o1, o2⟩, by simp only [List.map_cons, Rows.uptoBulkAll]; omega⟩
   have e : (cs.drop off).take (k + tot) = (cs.drop off).take k ++ (cs.drop (off + k)).take tot := by
    rw [List.take_add, List.drop_drop]
   rw [e]
   exact r1.append r2
theorem opens_struct {t : TypeId} {fs : Array Field} {tot : Nat} {α : Type} {cd : α → List Dat} {ok : α → Prop} {bk : α → Nat} (ht : P.underlying t = some (.struct fs)) (hc : P.cellsOf t = tot)
    (h : OpensF enc P W base sp held fs.toList 0 tot α cd ok bk) : Opens enc P W base sp held t α cd ok (fun a => bk a + 1) := by
 intro fuel cs x hx
 obtain ⟨xs, n, _, rfl, hl, hxl, hf⟩ := DataW.trod_struct ht hx
 obtain ⟨a, r, o, b⟩ := h n cs xs (by simpa using hxl) (by omega) (fun i f hg => hf i f (by simpa using hg))
 refine ⟨a, ?_, o, by simp only [Rows.uptoBulk]; omega⟩
 have e : (cs.drop 0).take tot = cs := by rw [List.drop_zero]; exact List.take_of_length_le (by omega)
 rwa [e] at r
end
section
open Go.RowKit
end
end
section
section
open Go.RowKit
/-- One more digit ahead. -/
theorem decL_cons (r n : Nat) : decL (r + 1) n = UInt8.ofNat (48 + n / 10 ^ r % 10) :: decL r n := by
 unfold decL
 rw [List.range_succ_eq_map, List.map_cons, List.map_map]
 congr 1
 refine List.map_congr_left (fun j _ => ?_)
 show UInt8.ofNat (48 + n / 10 ^ (r + 1 - 1 - (j + 1)) % 10) = _
 congr 5
 omega
theorem decS_cons (r n : Nat) : (⟨#[UInt8.ofNat (48 + n / 10 ^ r % 10)]⟩ : ByteArray) ++ decS r n = decS (r + 1) n := by
 have : ∀ (a : UInt8) (l : List UInt8), (⟨#[a]⟩ : ByteArray) ++ ⟨l.toArray⟩ = ⟨(a :: l).toArray⟩ := fun a l => by
  apply toList_inj
  rw [ByteArray.toList_eq, ByteArray.toList_eq, ByteArray.data_append]
  simp
 unfold decS
 rw [this, decL_cons]
theorem decS_zero (n : Nat) : decS 0 n = ⟨#[]⟩ := rfl
end
section
open Go.RowKit
end
section
open Go.RowKit
end
section
open Go.RowKit
/-- Great and small letters, and a point at the end. -/
theorem canon_great {n b : List Nat} (h : HostOk 1 n) (hb : b.map lowN = n) : canonL (b ++ [46]) = .ok 1 n := by
 cases h with
 | name n ts h hn =>
   have hm : ∀ c ∈ b ++ [46], c ≠ 37 ∧ c ≠ 91 := fun c hc => by
    rcases List.mem_append.1 hc with hc | hc
    · have h1 := name_bytes h (lowN c) (by rw [← hb]; exact List.mem_map_of_mem hc)
      unfold lowN at h1
      split at h1 <;> omega
    · rw [List.mem_singleton.1 hc]; decide
   rw [canon_plain (by simp) (hm _ (first_mem (by simp))).2 (fun c hc => (hm c hc).1), (h.great hb).2]
   unfold nameH
   simp only
   rw [if_neg (by rw [hn]; decide)]
end
section
open Go.RowKit
end
section
open Go.RowKit
end
end
section
section
open Go.RowKit
end
section
open Go.RowKit
def originB (s : ByteArray) (k : Int) (t : ByteArray) (p : Int) : ByteArray := if webB s = true then ((s ++ colonB) ++ slashesB) ++ whereB s k t p else ⟨#[]⟩
end
end
section
section
open Go.RowKit
theorem quiet_ldRow {P : Program} {C : World → Prop} {a : Act} {o : Oper} {K : Act → Prop} (t : TypeId) (p : Addr) (v : Value) (hl : ∀ w, C w → (loadVar t p).run P w = .ok v w) (x : Operand) (h : o.op = .load t x) (hx : a.eval x = .pointer (some p)) (hk : K (a.put o.dst v)) : o.quiet P a C K :=
 ⟨v, fun w hw => by
  unfold Oper.quietAt
  rw [show (execOp a.eval o).run P w = .ok (.value v) w from by simp [execOp, h, hx, Instr.loadAt, Instr.sureAddr, hl w hw, Result.andThen]]
  exact ⟨rfl, rfl⟩, hk⟩
end
section
open Go.RowKit
theorem eqU_path {x y : UrlP} (h : x.path.length ≠ y.path.length) : eqU x y = false := by
 unfold eqU
 refine decide_eq_false (fun e => h ?_)
 have := congrArg ByteArray.size e.2.2.2.1
 rw [bytesL_size, bytesL_size] at this; exact this
theorem eqU_port {x y : UrlP} (h : x.port ≠ y.port) : eqU x y = false := by
 unfold eqU
 exact decide_eq_false (fun e => h e.2.2.1)
end
end
section
section
open Go.RowKit
set_option maxRecDepth 100000 in
set_option maxHeartbeats 8000000 in
/-- url.Origin -/
theorem urlorigin_any (s : ByteArray) (k : Int) (t : ByteArray) (p : Int) (pa q f : ByteArray) (hq hf : Bool) (w : World) (hs : s.size ≤ 100000) (ht : t.size ≤ 100000) (hp : -9223372036854775808 ≤ p ∧ p < 9223372036854775808) : Calls Tryz.prog 40 #[.agg (urlA s k t p pa q f hq hf)] w fun e w' => e = .returned (.string (originB s k t p)) ∧ Below w.heap.size w w' := by
 obtain ⟨W1, hW1⟩ : ∃ W, w.alloc (.cells (urlA s k t p pa q f hq hf) 50) = W := ⟨_, rfl⟩
 have hb1 : Below w.heap.size w W1 := by rw [← hW1]; exact ext_alloc (Below.refl _ _) _
 have hx1 : W1.heap[w.heap.size]? = some (.cells (urlA s k t p pa q f hq hf) 50 (0, 0)) := by rw [← hW1]; exact heap_alloc_new w _
 have WH : ∀ W, Calls Tryz.prog 92 #[.agg #[.string s, .int .i64 k, .string t, .int .i64 p, .string pa, .string q, .string f, .bool hq, .bool hf]] W fun e w' => e = .returned (.string (whereB s k t p)) ∧ Below W.heap.size W w' := fun W => urlwhere_any s k t p pa q f hq hf W ht hp
 have hVz := whereB_size s k t p hp.2
 have WE := fun W => uweb_any s W
 have hO : originB s k t p = if webL (bytesN s) = true then ((s ++ colonB) ++ slashesB) ++ whereB s k t p else ⟨#[]⟩ := rfl
 obtain ⟨R, hR⟩ : ∃ R, originB s k t p = R := ⟨_, rfl⟩
 rw [hR] at hO ⊢
 obtain ⟨V, hV⟩ : ∃ V, whereB s k t p = V := ⟨_, rfl⟩
 rw [hV] at WH hO hVz
 obtain ⟨bw, hbw⟩ : ∃ b, webL (bytesN s) = b := ⟨_, rfl⟩
 rw [hbw] at hO WE
 have HWH := Lib.hid WH; have HWE := Lib.hid WE; have HX1 := Lib.hid hx1; have HB1 := Lib.hid hb1
 have c0 : W1.cell? ⟨w.heap.size, 0, none⟩ = some (.string s) := Lib.cell_of_heap hx1 0
 unfold urlA at hW1
 clear hx1 hb1 WH WE hR hV hbw
 cases bw with
 | false =>
   have hO2 : R = ⟨#[]⟩ := by rw [hO]; rfl
   rw [hO2]
   clear hO hO2 hVz hs ht hp
   go_enter Tryz.func40, Tryz.ntmps40
   unfold urlA
   go_wp2_with fail
   refine (HWE.out _).mono ?_
   rintro e v1 ⟨rfl, hv⟩
   have hv' := hv.symm
   subst hv'
   clear hv
   go_wp2
   go_ret
   exact ⟨rfl, HB1.out⟩
 | true =>
   have hO2 : R = ((s ++ colonB) ++ slashesB) ++ V := by rw [hO]; rfl
   unfold colonB slashesB at hO2
   obtain ⟨A, hA⟩ : ∃ A, s ++ (⟨#[58]⟩ : ByteArray) = A := ⟨_, rfl⟩
   obtain ⟨B, hB⟩ : ∃ B, A ++ (⟨#[47, 47]⟩ : ByteArray) = B := ⟨_, rfl⟩
   rw [hA, hB] at hO2
   have hAz : A.size ≤ 100001 := by rw [← hA, bapp_size]; have : (⟨#[58]⟩ : ByteArray).size = 1 := rfl; omega
   rw [hO2]
   have hBz : B.size ≤ 100003 := by rw [← hB, bapp_size]; have : (⟨#[47, 47]⟩ : ByteArray).size = 2 := rfl; omega
   have hVz2 : V.size ≤ 100100 := by omega
   obtain ⟨C, hC⟩ : ∃ C, B ++ V = C := ⟨_, rfl⟩
   rw [hC]
   obtain ⟨b0, hb0⟩ : ∃ b, w.heap.size = b := ⟨_, rfl⟩
   rw [hb0] at c0
   have k0 : ∀ m : BW W1.heap.size W1, m.w.cell? ⟨b0, 0, none⟩ = some (.string s) := fun m => by rw [← hb0]; exact Lib.cell_of_heap ((m.below.block _ (heap_lt HX1.out)).trans HX1.out) 0
   have hq1 : ∀ w', (∃ n : BW W1.heap.size W1, w' = n.w) → (loadVar 50 ⟨b0, 0, none⟩).run Tryz.prog w' = .ok (.agg #[.string s, .int .i64 k, .string t, .int .i64 p, .string pa, .string q, .string f, .bool hq, .bool hf]) w' := fun w' h => by
    obtain ⟨m, rfl⟩ := h
    rw [← hb0]
    exact ur_load s k t p pa q f hq hf _ _ ((m.below.block _ (heap_lt HX1.out)).trans HX1.out)
   clear hO hO2 hVz ht hp
   go_enter Tryz.func40, Tryz.ntmps40
   unfold urlA
   go_wp2_with fail
   refine (HWE.out _).mono ?_
   rintro e v1 ⟨rfl, hv⟩
   have hv' := hv.symm
   subst hv'
   clear hv hW1
   go_wp2_with fail
   clear c0 hb0
   refine wp_region_quietB W1.heap.size (by kernel_rfl) (by kernel_rfl) ?_
   repeat (first | (go_big_quiet_want; refine quiet_ldRow 50 _ _ hq1 _ rfl rfl ?_; go_big_quiet_on; simp only [Act.put, List.setIfInBounds_toArray, List.set_cons_zero, List.set_cons_succ]) | go_big_quiet_step ((go_at_call 92; exact quiet_callB (HWH.out _) (Nat.le_refl _))))
   refine wpQuiet_nil ?_
   intro _ hw'
   obtain ⟨nb, hw4⟩ := hw'
   subst hw4
   have HB6 := Lib.hid (ext_trans HB1.out nb.below)
   clear k0 hq1
   generalize nb.w = W6 at *
   go_wp2
   go_ret
   exact ⟨rfl, HB6.out⟩
end
section
open Go.RowKit
end
end
section
open Go.RowKit
end
end Go.Proofs.YtbeodjipdpcaiaaGreatDoor
