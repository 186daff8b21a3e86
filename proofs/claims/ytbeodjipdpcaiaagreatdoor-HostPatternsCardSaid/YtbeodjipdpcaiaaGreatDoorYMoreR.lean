/- Texts put together. -/
import Derived.Test.YtbeodjipdpcaiaaGreatDoorYHlw0f
import Derived.Test.YtbeodjipdpcaiaaGreatDoorYLib0s
import Derived.Test.YtbeodjipdpcaiaaGreatDoorYErrs1s
import Derived.Test.YtbeodjipdpcaiaaGreatDoorYLab0s
import Derived.Test.YtbeodjipdpcaiaaGreatDoorYDec0s
import Derived.Test.YtbeodjipdpcaiaaGreatDoorYScan4sf
import Derived.Test.YtbeodjipdpcaiaaGreatDoorYMx0sf
import Derived.Test.YtbeodjipdpcaiaaGreatDoorYHxw1s
import Derived.Test.YtbeodjipdpcaiaaGreatDoorYHsw4s
import Derived.Test.YtbeodjipdpcaiaaGreatDoorYRfw1s
import Derived.WalkKit
import Derived.Lib.Hide
import Derived.Deep.QuietTactic
import Derived.BigQuiet
import Derived.ProofKit
import Derived.OpenShut
import Derived.Lib.LaidTab
import Derived.LaidEql
import Derived.Stop.Asserts
import Derived.RowKitTokens
import Derived.LaidHandle
import Derived.Stop.Joined
import Derived.Lib.Strings
import Derived.Deep.DeepCutAuto
import Derived.Deep.RegionWith
import Derived.Deep.RegionHeld3
import Derived.Shelf.Vars
import Derived.Lib.SplitLaws
import Derived.Lib.CountLaws
import Derived.Lib.IndexLaws
import Derived.Lib.IndexBytes
import Derived.RegionTactic
import Derived.BigRegion
set_option maxRecDepth 100000
set_option maxHeartbeats 16000000
namespace Go.Proofs.YtbeodjipdpcaiaaGreatDoor
section
section
open Go.RowKit

section
variable {S : Nat → Prop} {w : World} {v : Value}
theorem Rd.bool_inv {b : Bool} (h : Rd S w v (.bool b)) : v = .bool b := by cases h; rfl
end

end
section
open Go.RowKit Go.ChangeShapes Go.WideShapes
variable {H : Type} {enc : TypeId × Value → H} {P : Program} {W : World} {base : Nat} {sp : Nat → Bool} {held : Bool}

theorem opens_bool {t : TypeId} (ht : P.underlying t = some .bool) : Opens enc P W base sp held t Bool (fun b => [.bool b]) (fun _ => True) (fun _ => 1) := by
 intro fuel cs x h
 obtain ⟨n, rfl, rfl⟩ := DataW.trod_bool ht h
 exact ⟨n, .cons (.bool _) .nil, trivial, by simp [Rows.uptoBulk]⟩
end
section
open Go.RowKit
end
end
section
section
open Go.RowKit Go.Extern.Stop Go.Stop Go.Extern

end
section
open Go.RowKit Go.Extern.Stop Go.Stop Go.Extern
end
section
open Go.RowKit Go.Extern.Stop Go.Stop Go.Extern
def kindI : List (Int × Int) → Int
 | [] => 0
 | x :: _ => x.1
def atI : List (Int × Int) → Int
 | [] => -1
 | x :: _ => x.2
theorem kind_any (v : Value) (c : List (Int × Int)) (w : World) (hg : Glob w) (h : Rd (Own w) w v (errD 119 c)) :
    Calls Tryz.prog 70 #[v] w fun e w' => e = .returned (.int .i64 (kindI c)) ∧ Below w.heap.size w w' := by
 cases c with
 | nil =>
   simp only [errD] at h
   have e := h.nilI_inv
   subst e
   clear h hg
   go_enter Tryz.func70, Tryz.ntmps70
   go_wp2
   go_ret
   exact ⟨rfl, Below.refl _ _⟩
 | cons x r =>
   obtain ⟨k, a⟩ := x
   obtain ⟨b, off, u, rfl, hS, c0, _, _, _⟩ := fault_inv h
   have A := hid (as_box ⟨b, off, none⟩ w hg)
   have hS' : b < w.heap.size := hS
   clear h hg hS
   go_enter Tryz.func70, Tryz.ntmps70
   go_wp2_with fail
   refine A.out.mono ?_
   rintro e w1 ⟨rfl, hc, hz, hb⟩
   rw [← bcell1 hb hS'] at c0
   have HB := hid hb; clear hb
   go_wp2
   go_ret
   exact ⟨rfl, HB.out⟩
theorem at_any (v : Value) (c : List (Int × Int)) (w : World) (hg : Glob w) (h : Rd (Own w) w v (errD 119 c)) :
    Calls Tryz.prog 71 #[v] w fun e w' => e = .returned (.int .i64 (atI c)) ∧ Below w.heap.size w w' := by
 cases c with
 | nil =>
   simp only [errD] at h
   have e := h.nilI_inv
   subst e
   have hb := hid (ext_alloc (Below.refl w.heap.size w) (.cells #[.pointer none] 119))
   clear h hg
   go_enter Tryz.func71, Tryz.ntmps71
   go_wp2
   go_ret
   exact ⟨rfl, hb.out⟩
 | cons x r =>
   obtain ⟨k, a⟩ := x
   obtain ⟨b, off, u, rfl, hS, _, c1, _, _⟩ := fault_inv h
   have A := hid (as_box ⟨b, off, none⟩ w hg)
   have hS' : b < w.heap.size := hS
   clear h hg hS
   go_enter Tryz.func71, Tryz.ntmps71
   go_wp2_with fail
   refine A.out.mono ?_
   rintro e w1 ⟨rfl, hc, hz, hb⟩
   rw [← bcell1 hb hS'] at c1
   have HB := hid hb; clear hb
   go_wp2
   go_ret
   exact ⟨rfl, HB.out⟩
theorem has_any {S : Nat → Prop} (v : Value) (t : Int) (c : List (Int × Int)) (w : World) (h : Rd S w v (errD 119 c)) :
    Calls Tryz.prog 72 #[v, .int .i64 t] w fun e w' => e = .returned (.bool (isKind c t)) ∧ w = w' := by
 cases c with
 | nil =>
   simp only [errD] at h
   have e := h.nilI_inv
   subst e
   clear h
   go_enter Tryz.func72, Tryz.ntmps72
   go_wp2
   go_ret
   exact ⟨rfl, rfl⟩
 | cons x r =>
   obtain ⟨k, a⟩ := x
   have L := hid (is_any v t ((k, a) :: r) w h)
   obtain ⟨b, off, u, rfl, _⟩ := fault_inv h
   clear h
   go_enter Tryz.func72, Tryz.ntmps72
   go_wp2_with fail
   refine L.out.mono ?_
   rintro e w1 ⟨rfl, rfl⟩
   go_wp2
   go_ret
   exact ⟨rfl, rfl⟩
end
section
open Go.ChangeShapes Go.WideShapes Go.RowKit
end
end
section
open Go.RowKit
theorem drewN_add (w : World) (a b : Nat) : (w.drewN a).drewN b = w.drewN (a + b) := by simp [World.drewN, Nat.add_assoc]
end
section
section
open Go.RowKit
end
section
open Go.RowKit
end
section
open Go.RowKit
section
variable {n : List Nat} {ts : List (List Nat)}
end
end
section
open Go.RowKit
end
section
open Go.RowKit
end
section
open Go.RowKit
theorem asciiL_len {b t : List Nat} (h : asciiL b = .ok t) : t.length ≤ 63 := (rightL_zero (ascii_ok h)).2.1
end
section
open Go.RowKit
end
end
section
section
open Go.RowKit
theorem decL_cons (r n : Nat) : decL (r + 1) n = UInt8.ofNat (48 + n / 10 ^ r % 10) :: decL r n := by
 unfold decL
 rw [List.range_succ_eq_map, List.map_cons, List.map_map]
 congr 1
 refine List.map_congr_left (fun j _ => ?_)
 show UInt8.ofNat (48 + n / 10 ^ (r + 1 - 1 - (j + 1)) % 10) = _
 congr 5
 omega
theorem decS_cons (r n : Nat) : (⟨#[UInt8.ofNat (48 + n / 10 ^ r % 10)]⟩ : ByteArray) ++ decS r n = decS (r + 1) n := by
 have : ∀ (a : UInt8) (l : List UInt8), (⟨#[a]⟩ : ByteArray) ++ ⟨l.toArray⟩ = ⟨(a :: l).toArray⟩ := fun a l => by
  apply toList_inj
  rw [ByteArray.toList_eq, ByteArray.toList_eq, ByteArray.data_append]
  simp
 unfold decS
 rw [this, decL_cons]
theorem decS_zero (n : Nat) : decS 0 n = ⟨#[]⟩ := rfl
end
section
open Go.RowKit
end
section
open Go.RowKit
end
section
open Go.RowKit
def patText (wild : Bool) (n : List Nat) : List Nat := if wild = true then (if n = [] then [42] else 42 :: 46 :: n) else n
theorem text_first {k : Nat} {t : List Nat} (h : HostOk k t) : (textH k t)[0]?.getD 0 ≠ 42 ∧ textH k t ≠ [] := by
 cases h with
 | name n ts h hn => exact ⟨(name_bytes h _ (first_mem h.pos)).2.2.2.1, h.pos⟩
 | four a h => exact ⟨(name_bytes (quad_name a) _ (first_mem (quad_name a).pos)).2.2.2.1, (quad_name a).pos⟩
 | six g h8 h => exact ⟨by simp [textH], by simp [textH]⟩
theorem pat_back {w : Bool} {n : List Nat} (h : PatOk w n) : patL (patText w n) = .ok w n := by
 cases h with
 | star => rfl
 | wild n h =>
   have hb := host_name_bytes h
   unfold patText
   rw [if_pos rfl, if_neg hb.1]
   unfold patL
   rw [if_neg (by simp), if_pos (by unfold starD; simp)]
   show patH true (canonL n) = _
   have := canon_back h
   rw [show textH 1 n = n from rfl] at this
   rw [this]
   rfl
 | one k t h =>
   have hf := text_first h
   show patL (textH k t) = _
   unfold patL
   rw [if_neg (fun e => by rw [e] at hf; exact hf.1 rfl), if_neg (fun e => by
    unfold starD at e
    have e := of_decide_eq_true e
    have h0 : (textH k t)[0]?.getD 0 = ((textH k t).take 2)[0]?.getD 0 := by rw [List.getElem?_take]; simp
    rw [e] at h0
    exact hf.1 h0), canon_back h]
   rfl
end
section
open Go.RowKit
theorem hexS6_zero (n : Nat) : hexS6 0 n = ⟨#[]⟩ := rfl
end
section
open Go.RowKit
def r6S (g : List Nat) (best size : Nat) (out : List Nat) (i : Nat) : List Nat :=
 if 2 ≤ size ∧ best ≤ i ∧ i < best + size then (if i = best then out ++ [58, 58] else out)
 else (if 0 < i ∧ (size < 2 ∨ i ≠ best + size) then out ++ [58] else out) ++ hexN (g[i]?.getD 0)
def r6 (g : List Nat) : List Nat := (List.range 8).foldl (r6S g (longG g).1 (longG g).2) []
theorem r6_pair (a b c d e f x y best size : Nat) (h : best + size ≤ 8) : (List.range 8).foldl (r6S [a, b, c, d, e, f, x, y] best size) [] = if size < 2 then joinN 58 ([a, b, c, d, e, f, x, y].map hexN) else joinN 58 (([a, b, c, d, e, f, x, y].take best).map hexN) ++ 58 :: 58 :: joinN 58 (([a, b, c, d, e, f, x, y].drop (best + size)).map hexN) := by
 have hr : List.range 8 = [0, 1, 2, 3, 4, 5, 6, 7] := rfl
 rw [hr]
 simp only [List.foldl_cons, List.foldl_nil]
 by_cases hs : size < 2
 · rw [if_pos hs]
   have k : ∀ out i, r6S [a, b, c, d, e, f, x, y] best size out i = (if 0 < i then out ++ [58] else out) ++ hexN ([a, b, c, d, e, f, x, y][i]?.getD 0) := fun out i => by
    unfold r6S
    rw [if_neg (by omega)]
    by_cases h0 : 0 < i
    · rw [if_pos ⟨h0, .inl hs⟩, if_pos h0]
    · rw [if_neg (fun h => h0 h.1), if_neg h0]
   simp [k, joinN]
 · rw [if_neg hs]
   have hb : best = 0 ∨ best = 1 ∨ best = 2 ∨ best = 3 ∨ best = 4 ∨ best = 5 ∨ best = 6 := by omega
   have hz : size = 2 ∨ size = 3 ∨ size = 4 ∨ size = 5 ∨ size = 6 ∨ size = 7 ∨ size = 8 := by omega
   rcases hb with rfl | rfl | rfl | rfl | rfl | rfl | rfl <;> rcases hz with rfl | rfl | rfl | rfl | rfl | rfl | rfl <;> first | (exfalso; omega) | (simp [r6S, joinN])
theorem r6_eq {g : List Nat} (h : g.length = 8) : r6 g = text6 g := by
 obtain ⟨a, b, c, d, e, f, x, y, rfl⟩ := eight h
 have hl := (long_zero (g := [a, b, c, d, e, f, x, y]) rfl).1
 unfold r6 text6
 exact r6_pair a b c d e f x y _ _ hl
end
end
section
section
open Go.RowKit
end
section
open Go.RowKit
end
section
open Go.RowKit
def offG (k : Nat) : Int := if k = 2 then 192 else if k = 3 then 224 else if k = 4 then 240 else 0
def gN (B : ByteArray) (at_ k : Nat) : Nat → Int
 | 0 => (byteAt B at_ : Int) - offG k
 | i + 1 => 64 * gN B at_ k i + (byteAt B (at_ + (i + 1)) : Int) - 128
theorem gN_small (B : ByteArray) (at_ k : Nat) : ∀ i, i < 4 → -100000000 ≤ gN B at_ k i ∧ gN B at_ k i ≤ 100000000 := by
 have ho : 0 ≤ offG k ∧ offG k ≤ 240 := by unfold offG; repeat' split; all_goals omega
 have hb : ∀ i, byteAt B i < 256 := fun i => byteAt_lt B i
 intro i hi
 have h0 := hb at_; have h1 := hb (at_ + 1); have h2 := hb (at_ + 2); have h3 := hb (at_ + 3)
 have hi' : i = 0 ∨ i = 1 ∨ i = 2 ∨ i = 3 := by omega
 rcases hi' with rfl | rfl | rfl | rfl <;> simp only [gN, Nat.zero_add, Nat.reduceAdd] <;> omega
def GsRel (B : ByteArray) (at_ k : Nat) (w : World) (n i : Value) (wr : World) : Prop := ∃ j : Nat, i = .int .i64 j ∧ 1 ≤ j ∧ j ≤ k ∧ n = .int .i64 (gN B at_ k (j - 1)) ∧ w = wr
theorem rguess_any (S : Nat → Prop) (v : Value) (B : ByteArray) (at_ k : Nat) (w : World) (hB : Rd S w v (bytesDB B)) (hz : B.size ≤ 1000000) (hk : 1 ≤ k ∧ k ≤ 4) (ha : at_ + k ≤ B.size) :
    Calls Tryz.prog 242 #[v, .int .i64 at_, .int .i64 k] w fun e w' => e = .returned (.int .i64 (gN B at_ k (k - 1))) ∧ w = w' := by
 obtain ⟨a, c, rfl, _, hac, hcc⟩ := hB.by_inv
 obtain ⟨b, off, rfl, _, hx⟩ := hcc (by omega)
 have x0 := hx at_ (by omega)
 have HX := hid hx
 have hb0 : byteAt B at_ < 256 := byteAt_lt B at_
 have hat : at_ < B.size := by omega
 clear hB hcc hx
 have hk' : k = 1 ∨ k = 2 ∨ k = 3 ∨ k = 4 := by omega
 rcases hk' with rfl | rfl | rfl | rfl
 · have G0 : Hid (gN B at_ 1 0 = (byteAt B at_ : Int) - 0) := hid rfl
   clear hk
   go_enter Tryz.func242, Tryz.ntmps242
   go_wp2_with fail
   go_loopw [7, 8] (GsRel B at_ 1 w) (fun _ i _ => 1 - (intOf i).toNat)
   case atStart => exact ⟨1, rfl, by decide, by decide, by rw [show (1 : Nat) - 1 = 0 from rfl, G0.out]; try simp, rfl⟩
   case round =>
    obtain ⟨j, rfl, hj1, hj, rfl, rfl⟩ := hrel
    have hg := gN_small B at_ 1 (j - 1) (by omega)
    have hn : gN B at_ 1 (j + 1 - 1) = 64 * gN B at_ 1 (j - 1) + (byteAt B (at_ + j) : Int) - 128 := by
     obtain ⟨m, rfl⟩ : ∃ m, j = m + 1 := ⟨j - 1, by omega⟩
     rfl
    have HN := hid hn
    clear hn
    by_cases hlt : j < 1
    · have x1 := HX.out (at_ + j) (by omega)
      have hb1 : byteAt B (at_ + j) < 256 := byteAt_lt B _
      generalize gN B at_ 1 (j - 1) = g at *
      have q1 : IntKind.i64.wrap ((at_ : Int) + (j : Int)) = (at_ : Int) + (j : Int) := i64n _ (by omega)
      have q2 : (0 : Int) ≤ (at_ : Int) + (j : Int) := by omega
      have q3 : ((at_ : Int) + (j : Int)).toNat = at_ + j := by omega
      have q4 : (at_ : Int) + (j : Int) < (B.size : Int) := by omega
      have q5 : IntKind.i64.wrap (64 * g) = 64 * g := i64n _ (by omega)
      have q6 : IntKind.i64.wrap (64 * g + (byteAt B (at_ + j) : Int)) = 64 * g + (byteAt B (at_ + j) : Int) := i64n _ (by omega)
      have q7 : IntKind.i64.wrap (64 * g + (byteAt B (at_ + j) : Int) - 128) = 64 * g + (byteAt B (at_ + j) : Int) - 128 := i64n _ (by omega)
      have t1 : decide ((j : Int) < 1) = true := dcT (by omega)
      have R : GsRel B at_ 1 w (.int .i64 (64 * g + (byteAt B (at_ + j) : Int) - 128)) (.int .i64 (j + 1)) w := ⟨j + 1, by go_num, by omega, by omega, by rw [HN.out], rfl⟩
      have HR := hid R
      clear R
      go_wp2
      refine ⟨?_, by simp [intOf] <;> omega⟩
      first | exact HR.out | ((repeat apply Exists.intro); exact ⟨HR.out, rfl⟩)
    · obtain rfl : j = 1 := by omega
      go_wp2
      go_ret
      exact ⟨rfl, rfl⟩
 · have G0 : Hid (gN B at_ 2 0 = (byteAt B at_ : Int) - 192) := hid rfl
   clear hk
   go_enter Tryz.func242, Tryz.ntmps242
   go_wp2_with fail
   go_loopw [7, 8] (GsRel B at_ 2 w) (fun _ i _ => 2 - (intOf i).toNat)
   case atStart => exact ⟨1, rfl, by decide, by decide, by rw [show (1 : Nat) - 1 = 0 from rfl, G0.out]; try simp, rfl⟩
   case round =>
    obtain ⟨j, rfl, hj1, hj, rfl, rfl⟩ := hrel
    have hg := gN_small B at_ 2 (j - 1) (by omega)
    have hn : gN B at_ 2 (j + 1 - 1) = 64 * gN B at_ 2 (j - 1) + (byteAt B (at_ + j) : Int) - 128 := by
     obtain ⟨m, rfl⟩ : ∃ m, j = m + 1 := ⟨j - 1, by omega⟩
     rfl
    have HN := hid hn
    clear hn
    by_cases hlt : j < 2
    · have x1 := HX.out (at_ + j) (by omega)
      have hb1 : byteAt B (at_ + j) < 256 := byteAt_lt B _
      generalize gN B at_ 2 (j - 1) = g at *
      have q1 : IntKind.i64.wrap ((at_ : Int) + (j : Int)) = (at_ : Int) + (j : Int) := i64n _ (by omega)
      have q2 : (0 : Int) ≤ (at_ : Int) + (j : Int) := by omega
      have q3 : ((at_ : Int) + (j : Int)).toNat = at_ + j := by omega
      have q4 : (at_ : Int) + (j : Int) < (B.size : Int) := by omega
      have q5 : IntKind.i64.wrap (64 * g) = 64 * g := i64n _ (by omega)
      have q6 : IntKind.i64.wrap (64 * g + (byteAt B (at_ + j) : Int)) = 64 * g + (byteAt B (at_ + j) : Int) := i64n _ (by omega)
      have q7 : IntKind.i64.wrap (64 * g + (byteAt B (at_ + j) : Int) - 128) = 64 * g + (byteAt B (at_ + j) : Int) - 128 := i64n _ (by omega)
      have t1 : decide ((j : Int) < 2) = true := dcT (by omega)
      have R : GsRel B at_ 2 w (.int .i64 (64 * g + (byteAt B (at_ + j) : Int) - 128)) (.int .i64 (j + 1)) w := ⟨j + 1, by go_num, by omega, by omega, by rw [HN.out], rfl⟩
      have HR := hid R
      clear R
      go_wp2
      refine ⟨?_, by simp [intOf] <;> omega⟩
      first | exact HR.out | ((repeat apply Exists.intro); exact ⟨HR.out, rfl⟩)
    · obtain rfl : j = 2 := by omega
      go_wp2
      go_ret
      exact ⟨rfl, rfl⟩
 · have G0 : Hid (gN B at_ 3 0 = (byteAt B at_ : Int) - 224) := hid rfl
   clear hk
   go_enter Tryz.func242, Tryz.ntmps242
   go_wp2_with fail
   go_loopw [7, 8] (GsRel B at_ 3 w) (fun _ i _ => 3 - (intOf i).toNat)
   case atStart => exact ⟨1, rfl, by decide, by decide, by rw [show (1 : Nat) - 1 = 0 from rfl, G0.out]; try simp, rfl⟩
   case round =>
    obtain ⟨j, rfl, hj1, hj, rfl, rfl⟩ := hrel
    have hg := gN_small B at_ 3 (j - 1) (by omega)
    have hn : gN B at_ 3 (j + 1 - 1) = 64 * gN B at_ 3 (j - 1) + (byteAt B (at_ + j) : Int) - 128 := by
     obtain ⟨m, rfl⟩ : ∃ m, j = m + 1 := ⟨j - 1, by omega⟩
     rfl
    have HN := hid hn
    clear hn
    by_cases hlt : j < 3
    · have x1 := HX.out (at_ + j) (by omega)
      have hb1 : byteAt B (at_ + j) < 256 := byteAt_lt B _
      generalize gN B at_ 3 (j - 1) = g at *
      have q1 : IntKind.i64.wrap ((at_ : Int) + (j : Int)) = (at_ : Int) + (j : Int) := i64n _ (by omega)
      have q2 : (0 : Int) ≤ (at_ : Int) + (j : Int) := by omega
      have q3 : ((at_ : Int) + (j : Int)).toNat = at_ + j := by omega
      have q4 : (at_ : Int) + (j : Int) < (B.size : Int) := by omega
      have q5 : IntKind.i64.wrap (64 * g) = 64 * g := i64n _ (by omega)
      have q6 : IntKind.i64.wrap (64 * g + (byteAt B (at_ + j) : Int)) = 64 * g + (byteAt B (at_ + j) : Int) := i64n _ (by omega)
      have q7 : IntKind.i64.wrap (64 * g + (byteAt B (at_ + j) : Int) - 128) = 64 * g + (byteAt B (at_ + j) : Int) - 128 := i64n _ (by omega)
      have t1 : decide ((j : Int) < 3) = true := dcT (by omega)
      have R : GsRel B at_ 3 w (.int .i64 (64 * g + (byteAt B (at_ + j) : Int) - 128)) (.int .i64 (j + 1)) w := ⟨j + 1, by go_num, by omega, by omega, by rw [HN.out], rfl⟩
      have HR := hid R
      clear R
      go_wp2
      refine ⟨?_, by simp [intOf] <;> omega⟩
      first | exact HR.out | ((repeat apply Exists.intro); exact ⟨HR.out, rfl⟩)
    · obtain rfl : j = 3 := by omega
      go_wp2
      go_ret
      exact ⟨rfl, rfl⟩
 · have G0 : Hid (gN B at_ 4 0 = (byteAt B at_ : Int) - 240) := hid rfl
   clear hk
   go_enter Tryz.func242, Tryz.ntmps242
   go_wp2_with fail
   go_loopw [7, 8] (GsRel B at_ 4 w) (fun _ i _ => 4 - (intOf i).toNat)
   case atStart => exact ⟨1, rfl, by decide, by decide, by rw [show (1 : Nat) - 1 = 0 from rfl, G0.out]; try simp, rfl⟩
   case round =>
    obtain ⟨j, rfl, hj1, hj, rfl, rfl⟩ := hrel
    have hg := gN_small B at_ 4 (j - 1) (by omega)
    have hn : gN B at_ 4 (j + 1 - 1) = 64 * gN B at_ 4 (j - 1) + (byteAt B (at_ + j) : Int) - 128 := by
     obtain ⟨m, rfl⟩ : ∃ m, j = m + 1 := ⟨j - 1, by omega⟩
     rfl
    have HN := hid hn
    clear hn
    by_cases hlt : j < 4
    · have x1 := HX.out (at_ + j) (by omega)
      have hb1 : byteAt B (at_ + j) < 256 := byteAt_lt B _
      generalize gN B at_ 4 (j - 1) = g at *
      have q1 : IntKind.i64.wrap ((at_ : Int) + (j : Int)) = (at_ : Int) + (j : Int) := i64n _ (by omega)
      have q2 : (0 : Int) ≤ (at_ : Int) + (j : Int) := by omega
      have q3 : ((at_ : Int) + (j : Int)).toNat = at_ + j := by omega
      have q4 : (at_ : Int) + (j : Int) < (B.size : Int) := by omega
      have q5 : IntKind.i64.wrap (64 * g) = 64 * g := i64n _ (by omega)
      have q6 : IntKind.i64.wrap (64 * g + (byteAt B (at_ + j) : Int)) = 64 * g + (byteAt B (at_ + j) : Int) := i64n _ (by omega)
      have q7 : IntKind.i64.wrap (64 * g + (byteAt B (at_ + j) : Int) - 128) = 64 * g + (byteAt B (at_ + j) : Int) - 128 := i64n _ (by omega)
      have t1 : decide ((j : Int) < 4) = true := dcT (by omega)
      have R : GsRel B at_ 4 w (.int .i64 (64 * g + (byteAt B (at_ + j) : Int) - 128)) (.int .i64 (j + 1)) w := ⟨j + 1, by go_num, by omega, by omega, by rw [HN.out], rfl⟩
      have HR := hid R
      clear R
      go_wp2
      refine ⟨?_, by simp [intOf] <;> omega⟩
      first | exact HR.out | ((repeat apply Exists.intro); exact ⟨HR.out, rfl⟩)
    · obtain rfl : j = 4 := by omega
      go_wp2
      go_ret
      exact ⟨rfl, rfl⟩
end
section
open Go.RowKit
theorem gN_guess (B : ByteArray) (a k : Nat) (h1 : 1 ≤ k) (h4 : k ≤ 4) : gN B a k (k - 1) = guessN (byteAt B a) (byteAt B (a + 1)) (byteAt B (a + 2)) (byteAt B (a + 3)) k := by
 have hk : k = 1 ∨ k = 2 ∨ k = 3 ∨ k = 4 := by omega
 rcases hk with rfl | rfl | rfl | rfl
 · show (byteAt B a : Int) - 0 = _
   rw [guess1]; omega
 · rfl
 · rfl
 · rfl
def putB (n : Nat) : ByteArray := ⟨((putN n).map UInt8.ofNat).toArray⟩
theorem putB_list {n : Nat} (h : n < 1114112) : (putB n).data.toList.map (·.toNat) = putN n := by
 unfold putB
 rw [List.toList_toArray, List.map_map]
 conv => rhs; rw [← List.map_id (putN n)]
 apply List.map_congr_left
 intro x hx
 have := putN_lt h x hx
 simp; omega
theorem putB_size (n : Nat) : (putB n).size = (putN n).length := by
 show ((putN n).map UInt8.ofNat).toArray.size = _
 simp
theorem subB_list (B : ByteArray) (a k : Nat) (h4 : k ≤ 4) (h : a + k ≤ B.size) : (subB B a k).data.toList.map (·.toNat) = [byteAt B a, byteAt B (a + 1), byteAt B (a + 2), byteAt B (a + 3)].take k := by
 have hz : B.data.size = B.size := rfl
 apply List.ext_getElem?
 intro j
 by_cases hj : j < k
 · have hb := subB_at B a k j hj
   have hsz := subB_size B a k h
   have hl : j < (subB B a k).data.size := by show j < (subB B a k).size; omega
   rw [List.getElem?_map, Array.getElem?_toList, Array.getElem?_eq_getElem hl, Option.map_some, List.getElem?_take, if_pos hj]
   have e : (subB B a k).data[j].toNat = byteAt B (a + j) := by
    rw [← hb]; unfold byteAt; rw [Array.getElem?_eq_getElem hl]; rfl
   rw [e]
   have hj' : j = 0 ∨ j = 1 ∨ j = 2 ∨ j = 3 := by omega
   rcases hj' with rfl | rfl | rfl | rfl <;> rfl
 · have hsz := subB_size B a k h
   have hl : ¬ j < (subB B a k).data.size := by show ¬ j < (subB B a k).size; omega
   rw [List.getElem?_map, Array.getElem?_toList, Array.getElem?_eq_none (by omega), List.getElem?_take, if_neg hj]
   rfl
theorem list_toNat_inj : ∀ {x y : List UInt8}, x.map (·.toNat) = y.map (·.toNat) → x = y
 | [], [], _ => rfl
 | [], _ :: _, h => by simp at h
 | _ :: _, [], h => by simp at h
 | a :: x, b :: y, h => by
   simp only [List.map_cons, List.cons.injEq] at h
   rw [UInt8.toNat.inj h.1, list_toNat_inj h.2]
theorem put_sub {n : Nat} (hn : n < 1114112) (B : ByteArray) (a k : Nat) (h4 : k ≤ 4) (h : a + k ≤ B.size) : ((putB n).toList == (subB B a k).toList) = (putN n == [byteAt B a, byteAt B (a + 1), byteAt B (a + 2), byteAt B (a + 3)].take k) := by
 have h1 := putB_list hn; have h2 := subB_list B a k h4 h
 by_cases he : putB n = subB B a k
 · rw [beqS_t he, ← h1, he, h2]; exact (beq_self_eq_true _).symm
 · rw [beqS_f he]
   symm
   apply bneI.2
   intro hx
   rw [← h1, ← h2] at hx
   apply he
   have := list_toNat_inj hx
   cases hp : putB n with | mk d1 => 
   cases hs : subB B a k with | mk d2 =>
   rw [hp, hs] at this
   have : d1 = d2 := Array.toList_inj.1 this
   rw [this]
theorem put_cells {n : Nat} (hn : n < 1114112) (W : World) : ∀ j, j < (putN n).length → (W.alloc (.cells (putV n) 5)).cell? ⟨W.heap.size, 0 + j, none⟩ = some (.int .u8 (byteAt (putB n) j)) := by
 intro j hj
 apply new_cells
 have hl := putB_list hn
 have hd : j < (putB n).data.size := by show j < (putB n).size; rw [putB_size]; exact hj
 have e : (putN n)[j]? = some (byteAt (putB n) j) := by
  rw [← hl, List.getElem?_map, Array.getElem?_toList, Array.getElem?_eq_getElem hd]
  unfold byteAt; rw [Array.getElem?_eq_getElem hd]; rfl
 unfold putV
 rw [List.toList_toArray, List.getElem?_map, e]; rfl
def nxN (B : ByteArray) (a : Nat) : Nat × Nat := if decU B a = (65533, 1) then (0, 0) else decU B a
abbrev hitB (B : ByteArray) (a k : Nat) : Bool := hitN (byteAt B a) (byteAt B (a + 1)) (byteAt B (a + 2)) (byteAt B (a + 3)) k
theorem nx_hit {B : ByteArray} {a k n : Nat} (ha : a < B.size) (h1 : 1 ≤ k) (h4 : k ≤ 4) (hk : a + k ≤ B.size) (hh : hitB B a k = true) (hn : gN B a k (k - 1) = (n : Int)) : nxN B a = (n, k) := by
 obtain ⟨e1, e2⟩ := decode_hit (byteAt_lt B a) (byteAt_lt B (a + 1)) (byteAt_lt B (a + 2)) (B.size - a) (by omega) k h1 h4 (by omega) hh
 rw [gN_guess B a k h1 h4] at hn
 rw [hn, Int.toNat_natCast] at e1 e2
 unfold nxN decU
 rw [e1, if_neg e2]
theorem nx_none {B : ByteArray} {a : Nat} (ha : a < B.size) (h : ∀ k, 1 ≤ k → k ≤ 4 → a + k ≤ B.size → hitB B a k = false) : nxN B a = (0, 0) := by
 have := decode_none (byteAt_lt B a) (byteAt_lt B (a + 1)) (byteAt_lt B (a + 2)) (B.size - a) (by omega) (fun k h1 h4 hk => h k h1 h4 (by omega))
 unfold nxN decU
 rw [if_pos this]
end
section
open Go.RowKit
def NcRel (B : ByteArray) (a : Nat) (w : World) (i : Value) (wr : World) : Prop := ∃ k : Nat, i = .int .i64 k ∧ 1 ≤ k ∧ k ≤ 5 ∧ (∀ m, 1 ≤ m → m < k → a + m ≤ B.size → hitB B a m = false) ∧ Below w.heap.size w wr
theorem rnext_any (v : Value) (B : ByteArray) (a : Nat) (w : World) (hB : Rd (Own w) w v (bytesDB B)) (hz : B.size ≤ 1000000) (ha : a < B.size) :
    Calls Tryz.prog 205 #[v, .int .i64 a] w fun e w' => e = .returned (.tuple #[.int .i64 (nxN B a).1, .int .i64 (nxN B a).2]) ∧ Below w.heap.size w w' := by
 have HB := hid (fun W (hO : Below w.heap.size w W) => hB.ext hO)
 obtain ⟨av, c, rfl, _, hac, hcc⟩ := hB.by_inv
 obtain ⟨b, off, rfl, hSb, hx⟩ := hcc (by omega)
 have HX := hid hx
 have hSb' : b < w.heap.size := hSb
 clear hB hcc hx
 go_enter Tryz.func205, Tryz.ntmps205
 go_wp2_with fail
 go_loopw [6] (NcRel B a w) (fun i _ => 5 - (intOf i).toNat)
 case atStart => exact ⟨1, rfl, by decide, by decide, fun m h1 h2 => by omega, Below.refl _ _⟩
 case round =>
  obtain ⟨k, rfl, hk1, hk5, hn, hb⟩ := hrel
  have HN := hid hn; have HBW := hid hb
  have hzr := hb.size
  clear hn hb
  by_cases hk4 : k ≤ 4
  · have t1 : decide (k ≤ 4) = true := dcT hk4
    have t1' : decide ((k : Int) ≤ 4) = true := dcT (by omega)
    have q1 : IntKind.i64.wrap ((a : Int) + (k : Int)) = (a : Int) + (k : Int) := i64n _ (by omega)
    by_cases hk : a + k ≤ B.size
    · have t2 : decide ((a : Int) + (k : Int) ≤ (B.size : Int)) = true := dcT (by omega)
      have HG := rguess_any _ _ B a k wr (HB.out wr HBW.out) hz ⟨hk1, hk4⟩ hk
      have hg := gN_small B a (k) (k - 1) (by omega)
      have hh : hitB B a k = (rightN (gN B a k (k - 1)) && (putN (gN B a k (k - 1)).toNat == [byteAt B a, byteAt B (a + 1), byteAt B (a + 2), byteAt B (a + 3)].take k)) := by
       rw [gN_guess B a k hk1 hk4]; rfl
      have hhit : ∀ n : Nat, gN B a k (k - 1) = (n : Int) → hitB B a k = true → nxN B a = (n, k) := fun n h1 h2 => nx_hit ha hk1 hk4 hk h2 h1
      have step : hitB B a k = false → ∀ W, Below w.heap.size w W → NcRel B a w (.int .i64 (k + 1)) W := fun hf W hW => ⟨k + 1, by go_num, by omega, by omega, fun m h1 h2 h3 => by
       by_cases e : m = k
       · subst e; exact hf
       · exact HN.out m h1 (by omega) h3, hW⟩
      generalize gN B a k (k - 1) = g at *
      have HGG := hid HG
      clear HG
      have HRI := hid (fun W => rright_any g W)
      cases hr : rightN g with
      | false =>
        rw [hr, Bool.false_and] at hh
        have HST := hid (step hh)
        rw [hr] at HRI
        clear hh hhit step hr hg
        go_wp2_with fail
        refine HGG.out.mono ?_
        rintro e w1 ⟨rfl, rfl⟩
        go_wp2
        go_quiet ((go_at_call 192; exact quiet_eq (HRI.out _)))
        go_wp2
        refine ⟨?_, by simp [intOf] <;> omega⟩
        have R := fun m => HST.out (wr.drewN m) (ext_drewN m HBW.out)
        first | exact R _ | ((repeat apply Exists.intro); exact ⟨R _, rfl⟩)
      | true =>
        rw [hr, Bool.true_and] at hh
        obtain ⟨n, rfl, hn⟩ : ∃ n : Nat, g = (n : Int) ∧ n < 1114112 := by
         have := (right_iff g).1 hr
         exact ⟨g.toNat, by omega, by omega⟩
        rw [Int.toNat_natCast] at hh
        have hps := put_sub hn B a k hk4 hk
        rw [← hh] at hps
        rw [hr] at HRI
        have HP := fun W => rput_any n hn W
        obtain ⟨C, hC⟩ : ∃ C, C = Obj.cells (putV n) 5 (0, 0) := ⟨_, rfl⟩
        have hpc := put_cells hn wr
        have hpl := putB_size n
        rw [← hC] at hpc
        have HP' : ∀ W, Calls Tryz.prog 193 #[.int .i64 n] W fun e w' => e = .returned (.slice (some ⟨W.heap.size, 0, none⟩) (putN n).length (putN n).length) ∧ w' = W.alloc C := by rw [hC]; exact HP
        generalize (putN n).length = L at hpc hpl HP'
        generalize putB n = P1 at *
        have cvA := bytes_back (wr.alloc C).drew wr.heap.size 0 L L P1 hpl (fun j hj => hpc j hj)
        obtain ⟨a', c', e1, _, _, hc⟩ := (HB.out wr HBW.out).by_inv
        cases e1
        obtain ⟨b', off', e2, _, x0⟩ := hc (by omega)
        cases e2
        have cvB := bytes_back wr.drew b (off + a) k (c - a) (subB B a k) (subB_size B a k hk) (fun j hj => by
         rw [subB_at B a k j hj, Nat.add_assoc]; exact x0 (a + j) (by omega))
        have cvB2 := bytes_back (wr.alloc C).drew b (off + a) k (c - a) (subB B a k) (subB_size B a k hk) (fun j hj => by
         rw [subB_at B a k j hj, Nat.add_assoc]; exact cell_alloc C (x0 (a + j) (by omega)))
        generalize subB B a k = P2 at *
        have HPP := hid HP'
        have HW1 := hid (fun hf => step hf (wr.alloc C).drew (ext_drewN 1 (ext_alloc HBW.out C)))
        have HHI := hid (hhit n rfl)
        have q5 : (a : Int) + (k : Int) ≤ (c : Int) := by omega
        have q6 : a + k ≤ c := by omega
        have q7 : (a : Int) ≤ (a : Int) + (k : Int) := by omega
        have q8 : ((a : Int) + (k : Int)).toNat = a + k := by omega
        clear hh hhit step hr hg HP hC hpc hpl HP' hc x0 hn
        have hbd : Below w.heap.size w (wr.alloc C).drew := ext_drewN 1 (ext_alloc HBW.out C)
        have HBD := hid hbd
        clear hbd
        have q9 : ¬ c = a := by omega
        obtain ⟨hv, hhv⟩ : ∃ x, hitB B a k = x := ⟨_, rfl⟩
        rw [hhv] at hps
        have HHV := hid hhv
        clear hhv
        go_wp2_with fail
        refine HGG.out.mono ?_
        rintro e w1 ⟨rfl, rfl⟩
        go_wp2_with fail
        refine wp_region_noPanic ?_
        refine wp_region_held_drew (S := fun W => (convert 29 9 (.slice (some ⟨b, off + a, none⟩) k (c - a))).run Tryz.prog W = .ok (.string P2) W) (by kernel_rfl) cvB (fun hHeld => ?_)
        refine wpAnyH_take (i := 0) (oi := _) (v := .int .i64 n) rfl (by kernel_rfl) (by kernel_rfl) (by kernel_rfl) (fun _ _ _ h => h) (Or.inl ⟨by rfl, ?_⟩) hHeld ?_
        · intro w hSw; go_simp
        try simp only [Act.put, List.setIfInBounds_toArray, List.set_cons_zero, List.set_cons_succ, List.getElem_toArray, List.getElem_cons_zero]
        refine wpAnyH_ready (rs := [1]) (by kernel_rfl) (by simp) ?_
        refine AllReadyH.cons (o := _) rfl (fun K hK => ?_) AllReadyH.nil
        go_simp
        refine (HRI.out _).mono ?_; rintro e w' ⟨rfl, rfl⟩
        go_wp2_with fail
        refine hK.out _ _ cvB (fun hHeld => ?_)
        clear hK K
        try simp only [Act.put, List.setIfInBounds_toArray, List.set_cons_zero, List.set_cons_succ, List.getElem_toArray, List.getElem_cons_zero, List.getElem_cons_succ]
        refine wpAnyH_take (i := 2) (oi := _) (v := .bool true) rfl (by kernel_rfl) (by kernel_rfl) (by kernel_rfl) (fun _ _ _ h => h) (Or.inl ⟨by rfl, ?_⟩) hHeld ?_
        · intro w hSw; go_simp
        try simp only [Act.put, List.setIfInBounds_toArray, List.set_cons_zero, List.set_cons_succ, List.getElem_toArray, List.getElem_cons_zero, List.getElem_cons_succ]
        refine wpAnyH_take (i := 3) (oi := _) (v := .int .i64 n) rfl (by kernel_rfl) (by kernel_rfl) (by kernel_rfl) (fun _ _ _ h => h) (Or.inl ⟨by rfl, ?_⟩) hHeld ?_
        · intro w hSw; go_simp
        try simp only [Act.put, List.setIfInBounds_toArray, List.set_cons_zero, List.set_cons_succ, List.getElem_toArray, List.getElem_cons_zero, List.getElem_cons_succ]
        refine wpAnyH_take (i := 6) (oi := _) (v := .slice (some ⟨b, off, none⟩) B.size c) rfl (by kernel_rfl) (by kernel_rfl) (by kernel_rfl) (fun _ _ _ h => h) (Or.inl ⟨by rfl, ?_⟩) hHeld ?_
        · intro w hSw; go_simp
        try simp only [Act.put, List.setIfInBounds_toArray, List.set_cons_zero, List.set_cons_succ, List.getElem_toArray, List.getElem_cons_zero, List.getElem_cons_succ]
        refine wpAnyH_take (i := 7) (oi := _) (v := .int .i64 a) rfl (by kernel_rfl) (by kernel_rfl) (by kernel_rfl) (fun _ _ _ h => h) (Or.inl ⟨by rfl, ?_⟩) hHeld ?_
        · intro w hSw; go_simp
        try simp only [Act.put, List.setIfInBounds_toArray, List.set_cons_zero, List.set_cons_succ, List.getElem_toArray, List.getElem_cons_zero, List.getElem_cons_succ]
        refine wpAnyH_take (i := 8) (oi := _) (v := .int .i64 a) rfl (by kernel_rfl) (by kernel_rfl) (by kernel_rfl) (fun _ _ _ h => h) (Or.inl ⟨by rfl, ?_⟩) hHeld ?_
        · intro w hSw; go_simp
        try simp only [Act.put, List.setIfInBounds_toArray, List.set_cons_zero, List.set_cons_succ, List.getElem_toArray, List.getElem_cons_zero, List.getElem_cons_succ]
        refine wpAnyH_take (i := 9) (oi := _) (v := .int .i64 k) rfl (by kernel_rfl) (by kernel_rfl) (by kernel_rfl) (fun _ _ _ h => h) (Or.inl ⟨by rfl, ?_⟩) hHeld ?_
        · intro w hSw; go_simp
        try simp only [Act.put, List.setIfInBounds_toArray, List.set_cons_zero, List.set_cons_succ, List.getElem_toArray, List.getElem_cons_zero, List.getElem_cons_succ]
        refine wpAnyH_take (i := 10) (oi := _) (v := .int .i64 ((a : Int) + (k : Int))) rfl (by kernel_rfl) (by kernel_rfl) (by kernel_rfl) (fun _ _ _ h => h) (Or.inl ⟨by rfl, ?_⟩) hHeld ?_
        · intro w hSw; go_simp
        try simp only [Act.put, List.setIfInBounds_toArray, List.set_cons_zero, List.set_cons_succ, List.getElem_toArray, List.getElem_cons_zero, List.getElem_cons_succ]
        refine wpAnyH_take (i := 11) (oi := _) (v := .slice (some ⟨b, off + a, none⟩) k (c - a)) rfl (by kernel_rfl) (by kernel_rfl) (by kernel_rfl) (fun _ _ _ h => h) (Or.inl ⟨by rfl, ?_⟩) hHeld ?_
        · intro w hSw; go_simp
        try simp only [Act.put, List.setIfInBounds_toArray, List.set_cons_zero, List.set_cons_succ, List.getElem_toArray, List.getElem_cons_zero, List.getElem_cons_succ]
        refine wpAnyH_take (i := 12) (oi := _) (v := .string P2) rfl (by kernel_rfl) (by kernel_rfl) (by kernel_rfl) (fun _ _ _ h => h) (Or.inl ⟨by rfl, ?_⟩) hHeld ?_
        · intro w hSw; go_simp
        try simp only [Act.put, List.setIfInBounds_toArray, List.set_cons_zero, List.set_cons_succ, List.getElem_toArray, List.getElem_cons_zero, List.getElem_cons_succ]
        refine wpAnyH_ready (rs := [4]) (by kernel_rfl) (by simp) ?_
        refine AllReadyH.cons (o := _) rfl (fun K hK => ?_) AllReadyH.nil
        go_simp
        refine (HPP.out _).mono ?_; rintro e w' ⟨rfl, rfl⟩
        go_wp2_with fail
        refine hK.out _ _ cvB2 (fun hHeld => ?_)
        clear hK K
        try simp only [Act.put, List.setIfInBounds_toArray, List.set_cons_zero, List.set_cons_succ, List.getElem_toArray, List.getElem_cons_zero, List.getElem_cons_succ]
        refine wpAnyH_ready (rs := [5]) (by kernel_rfl) (by simp) ?_
        refine AllReadyH.cons (o := _) rfl (fun K hK => ?_) AllReadyH.nil
        go_simp
        refine hK.out _ _ cvB2 (fun hHeld => ?_)
        clear hK K
        try simp only [Act.put, List.setIfInBounds_toArray, List.set_cons_zero, List.set_cons_succ, List.getElem_toArray, List.getElem_cons_zero, List.getElem_cons_succ]
        refine wpAnyH_take (i := 13) (oi := _) (v := .bool hv) rfl (by kernel_rfl) (by kernel_rfl) (by kernel_rfl) (fun _ _ _ h => h) (Or.inl ⟨by rfl, ?_⟩) hHeld ?_
        · intro w hSw; go_simp
        try simp only [Act.put, List.setIfInBounds_toArray, List.set_cons_zero, List.set_cons_succ, List.getElem_toArray, List.getElem_cons_zero, List.getElem_cons_succ]
        refine wpAnyH_take (i := 14) (oi := _) (v := .bool hv) rfl (by kernel_rfl) (by kernel_rfl) (by kernel_rfl) (fun _ _ _ h => h) (Or.inl ⟨by rfl, ?_⟩) hHeld ?_
        · intro w hSw; go_simp
        try simp only [Act.put, List.setIfInBounds_toArray, List.set_cons_zero, List.set_cons_succ, List.getElem_toArray, List.getElem_cons_zero, List.getElem_cons_succ]
        refine wpAnyH_done (by kernel_rfl) ?_ _
        refine NoPanic.normal ?_
        cases hv with
        | true =>
          have HE := hid (HHI.out HHV.out)
          go_wp2
          go_ret2
          exact ⟨by rw [HE.out]; rfl, HBD.out⟩
        | false =>
          have HR := hid (HW1.out HHV.out)
          go_wp2
          refine ⟨?_, by simp [intOf] <;> omega⟩
          first | exact HR.out | ((repeat apply Exists.intro); exact ⟨HR.out, rfl⟩)
    · have t2 : decide ((a : Int) + (k : Int) ≤ (B.size : Int)) = false := dcF (by omega)
      have HE : Hid (nxN B a = (0, 0)) := hid (nx_none ha (fun m h1 h2 h3 => HN.out m h1 (by omega) h3))
      clear hk
      go_wp2
      go_ret2
      exact ⟨by rw [HE.out]; rfl, HBW.out⟩
  · have t1 : decide (k ≤ 4) = false := dcF hk4
    have t1' : decide ((k : Int) ≤ 4) = false := dcF (by omega)
    have HE : Hid (nxN B a = (0, 0)) := hid (nx_none ha (fun m h1 h2 h3 => HN.out m h1 (by omega) h3))
    clear hk4
    go_wp2
    go_ret2
    exact ⟨by rw [HE.out]; rfl, HBW.out⟩
end
end
section
section
open Go.RowKit
theorem bytesL_list (l : List Nat) : (bytesL l).data.toList = l.map UInt8.ofNat := rfl
end
section
open Go.RowKit
end
section
open Go.RowKit
end
end
section
section
open Go.RowKit
end
section
open Go.RowKit
end
section
open Go.RowKit
theorem g8P_zero (f : Nat → Nat) : g8P f 0 = zero8 := rfl
end
end
section
section
open Go.RowKit
end
section
open Go.RowKit
theorem hptext_any (b : Bool) (n : ByteArray) (w : World) (hn : n.size ≤ 1000000) : Calls Tryz.prog 26 #[.agg #[.bool b, .string n]] w fun e w' => e = .returned (.string (bytesL (patText b (bytesN n)))) ∧ Below w.heap.size w w' := by
 have HB := hid (ext_alloc (Below.refl w.heap.size w) (.cells #[.bool b, .string n] 33))
 unfold patText
 cases b with
 | false =>
   rw [if_neg (by decide), bytesL_bytesN]
   go_enter Tryz.func26, Tryz.ntmps26
   go_wp2
   go_ret
   exact ⟨rfl, HB.out⟩
 | true =>
   rw [if_pos rfl]
   have t2 := bytes_nil_iff n
   by_cases h0 : bytesN n = []
   · rw [dcT h0] at t2
     rw [if_pos h0]
     clear h0 hn
     go_enter Tryz.func26, Tryz.ntmps26
     go_wp2
     go_ret
     exact ⟨rfl, HB.out⟩
   · rw [dcF h0] at t2
     rw [if_neg h0]
     obtain ⟨A, hA⟩ : ∃ A, (⟨#[42, 46]⟩ : ByteArray) ++ n = A := ⟨_, rfl⟩
     have hAe : bytesL (42 :: 46 :: bytesN n) = A := by
      rw [← hA]
      apply toList_inj
      rw [ByteArray.toList_eq, ByteArray.toList_eq]
      have := bytesL_bytesN n
      have h2 : (bytesL (bytesN n)).data.toList = n.data.toList := by rw [this]
      rw [bytesL_list] at h2
      simp [bytesL, ByteArray.data_append, h2]
     rw [hAe]
     clear h0 hAe
     go_enter Tryz.func26, Tryz.ntmps26
     go_wp2
     go_ret
     exact ⟨rfl, HB.out⟩
end
end
section
section
open Go.RowKit
theorem rptext_any (b : Bool) (n : ByteArray) (w : World) (hn : n.size ≤ 1000000) : Calls Tryz.prog 27 #[.agg #[.bool b, .string n]] w fun e w' => e = .returned (.string (bytesL (patText b (bytesN n)))) ∧ Below w.heap.size w w' := by
 have HB := hid (ext_alloc (Below.refl w.heap.size w) (.cells #[.bool b, .string n] 33))
 unfold patText
 cases b with
 | false =>
   rw [if_neg (by decide), bytesL_bytesN]
   go_enter Tryz.func27, Tryz.ntmps27
   go_wp2
   go_ret
   exact ⟨rfl, HB.out⟩
 | true =>
   rw [if_pos rfl]
   have t2 := bytes_nil_iff n
   by_cases h0 : bytesN n = []
   · rw [dcT h0] at t2
     rw [if_pos h0]
     clear h0 hn
     go_enter Tryz.func27, Tryz.ntmps27
     go_wp2
     go_ret
     exact ⟨rfl, HB.out⟩
   · rw [dcF h0] at t2
     rw [if_neg h0]
     obtain ⟨A, hA⟩ : ∃ A, (⟨#[42, 46]⟩ : ByteArray) ++ n = A := ⟨_, rfl⟩
     have hAe : bytesL (42 :: 46 :: bytesN n) = A := by
      rw [← hA]
      apply toList_inj
      rw [ByteArray.toList_eq, ByteArray.toList_eq]
      have := bytesL_bytesN n
      have h2 : (bytesL (bytesN n)).data.toList = n.data.toList := by rw [this]
      rw [bytesL_list] at h2
      simp [bytesL, ByteArray.data_append, h2]
     rw [hAe]
     clear h0 hAe
     go_enter Tryz.func27, Tryz.ntmps27
     go_wp2
     go_ret
     exact ⟨rfl, HB.out⟩
end
section
open Go.RowKit
end
section
open Go.RowKit
theorem rsmallB_any (c : Nat) (w : World) (hc : c < 256) : Calls Tryz.prog 155 #[.int .u8 c] w fun e w' => e = .returned (.int .u8 (lowN c : Nat)) ∧ w' = w := by
 obtain ⟨r, hr⟩ : ∃ r, lowN c = r := ⟨_, rfl⟩
 rw [hr]
 unfold lowN at hr
 by_cases h1 : 65 ≤ c
 · have t1 : decide ((65 : Int) ≤ (c : Int)) = true := dcT (by omega)
   have t1' : decide (65 ≤ c) = true := dcT h1
   by_cases h2 : c ≤ 90
   · have t2 : decide ((c : Int) ≤ 90) = true := dcT (by omega)
     have t2' : decide (c ≤ 90) = true := dcT h2
     rw [if_pos ⟨h1, h2⟩] at hr
     have q : IntKind.u8.wrap ((c : Int) + 32) = (r : Nat) := by rw [IntWalk.u8_in _ (by omega)]; omega
     clear hr h1 h2 hc
     go_enter Tryz.func155, Tryz.ntmps155
     go_wp2
     go_ret
     exact ⟨rfl, rfl⟩
   · have t2 : decide ((c : Int) ≤ 90) = false := dcF (by omega)
     have t2' : decide (c ≤ 90) = false := dcF h2
     rw [if_neg (by omega)] at hr
     subst hr
     clear h1 h2 hc
     go_enter Tryz.func155, Tryz.ntmps155
     go_wp2
     go_ret
     exact ⟨rfl, rfl⟩
 · have t1 : decide ((65 : Int) ≤ (c : Int)) = false := dcF (by omega)
   have t1' : decide (65 ≤ c) = false := dcF h1
   rw [if_neg (by omega)] at hr
   subst hr
   clear h1 hc
   go_enter Tryz.func155, Tryz.ntmps155
   go_wp2
   go_ret
   exact ⟨rfl, rfl⟩
def nbV (l : List Nat) : List Value := l.map fun n : Nat => .int .u8 (n : Int)
theorem nbV_app (a b : List Nat) : nbV (a ++ b) = nbV a ++ nbV b := List.map_append
theorem own_text {w : World} {base : Nat} {v : Value} {l : List Nat} (h : w.ownsRow base 5 1 v l.length (nbV l)) (hl : ByteL l) : (convert 29 9 v).run Tryz.prog w = .ok (.string (bytesL l)) w := by
 obtain ⟨ao, cap, rfl, hao⟩ := aown_form h
 rcases hao with ⟨h0, rfl⟩ | ⟨g, rfl, _⟩
 · obtain rfl := List.eq_nil_of_length_eq_zero h0
   exact run_convert_bytes_nil (P := Tryz.prog) (w := w) 29 5 Tryz.underlying29 Tryz.underlying5 _ _ _ Tryz.underlying9
 · refine bytes_back w g 0 l.length cap (bytesL l) (bytesL_size l) (fun j hj => ?_)
   rw [Nat.zero_add, h.cellAt j (by simpa using hj)]
   unfold nbV
   rw [List.getElem?_map, bytesL_byteAt hl, List.getElem?_eq_getElem hj]
   rfl
def RlRel (s : ByteArray) (w : World) (lv iv : Value) (wr : World) : Prop := ∃ (j : Nat) (l : List Nat), iv = .int .i64 j ∧ j ≤ s.size ∧ l = ((bytesN s).take j).map lowN ∧ l.length = j ∧ wr.ownsRow w.heap.size 5 1 lv l.length (nbV l) ∧ Below w.heap.size w wr
theorem rlower_any (s : ByteArray) (w : World) (hs : s.size ≤ 1000000) : Calls Tryz.prog 91 #[.string s] w fun e w' => e = .returned (.string (bytesL ((bytesN s).map lowN))) ∧ Below w.heap.size w w' := by
 obtain ⟨W1, hW1⟩ : ∃ W, w.alloc (.cells #[] 5) = W := ⟨_, rfl⟩
 have hb1 : Below w.heap.size w W1 := by rw [← hW1]; exact ext_alloc (Below.refl _ _) _
 have ho1 : W1.ownsRow w.heap.size 5 1 (.slice (some ⟨w.heap.size, 0, none⟩) 0 0) 0 (nbV []) := ⟨rfl, .inr ⟨w.heap.size, 0, #[], rfl, Nat.le_refl _, by rw [← hW1]; exact heap_alloc_new w _, Nat.le_refl _, Nat.zero_le _, rfl, rfl⟩⟩
 have HR0 : Hid (RlRel s w (.slice (some ⟨w.heap.size, 0, none⟩) 0 0) (.int .i64 0) W1) := hid ⟨0, [], rfl, Nat.zero_le _, rfl, rfl, ho1, hb1⟩
 have SM := hid (fun c (hc : c < 256) W => rsmallB_any c W hc)
 obtain ⟨Z, hZ⟩ : ∃ Z, bytesL ((bytesN s).map lowN) = Z := ⟨_, rfl⟩
 rw [hZ]
 have HZ := hid hZ
 clear hb1 ho1 hZ
 go_enter Tryz.func91, Tryz.ntmps91
 go_wp2_with fail
 go_loopw [3, 4] (RlRel s w) (fun _ i _ => s.size - (intOf i).toNat)
 case atStart => exact HR0.out
 case round =>
  obtain ⟨j, l, rfl, hj, hle, hll, ho, hb⟩ := hrel
  obtain ⟨ao, lcap, rfl, _⟩ := aown_form ho
  have HO := hid ho; have HB := hid hb; have HL := hid hle; have HLL := hid hll
  have hzW := hb.size
  by_cases hlt : j < s.size
  · obtain ⟨t1, t1'⟩ := ltT j s.size hlt
    have q1 := inc j (by omega)
    have hg0 : (s[j]'hlt).toNat = byteAt s j := (byteAt_get s j hlt).symm
    have hnext : ((bytesN s).take (j + 1)).map lowN = l ++ [lowN (byteAt s j)] := by
     rw [take_one_more _ _ (byteAt s j) (bytesN_get hlt), List.map_append, hle]; rfl
    have SM1 := hid (SM.out (byteAt s j) (byteAt_lt s j) wr)
    obtain ⟨c, hcc⟩ : ∃ c, byteAt s j = c := ⟨_, rfl⟩
    obtain ⟨y, hy⟩ : ∃ y, lowN c = y := ⟨_, rfl⟩
    rw [hcc] at hg0 hnext SM1
    rw [hy] at hnext SM1
    have HNX := hid hnext
    clear hcc hy ho hb hle hnext hll
    go_wp2_with fail
    refine SM1.out.mono ?_
    rintro e w2 ⟨rfl, rfl⟩
    go_wp2_with (at_builtin; refine wpList_app1 w2 #[.int .u8 (y : Nat)] 5 rfl _ _ 29 rfl w.heap.size elByte _ _ _ rfl HO.out rfl rfl ?c1 ?c2 ?c3 ?c4 ?_)
    case c1 => first | rfl | (intro u hu; simp at hu; subst hu; rfl)
    case c2 => have := HLL.out; unfold maxLen; omega
    case c3 => have := HLL.out; omega
    case c4 => exact HB.out.size
    intro v2 w3 ho2 hg2
    have hb2 : Below w.heap.size w w3 := (ext_alloc HB.out _).grown hg2 (ext_alloc HB.out _).size (fun k hk => (HO.out.lt k hk).1)
    have R' : RlRel s w v2 (.int .i64 ((j : Int) + 1)) w3 := ⟨j + 1, l ++ [y], by go_num, hlt, HNX.out.symm, by rw [List.length_append, HLL.out]; rfl, by
     rw [List.length_append, nbV_app]; exact ho2, hb2⟩
    have HRL := hid R'
    obtain ⟨a2, c2, rfl, _⟩ := aown_form ho2
    clear R' ho2 hg2 hb2
    go_wp2
    refine ⟨?_, by simp [intOf]; omega⟩
    first | exact HRL.out | ((repeat apply Exists.intro); exact ⟨HRL.out, rfl⟩)
  · obtain ⟨t1, t1'⟩ := ltF j s.size hlt
    obtain rfl : j = s.size := by omega
    have hfin : l = (bytesN s).map lowN := by rw [hle, List.take_of_length_le (by rw [bytesN_len]; exact Nat.le_refl _)]
    have cv := own_text ho (by rw [hfin]; exact byteL_lowB s)
    rw [hfin] at cv
    rw [← hfin, HLL.out, hfin] at cv
    rw [HZ.out] at cv
    rw [HLL.out]
    clear ho hb hle hlt hfin hll
    go_wp2
    go_ret
    exact ⟨rfl, HB.out⟩
end
end
end Go.Proofs.YtbeodjipdpcaiaaGreatDoor
