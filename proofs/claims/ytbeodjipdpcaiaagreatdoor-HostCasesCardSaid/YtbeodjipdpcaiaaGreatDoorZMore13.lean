
/- Further items of ZLib0s, ZLab0s, ZDec0s, ZHsw4s. -/
import Derived.Test.YtbeodjipdpcaiaaGreatDoorZLib0s
import Derived.WalkKit
import Derived.Lib.Hide
import Derived.Deep.QuietTactic
import Derived.BigQuiet
import Derived.ProofKit
import Derived.OpenShut
import Derived.Lib.LaidTab
import Derived.Test.YtbeodjipdpcaiaaGreatDoorZLab0s
import Derived.Lib.Strings
import Derived.Test.YtbeodjipdpcaiaaGreatDoorZDec0s
import Derived.Test.YtbeodjipdpcaiaaGreatDoorZHsw4s
-- @auto
namespace Go.Proofs.YtbeodjipdpcaiaaGreatDoor
section
section
open Go.RowKit

section
variable {S : Nat → Prop} {w : World} {v : Value}
end

end
section
open Go.RowKit Go.ChangeShapes Go.WideShapes
variable {H : Type} {enc : TypeId × Value → H} {P : Program} {W : World} {base : Nat} {sp : Nat → Bool} {held : Bool}

theorem opens_int {t : TypeId} {k : IntKind} (ht : P.underlying t = some (.int k)) : Opens enc P W base sp held t Int (fun n => [.int k n]) (fun n => (Lit.int k n).wf = true) (fun _ => 1) := by
  intro fuel cs x h
  obtain ⟨n, rfl, rfl, hw⟩ := DataW.trod_int ht h
  exact ⟨n, .cons (.int _ _) .nil, hw, by simp [Rows.uptoBulk]⟩
end
section
open Go.RowKit
end
end
section
section
open Go.RowKit
theorem splitN_map {m : Nat} {f : Nat → Nat} (hf : ∀ c, f c = m ↔ c = m) : ∀ l : List Nat, splitN m (l.map f) = (splitN m l).map (List.map f)
  | [] => rfl
  | c :: l => by
    have ih := splitN_map hf l
    rw [List.map_cons, splitN, splitN]
    by_cases h : c = m
    · rw [if_pos ((hf c).2 h), if_pos h, ih]; rfl
    · rw [if_neg (fun e => h ((hf c).1 e)), if_neg h, ih]
      cases splitN m l with
      | nil => rfl
      | cons a t => rfl
end
section
open Go.RowKit
end
section
open Go.RowKit
section
variable {n : List Nat} {ts : List (List Nat)}
/-- Great and small letters make no difference. -/
theorem NameOk.great (h : NameOk n ts) {b : List Nat} (hb : b.map lowN = n) : nameL b = .ok n ∧ nameL (b ++ [46]) = .ok n := by
  have hs : (splitN 46 b).map (List.map lowN) = ts := by
    rw [← splitN_map (m := 46) (f := lowN) (fun c => by unfold lowN; split <;> omega), hb, h.split]
  have hp : Parts b ts := by
    refine ⟨by rw [← hs, List.length_map], fun i p t hp ht => ?_⟩
    have e : p.map lowN = t := by
      rw [← hs, List.getElem?_map, hp] at ht
      exact Option.some.inj ht
    have hr := h.right t (List.mem_of_getElem? ht)
    have hsm : ∀ c ∈ p, c < 128 := fun c hc => by
      have : lowN c ∈ t := by rw [← e]; exact List.mem_map_of_mem hc
      have := small_lt ((rightL_zero hr).2.2.1 _ this)
      exact lowN_lt.1 (by omega)
    unfold asciiL
    rw [charsL_small hsm]
    simp only
    rw [if_pos (List.all_eq_true.2 (fun c hc => decide_eq_true (hsm c hc))), e, hr]
  have := name_of hp h.len (by rw [← h.eq]; exact h.size)
  rw [← h.eq] at this
  exact this
end
end
section
open Go.RowKit
end
section
open Go.RowKit
end
section
open Go.RowKit
end
section
open Go.RowKit
end
end
section
section
open Go.RowKit
end
section
open Go.RowKit
end
section
open Go.RowKit
end
section
open Go.RowKit
theorem pctG_app : ∀ (a l : List Nat) (i : Nat) (acc : List (Nat × Bool)), (∀ c ∈ a, c ≠ 37) → pctG (a ++ l) i acc = pctG l (i + a.length) (acc ++ a.map fun c => (c, false))
  | [], l, i, acc, _ => by simp
  | c :: a, l, i, acc, h => by
    rw [List.cons_append, pctG_plain (h c (by simp)), pctG_app a l _ _ (fun x hx => h x (by simp [hx]))]
    simp only [List.length_cons, List.map_cons, List.append_assoc, List.singleton_append]
    congr 1
    omega
/-- Great and small letters, and a point at the end. -/
theorem canon_great {n b : List Nat} (h : HostOk 1 n) (hb : b.map lowN = n) : canonL (b ++ [46]) = .ok 1 n := by
  cases h with
  | name n ts h hn =>
    have hm : ∀ c ∈ b ++ [46], c ≠ 37 ∧ c ≠ 91 := fun c hc => by
      rcases List.mem_append.1 hc with hc | hc
      · have h1 := name_bytes h (lowN c) (by rw [← hb]; exact List.mem_map_of_mem hc)
        unfold lowN at h1
        split at h1 <;> omega
      · rw [List.mem_singleton.1 hc]; decide
    rw [canon_plain (by simp) (hm _ (first_mem (by simp))).2 (fun c hc => (hm c hc).1), (h.great hb).2]
    unfold nameH
    simp only
    rw [if_neg (by rw [hn]; decide)]
/-- An escape of a byte. -/
theorem canon_escaped {n a r : List Nat} {c x y : Nat} (h : HostOk 1 n) (hn : n = a ++ c :: r) (hv : escV (x :: y :: r) = some c) : canonL (a ++ 37 :: x :: y :: r) = .ok 1 n := by
  cases h with
  | name n ts h hnum =>
    have hb := name_bytes h
    rw [hn] at hb
    have ha : ∀ d ∈ a, d ≠ 37 := fun d hd => (hb d (by simp [hd])).1
    have hr : ∀ d ∈ r, d ≠ 37 := fun d hd => (hb d (by simp [hd])).1
    unfold canonL pctL
    have h91 : (a ++ 37 :: x :: y :: r)[0]?.getD 0 ≠ 91 := by
      cases a with
      | nil => simp
      | cons d a => simp; exact (hb d (by simp)).2.1
    rw [if_neg (by simp), if_neg h91, pctG_app _ _ _ _ ha, pctG_esc hv]
    show (match pctG r _ _ with | .no k p => _ | .ok ev => _) = _
    rw [pctG_free _ _ _ hr]
    simp only [List.nil_append]
    have e : plainL (List.map (fun c => (c, false)) a ++ [(c, true)] ++ List.map (fun c => (c, false)) r) = n := by
      unfold plainL
      rw [hn]
      simp [Function.comp_def]
    rw [e, h.again.1]
    unfold nameH
    simp only
    rw [if_neg (by rw [hnum]; decide)]
end
section
open Go.RowKit
end
section
open Go.RowKit
end
end
section
section
open Go.RowKit
end
section
open Go.RowKit
end
end
end Go.Proofs.YtbeodjipdpcaiaaGreatDoor
