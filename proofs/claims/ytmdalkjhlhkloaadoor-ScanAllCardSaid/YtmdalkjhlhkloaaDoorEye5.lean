/- The document's reader of chapter 6: word. -/
import Derived.Test.YtmdalkjhlhkloaaDoorEye4
namespace Go.Proofs.YtmdalkjhlhkloaaDoor
open Go.RowKit
def wordE (B : ByteArray) (l : List Nat) (s : St) : St := l.foldl (fun t c => mustE [c] B t) s
theorem wordE_le {B : ByteArray} : ∀ (l : List Nat) {s : St}, s.i ≤ B.size → (wordE B l s).i ≤ B.size
  | [], _, h => h
  | c :: l, s, h => wordE_le l (s := mustE [c] B s) (mustE_le h)
def WrRel (E : Nat) (v : Value) (B : ByteArray) (l : List Nat) (w : World) (s : St) (i : Value) (wr : World) : Prop := ∃ j : Nat, i = .int .i64 j ∧ j ≤ l.length ∧ Now E v B w (wordE B (l.take j) s) wr
theorem WrRel.next {E : Nat} {v : Value} {B : ByteArray} {l : List Nat} {w wr w' : World} {s : St} {j : Nat} {e : Ending} (hj : j < l.length) (h : Now E v B w (wordE B (l.take j) s) wr) (hp : EyPost E v wr (mustE [l[j]] B (wordE B (l.take j) s)) e w') : WrRel E v B l w s (.int .i64 (j + 1)) w' := by
  have he : wordE B (l.take (j + 1)) s = mustE [l[j]] B (wordE B (l.take j) s) := by
    unfold wordE
    rw [List.take_succ_eq_append_getElem hj, List.foldl_append]; rfl
  exact ⟨j + 1, by go_num, hj, by rw [he]; exact h.post hp (mustE_le h.le)⟩
theorem ext_one (S : ByteArray) (l : List Nat) (hl : S.data.toList.map (·.toNat) = l) (j : Nat) (hj : j < l.length) : (S.extract j (j + 1)).data.toList.map (·.toNat) = [l[j]] := by
  subst hl
  have hj' : j < S.data.size := by simpa using hj
  apply List.ext_getElem
  · simp only [ByteArray.data_extract, List.length_map, Array.length_toList, Array.size_extract, List.length_cons, List.length_nil]; omega
  · intro n h1 h2
    simp at h2
    subst h2
    simp [ByteArray.data_extract]
set_option maxRecDepth 100000 in
set_option maxHeartbeats 8000000 in
theorem eword_any (S : ByteArray) (l : List Nat) (hl : S.data.toList.map (·.toNat) = l) (hS : S.size ≤ 1000) (E : Nat) (v : Value) (B : ByteArray) (s : St) (w : World) (hz : B.size ≤ 1000000) (hs : s.i ≤ B.size) (h : EyeS w E v s) (hB : EyeB w E v B) :
    Calls Tryd.prog 80 #[.pointer (some ⟨E, 0, none⟩), .string S] w (EyPost E v w (wordE B l s)) := by
  have hsl : S.size = l.length := by rw [← hl]; simp
  have HM := Lib.hid (fun (j : Nat) (hj : j < l.length) (t : St) (W : World) (hN : Now E v B w t W) => emust_any (S.extract j (j + 1)) [l[j]] (ext_one S l hl j hj) (by rw [ByteArray.size_extract]; omega) E v B t W hz hN.le hN.at_ (hB.only hN.only))
  have HN := Lib.hid (Now.mk h (Only.refl (fun k => k = E) w) hs)
  have HL := Lib.hid hsl
  clear h hB hs hl hsl
  go_enter Tryd.func80, Tryd.ntmps80
  go_wp2_with fail
  go_loopw [4] (WrRel E v B l w s) (fun i _ => l.length - (intOf i).toNat)
  case atStart => exact ⟨0, rfl, Nat.zero_le _, HN.out⟩
  case round =>
    obtain ⟨j, rfl, hj, hN⟩ := hrel
    have HW := Lib.hid hN
    clear hN
    by_cases hlt : j < l.length
    · have hjs : j < S.size := by rw [HL.out]; exact hlt
      have q1 : IntKind.i64.wrap ((j : Int) + 1) = (j : Int) + 1 := IntWalk.i64_in _ (by omega)
      have q2 : (0 : Int) ≤ (j : Int) := Int.natCast_nonneg _
      have q3 : (j : Int) ≤ (j : Int) + 1 := by omega
      have q4 : (j : Int) + 1 ≤ (S.size : Int) := by omega
      have q5 : ((j : Int) + 1).toNat = j + 1 := by omega
      have t1 : decide (j < S.size) = true := decide_eq_true hjs
      go_wp2_with fail
      refine (HM.out j hlt _ _ HW.out).mono ?_
      rintro e w1 hp
      have R := WrRel.next hlt HW.out hp
      obtain ⟨rfl, _, _⟩ := hp
      have HR := Lib.hid R
      clear R
      go_wp2
      refine ⟨?_, by simp [intOf] <;> omega⟩
      have R := HR.out
      first | exact R | ((repeat apply Exists.intro); exact ⟨R, rfl⟩)
    · have hE : j = l.length := by omega
      have t1 : decide (j < S.size) = false := decide_eq_false (by rw [HL.out]; omega)
      have HF : Hid (EyPost E v w (wordE B l s) (.returned (.tuple #[])) wr) := Lib.hid (by have := HW.out.fin; rwa [hE, List.take_length] at this)
      clear hE
      go_wp2
      go_end0
      exact HF.out
end Go.Proofs.YtmdalkjhlhkloaaDoor
