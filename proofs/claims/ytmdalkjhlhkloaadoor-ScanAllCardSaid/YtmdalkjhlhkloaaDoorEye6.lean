/- The document's reader of chapter 6: unit. -/
import Derived.Test.YtmdalkjhlhkloaaDoorEye5
import Derived.Test.YtmdalkjhlhkloaaDoorDig2
import Derived.Test.YtmdalkjhlhkloaaDoorScan4
namespace Go.Proofs.YtmdalkjhlhkloaaDoor
open Go.RowKit
def hxL : List Nat := [48, 49, 50, 51, 52, 53, 54, 55, 56, 57, 97, 98, 99, 100, 101, 102, 65, 66, 67, 68, 69, 70]
theorem hx_dig {c : Nat} (h : hxL.contains c = true) : digV c < 16 := by
  simp only [hxL, List.contains_eq_mem, decide_eq_true_eq, List.mem_cons, List.not_mem_nil, or_false] at h
  unfold digV
  split
  · omega
  · split
    · omega
    · split <;> omega
def mustsE (l : List Nat) (B : ByteArray) : Nat → St → St
  | 0, s => s
  | n + 1, s => mustE l B (mustsE l B n s)
theorem mustsE_le {l : List Nat} {B : ByteArray} {s : St} (h : s.i ≤ B.size) : ∀ n, (mustsE l B n s).i ≤ B.size
  | 0 => h
  | n + 1 => mustE_le (mustsE_le h n)
def unitE (B : ByteArray) (s : St) : St := mustsE hxL B 4 (mustE [117] B (mustE [92] B s))
def unitV (B : ByteArray) (s : St) : Nat := if (unitE B s).k = 0 then numVal 16 (subB B (s.i + 2) 4) 4 else 0
theorem must_ok {l : List Nat} {B : ByteArray} {s : St} (h : (mustE l B s).k = 0) (hs : s.i ≤ B.size) : s.k = 0 ∧ s.i < B.size ∧ l.contains (byteAt B s.i) = true ∧ mustE l B s = stepE s := by
  unfold mustE at h ⊢
  split at h
  · rename_i h0; exact absurd h h0
  · rename_i h0
    split at h
    · simp at h
    · rename_i h1
      split at h
      · rename_i h2
        rw [if_neg h0, if_neg h1, if_pos h2]
        exact ⟨by simpa using h0, by omega, h2, rfl⟩
      · simp at h
theorem musts_ok {l : List Nat} {B : ByteArray} {s : St} (hs : s.i ≤ B.size) : ∀ n, (mustsE l B n s).k = 0 → s.k = 0 ∧ s.i + n ≤ B.size ∧ (∀ j, j < n → l.contains (byteAt B (s.i + j)) = true) ∧ mustsE l B n s = ⟨s.i + n, s.k, s.a⟩
  | 0, h => ⟨h, hs, fun j h => by omega, rfl⟩
  | n + 1, h => by
    obtain ⟨h1, h2, h3, h4⟩ := must_ok (s := mustsE l B n s) h (mustsE_le hs n)
    obtain ⟨g1, g2, g3, g4⟩ := musts_ok hs n h1
    rw [g4] at h2 h3
    refine ⟨g1, h2, fun j hj => ?_, ?_⟩
    · by_cases e : j = n
      · subst e; exact h3
      · exact g3 j (by omega)
    · show mustE l B (mustsE l B n s) = _
      rw [h4, g4]; rfl
theorem unit_fit {B : ByteArray} {s : St} (hs : s.i ≤ B.size) (h : (unitE B s).k = 0) : s.i + 6 ≤ B.size ∧ ∀ j, j < 4 → hxL.contains (byteAt B (s.i + 2 + j)) = true := by
  obtain ⟨h1, h2, h3, _⟩ := musts_ok (mustE_le (mustE_le hs)) 4 h
  obtain ⟨g1, g2, _, g4⟩ := must_ok h1 (mustE_le hs)
  obtain ⟨_, f2, _, f4⟩ := must_ok g1 hs
  rw [g4, f4] at h2 h3
  have e : (stepE (stepE s)).i = s.i + 2 := rfl
  rw [e] at h2 h3
  exact ⟨by omega, h3⟩
theorem unit_dig (B : ByteArray) (p : Nat) (h : ∀ j, j < 4 → hxL.contains (byteAt B (p + j)) = true) (i : Nat) (hi : i < 4) : digV (byteAt (subB B p 4) i) < 16 := by
  rw [subB_at B p 4 i hi]; exact hx_dig (h i hi)
theorem unitV_pos {B : ByteArray} {i sk : Nat} {sa : Int} (h : (unitE B ⟨i, sk, sa⟩).k = 0) : ∃ N, numVal 16 (subB B (i + 2) 4) 4 = N ∧ unitV B ⟨i, sk, sa⟩ = N := ⟨_, rfl, by unfold unitV; rw [if_pos h]⟩
def UeRel (E : Nat) (v : Value) (B : ByteArray) (w : World) (t : St) (i : Value) (wr : World) : Prop := ∃ j : Nat, i = .int .i64 j ∧ j ≤ 4 ∧ Now E v B w (mustsE hxL B j t) wr
def UePost (E : Nat) (v : Value) (w : World) (s' : St) (n : Nat) (e : Ending) (w' : World) : Prop := e = .returned (.int .i64 n) ∧ EyeS w' E v s' ∧ OnlyE E w w'
set_option maxRecDepth 100000 in
set_option maxHeartbeats 8000000 in
theorem eunit_any (E : Nat) (v : Value) (B : ByteArray) (s : St) (w : World) (hz : B.size ≤ 1000000) (hs : s.i ≤ B.size) (h : EyeS w E v s) (hB : EyeB w E v B) :
    Calls Tryd.prog 165 #[.pointer (some ⟨E, 0, none⟩)] w (UePost E v w (unitE B s) (unitV B s)) := by
  have HM := Lib.hid (fun (S : ByteArray) (l : List Nat) (hl : S.data.toList.map (·.toNat) = l) (hS : S.size ≤ 1000000) (t : St) (W : World) (hN : Now E v B w t W) => emust_any S l hl hS E v B t W hz hN.le hN.at_ (hB.only hN.only))
  have HN := Lib.hid (Now.mk h (Only.refl (fun k => k = E) w) hs)
  have HB := Lib.hid (fun W (hO : OnlyE E w W) => hB.only hO)
  have HS := Lib.hid hs
  have hc := h.cell; have hf := h.frozen
  obtain ⟨i, sk, sa⟩ := s
  clear h hB hs
  go_enter Tryd.func165, Tryd.ntmps165
  go_wp2_with fail
  refine (HM.out ⟨#[92]⟩ [92] (by rfl) (by decide) _ _ HN.out).mono ?_
  rintro e w1 hp
  have HN1 := Lib.hid (HN.out.post hp (mustE_le HN.out.le))
  obtain ⟨rfl, _, _⟩ := hp
  clear hc hf
  go_wp2_with fail
  refine (HM.out ⟨#[117]⟩ [117] (by rfl) (by decide) _ _ HN1.out).mono ?_
  rintro e w2 hp
  have HN2 := Lib.hid (HN1.out.post hp (mustE_le HN1.out.le))
  obtain ⟨rfl, _, _⟩ := hp
  go_wp2_with fail
  go_loopw [4] (UeRel E v B w (mustE [117] B (mustE [92] B ⟨i, sk, sa⟩))) (fun k _ => 4 - (intOf k).toNat)
  case atStart => exact ⟨0, rfl, by decide, HN2.out⟩
  case round =>
    obtain ⟨j, rfl, hj, hN⟩ := hrel
    have HW := Lib.hid hN
    clear hN
    by_cases hlt : j < 4
    · go_wp2_with fail
      refine (HM.out ⟨#[48, 49, 50, 51, 52, 53, 54, 55, 56, 57, 97, 98, 99, 100, 101, 102, 65, 66, 67, 68, 69, 70]⟩ hxL (by rfl) (by decide) _ _ HW.out).mono ?_
      rintro e w3 hp
      have R : UeRel E v B w (mustE [117] B (mustE [92] B ⟨i, sk, sa⟩)) (.int .i64 (j + 1)) w3 := ⟨j + 1, by go_num, hlt, HW.out.post hp (mustE_le HW.out.le)⟩
      obtain ⟨rfl, _, _⟩ := hp
      have HR := Lib.hid R
      clear R
      go_wp2
      refine ⟨?_, by simp [intOf] <;> omega⟩
      have R := HR.out
      first | exact R | ((repeat apply Exists.intro); exact ⟨R, rfl⟩)
    · obtain rfl : j = 4 := by omega
      have HU : Hid (Now E v B w (unitE B ⟨i, sk, sa⟩) wr) := Lib.hid HW.out
      have hcc := HU.out.at_.cell; have hff := HU.out.at_.frozen
      by_cases h0 : (unitE B ⟨i, sk, sa⟩).k = 0
      · obtain ⟨hsz, hx⟩ := unit_fit HS.out h0
        obtain ⟨N, hV1, hV⟩ := unitV_pos h0
        have hdig := unit_dig B (i + 2) hx
        have hlt4 := numVal_lt hdig 4 (by decide)
        have hN1 := rnumber_any (subB B (i + 2) 4) (subB_size B (i + 2) 4 hsz) hdig wr
        rw [hV1] at hlt4 hN1
        have HV := Lib.hid hV
        clear hV1 hdig
        have HX1 := Lib.hid hN1
        obtain ⟨a, c, rfl, _, hac, hc⟩ := (HB.out wr HU.out.only).by_inv
        have hsz' : i + 6 ≤ B.size := hsz
        obtain ⟨b, off, rfl, _, x0⟩ := hc (by omega)
        have cv := bytes_back wr b (off + (i + 2)) 4 (c - (i + 2)) (subB B (i + 2) 4) (subB_size B (i + 2) 4 (by omega)) (fun k hk => by
          rw [subB_at B (i + 2) 4 k hk, Nat.add_assoc]; exact x0 (i + 2 + k) (by omega))
        have q0 : i + 6 ≤ c := by omega
        have q1 : (i : Int) + 2 ≤ (c : Int) := by omega
        have q2 : (i : Int) + 6 ≤ (c : Int) := by omega
        have q3 : (N : Int) < 65536 := by have : (16 : Nat) ^ 4 = 65536 := rfl; omega
        rw [h0] at hcc
        have HF : Hid (∀ m, UePost E (.slice (some ⟨b, off, none⟩) B.size c) w (unitE B ⟨i, sk, sa⟩) (unitV B ⟨i, sk, sa⟩) (.returned (.int .i64 N)) (wr.drewN m)) := Lib.hid (fun m => ⟨by rw [HV.out], (HU.out.drewN m).at_, (HU.out.drewN m).only⟩)
        clear hV hlt4 hN1 hx x0 hc hsz h0
        go_wp2_with fail
        refine HX1.out.mono ?_
        rintro e w4 ⟨rfl, m, rfl⟩
        go_wp2
        go_ret
        exact HF.out m
      · have t1 : (((unitE B ⟨i, sk, sa⟩).k : Int) != 0) = true := bne_iff_ne.2 (by omega)
        have HF : Hid (UePost E v w (unitE B ⟨i, sk, sa⟩) (unitV B ⟨i, sk, sa⟩) (.returned (.int .i64 0)) wr) := Lib.hid ⟨by unfold unitV; rw [if_neg h0]; rfl, HU.out.at_, HU.out.only⟩
        generalize unitE B ⟨i, sk, sa⟩ = t at *
        clear h0
        go_wp2
        go_ret
        exact HF.out
end Go.Proofs.YtmdalkjhlhkloaaDoor
