/- The law ScanTexts: the walk. -/
import Derived.Test.YtmdalkjhlhkloaaDoorTxt2
namespace Go.Proofs.YtmdalkjhlhkloaaDoor
open Go.RowKit
set_option maxRecDepth 100000 in
set_option maxHeartbeats 16000000 in
theorem scanTexts_any (v1 : Value) (B : ByteArray) (t : Tok) (w : World) (he : ScEnv w) (hg : Glob w) (h1 : Rd (Own w) w v1 (bytesDB B)) :
    Calls Tryd.prog 9 #[v1, .agg #[.int .i64 t.kind, .int .i64 t.fr, .int .i64 t.to]] w fun e w' => e = .returned (.bool true) ∧ Below w.heap.size w w' := by
  obtain ⟨a1, c1, rfl, _, _, _⟩ := h1.by_inv
  have hb1 : ∀ o : Obj, Below w.heap.size w (w.alloc o) := fun o => ext_alloc (Below.refl _ _) o
  have SP := Lib.hid (fun o : Obj => speaks06 (w.alloc o) (he.ext (hb1 o)))
  have HE := Lib.hid he; have HG := Lib.hid hg; have H1 := Lib.hid h1
  clear he hg h1 hb1
  by_cases hbig : 3000 < B.size
  · have q : decide ((3000 : Int) < (B.size : Int)) = true := decide_eq_true (by omega)
    clear hbig
    obtain ⟨tk, tf, tt⟩ := t
    go_enter Tryd.func9, Tryd.ntmps9
    go_wp2_with fail
    refine (SP.out _).mono ?_
    rintro e w1 ⟨rfl, hb⟩
    have HB := Lib.hid (ext_trans (ext_alloc (Below.refl _ w) _) hb); clear hb
    go_wp2
    go_ret
    exact ⟨rfl, HB.out⟩
  · have t1 : decide ((3000 : Int) < (B.size : Int)) = false := decide_eq_false (by omega)
    have hB : B.size ≤ 3000 := by omega
    have S1 := Lib.hid (fun W (hW : Below w.heap.size w W) => sctext_any _ B t W (H1.out.ext hW) (HE.out.ext hW) (by omega))
    have S2 := Lib.hid (fun W (hW : Below w.heap.size w W) => rftext_any _ B t W (H1.out.ext hW) (by omega))
    clear hbig
    obtain ⟨tk, tf, tt⟩ := t
    simp only at S1 S2
    generalize textTok B ⟨tk, tf, tt⟩ = r at *
    go_enter Tryd.func9, Tryd.ntmps9
    go_wp2_with fail
    refine (SP.out _).mono ?_
    rintro e w1 ⟨rfl, hb⟩
    have hcb := bcell1 hb (b := w.heap.size) (by simp)
    have hz1 : w.heap.size < w1.heap.size := by have := hb.size; simp at this; omega
    have HB := Lib.hid (ext_trans (ext_alloc (Below.refl _ w) _) hb); clear hb
    go_wp2_with fail
    refine (S1.out _ HB.out).mono ?_
    intro e w2 hp
    cases r with
    | some s =>
      obtain ⟨rfl, hb⟩ := hp
      have hcb2 := bcell1 hb hz1
      have hz2 : w.heap.size < w2.heap.size := Nat.lt_of_lt_of_le hz1 hb.size
      have HB2 := Lib.hid (ext_trans HB.out hb); clear hb
      go_wp2_with fail
      refine (S2.out _ HB2.out).mono ?_
      rintro e w3 ⟨rfl, hb⟩
      have HF := Lib.hid (ext_trans HB2.out hb); clear hb
      simp only [Option.getD_some, Option.isSome_some]
      go_wp2
      go_ret
      exact ⟨rfl, HF.out⟩
    | none =>
      obtain ⟨u, rfl, hf⟩ := hp
      have hb := hf.2
      have hcb2 := bcell1 hb hz1
      have hz2 : w.heap.size < w2.heap.size := Nat.lt_of_lt_of_le hz1 hb.size
      have HB2 := Lib.hid (ext_trans HB.out hb)
      have hU : Rd (Own w2) w2 _ (errD 109 [(((32 : Nat) : Int), tf)]) := hf.1.wide (fun b hb => hb.2)
      have HU := Lib.hid hU
      clear hb hf hU
      go_wp2_with fail
      refine (S2.out _ HB2.out).mono ?_
      rintro e w3 ⟨rfl, hb⟩
      have hcb3 := bcell1 hb hz2
      have hz3 : w.heap.size < w3.heap.size := Nat.lt_of_lt_of_le hz2 hb.size
      have HF := Lib.hid (ext_trans HB2.out hb)
      have HTD := Lib.hid (by
        have := told06_any _ [(((32 : Nat) : Int), tf)] ((32 : Nat) : Int) tf w3 (HG.out.ext HF.out) (HU.out.ext hb)
        rw [show ((kindI [(((32 : Nat) : Int), tf)] == ((32 : Nat) : Int)) && (([(((32 : Nat) : Int), tf)] : List (Int × Int)).isEmpty || (atI [(((32 : Nat) : Int), tf)] == tf))) = true by simp [kindI, atI]] at this
        exact this)
      clear hb
      simp only [Option.getD_none, Option.isSome_none]
      go_wp2_with fail
      refine HTD.out.mono ?_
      rintro e w4 ⟨rfl, hb⟩
      have HF4 := Lib.hid (ext_trans HF.out hb); clear hb
      go_wp2
      go_ret
      exact ⟨rfl, HF4.out⟩
end Go.Proofs.YtmdalkjhlhkloaaDoor
