/- The law ScanNext: the walk. -/
import Derived.Test.YtmdalkjhlhkloaaDoorEye10
import Derived.Test.YtmdalkjhlhkloaaDoorBlk1
import Derived.Laws.BytesString
import Derived.Outline
namespace Go.Proofs.YtmdalkjhlhkloaaDoor
open Go.RowKit
theorem size_zero {B : ByteArray} (h : ¬ 0 < B.size) : B = ByteArray.empty := by
  cases B with
  | mk d =>
    have : d.size = 0 := by have h' : ¬ 0 < d.size := h; omega
    rw [Array.eq_empty_of_size_eq_zero this]; rfl
theorem conv_rd {S : Nat → Prop} {w : World} {v : Value} {B : ByteArray} (h : Rd S w v (bytesDB B)) : (convert 45 9 v).run Tryd.prog w = .ok (.string B) w := by
  obtain ⟨a, c, rfl, _, _, hx⟩ := h.by_inv
  by_cases h0 : 0 < B.size
  · obtain ⟨b, off, rfl, _, hx⟩ := hx h0
    exact bytes_back w b off B.size c B rfl hx
  · obtain rfl := size_zero h0
    rw [run_convert_bytes_string w 45 9 5 a _ c Tryd.underlying45 Tryd.underlying5 Tryd.underlying9]
    cases a with
    | none => simp [Conv.bytesToString]
    | some a =>
      exact run_bytesToString w a 0 c [] (by simp [loadCells, loadCellsFrom])
theorem rnx_any (v : Value) (B : ByteArray) (at_ : Int) (w : World) (h : Rd (Own w) w v (bytesDB B)) (hz : B.size ≤ 1000000) :
    Calls Tryd.prog 31 #[v, .int .i64 at_] w (RnPost w (nextI B at_)) := by
  unfold nextI
  by_cases ho : at_ < 0 ∨ (B.size : Int) < at_
  · rw [if_pos ho]; exact rnx_out v B at_ w h ho
  · rw [if_neg ho]
    obtain ⟨i, rfl⟩ := Int.eq_ofNat_of_zero_le (show 0 ≤ at_ by omega)
    rw [Int.toNat_natCast]
    exact rnx_in v B i w h hz (by omega)
set_option maxRecDepth 100000 in
set_option maxHeartbeats 16000000 in
theorem scanNext_any (v1 : Value) (B : ByteArray) (at_ : Int) (w : World) (he : ScEnv w) (hg : Glob w) (h1 : Rd (Own w) w v1 (bytesDB B)) (_hmx : B.size ≤ maxLen) :
    Calls Tryd.prog 6 #[v1, .int .i64 at_] w fun e w' => e = .returned (.bool true) ∧ Below w.heap.size w w' := by
  obtain ⟨a1, c1, rfl, _, _, _⟩ := h1.by_inv
  have SP := Lib.hid (speaks06 w he)
  have HE := Lib.hid he; have HG := Lib.hid hg; have H1 := Lib.hid h1
  clear he hg h1
  by_cases hbig : 3000 < B.size
  · have q : decide ((3000 : Int) < (B.size : Int)) = true := decide_eq_true (by omega)
    clear hbig
    go_enter Tryd.func6, Tryd.ntmps6
    go_wp2_with fail
    refine SP.out.mono ?_
    rintro e w1 ⟨rfl, hb⟩
    have HB := Lib.hid hb; clear hb
    go_wp2
    go_ret
    exact ⟨rfl, HB.out⟩
  · have t1 : decide ((3000 : Int) < (B.size : Int)) = false := decide_eq_false (by omega)
    have hB : B.size ≤ 3000 := by omega
    clear hbig
    go_enter Tryd.func6, Tryd.ntmps6
    go_wp2_with fail
    refine SP.out.mono ?_
    rintro e w1 ⟨rfl, hb⟩
    have HB := Lib.hid hb; clear hb
    have ho0 : (w1.alloc (.cells #[] 5)).ownsRow w1.heap.size 5 1 (.slice (some ⟨w1.heap.size, 0, none⟩) 0 0) 0 [] := by
      simpa using World.ownsRow_lit (base := w1.heap.size) (e := 5) (size := 1) w1 #[] 0 (Nat.le_refl _) (by decide) rfl
    have hb0 : Below w1.heap.size w1 (w1.alloc (.cells #[] 5)) := ext_alloc (Below.refl _ _) _
    have hr0 : Rd (Own (w1.alloc (.cells #[] 5))) (w1.alloc (.cells #[] 5)) (.slice a1 B.size c1) (.list 1 (byD B)) := H1.out.ext (ext_trans HB.out hb0)
    have HO0 := Lib.hid ho0; have HB0 := Lib.hid hb0; have HR0 := Lib.hid hr0
    clear ho0 hb0 hr0
    go_wp2_with (at_builtin; refine wpList_appD (w1.alloc (.cells #[] 5)) rfl _ _ 45 rfl w1.heap.size elByte _ _ _ rfl HO0.out _ rfl _ B.size HR0.out ?c1 ?c2 ?c3 ?c4 ?_)
    case c1 => simp [byD]
    case c2 => simp [maxLen]; omega
    case c3 => omega
    case c4 => exact HB0.out.size
    intro v4 w4 ys ho4 hys hg4
    have hys' := ys_eq hys
    subst hys'
    have hb04 : Below w1.heap.size w1 w4 := HB0.out.trans ((Below.refl _ _).grown hg4 HB0.out.size (fun q hq => (HO0.out.lt q hq).1))
    have hr4 : Rd (Own w4) w4 v4 (bytesDB B) := by
      rw [bytesDB_eq]
      exact rd_owned ho4 (by simpa using byV_rds B) (fun g hg => (ho4.lt g hg).2)
    have N1 := next_any _ B at_ w4 hr4 (HE.out.ext (ext_trans HB.out hb04)) (by omega)
    obtain ⟨ao4, cap4, rfl, _⟩ := aown_form ho4
    have HN1 := Lib.hid N1; have HB4 := Lib.hid (ext_trans HB.out hb04); have HR4 := Lib.hid hr4
    clear N1 hb04 hr4 ho4 hys hg4 HO0 HB0 HR0
    go_wp2_with fail
    refine HN1.out.mono ?_
    intro e w5 hsc
    cases hx : nextI B at_ with
    | ok t =>
      rw [hx] at hsc
      obtain ⟨k, f, l⟩ := t
      obtain ⟨rfl, hb⟩ := hsc
      simp only [tokV]
      have hB5 := ext_trans HB4.out hb
      have hR5 := HR4.out.ext hb
      have N2 := Lib.hid (fun (o : Obj) => by
        have := rnx_any _ B at_ (w5.alloc o) (H1.out.ext (ext_alloc hB5 o)) (by omega)
        rw [hx] at this; exact this)
      have HR5 := Lib.hid hR5; have HB5 := Lib.hid hB5
      clear hx hb hB5 hR5 HN1 HR4
      go_wp2_with fail
      refine (N2.out _).mono ?_
      rintro e w6 ⟨rfl, hb6⟩
      simp only [rnV]
      have hcb := bcell1 hb6 (b := w5.heap.size) (by simp)
      have hfb := bfrozen1 hb6 (b := w5.heap.size) (by simp)
      have hz6 : w5.heap.size < w6.heap.size := by have := hb6.size; simp at this; omega
      have hb56 := ext_trans (ext_alloc (Below.refl _ w5) (.cells #[.int .i64 k, .int .i64 f, .int .i64 l] 50)) hb6
      have hB6 := ext_trans HB5.out hb56
      have HCA := Lib.hid (fun (o : Obj) (W : World) (hW : Below w6.heap.size (w6.alloc o) W) => conv_rd (HR5.out.ext ((ext_trans hb56 (ext_alloc (Below.refl _ w6) o)).trans (hW.mono hb56.size))))
      have HCB := Lib.hid (fun (o : Obj) (W : World) (hW : Below w6.heap.size (w6.alloc o) W) => conv_rd (H1.out.ext ((ext_trans hB6 (ext_alloc (Below.refl _ w6) o)).trans (hW.mono hB6.size))))
      have HTD := Lib.hid (fun (o : Obj) => by
        have := told06_any .nilIface [] 0 0 (w6.alloc o) (HG.out.ext (ext_alloc hB6 o)) (by show Rd _ _ _ .nilI; exact .nilI)
        rw [show ((kindI [] == 0) && (([] : List (Int × Int)).isEmpty || (atI [] == 0))) = true from rfl] at this
        exact this)
      have HB6 := Lib.hid hB6
      clear hb6 hb56 hB6 N2
      go_wp2_with fail
      refine (HTD.out _).mono ?_
      rintro e w7 ⟨rfl, hb7⟩
      have cA := HCA.out _ _ (hb7.mono (by simp))
      have cB := HCB.out _ _ (hb7.mono (by simp))
      have HF := Lib.hid (ext_trans HB6.out (ext_trans (ext_alloc (Below.refl _ w6) _) hb7))
      clear hb7
      go_wp2
      go_ret
      exact ⟨rfl, HF.out⟩
    | no k p =>
      rw [hx] at hsc
      obtain ⟨u, rfl, hf⟩ := hsc
      have hb := hf.2
      have hB5 := ext_trans HB4.out hb
      have hR5 := HR4.out.ext hb
      have hU5 : Rd (Own w5) w5 _ (errD 109 [((k : Int), p)]) := hf.1.wide (fun b hb => hb.2)
      have N2 := Lib.hid (fun (o : Obj) => by
        have := rnx_any _ B at_ (w5.alloc o) (H1.out.ext (ext_alloc hB5 o)) (by omega)
        rw [hx] at this; exact this)
      have HR5 := Lib.hid hR5; have HB5 := Lib.hid hB5; have HU5 := Lib.hid hU5
      clear hx hb hB5 hR5 HN1 HR4 hU5 hf
      go_wp2_with fail
      refine (N2.out _).mono ?_
      rintro e w6 ⟨rfl, hb6⟩
      simp only [rnV]
      have hcb := bcell1 hb6 (b := w5.heap.size) (by simp)
      have hfb := bfrozen1 hb6 (b := w5.heap.size) (by simp)
      have hz6 : w5.heap.size < w6.heap.size := by have := hb6.size; simp at this; omega
      have hb56 := ext_trans (ext_alloc (Below.refl _ w5) (.cells #[.int .i64 0, .int .i64 0, .int .i64 0] 50)) hb6
      have hB6 := ext_trans HB5.out hb56
      have HCA := Lib.hid (fun (o : Obj) (W : World) (hW : Below w6.heap.size (w6.alloc o) W) => conv_rd (HR5.out.ext ((ext_trans hb56 (ext_alloc (Below.refl _ w6) o)).trans (hW.mono hb56.size))))
      have HCB := Lib.hid (fun (o : Obj) (W : World) (hW : Below w6.heap.size (w6.alloc o) W) => conv_rd (H1.out.ext ((ext_trans hB6 (ext_alloc (Below.refl _ w6) o)).trans (hW.mono hB6.size))))
      have HTD := Lib.hid (fun (o : Obj) => by
        have := told06_any _ [((k : Int), p)] k p (w6.alloc o) (HG.out.ext (ext_alloc hB6 o)) (HU5.out.ext (ext_trans hb56 (ext_alloc (Below.refl _ w6) o)))
        rw [show ((kindI [((k : Int), p)] == (k : Int)) && (([((k : Int), p)] : List (Int × Int)).isEmpty || (atI [((k : Int), p)] == p))) = true by simp [kindI, atI]] at this
        exact this)
      have HB6 := Lib.hid hB6
      clear hb6 hb56 hB6 N2
      go_wp2_with fail
      refine (HTD.out _).mono ?_
      rintro e w7 ⟨rfl, hb7⟩
      have cA := HCA.out _ _ (hb7.mono (by simp))
      have cB := HCB.out _ _ (hb7.mono (by simp))
      have HF := Lib.hid (ext_trans HB6.out (ext_trans (ext_alloc (Below.refl _ w6) _) hb7))
      clear hb7
      go_wp2
      go_ret
      exact ⟨rfl, HF.out⟩
end Go.Proofs.YtmdalkjhlhkloaaDoor
