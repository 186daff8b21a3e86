/- ident.Prints: a copy, in order, each once. -/
import Derived.Test.YtmhfbdeeebbloaaDoorIdl10
namespace Go.Proofs.YtmhfbdeeebbloaaDoor
open Go.RowKit
set_option maxRecDepth 100000 in
set_option maxHeartbeats 8000000 in
theorem prints_any (w : World) (b off cap : Nat) (ps : List Pr) (hr : RowP w b off ps) (hb : b < w.heap.size) (hm : ps.length ≤ 100000) :
    Calls Tryd.prog 12 #[.slice (some ⟨b, off, none⟩) ps.length cap] w fun e w' => ∃ g n c, e = .returned (.slice (some ⟨g, 0, none⟩) n c) ∧ n = (refL ltP ps).length ∧ g < w'.heap.size ∧ RowP w' g 0 (refL ltP ps) ∧ Below w.heap.size w w' := by
  have K1 := Lib.hid (clone_any w b off cap ps hr hb hm)
  have K2 := Lib.hid (fun W g c (h : OwnP W w.heap.size g c ps) => sortP_any W w.heap.size g c ps h hm)
  have K3 := Lib.hid (fun W g c (h : OwnP W w.heap.size g c (srtP ps)) => by
    have := compact_any W g c (srtP ps) h.rowC h.cap_le (by rw [srtP_len]; exact hm)
    rw [srtP_len, rows_same ltP_strict ps (srtP ps) (srtP_sorted ps) (fun y => srtP_mem ps y)] at this
    exact this)
  clear hr
  go_enter Tryd.func12, Tryd.ntmps12
  go_wp2_with fail
  go_at_call 40
  refine K1.out.mono ?_
  rintro _ w2 ⟨g, c, rfl, ho2, hb2⟩
  have S := Lib.hid (K2.out w2 g c ho2)
  have HB2 := Lib.hid hb2; have HO2 := Lib.hid ho2
  clear ho2 hb2 K1
  go_wp2_with fail
  go_at_call 41
  refine S.out.mono ?_
  rintro _ w3 ⟨rfl, ho3, hg3⟩
  have C := Lib.hid (K3.out w3 g c ho3)
  have HB3 := Lib.hid (HB2.out.grown hg3 HB2.out.size (fun q e => by cases e; exact HO2.out.parts.1))
  have HO3 := Lib.hid ho3
  clear ho3 hg3 S K2 K3
  go_wp2_with fail
  go_at_call 44
  refine C.out.mono ?_
  rintro _ w4 ⟨n, rfl, hn, hr4, hg4⟩
  have HB4 := Lib.hid (HB3.out.grown hg4 HB3.out.size (fun q e => by cases e; exact HO3.out.parts.1))
  have HN := Lib.hid hn; have HR4 := Lib.hid hr4
  have hz4 : g < w4.heap.size := Nat.lt_of_lt_of_le HO3.out.parts.2 hg4.size
  clear hn hr4 hg4
  go_wp2
  go_ret
  exact ⟨g, n, c, rfl, HN.out, hz4, HR4.out, HB4.out⟩
end Go.Proofs.YtmhfbdeeebbloaaDoor
