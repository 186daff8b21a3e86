/- Cnx0, Cnx1 in one text (a claim holds at most 60 files). -/
import Derived.Test.YtheoaijheijojaaGreatDoorZCnw9
import Derived.Test.YtheoaijheijojaaGreatDoorZCnw4s
import Derived.Test.YtheoaijheijojaaGreatDoorZJrM1s
import Derived.Deep.DeepCutAuto
import Derived.Deep.CutBlock
import Derived.Deep.AppendLies
import Derived.Deep.RegionHeld3
namespace Go.Proofs.YtheoaijheijojaaGreatDoor
section
open Go.RowKit
structure CE (w : World) : Prop where
  sc : ScEnv w
  mx : MaxT w
theorem CE.ext {w w' : World} (h : CE w) (hb : Below w.heap.size w w') : CE w' := ⟨h.sc.ext hb, h.mx.ext hb⟩
theorem parse_wf {B : ByteArray} {m : Bd} {s : PS} (h : parseS B m = .ok s) : WfUps s.ups ∧ s.ups.length = s.js.length := by
  unfold parseS at h
  split at h
  · cases h
  · have R := runs_ok B m _ _ _ _ bi0 h
    exact ⟨R.bi.wf, R.bi.len⟩
theorem fenv_of {B : ByteArray} {m : Bd} {s : PS} (h : parseS B m = .ok s) (hB : B.size ≤ 100000) : FEnv s B.size :=
  ⟨(parse_wf h).1, (parse_wf h).2, parse_nodes2 h, hB, Nat.le_trans (parse_len h) hB, Nat.le_trans (parse_wt h).1 hB⟩
theorem pview_of {w : World} {base D T : Nat} {B : ByteArray} {m : Bd} {s : PS} {nodes : Int} {tv : Value} {ns : List ANode} (hd : DocAt w base D s nodes T tv ns) (h : parseS B m = .ok s) (hB : B.size ≤ 100000) : PView w base D T s nodes tv ns :=
  ⟨hd, Nat.le_trans (parse_len h) hB, fun k => by
    unfold keyA
    split
    · rename_i x hx
      have := (parse_nodes2 h x (List.mem_of_getElem? hx)).ks
      simp [maxLen]; omega
    · exact Nat.zero_le _⟩
set_option maxRecDepth 100000 in
set_option maxHeartbeats 4000000 in
theorem told8_any (w : World) (u : Value) (k a : Int) (hg : Glob w) (h : ErrIs w u (k, a)) :
    Calls Tryz.prog 21 #[u, .int .i64 k, .int .i64 a] w fun e w' => e = .returned (.bool true) ∧ Below w.heap.size w w' := by
  rcases h with ⟨h0, rfl⟩ | ⟨h0, h⟩
  · simp only at h0
    subst h0
    have KN := Lib.hid (kind_any .nilIface [] w hg (by simp only [errD]; exact .nilI))
    clear hg
    go_enter Tryz.func21, Tryz.ntmps21
    go_wp2_with fail
    refine KN.out.mono ?_
    rintro e w2 ⟨rfl, hb⟩
    have HB := Lib.hid hb
    clear hb
    simp only [kindI]
    go_wp2
    go_ret
    exact ⟨rfl, HB.out⟩
  · have KN := Lib.hid (kind_any u [(k, a)] w hg h)
    have AT := Lib.hid (fun W (hW : Below w.heap.size w W) => at_any u [(k, a)] W (hg.ext hW) (h.ext hW))
    obtain ⟨b, off, uu, rfl, _⟩ := fault_inv h
    have tk : (k == k) = true := beq_self_eq_true k
    have ta : (a == a) = true := beq_self_eq_true a
    clear hg h h0
    go_enter Tryz.func21, Tryz.ntmps21
    go_wp2_with fail
    refine KN.out.mono ?_
    rintro e w2 ⟨rfl, hb⟩
    have HB := Lib.hid hb
    clear hb
    simp only [kindI]
    go_wp2_with fail
    refine (AT.out _ HB.out).mono ?_
    rintro e w3 ⟨rfl, hb⟩
    have HB3 := Lib.hid (ext_trans HB.out hb)
    clear hb
    simp only [atI]
    go_wp2
    go_ret
    exact ⟨rfl, HB3.out⟩
set_option maxRecDepth 100000 in
set_option maxHeartbeats 8000000 in
theorem speaks08 (w : World) (he : CE w) : Calls Tryz.prog 9 #[] w fun e w' => e = .returned (.bool true) ∧ Below w.heap.size w w' := by
  obtain ⟨W0, hW0⟩ : ∃ W, w.alloc (.cells #[.int .u8 123, .int .u8 34, .int .u8 98, .int .u8 34, .int .u8 58, .int .u8 91, .int .u8 49, .int .u8 44, .int .u8 32, .int .u8 50, .int .u8 93, .int .u8 44, .int .u8 34, .int .u8 97, .int .u8 34, .int .u8 58, .int .u8 34, .int .u8 120, .int .u8 34, .int .u8 125] 5 (20, 21)) = W := ⟨_, rfl⟩
  have cv := Go.Joins.run_convert_bytes_const_at (P := Tryz.prog) w 22 5 #[.int .u8 123, .int .u8 34, .int .u8 98, .int .u8 34, .int .u8 58, .int .u8 91, .int .u8 49, .int .u8 44, .int .u8 32, .int .u8 50, .int .u8 93, .int .u8 44, .int .u8 34, .int .u8 97, .int .u8 34, .int .u8 58, .int .u8 34, .int .u8 120, .int .u8 34, .int .u8 125] 20 20 w.heap.size rfl Tryz.underlying22 Tryz.underlying5
  rw [show (w.alloc (.cells #[.int .u8 123, .int .u8 34, .int .u8 98, .int .u8 34, .int .u8 58, .int .u8 91, .int .u8 49, .int .u8 44, .int .u8 32, .int .u8 50, .int .u8 93, .int .u8 44, .int .u8 34, .int .u8 97, .int .u8 34, .int .u8 58, .int .u8 34, .int .u8 120, .int .u8 34, .int .u8 125] 5 ((#[.int .u8 123, .int .u8 34, .int .u8 98, .int .u8 34, .int .u8 58, .int .u8 91, .int .u8 49, .int .u8 44, .int .u8 32, .int .u8 50, .int .u8 93, .int .u8 44, .int .u8 34, .int .u8 97, .int .u8 34, .int .u8 58, .int .u8 34, .int .u8 120, .int .u8 34, .int .u8 125] : Array Value).size, (#[.int .u8 123, .int .u8 34, .int .u8 98, .int .u8 34, .int .u8 58, .int .u8 91, .int .u8 49, .int .u8 44, .int .u8 32, .int .u8 50, .int .u8 93, .int .u8 44, .int .u8 34, .int .u8 97, .int .u8 34, .int .u8 58, .int .u8 34, .int .u8 120, .int .u8 34, .int .u8 125] : Array Value).size + 1))) = W0 from hW0] at cv
  have hb0 : Below w.heap.size w W0 := by rw [← hW0]; exact ext_alloc (Below.refl _ _) _
  have hz0 : w.heap.size < W0.heap.size := by rw [← hW0]; simp
  have harr : (#[.int .u8 123, .int .u8 34, .int .u8 98, .int .u8 34, .int .u8 58, .int .u8 91, .int .u8 49, .int .u8 44, .int .u8 32, .int .u8 50, .int .u8 93, .int .u8 44, .int .u8 34, .int .u8 97, .int .u8 34, .int .u8 58, .int .u8 34, .int .u8 120, .int .u8 34, .int .u8 125] : Array Value) = s8B.data.map (fun x => Value.int .u8 (x.toNat : Nat)) := by kernel_rfl
  have L : Rd (Own W0) W0 (.slice (some ⟨w.heap.size, 0, none⟩) 20 20) (bytesDB s8B) := by
    refine rd_of_cells (B := s8B) hz0 (Nat.le_refl _) (fun i hi => ?_)
    have hi' : i < s8B.data.size := hi
    rw [← hW0, World.cell?_alloc_mark, harr, Array.getElem?_map, Array.getElem?_eq_getElem hi']
    unfold byteAt
    rw [Array.getElem?_eq_getElem hi']; rfl
  have PS0 := Lib.hid (fun W (hW : Below W0.heap.size W0 W) => by
    have := parse_any W _ s8B ⟨1048576, 64, 5000⟩ (L.ext hW) ((he.sc.ext hb0).ext hW) (by decide)
    rw [s8_parse] at this
    exact this)
  have WD := Lib.hid (wide_any W0)
  have HB0 := Lib.hid hb0
  have HE := Lib.hid he
  clear L hb0 he hW0 harr
  go_enter Tryz.func9, Tryz.ntmps9
  go_wp2_with fail
  refine WD.out.mono ?_
  rintro e w1 ⟨rfl, hb1⟩
  have HB1 := Lib.hid (ext_trans HB0.out hb1)
  have PS1 := Lib.hid (PS0.out _ hb1)
  clear hb1 PS0
  go_wp2_with fail
  refine PS1.out.mono ?_
  rintro e w2 ⟨D, T, tv, ns, rfl, hd, hb2⟩
  have HB2 := Lib.hid (ext_trans HB1.out hb2)
  have HV := Lib.hid (pview_of hd s8_parse (by decide))
  have F8 := Lib.hid (fenv_of s8_parse (by decide))
  have WR := Lib.hid (write_any _ D T s8S 5000 tv ns s8B.size F8.out 0 w2 (HE.out.ext HB2.out).sc HV.out)
  clear hd hb2 PS1 WD
  go_wp2_with fail
  refine WR.out.mono ?_
  intro e w3 hp
  have hp' : e = .returned (.tuple #[.string s8F, .nilIface]) ∧ Below w2.heap.size w2 w3 := by
    rcases hp with ⟨_, h, hb⟩ | ⟨h, _⟩
    · rw [show formA s8S 0 = s8F from s8_form] at h; exact ⟨h, hb⟩
    · cases h
  obtain ⟨rfl, hb3⟩ := hp'
  have HB3 := Lib.hid (ext_trans HB2.out hb3)
  have PA := Lib.hid (by
    have := path_any8 _ D T s8S 5000 tv ns 0 s8P w3 (HV.out.below hb3) (HE.out.ext HB3.out).mx (by decide)
    rw [s8_path] at this
    exact this)
  obtain ⟨P, hP⟩ : ∃ P, s8P = P := ⟨_, rfl⟩
  rw [hP] at PA
  have hP2 : (⟨#[47, 98, 47, 49]⟩ : ByteArray) = P := hP
  obtain ⟨Z, hZ⟩ : ∃ Z, s8F = Z := ⟨_, rfl⟩
  have hZ2 : (⟨#[123, 34, 97, 34, 58, 34, 120, 34, 44, 34, 98, 34, 58, 91, 49, 44, 50, 93, 125]⟩ : ByteArray) = Z := hZ
  rw [hZ]
  clear hp hb3 WR hZ
  go_wp2_with fail
  refine PA.out.mono ?_
  rintro e w4 ⟨u, rfl, hu, hb4⟩
  obtain rfl := hu.nil rfl
  have HB4 := Lib.hid (ext_trans HB3.out hb4)
  clear hu hb4 PA hP hP2
  go_wp2
  go_ret
  exact ⟨rfl, HB4.out⟩
end
section
open Go.RowKit
end
end Go.Proofs.YtheoaijheijojaaGreatDoor
