/- The walk of ArenaWalks. -/
import Derived.Test.YtjbbpmjbohedkaaArena7
import Derived.Test.YtjbbpmjbohedkaaArena5
import Derived.Test.YtjbbpmjbohedkaaArena8
import Derived.Laws.MakeOwn
import Derived.IntWalk
import Derived.BigQuiet
namespace Go.Proofs.Ytjbbpmjbohedkaa
open Go.RowKit
theorem AddPost.below {B : Nat} {v : Value} {ns : List ANode} {most : Int} {w w' : World} {e : Ending} {n : Nat} (h : AddPost B v ns most w e w' n) (hv : ∀ g, v.ownBlock = some g → B ≤ g) (hB : B ≤ w.heap.size) :
    ∃ v', e = .returned (.tuple #[.int .i64 n, .nilIface]) ∧ TreeAt w' B v' ns most ∧ Below B w w' := by
  obtain ⟨v', he, ht, ho, _⟩ := h
  exact ⟨v', he, ht, ho.below hB (fun k hk => hk.elim (fun e => by omega) (hv k))⟩
theorem TreeAt.ge {B : Nat} {v : Value} {ns : List ANode} {most : Int} {w : World} (h : TreeAt w B v ns most) : ∀ g, v.ownBlock = some g → B ≤ g := fun g hg => by have := (h.own.lt g hg).1; omega
abbrev bytesD (us : List Nat) : Dat := .list 1 (us.map fun u => Dat.int .u8 (u : Nat))
def AwRel (us : List Nat) (B : Nat) (W : World) (i : Value) (wr : World) : Prop := ∃ (j : Nat) (v : Value) (ns : List ANode), i = .int .i64 j ∧ j ≤ us.length ∧ TreeAt wr B v ns 500 ∧ GoodN ns (upsL (us.take j)) ∧ Below B W wr
theorem rem_nat (u j : Nat) : Int.tmod (u : Int) ((j : Int) + 1) = ((u % (j + 1) : Nat) : Int) := by
  rw [show ((j : Int) + 1) = ((j + 1 : Nat) : Int) by simp]
  exact (Int.ofNat_tmod u (j + 1)).symm
/-- Behind the walk, and the list of places. -/
structure Fin (us : List Nat) (w1 : World) (v4 : Value) (ns : List ANode) (L : List Nat) (aL : Option Addr) (cL p : Nat) (W : World) : Prop where
  tree : TreeAt W w1.heap.size v4 ns 500
  below : Below w1.heap.size w1 W
  list : Rd (fun b => b ≠ p ∧ b < W.heap.size) W (.slice aL (us.length + 1) cL) (intsD L)
  own : W.ownsRow p 3 1 (.slice (some ⟨p, 0, none⟩) (us.length + 1) (us.length + 1)) (us.length + 1) ((placeOf [] (us.length + 1)).map (Value.int .i64))
  ne : w1.heap.size < p ∧ p < W.heap.size ∧ ∀ g, v4.ownBlock = some g → g < p
theorem Rd.onlyT {S T : Nat → Prop} {w w' : World} {v : Value} {d : Dat} (h : Rd S w v d) (ho : Only T w w') (hS : ∀ b, S b → b < w.heap.size ∧ ¬ T b) : Rd S w' v d :=
  h.mono (fun b hb => ho.block b (hS b hb).1 (hS b hb).2) (fun _ h => h)
theorem made_zero (n : Nat) : (madeCells #[.int .i64 0] n).toList = (placeOf [] n).map (Value.int .i64) := by
  rw [toList_madeCells_one, placeOf_nil, List.map_replicate]
theorem made_own (w : World) (n : Nat) (hn : n ≤ maxLen) : (w.alloc (.cells (madeCells #[.int .i64 0] n) 3)).ownsRow w.heap.size 3 1 (.slice (some ⟨w.heap.size, 0, none⟩) n n) n ((placeOf [] n).map (Value.int .i64)) := by
  have := World.ownsRow_lit (base := w.heap.size) (e := 3) (size := 1) w (madeCells #[.int .i64 0] n) n (Nat.le_refl _) hn (by simp [madeCells])
  rwa [made_zero] at this
theorem quiet_eq' {P : Program} {f : FuncId} {args : Array Value} {w : World} {q n : Nat} {v : Value}
    (h : Calls P f args (w.drewN (q + n)) fun e w' => e = .returned v ∧ w.drewN (q + n) = w') : Calls P f args (w.drewN (q + n)) fun e w'' => e = .returned v ∧ ∃ m, w'' = w.drewN (q + m) :=
  h.mono fun _ _ ⟨he, hm⟩ => ⟨he, n, hm.symm⟩
def PlRel (us : List Nat) (L : List Nat) (p : Nat) (W : World) (i : Value) (wr : World) : Prop := ∃ j : Nat, i = .int .i64 j ∧ j ≤ us.length + 1 ∧
  wr.ownsRow p 3 1 (.slice (some ⟨p, 0, none⟩) (us.length + 1) (us.length + 1)) (us.length + 1) ((placeOf (L.take j) (us.length + 1)).map (Value.int .i64)) ∧ Only (fun k => k = p) W wr
def DpRel (n : Nat) (W : World) (i : Value) (wr : World) : Prop := ∃ j nq : Nat, i = .int .i64 j ∧ j ≤ n ∧ wr = W.drewN nq
theorem place_cell {wr : World} {p n id : Nat} {A : List Nat} (h : wr.ownsRow p 3 1 (.slice (some ⟨p, 0, none⟩) n n) n ((placeOf A n).map (Value.int .i64))) (hid : id < n) : wr.cell? ⟨p, id, none⟩ = some (.int .i64 (placeAt A id)) := by
  rw [h.cellAt id (by omega), List.getElem?_map, placeOf_get A n id hid]; rfl
theorem pre_mem {us : List Nat} {j k : Nat} (h : (pre (upsL us) (upsL us).length 0)[j]? = some k) : k < us.length + 1 := by
  have := (pre_range (upsL_wf us) _ 0 k (by rw [upsL_length]; omega) (List.mem_of_getElem? h)).2
  rwa [upsL_length] at this
theorem pre_new {us : List Nat} {j k : Nat} (h : (pre (upsL us) (upsL us).length 0)[j]? = some k) : k ∉ (pre (upsL us) (upsL us).length 0).take j := by
  have hn := pre_nodup (upsL_wf us) (upsL us).length 0 (by rw [upsL_length]; omega)
  intro hm
  obtain ⟨hj, e⟩ := List.getElem?_eq_some_iff.1 h
  rw [← List.take_append_drop j (pre (upsL us) (upsL us).length 0), List.nodup_append] at hn
  refine hn.2.2 k hm k ?_ rfl
  rw [List.mem_iff_getElem?]
  exact ⟨0, by rw [List.getElem?_drop]; simpa using h⟩
set_option maxRecDepth 100000 in
set_option maxHeartbeats 16000000 in
theorem arenaWalks_any (v : Value) (us : List Nat) (w : World) (hus : ∀ u ∈ us, u < 256) (hs : Rd (Own w) w v (bytesD us)) :
    Calls Try.prog 3 #[v] w fun e w' => e = .returned (.bool true) ∧ Below w.heap.size w w' := by
  have e0 : us.map (fun u => Dat.int .u8 (u : Nat)) = (us.map fun u => ((u : Nat) : Int)).map (Dat.int .u8) := by simp
  have hs' := hs
  simp only [bytesD, e0] at hs'
  obtain ⟨a, c, rfl, _, _, hc⟩ := hs'.ints_inv
  simp only [List.length_map] at hc hs ⊢
  have HS := Lib.hid hs
  clear hs' e0 hs
  by_cases hl : us.length ≤ 200
  · have HC := Lib.hid hc
    clear hc
    go_enter Try.func3, Try.ntmps3
    go_wp2_with fail
    refine (speaks05 _).mono ?_
    rintro e w1 ⟨rfl, hb1⟩
    have HB1 := Lib.hid hb1; clear hb1
    go_wp2_with fail
    refine (new_any 500 w1).mono ?_
    rintro e w2 ⟨rfl, hw2⟩
    have t2 := TreeAt.new 500 w1
    rw [← hw2] at t2
    have hb2 : Below w1.heap.size w1 w2 := by rw [hw2]; exact ext_alloc (Below.refl _ _) _
    have T2 := Lib.hid t2; have HB2 := Lib.hid hb2
    clear t2 hb2 hw2
    go_wp2_with fail
    refine (add_root w1.heap.size 500 0 w2 T2.out (by decide)).mono ?_
    rintro e w3 h
    obtain ⟨v3, rfl, t3, hb3⟩ := h.below T2.out.ge HB2.out.size
    have T3 := Lib.hid t3; have HB3 := Lib.hid (HB2.out.trans hb3)
    have z3 := HB3.out.size
    have z1 := HB1.out.size
    clear t3 hb3 h
    go_wp2_with fail
    go_loopw [27] (AwRel us w1.heap.size w1) (fun i _ => us.length - (intOf i).toNat)
    case atStart => exact ⟨0, v3, _, rfl, Nat.zero_le _, T3.out, goodN_root _, HB3.out⟩
    case round =>
      obtain ⟨j, v4, ns, rfl, hj, ht, hg, hb⟩ := hrel
      have hnl := hg.len
      rw [upsL_length, List.length_take, Nat.min_eq_left hj] at hnl
      by_cases hlt : j < us.length
      · obtain ⟨b, off, rfl, hSb, hcell⟩ := HC.out (by simpa using (by omega : 0 < us.length))
        obtain ⟨u, hu⟩ := get_ex us j hlt
        have hu256 := hus u (List.mem_of_getElem? hu)
        have x0 := hcell j (u : Nat) (by simp [hu])
        have hz : b < w.heap.size := hSb
        rw [← bcell1 ((HB1.out.trans (hb.mono HB1.out.size))) hz] at x0
        have hr := rem_nat u j
        have hm := Nat.mod_lt u (show 0 < j + 1 by omega)
        have AD := add_ok w1.heap.size v4 ns (upsL (us.take j)) 500 (u % (j + 1)) (j : Int) wr ht hg (upsL_wf _) (by rw [upsL_length, List.length_take, Nat.min_eq_left hj]; exact hm) (by omega) (by omega)
        have G2 := goodN_add (u := u % (j + 1)) (.int .i64 (j : Int)) (upsL_wf _) hg (by rw [upsL_length, List.length_take, Nat.min_eq_left hj]; exact hm)
        rw [← upsL_take us j u hu] at G2
        rw [hnl, show ((u % (j + 1) : Nat) : Int) = (u : Int) % ((j : Int) + 1) by simp] at AD
        have HAD := Lib.hid AD; have HG2 := Lib.hid G2; have HT := Lib.hid ht; have HB := Lib.hid hb
        have hzz := hb.size
        clear AD G2 ht hb hg hcell hu hSb
        go_wp2_with fail
        refine HAD.out.mono ?_
        rintro e w4 h
        obtain ⟨v5, rfl, t5, hb5⟩ := h.below HT.out.ge HB.out.size
        have R : AwRel us w1.heap.size w1 (.int .i64 (j + 1)) w4 := ⟨j + 1, v5, _, by go_num, by omega, t5, HG2.out, HB.out.trans hb5⟩
        have HR := Lib.hid R
        clear R t5 hb5 h hr
        go_wp2
        refine ⟨?_, by simp [intOf]; omega⟩
        have R := HR.out
        first | exact R | ((repeat apply Exists.intro); exact ⟨R, rfl⟩)
      · obtain rfl : j = us.length := by omega
        rw [List.take_length] at hg
        have hwf := upsL_wf us
        have hul := upsL_length us
        have hL := (pre_full hwf (Nat.le_refl (upsL us).length) (by omega)).trans hul
        obtain ⟨i0, hi0, hz0, hz1, hz2⟩ := info_parts elInt.hi
        have hmk : ∀ W : World, (Instr.makeSlice 30 (.int .i64 ((us.length : Int) + 1)) (.int .i64 ((us.length : Int) + 1))).run Try.prog W = .ok (.slice (some ⟨W.heap.size, 0, none⟩) (us.length + 1) (us.length + 1)) (W.alloc (.cells (madeCells #[.int .i64 0] (us.length + 1)) 3)) := fun W => by
          have := run_make (P := Try.prog) W 30 3 i0 _ Try.underlying30 hi0 hz0 .i64 .i64 ((us.length : Int) + 1) ((us.length : Int) + 1) (by omega) (Int.le_refl _) (by rw [hz2]; omega) (by omega)
          rw [hz1, show ((us.length : Int) + 1).toNat = us.length + 1 by omega, Nat.mul_one] at this
          exact this
        have WALK : ∀ W, Below wr.heap.size wr W → Calls Try.prog 7 #[.pointer (some ⟨w1.heap.size, 0, none⟩), .int .i64 0] W fun e w' => ∃ a c, e = .returned (.slice a (us.length + 1) c) ∧ Rd (Fresh W w') w' (.slice a (us.length + 1) c) (intsD (pre (upsL us) (upsL us).length 0)) ∧ Below W.heap.size W w' := fun W hW => by
          refine (walk_any w1.heap.size v4 ns (upsL us) 500 0 W (ht.below hW) hg hwf (by omega) (by omega)).mono ?_
          rintro e w' ⟨v', rfl, hr, hb⟩
          have e0 : (pre (upsL us) (upsL us).length 0).map (fun x => Dat.int .i64 (x : Nat)) = ((pre (upsL us) (upsL us).length 0).map fun x => ((x : Nat) : Int)).map (Dat.int .i64) := by simp
          have hr' := hr
          simp only [intsD, e0] at hr'
          obtain ⟨a, c, rfl, _⟩ := hr'.ints_inv
          rw [List.length_map, hL] at hr ⊢
          exact ⟨a, c, rfl, hr, hb⟩
        have hwr : IntKind.i64.wrap ((us.length : Int) + 1) = (us.length : Int) + 1 := IntWalk.i64_in _ (by omega)
        have B1 : Below wr.heap.size wr (wr.alloc (.cells (madeCells #[.int .i64 0] (us.length + 1)) 3)).drew := ⟨rfl, rfl, rfl, by simp, fun k hk => Below.heap_alloc wr _ k hk⟩
        obtain ⟨L, hL0⟩ : ∃ L, pre (upsL us) (upsL us).length 0 = L := ⟨_, rfl⟩
        have hLM : ∀ j k, L[j]? = some k → k < us.length + 1 ∧ k ∉ L.take j := fun j k h => by rw [← hL0] at h ⊢; exact ⟨pre_mem h, pre_new h⟩
        have hLB : ∀ i u, us[i]? = some u → placeAt L (u % (i + 1)) < placeAt L (i + 1) := fun i u h => by rw [← hL0]; exact place_before hwf (by omega) (upsL_get us i u h)
        rw [hL0] at hL WALK
        have HLL := Lib.hid hL; have HLM := Lib.hid hLM; have HLB := Lib.hid hLB
        clear hL0 hLM hLB
        have B0 : Below wr.heap.size wr wr.drew := ⟨rfl, rfl, rfl, Nat.le_refl _, fun _ _ => rfl⟩
        have HW := Lib.hid WALK; have HT := Lib.hid ht; have HG := Lib.hid hg; have HB := Lib.hid hb
        clear WALK ht hg hb hz0 hz1 hz2 hi0 hL hul hlt hnl
        go_wp2_with fail
        go_region_with (go_at_call 7; refine (HW.out _ ‹_›).mono ?_; rintro e w' ⟨aL, cL, rfl, rL, hbL⟩; have hqL := ext_trans ‹Below wr.heap.size wr _› hbL)
        · have FIN : Fin us w1 v4 ns L aL cL w'.heap.size (w'.alloc (.cells (madeCells #[.int .i64 0] (us.length + 1)) 3)) := by
            have hz : wr.heap.size ≤ w'.heap.size := hqL.size
            have hx := ext_alloc hqL (.cells (madeCells #[.int .i64 0] (us.length + 1)) 3)
            refine ⟨HT.out.below hx, HB.out.trans (hx.mono HB.out.size), (rL.alloc (fun b hb => hb.2) _).wide (fun b hb => ⟨by have := hb.2; omega, by have := hb.2; simp; omega⟩), made_own _ _ (by simp [maxLen]; omega), by have := HT.out.lt; omega, by simp, fun g hg => by have := (HT.out.own.lt g hg).2; omega⟩
          have HF := Lib.hid FIN
          clear FIN rL hbL hqL B0 B1
          generalize w'.alloc (.cells (madeCells #[.int .i64 0] (us.length + 1)) 3) = W at *
          generalize w'.heap.size = p at *
          go_wp2_with fail
          go_loopw [66] (PlRel us L p W) (fun i _ => us.length + 1 - (intOf i).toNat)
          case atStart => exact ⟨0, rfl, Nat.zero_le _, HF.out.own, Only.refl _ _⟩
          case round =>
            obtain ⟨j, rfl, hj, ho, hon⟩ := hrel
            by_cases hlt : j < us.length + 1
            · obtain ⟨k, hk⟩ := get_ex L j (by have := HLL.out; omega)
              have hkn := (HLM.out j k hk).1
              have hnew := (HLM.out j k hk).2
              have rl := HF.out.list.onlyT hon (fun b hb => ⟨hb.2, hb.1⟩)
              have e0 : L.map (fun x => Dat.int .i64 (x : Nat)) = (L.map fun x => ((x : Nat) : Int)).map (Dat.int .i64) := by simp
              simp only [intsD, e0] at rl
              obtain ⟨aL', cL', eL, _, _, hcL⟩ := rl.ints_inv
              rw [List.length_map] at hcL
              injection eL with e1 e2 e3
              subst e1
              obtain ⟨bL, oL, rfl, _, hcL⟩ := hcL (by have := HLL.out; omega)
              have x0 := hcL j (k : Nat) (by simp [hk])
              have x1 := place_cell ho hkn
              rw [show placeAt (L.take j) k = 0 from if_neg hnew] at x1
              have x2 := ho.frozenAt k
              have t1 : decide ((k : Int) < 0) = false := decide_eq_false (by omega)
              have ho' := (ho.stored k (.int .i64 ((j : Int) + 1))).1
              have R : PlRel us L p W (.int .i64 (j + 1)) (wr.setCell ⟨p, k, none⟩ (.int .i64 ((j : Int) + 1))) := by
                refine ⟨j + 1, by go_num, by omega, ?_, hon.set (fun _ => rfl) _⟩
                have e1 : L.take (j + 1) = L.take j ++ [k] := by rw [List.take_add_one, hk]; rfl
                rw [e1, placeOf_snoc _ _ _ hkn hnew, List.map_set, List.length_take, Nat.min_eq_left (by have := HLL.out; omega)]
                exact ho'
              have HR := Lib.hid R
              clear R ho ho' hon rl hcL hk hnew e0 e2 e3
              go_wp2
              refine ⟨?_, by simp [intOf]; omega⟩
              have R := HR.out
              first | exact R | ((repeat apply Exists.intro); exact ⟨R, rfl⟩)
            · obtain rfl : j = us.length + 1 := by omega
              rw [List.take_of_length_le (by have := HLL.out; omega)] at ho
              have HO := Lib.hid ho; have HON := Lib.hid hon
              clear ho hon
              have ht3 : TreeAt wr w1.heap.size v4 ns 500 := HF.out.tree.ext (fun k hk hT => HON.out.block k hk (fun e => by
                have hne := HF.out.ne
                rcases hT with h | h
                · omega
                · have := hne.2.2 k h; omega))
              have hb3 : Below w1.heap.size w1 wr := HF.out.below.trans (HON.out.below HF.out.below.size (fun k e => by have := HF.out.ne.1; omega))
              have hgl := HG.out.len
              rw [upsL_length] at hgl
              have HT3 := Lib.hid ht3; have HBB := Lib.hid (HB1.out.trans (hb3.mono HB1.out.size)); have HGL := Lib.hid hgl
              clear ht3 hb3 hgl
              go_wp2_with fail
              go_loopw [94] (DpRel us.length wr) (fun i _ => us.length - (intOf i).toNat)
              case atStart => exact ⟨0, 0, rfl, Nat.zero_le _, rfl⟩
              case round =>
                obtain ⟨m, nq, rfl, hm, rfl⟩ := hrel
                by_cases hlt3 : m < us.length
                · obtain ⟨b, off, rfl, hSb, hcell⟩ := HC.out (by simpa using (by omega : 0 < us.length))
                  obtain ⟨u, hu⟩ := get_ex us m hlt3
                  have hu256 := hus u (List.mem_of_getElem? hu)
                  have x0 := hcell m (u : Nat) (by simp [hu])
                  have hzb : b < w.heap.size := hSb
                  rw [← bcell1 HBB.out hzb] at x0
                  have hr := rem_nat u m
                  have hmod := Nat.mod_lt u (show 0 < m + 1 by omega)
                  have hup := upsL_get us m u hu
                  have hpl := HLB.out m u hu
                  obtain ⟨x, hx⟩ : ∃ x, u % (m + 1) = x := ⟨_, rfl⟩
                  rw [hx] at hr hmod hup hpl
                  have p1 := place_cell HO.out (id := x) (by omega)
                  have p2 := place_cell HO.out (id := m + 1) (by omega)
                  obtain ⟨y1, hy1⟩ : ∃ y, placeAt L x = y := ⟨_, rfl⟩
                  obtain ⟨y2, hy2⟩ : ∃ y, placeAt L (m + 1) = y := ⟨_, rfl⟩
                  rw [hy1] at p1 hpl
                  rw [hy2] at p2 hpl
                  have t1 : decide (y2 ≤ y1) = false := decide_eq_false (by omega)
                  obtain ⟨a1, ha1⟩ := get_ex ns (m + 1) (by have := HGL.out; omega)
                  obtain ⟨a2, ha2⟩ := get_ex ns x (by have := HGL.out; omega)
                  have hdp := HG.out.deep (m + 1) x a1 a2 (by omega) hup ha1 ha2
                  have hdl := deep_le HG.out (upsL_wf us) x a2 ha2
                  obtain ⟨q, hq⟩ : ∃ q : Int, (m : Int) + 1 = q := ⟨_, rfl⟩
                  have D1 : ∀ n, Calls Try.prog 8 #[.pointer (some ⟨w1.heap.size, 0, none⟩), .int .i64 q] (wr.drewN n) fun e w' => e = .returned (.int .i64 (a2.deep + 1)) ∧ wr.drewN n = w' := fun n => by
                    have := deep_any w1.heap.size v4 ns 500 (m + 1) a1 (wr.drewN n) (HT3.out.ext (fun _ _ _ => rfl)) ha1 (by have := HGL.out; omega)
                    rwa [show ((m + 1 : Nat) : Int) = q by rw [← hq]; simp, hdp] at this
                  have D2 : ∀ n, Calls Try.prog 8 #[.pointer (some ⟨w1.heap.size, 0, none⟩), .int .i64 x] (wr.drewN n) fun e w' => e = .returned (.int .i64 a2.deep) ∧ wr.drewN n = w' := fun n =>
                    deep_any w1.heap.size v4 ns 500 x a2 (wr.drewN n) (HT3.out.ext (fun _ _ _ => rfl)) ha2 (by have := HGL.out; omega)
                  obtain ⟨F, hF1, hF2, hFD⟩ : ∃ F : Int → Int → Prop, F q (a2.deep + 1) ∧ F x a2.deep ∧ ∀ n z r, F z r → Calls Try.prog 8 #[.pointer (some ⟨w1.heap.size, 0, none⟩), .int .i64 z] (wr.drewN n) fun e w' => e = .returned (.int .i64 r) ∧ wr.drewN n = w' := by
                    refine ⟨fun z r => (z = q ∧ r = a2.deep + 1) ∨ (z = (x : Int) ∧ r = a2.deep), .inl ⟨rfl, rfl⟩, .inr ⟨rfl, rfl⟩, ?_⟩
                    rintro n z r (⟨rfl, rfl⟩ | ⟨rfl, rfl⟩)
                    · exact D1 n
                    · exact D2 n
                  have HF1 := Lib.hid hF1; have HF2 := Lib.hid hF2; have HFD := Lib.hid hFD
                  clear hF1 hF2 hFD
                  have t2 : (a2.deep + 1 != a2.deep + 1) = false := by simp
                  have i0 : (0 : Int) ≤ (x : Int) := Int.natCast_nonneg _
                  have i1 : (x : Int) < (us.length : Int) + 1 := by omega
                  have i2 : (0 : Int) ≤ q := by omega
                  have i3 : q < (us.length : Int) + 1 := by omega
                  have HQ := Lib.hid hq
                  clear hq D1 D2 ha1 ha2 hdp hup hpl hy1 hy2 hx hcell hu hSb
                  go_wp2_with fail
                  have w1' : IntKind.i64.wrap ((m : Int) + 1) = q := by rw [← HQ.out]; exact IntWalk.i64_in _ (by omega)
                  have w2' : IntKind.i64.wrap (a2.deep + 1) = a2.deep + 1 := IntWalk.i64_in _ (by omega)
                  have w3' : q.toNat = m + 1 := by have := HQ.out; omega
                  have w4' : (m : Int) + 1 = q := HQ.out
                  go_quiet ((go_at_call 8; exact quiet_eq' (HFD.out _ _ _ (by first | exact HF1.out | exact HF2.out))))
                  clear w1' w2' w3' w4'
                  go_wp2
                  refine ⟨?_, by simp [intOf]; omega⟩
                  have R : ∀ W k, DpRel us.length W (.int .i64 (m + 1)) (W.drewN k) := fun W k => ⟨m + 1, k, by go_num, by omega, rfl⟩
                  first | exact R _ _ | ((repeat apply Exists.intro); exact ⟨R _ _, rfl⟩)
                · go_wp2
                  go_ret
                  exact ⟨rfl, ext_drewN _ HBB.out⟩
        · have FIN : Fin us w1 v4 ns L aL cL wr.heap.size w' := by
            have hz : (wr.alloc (.cells (madeCells #[.int .i64 0] (us.length + 1)) 3)).drew.heap.size ≤ w'.heap.size := hbL.size
            simp at hz
            refine ⟨HT.out.below hqL, HB.out.trans (hqL.mono HB.out.size), rL.wide (fun b hb => ⟨by have := hb.1; simp at this; omega, hb.2⟩), ?_, by have := HT.out.lt; omega, by omega, fun g hg => (HT.out.own.lt g hg).2⟩
            exact aown_ext (made_own wr _ (by simp [maxLen]; omega)) (fun k hk => by
              have : k = wr.heap.size := by simpa [Value.ownBlock] using hk.symm
              subst this
              exact hbL.block _ (by simp)) (Nat.le_refl _)
          have HF := Lib.hid FIN
          clear FIN rL hbL hqL B0 B1
          generalize w' = W at *
          generalize wr.heap.size = p at *
          go_wp2_with fail
          go_loopw [66] (PlRel us L p W) (fun i _ => us.length + 1 - (intOf i).toNat)
          case atStart => exact ⟨0, rfl, Nat.zero_le _, HF.out.own, Only.refl _ _⟩
          case round =>
            obtain ⟨j, rfl, hj, ho, hon⟩ := hrel
            by_cases hlt : j < us.length + 1
            · obtain ⟨k, hk⟩ := get_ex L j (by have := HLL.out; omega)
              have hkn := (HLM.out j k hk).1
              have hnew := (HLM.out j k hk).2
              have rl := HF.out.list.onlyT hon (fun b hb => ⟨hb.2, hb.1⟩)
              have e0 : L.map (fun x => Dat.int .i64 (x : Nat)) = (L.map fun x => ((x : Nat) : Int)).map (Dat.int .i64) := by simp
              simp only [intsD, e0] at rl
              obtain ⟨aL', cL', eL, _, _, hcL⟩ := rl.ints_inv
              rw [List.length_map] at hcL
              injection eL with e1 e2 e3
              subst e1
              obtain ⟨bL, oL, rfl, _, hcL⟩ := hcL (by have := HLL.out; omega)
              have x0 := hcL j (k : Nat) (by simp [hk])
              have x1 := place_cell ho hkn
              rw [show placeAt (L.take j) k = 0 from if_neg hnew] at x1
              have x2 := ho.frozenAt k
              have t1 : decide ((k : Int) < 0) = false := decide_eq_false (by omega)
              have ho' := (ho.stored k (.int .i64 ((j : Int) + 1))).1
              have R : PlRel us L p W (.int .i64 (j + 1)) (wr.setCell ⟨p, k, none⟩ (.int .i64 ((j : Int) + 1))) := by
                refine ⟨j + 1, by go_num, by omega, ?_, hon.set (fun _ => rfl) _⟩
                have e1 : L.take (j + 1) = L.take j ++ [k] := by rw [List.take_add_one, hk]; rfl
                rw [e1, placeOf_snoc _ _ _ hkn hnew, List.map_set, List.length_take, Nat.min_eq_left (by have := HLL.out; omega)]
                exact ho'
              have HR := Lib.hid R
              clear R ho ho' hon rl hcL hk hnew e0 e2 e3
              go_wp2
              refine ⟨?_, by simp [intOf]; omega⟩
              have R := HR.out
              first | exact R | ((repeat apply Exists.intro); exact ⟨R, rfl⟩)
            · obtain rfl : j = us.length + 1 := by omega
              rw [List.take_of_length_le (by have := HLL.out; omega)] at ho
              have HO := Lib.hid ho; have HON := Lib.hid hon
              clear ho hon
              have ht3 : TreeAt wr w1.heap.size v4 ns 500 := HF.out.tree.ext (fun k hk hT => HON.out.block k hk (fun e => by
                have hne := HF.out.ne
                rcases hT with h | h
                · omega
                · have := hne.2.2 k h; omega))
              have hb3 : Below w1.heap.size w1 wr := HF.out.below.trans (HON.out.below HF.out.below.size (fun k e => by have := HF.out.ne.1; omega))
              have hgl := HG.out.len
              rw [upsL_length] at hgl
              have HT3 := Lib.hid ht3; have HBB := Lib.hid (HB1.out.trans (hb3.mono HB1.out.size)); have HGL := Lib.hid hgl
              clear ht3 hb3 hgl
              go_wp2_with fail
              go_loopw [94] (DpRel us.length wr) (fun i _ => us.length - (intOf i).toNat)
              case atStart => exact ⟨0, 0, rfl, Nat.zero_le _, rfl⟩
              case round =>
                obtain ⟨m, nq, rfl, hm, rfl⟩ := hrel
                by_cases hlt3 : m < us.length
                · obtain ⟨b, off, rfl, hSb, hcell⟩ := HC.out (by simpa using (by omega : 0 < us.length))
                  obtain ⟨u, hu⟩ := get_ex us m hlt3
                  have hu256 := hus u (List.mem_of_getElem? hu)
                  have x0 := hcell m (u : Nat) (by simp [hu])
                  have hzb : b < w.heap.size := hSb
                  rw [← bcell1 HBB.out hzb] at x0
                  have hr := rem_nat u m
                  have hmod := Nat.mod_lt u (show 0 < m + 1 by omega)
                  have hup := upsL_get us m u hu
                  have hpl := HLB.out m u hu
                  obtain ⟨x, hx⟩ : ∃ x, u % (m + 1) = x := ⟨_, rfl⟩
                  rw [hx] at hr hmod hup hpl
                  have p1 := place_cell HO.out (id := x) (by omega)
                  have p2 := place_cell HO.out (id := m + 1) (by omega)
                  obtain ⟨y1, hy1⟩ : ∃ y, placeAt L x = y := ⟨_, rfl⟩
                  obtain ⟨y2, hy2⟩ : ∃ y, placeAt L (m + 1) = y := ⟨_, rfl⟩
                  rw [hy1] at p1 hpl
                  rw [hy2] at p2 hpl
                  have t1 : decide (y2 ≤ y1) = false := decide_eq_false (by omega)
                  obtain ⟨a1, ha1⟩ := get_ex ns (m + 1) (by have := HGL.out; omega)
                  obtain ⟨a2, ha2⟩ := get_ex ns x (by have := HGL.out; omega)
                  have hdp := HG.out.deep (m + 1) x a1 a2 (by omega) hup ha1 ha2
                  have hdl := deep_le HG.out (upsL_wf us) x a2 ha2
                  obtain ⟨q, hq⟩ : ∃ q : Int, (m : Int) + 1 = q := ⟨_, rfl⟩
                  have D1 : ∀ n, Calls Try.prog 8 #[.pointer (some ⟨w1.heap.size, 0, none⟩), .int .i64 q] (wr.drewN n) fun e w' => e = .returned (.int .i64 (a2.deep + 1)) ∧ wr.drewN n = w' := fun n => by
                    have := deep_any w1.heap.size v4 ns 500 (m + 1) a1 (wr.drewN n) (HT3.out.ext (fun _ _ _ => rfl)) ha1 (by have := HGL.out; omega)
                    rwa [show ((m + 1 : Nat) : Int) = q by rw [← hq]; simp, hdp] at this
                  have D2 : ∀ n, Calls Try.prog 8 #[.pointer (some ⟨w1.heap.size, 0, none⟩), .int .i64 x] (wr.drewN n) fun e w' => e = .returned (.int .i64 a2.deep) ∧ wr.drewN n = w' := fun n =>
                    deep_any w1.heap.size v4 ns 500 x a2 (wr.drewN n) (HT3.out.ext (fun _ _ _ => rfl)) ha2 (by have := HGL.out; omega)
                  obtain ⟨F, hF1, hF2, hFD⟩ : ∃ F : Int → Int → Prop, F q (a2.deep + 1) ∧ F x a2.deep ∧ ∀ n z r, F z r → Calls Try.prog 8 #[.pointer (some ⟨w1.heap.size, 0, none⟩), .int .i64 z] (wr.drewN n) fun e w' => e = .returned (.int .i64 r) ∧ wr.drewN n = w' := by
                    refine ⟨fun z r => (z = q ∧ r = a2.deep + 1) ∨ (z = (x : Int) ∧ r = a2.deep), .inl ⟨rfl, rfl⟩, .inr ⟨rfl, rfl⟩, ?_⟩
                    rintro n z r (⟨rfl, rfl⟩ | ⟨rfl, rfl⟩)
                    · exact D1 n
                    · exact D2 n
                  have HF1 := Lib.hid hF1; have HF2 := Lib.hid hF2; have HFD := Lib.hid hFD
                  clear hF1 hF2 hFD
                  have t2 : (a2.deep + 1 != a2.deep + 1) = false := by simp
                  have i0 : (0 : Int) ≤ (x : Int) := Int.natCast_nonneg _
                  have i1 : (x : Int) < (us.length : Int) + 1 := by omega
                  have i2 : (0 : Int) ≤ q := by omega
                  have i3 : q < (us.length : Int) + 1 := by omega
                  have HQ := Lib.hid hq
                  clear hq D1 D2 ha1 ha2 hdp hup hpl hy1 hy2 hx hcell hu hSb
                  go_wp2_with fail
                  have w1' : IntKind.i64.wrap ((m : Int) + 1) = q := by rw [← HQ.out]; exact IntWalk.i64_in _ (by omega)
                  have w2' : IntKind.i64.wrap (a2.deep + 1) = a2.deep + 1 := IntWalk.i64_in _ (by omega)
                  have w3' : q.toNat = m + 1 := by have := HQ.out; omega
                  have w4' : (m : Int) + 1 = q := HQ.out
                  go_quiet ((go_at_call 8; exact quiet_eq' (HFD.out _ _ _ (by first | exact HF1.out | exact HF2.out))))
                  clear w1' w2' w3' w4'
                  go_wp2
                  refine ⟨?_, by simp [intOf]; omega⟩
                  have R : ∀ W k, DpRel us.length W (.int .i64 (m + 1)) (W.drewN k) := fun W k => ⟨m + 1, k, by go_num, by omega, rfl⟩
                  first | exact R _ _ | ((repeat apply Exists.intro); exact ⟨R _ _, rfl⟩)
                · go_wp2
                  go_ret
                  exact ⟨rfl, ext_drewN _ HBB.out⟩
  · clear hc
    go_enter Try.func3, Try.ntmps3
    go_wp2_with fail
    refine (speaks05 _).mono ?_
    rintro e w1 ⟨rfl, hb1⟩
    go_wp2
    go_ret
    exact ⟨rfl, hb1⟩
end Go.Proofs.Ytjbbpmjbohedkaa
