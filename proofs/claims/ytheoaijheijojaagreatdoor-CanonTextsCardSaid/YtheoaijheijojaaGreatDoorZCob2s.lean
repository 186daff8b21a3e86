/- Cob2, Cob3, Cob4, Cob5 in one text (a claim holds at most 60 files). -/
import Derived.Test.YtheoaijheijojaaGreatDoorZCob0s
namespace Go.Proofs.YtheoaijheijojaaGreatDoor
section
open Go.RowKit
def ObPost (w : World) (R : ByteArray × Int × Int) (e : Ending) (w' : World) : Prop := ∃ u, e = .returned (.tuple #[.string R.1, u]) ∧ ErrIs w' u R.2 ∧ Below w.heap.size w w'
def kvQ (keys values : List ByteArray) : List KV := keys.zip (values.map quoteB)
def ObcRel (keys values : List ByteArray) (W : World) (vp vj : Value) (wr : World) : Prop := ∃ j : Nat, vj = .int .i64 j ∧ j ≤ keys.length ∧ (∀ m, m < j → badP keys values m = false) ∧ wr.ownsRow W.heap.size 113 2 vp j (((kvQ keys values).take j).flatMap encM) ∧ Below W.heap.size W wr
def DuRel (keys : List ByteArray) (W : World) (vj : Value) (wr : World) : Prop := ∃ j : Nat, vj = .int .i64 j ∧ j ≤ keys.length ∧ wr = W ∧ ∀ m, m < j → dupP keys m = false
theorem kvQ_at {keys values : List ByteArray} {j : Nat} {k v : ByteArray} (hk : keys[j]? = some k) (hv : values[j]? = some v) : (kvQ keys values)[j]? = some (k, quoteB v) := by
  unfold kvQ
  rw [List.getElem?_zip_eq_some]
  exact ⟨hk, by rw [List.getElem?_map, hv]; rfl⟩
theorem kvQ_len {keys values : List ByteArray} (h : keys.length = values.length) : (kvQ keys values).length = keys.length := by unfold kvQ; rw [List.length_zip, List.length_map]; omega
set_option maxRecDepth 100000 in
set_option maxHeartbeats 2000000 in
theorem cobject_any (w : World) (v1 v2 : Value) (keys values : List ByteArray) (he : ScEnv w) (h1 : Rd (Own w) w v1 (.list 1 (keys.map .str))) (h2 : Rd (Own w) w v2 (.list 1 (values.map .str))) (hl1 : keys.length ≤ 1000) (_hl2 : values.length ≤ 1000)
    (hz1 : ∀ x ∈ keys, x.size ≤ 1000) (hz2 : ∀ x ∈ values, x.size ≤ 1000) :
    Calls Tryz.prog 23 #[v1, v2] w (ObPost w (objectS keys values)) := by
  obtain ⟨R, hR⟩ : ∃ R, objectS keys values = R := ⟨_, rfl⟩
  rw [hR]
  unfold objectS at hR
  obtain ⟨a1, c1, rfl, _, hc1, hx1⟩ := h1.strs_inv
  obtain ⟨a2, c2, rfl, _, hc2, hx2⟩ := h2.strs_inv
  have FA := Lib.hid failE_any
  have RI := Lib.hid cright_any
  have QU := Lib.hid quoted_any
  have HE := Lib.hid he; have HX1 := Lib.hid hx1; have HX2 := Lib.hid hx2; have HZ1 := Lib.hid hz1; have HZ2 := Lib.hid hz2
  by_cases hne : keys.length = values.length
  · rw [if_neg (not_not_intro hne)] at hR
    have HR := Lib.hid hR; have HNE := Lib.hid hne
    obtain ⟨n, hn⟩ : ∃ n, keys.length = n := ⟨_, rfl⟩
    have hn2 : values.length = n := by omega
    have HN := Lib.hid hn; have HN2 := Lib.hid hn2
    have hkl := kvQ_len hne
    rw [hn] at hkl hl1 hc1
    have HKL := Lib.hid hkl
    rw [hn2] at hc2
    rw [hn, hn2]
    clear h1 h2 hx1 hx2 he hz1 hz2 hR hne hkl
    have tn : ((n : Int) != n) = false := by simp
    go_enter Tryz.func23, Tryz.ntmps23
    go_wp2_with fail
    clear tn
    go_loopw [19] (DuRel keys w) (fun i _ => n - (intOf i).toNat)
    case atStart => exact ⟨0, rfl, Nat.zero_le _, rfl, fun m h => by omega⟩
    case round =>
      obtain ⟨j, rfl, hj, rfl, hno⟩ := hrel
      rw [HN.out] at hj
      have HNO := Lib.hid hno
      clear hno
      by_cases hlt : j < n
      · have t1 : decide ((j : Int) < (n : Int)) = true := decide_eq_true (by omega)
        have t1' : decide (j < n) = true := decide_eq_true hlt
        have q1 : IntKind.i64.wrap ((j : Int) + 1) = (j : Int) + 1 := IntWalk.i64_in _ (by omega)
        obtain ⟨b, off, rfl, hbz, hc⟩ := HX1.out (by rw [HN.out]; omega)
        obtain ⟨k, hk⟩ := get_ex keys j (by rw [HN.out]; exact hlt)
        have c0 := hc j k hk
        have SH := strHas_any wr (some ⟨b, off, none⟩) j c1 (keys.take j) k (by rw [List.length_take, HN.out]; omega) (fun _ => ⟨b, off, rfl, fun i x hx => by
          rw [List.getElem?_take] at hx
          split at hx
          · exact hc i x hx
          · cases hx⟩) (by rw [List.length_take, HN.out]; omega)
        have hd : dupP keys j = hasL (keys.take j) k := by unfold dupP keyAt; rw [hk]; rfl
        have SH := Lib.hid SH; have HD := Lib.hid hd
        clear hc hk hd
        by_cases hin : k ∈ keys.take j
        · have HIN := Lib.hid (hasL_t hin)
          have SH2 := SH.out
          rw [HIN.out] at SH2
          have SH2 := Lib.hid SH2
          have FL := Lib.hid (FA.out 31 j wr (by decide))
          have hRR : R = (⟨#[]⟩, 31, (j : Int)) := by
            rw [← HR.out, firstT_some (by rw [HN.out]; exact hlt) (by rw [HD.out]; exact HIN.out) HNO.out]
          have HRR := Lib.hid hRR
          clear hin SH hRR
          go_wp2_with fail
          go_at_call 51
          refine SH2.out.mono ?_
          rintro _ w3 ⟨rfl, rfl⟩
          go_wp2_with fail
          go_at_call 30
          refine FL.out.mono ?_
          rintro _ w4 ⟨p, rfl, he4, hb4⟩
          have HB4 := Lib.hid hb4
          have HE4 := Lib.hid he4
          clear hb4 he4
          go_wp2
          rw [HRR.out]
          refine bodyPost_ret (v := .tuple #[.string ⟨#[]⟩, .iface 115 (.pointer (some p))]) (by simp [results, Tryz.results23, go_sem]) rfl ⟨_, rfl, HE4.out, HB4.out⟩
        · have HIN := Lib.hid (hasL_f hin)
          have SH2 := SH.out
          rw [HIN.out] at SH2
          have SH2 := Lib.hid SH2
          clear hin SH
          go_wp2_with fail
          go_at_call 51
          refine SH2.out.mono ?_
          rintro _ w3 ⟨rfl, rfl⟩
          go_wp2
          refine ⟨?_, by simp [intOf]; omega⟩
          have R1 : DuRel keys w3 (.int .i64 ((j : Int) + 1)) w3 := ⟨j + 1, by go_num, by rw [HN.out]; exact hlt, rfl, fun m hm => by
            by_cases e : m = j
            · subst e; rw [HD.out]; exact HIN.out
            · exact HNO.out m (by omega)⟩
          first | exact R1 | ((repeat apply Exists.intro); exact ⟨R1, rfl⟩)
      · have hjn : j = n := by omega
        have t1 : decide ((j : Int) < (n : Int)) = false := decide_eq_false (by omega)
        have t1' : decide (j < n) = false := decide_eq_false hlt
        have hnd : ∀ m, m < keys.length → dupP keys m = false := fun m hm => HNO.out m (by rw [HN.out] at hm; omega)
        have hR2 := HR.out
        rw [firstT_none hnd] at hR2
        simp only at hR2
        have HR2 := Lib.hid hR2; have HND := Lib.hid hnd
        clear hR2 hnd HR HNO hlt hjn
        go_wp2_with fail
        clear t1 t1' hj
        generalize wr = wo at *
        go_loopw [8, 34] (ObcRel keys values wo) (fun _ i _ => n - (intOf i).toNat)
        case atStart => exact ⟨0, rfl, Nat.zero_le _, fun m h => by omega, by simpa using World.ownsRow_nil wo wo.heap.size 113 2, Below.refl _ _⟩
        case round =>
          obtain ⟨m, rfl, hm, hok, hp, hb⟩ := hrel
          rw [HN.out] at hm
          have HOK := Lib.hid hok; have HP := Lib.hid hp; have HB := Lib.hid hb
          have HEw := Lib.hid (HE.out.ext hb)
          by_cases hlt : m < n
          · have t1 : decide ((m : Int) < (n : Int)) = true := decide_eq_true (by omega)
            have t1' : decide (m < n) = true := decide_eq_true hlt
            have q1 : IntKind.i64.wrap ((m : Int) + 1) = (m : Int) + 1 := IntWalk.i64_in _ (by omega)
            obtain ⟨b1, o1, rfl, hbz1, hcl1⟩ := HX1.out (by rw [HN.out]; omega)
            obtain ⟨b2, o2, rfl, hbz2, hcl2⟩ := HX2.out (by rw [HN2.out]; omega)
            obtain ⟨k, hk⟩ := get_ex keys m (by rw [HN.out]; exact hlt)
            obtain ⟨x, hx⟩ := get_ex values m (by rw [HN2.out]; exact hlt)
            have c0 : wr.cell? ⟨b1, o1 + m, none⟩ = some (.string k) := (bcell1 hb hbz1 _).trans (hcl1 m k hk)
            have kz := HZ1.out k (List.mem_of_getElem? hk)
            have xz := HZ2.out x (List.mem_of_getElem? hx)
            have C2 := Lib.hid (hcl2 m x hx)
            have hbp : badP keys values m = !(okC k && okC x) := by unfold badP keyAt; rw [hk, hx]; rfl
            have HBP := Lib.hid hbp
            have HKV := Lib.hid (kvQ_at hk hx)
            have R1 := Lib.hid (RI.out k wr HEw.out (by omega))
            have hRn : (okC k && okC x) = false → R = (⟨#[]⟩, 12, (m : Int)) := fun h => by
              rw [← HR2.out, firstT_some (by rw [HN.out]; exact hlt) (by rw [HBP.out, h]; rfl) HOK.out]
            have HRN := Lib.hid hRn
            have HBZ2 : Hid (b2 < wo.heap.size) := Lib.hid hbz2
            clear hcl1 hcl2 hk hx hbp hok hp hb hRn hbz1 hbz2
            obtain ⟨tk, htk⟩ : ∃ t, okC k = t := ⟨_, rfl⟩
            obtain ⟨tx, htx⟩ : ∃ t, okC x = t := ⟨_, rfl⟩
            have HTK := Lib.hid htk; have HTX := Lib.hid htx
            have R1' := R1.out
            rw [htk] at R1'
            have R1 := Lib.hid R1'
            clear htk htx R1'
            cases tk with
            | false =>
              go_wp2_with fail
              go_at_call 52
              refine R1.out.mono ?_
              rintro _ w3 ⟨rfl, hb3⟩
              have HB3 := Lib.hid (HB.out.trans (hb3.mono HB.out.size))
              have FL := Lib.hid (FA.out 12 m w3 (by decide))
              have HRR := Lib.hid (HRN.out (by rw [HTK.out]; rfl))
              clear hb3 R1
              go_wp2_with fail
              go_at_call 30
              refine FL.out.mono ?_
              rintro _ w4 ⟨p, rfl, he4, hb4⟩
              have HB4 := Lib.hid (HB3.out.trans (hb4.mono HB3.out.size))
              have HE4 := Lib.hid he4
              clear hb4 he4
              go_wp2
              rw [HRR.out]
              refine bodyPost_ret (v := .tuple #[.string ⟨#[]⟩, .iface 115 (.pointer (some p))]) (by simp [results, Tryz.results23, go_sem]) rfl ⟨_, rfl, HE4.out, HB4.out⟩
            | true =>
              go_wp2_with fail
              go_at_call 52
              refine R1.out.mono ?_
              rintro _ w3 ⟨rfl, hb3⟩
              have HB3 := Lib.hid (HB.out.trans (hb3.mono HB.out.size))
              have HP3 := Lib.hid (aown_ext HP.out (fun q hq => hb3.block q (HP.out.lt q hq).2) (Nat.le_refl _))
              have c2 : w3.cell? ⟨b2, o2 + m, none⟩ = some (.string x) := (bcell1 HB3.out HBZ2.out _).trans C2.out
              have HE3 := Lib.hid (HE.out.ext HB3.out)
              have R2 := RI.out x w3 HE3.out (by omega)
              rw [HTX.out] at R2
              have R2 := Lib.hid R2
              clear hb3 R1 c0
              cases tx with
              | false =>
                have HRR := Lib.hid (HRN.out (by rw [HTK.out, HTX.out]; rfl))
                go_wp2_with fail
                go_at_call 52
                refine R2.out.mono ?_
                rintro _ w4 ⟨rfl, hb4⟩
                have HB4 := Lib.hid (HB3.out.trans (hb4.mono HB3.out.size))
                have FL := Lib.hid (FA.out 12 m w4 (by decide))
                clear hb4 R2 c2
                go_wp2_with fail
                go_at_call 30
                refine FL.out.mono ?_
                rintro _ w5 ⟨p, rfl, he4, hb5⟩
                have HB5 := Lib.hid (HB4.out.trans (hb5.mono HB4.out.size))
                have HE4 := Lib.hid he4
                clear hb5 he4
                go_wp2
                rw [HRR.out]
                refine bodyPost_ret (v := .tuple #[.string ⟨#[]⟩, .iface 115 (.pointer (some p))]) (by simp [results, Tryz.results23, go_sem]) rfl ⟨_, rfl, HE4.out, HB5.out⟩
              | true =>
                have hrx : RightB x := okC_iff.1 HTX.out
                go_wp2_with fail
                go_at_call 52
                refine R2.out.mono ?_
                rintro _ w4 ⟨rfl, hb4⟩
                have HB4 := Lib.hid (HB3.out.trans (hb4.mono HB3.out.size))
                have HP4 := Lib.hid (aown_ext HP3.out (fun q hq => hb4.block q (HP3.out.lt q hq).2) (Nat.le_refl _))
                have c4 : w4.cell? ⟨b2, o2 + m, none⟩ = some (.string x) := (bcell1 HB4.out HBZ2.out _).trans C2.out
                have QX := Lib.hid (QU.out x w4 (HE.out.ext HB4.out) hrx (by omega))
                clear hb4 R2 c2 hrx
                go_wp2_with fail
                go_at_call 53
                refine QX.out.mono ?_
                rintro _ w5 ⟨rfl, hb5⟩
                have HB5 := Lib.hid (HB4.out.trans (hb5.mono HB4.out.size))
                have HP5 := Lib.hid (aown_ext HP4.out (fun q hq => hb5.block q (HP4.out.lt q hq).2) (Nat.le_refl _))
                have hle5 := HB5.out.size
                clear hb5 QX c4
                obtain ⟨qx, hqx⟩ : ∃ qx, quoteB x = qx := ⟨_, rfl⟩
                have HQ := Lib.hid hqx
                rw [hqx]
                clear hqx
                go_wp2_with (at_builtin; refine wpList_appAt (w5.alloc (.cells #[.string k, .string qx] 113)) rfl _ _ 110 rfl wo.heap.size elMem u8 m _ rfl (HP5.out.alloc _) ⟨w5.heap.size, 0, none⟩ 1 1 [.string k, .string qx] rfl rfl (World.news_of_block (cs := #[.string k, .string qx]) (t := 113) (fr := (0, 0)) (heap_alloc_new w5 _)) ?c1 ?c2 ?c3 ?c4 ?_)
                case c1 => simp [Value.oneCell']
                case c2 => unfold maxLen; omega
                case c3 => omega
                case c4 => simp; omega
                intro v8 w8 ho8 hg8 _
                have e8 : ((kvQ keys values).take (m + 1)).flatMap encM = ((kvQ keys values).take m).flatMap encM ++ [.string k, .string qx] := by
                  rw [List.take_add_one, HKV.out, List.flatMap_append, HQ.out]
                  rfl
                have RR : ObcRel keys values wo v8 (.int .i64 ((m : Int) + 1)) w8 := ⟨m + 1, by go_num, by rw [HN.out]; exact hlt, fun i hi => by
                  by_cases e : i = m
                  · subst e; rw [HBP.out, HTK.out, HTX.out]; rfl
                  · exact HOK.out i (by omega), by rw [e8]; exact ho8, (ext_alloc HB5.out _).grown hg8 (by simp; omega) (fun q hq => (HP5.out.lt q hq).1)⟩
                have HRR := Lib.hid RR
                clear RR ho8 hg8 e8
                go_wp2
                refine ⟨?_, by simp [intOf]; omega⟩
                have R3 := HRR.out
                first | exact R3 | ((repeat apply Exists.intro); exact ⟨R3, rfl⟩)
          · have hmn : m = n := by omega
            have t1 : decide ((m : Int) < (n : Int)) = false := decide_eq_false (by omega)
            have t1' : decide (m < n) = false := decide_eq_false hlt
            have hbd : ∀ i, i < keys.length → badP keys values i = false := fun i hi => HOK.out i (by rw [HN.out] at hi; omega)
            have hR3 := HR2.out
            rw [firstT_none hbd] at hR3
            simp only at hR3
            have htl : (kvQ keys values).take m = kvQ keys values := List.take_of_length_le (by rw [HKL.out]; omega)
            have hp2 := HP.out
            rw [htl] at hp2
            have hpl : m = (kvQ keys values).length := by rw [HKL.out]; exact hmn
            rw [hpl] at hp2
            have hinj := zip_inj (forms := values.map quoteB) (by rw [List.length_map, HN.out, HN2.out]) (dup_inj HND.out)
            have hrt : ∀ a ∈ kvQ keys values, RightB a.1 ∧ a.1.size ≤ 100000 := fun a ha => by
              unfold kvQ at ha
              rw [zip_range keys _ (by rw [List.length_map, HN.out, HN2.out])] at ha
              obtain ⟨i, hi, rfl⟩ := List.mem_map.1 ha
              have hi := List.mem_range.1 hi
              have hbi := hbd i hi
              unfold badP at hbi
              have h3 : okC (keyAt keys i) = true := by
                cases h : okC (keyAt keys i) with
                | true => rfl
                | false => rw [h] at hbi; cases hbi
              refine ⟨okC_iff.1 h3, ?_⟩
              exact Nat.le_trans (HZ1.out _ (keyAt_mem hi)) (by omega)
            have hos := obj_small (keys := keys) (values := values) (by rw [HN.out]; exact hl1) HZ1.out HZ2.out
            have OB := object_any wo wr u8 (kvQ keys values) (HE.out) HB.out hinj hrt (by rw [HKL.out]; omega) (Nat.le_trans hos (by omega)) hp2
            have HR3 : Hid (R = (objB (kvQ keys values), 0, 0)) := Lib.hid hR3.symm
            have OB := Lib.hid OB
            clear hp hb hok hbd hR3 htl hp2 hpl hinj hrt hos hmn
            obtain ⟨ob, hob⟩ : ∃ ob, objB (kvQ keys values) = ob := ⟨_, rfl⟩
            have OB' := OB.out
            have HR4 := HR3.out
            rw [hob] at OB' HR4
            have OB := Lib.hid OB'; have HR3 := Lib.hid HR4
            clear OB' HR4 hob
            go_wp2_with fail
            go_at_call 54
            refine OB.out.mono ?_
            rintro _ w5 ⟨rfl, hb5⟩
            have HF := Lib.hid hb5
            clear hb5 OB
            go_wp2
            rw [HR3.out]
            go_ret2
            exact ⟨_, rfl, .inl ⟨rfl, rfl⟩, HF.out⟩
  · rw [if_pos hne] at hR
    have tn : ((keys.length : Int) != values.length) = true := by simp; omega
    have FL := Lib.hid (FA.out 1 0 w (by decide))
    have HR := Lib.hid hR
    clear h1 h2 hx1 hx2 he hz1 hz2 hR hne
    go_enter Tryz.func23, Tryz.ntmps23
    go_wp2_with fail
    go_at_call 30
    refine FL.out.mono ?_
    rintro _ w4 ⟨p, rfl, he4, hb4⟩
    have HB4 := Lib.hid hb4
    have HE4 := Lib.hid he4
    clear hb4 he4
    go_wp2
    rw [← HR.out]
    refine bodyPost_ret (v := .tuple #[.string ⟨#[]⟩, .iface 115 (.pointer (some p))]) (by simp [results, Tryz.results23, go_sem]) rfl ⟨_, rfl, HE4.out, HB4.out⟩
end
section
open Go.RowKit
def LstRel (values : List ByteArray) (W : World) (vp vj : Value) (wr : World) : Prop := ∃ j : Nat, vj = .int .i64 j ∧ j ≤ values.length ∧ (∀ m, m < j → (!okC (keyAt values m)) = false) ∧ wr.ownsRow W.heap.size 9 1 vp j (strV ((values.map quoteB).take j)) ∧ Below W.heap.size W wr
theorem jz_small {values : List ByteArray} (hl : values.length ≤ 1000) (hv : ∀ x ∈ values, x.size ≤ 1000) : (J (values.map quoteB)).size ≤ 20000000 := by
  have h := lst_small hl hv
  unfold lstB at h
  rw [ByteArray.size_append, ByteArray.size_append] at h
  omega
set_option maxRecDepth 100000 in
set_option maxHeartbeats 2000000 in
theorem clist_any (w : World) (v2 : Value) (values : List ByteArray) (he : ScEnv w) (h2 : Rd (Own w) w v2 (.list 1 (values.map .str))) (hl2 : values.length ≤ 1000)
    (hz2 : ∀ x ∈ values, x.size ≤ 1000) :
    Calls Tryz.prog 25 #[v2] w (ObPost w (listS values)) := by
  obtain ⟨R, hR⟩ : ∃ R, listS values = R := ⟨_, rfl⟩
  rw [hR]
  unfold listS at hR
  obtain ⟨a2, c2, rfl, _, hc2, hx2⟩ := h2.strs_inv
  have FA := Lib.hid failE_any
  have RI := Lib.hid cright_any
  have QU := Lib.hid quoted_any
  have JZ := Lib.hid (jz_small hl2 hz2)
  have HE := Lib.hid he; have HX2 := Lib.hid hx2; have HZ2 := Lib.hid hz2; have HR := Lib.hid hR
  obtain ⟨n, hn2⟩ : ∃ n, values.length = n := ⟨_, rfl⟩
  have HN2 := Lib.hid hn2
  rw [hn2] at hc2 hl2 ⊢
  clear h2 hx2 he hz2 hR
  go_enter Tryz.func25, Tryz.ntmps25
  go_wp2_with fail
  go_loopw [4, 9] (LstRel values w) (fun _ i _ => n - (intOf i).toNat)
  case atStart => exact ⟨0, rfl, Nat.zero_le _, fun m h => by omega, by simpa [strV] using World.ownsRow_nil w w.heap.size 9 1, Below.refl _ _⟩
  case round =>
    obtain ⟨m, rfl, hm, hok, hp, hb⟩ := hrel
    rw [HN2.out] at hm
    have HOK := Lib.hid hok; have HP := Lib.hid hp; have HB := Lib.hid hb
    have HEw := Lib.hid (HE.out.ext hb)
    by_cases hlt : m < n
    · have t1 : decide ((m : Int) < (n : Int)) = true := decide_eq_true (by omega)
      have t1' : decide (m < n) = true := decide_eq_true hlt
      have q1 : IntKind.i64.wrap ((m : Int) + 1) = (m : Int) + 1 := IntWalk.i64_in _ (by omega)
      obtain ⟨b2, o2, rfl, hbz2, hcl2⟩ := HX2.out (by rw [HN2.out]; omega)
      obtain ⟨x, hx⟩ := get_ex values m (by rw [HN2.out]; exact hlt)
      have c0 : wr.cell? ⟨b2, o2 + m, none⟩ = some (.string x) := (bcell1 hb hbz2 _).trans (hcl2 m x hx)
      have xz := HZ2.out x (List.mem_of_getElem? hx)
      have hka : keyAt values m = x := by unfold keyAt; rw [hx]; rfl
      have hbp : (!okC (keyAt values m)) = !(okC x) := by rw [hka]
      have HBP := Lib.hid hbp
      have hkv : (values.map quoteB)[m]? = some (quoteB x) := by rw [List.getElem?_map, hx]; rfl
      have HKV := Lib.hid hkv
      have R1 := RI.out x wr HEw.out (by omega)
      have hRn : okC x = false → R = (⟨#[]⟩, 12, (m : Int)) := fun h => by
        rw [← HR.out, firstT_some (j := m) (by rw [HN2.out]; exact hlt) (by rw [HBP.out, h]; rfl) HOK.out]
      have HRN := Lib.hid hRn
      obtain ⟨tx, htx⟩ : ∃ t, okC x = t := ⟨_, rfl⟩
      have HTX := Lib.hid htx
      rw [htx] at R1
      have R1 := Lib.hid R1
      clear hcl2 hx hbp hok hp hb hRn hbz2 htx hka hkv
      cases tx with
      | false =>
        go_wp2_with fail
        go_at_call 52
        refine R1.out.mono ?_
        rintro _ w3 ⟨rfl, hb3⟩
        have HB3 := Lib.hid (HB.out.trans (hb3.mono HB.out.size))
        have FL := Lib.hid (FA.out 12 m w3 (by decide))
        have HRR := Lib.hid (HRN.out HTX.out)
        clear hb3 R1
        go_wp2_with fail
        go_at_call 30
        refine FL.out.mono ?_
        rintro _ w4 ⟨p, rfl, he4, hb4⟩
        have HB4 := Lib.hid (HB3.out.trans (hb4.mono HB3.out.size))
        have HE4 := Lib.hid he4
        clear hb4 he4
        go_wp2
        rw [HRR.out]
        refine bodyPost_ret (v := .tuple #[.string ⟨#[]⟩, .iface 115 (.pointer (some p))]) (by simp [results, Tryz.results25, go_sem]) rfl ⟨_, rfl, HE4.out, HB4.out⟩
      | true =>
        have hrx : RightB x := okC_iff.1 HTX.out
        go_wp2_with fail
        go_at_call 52
        refine R1.out.mono ?_
        rintro _ w4 ⟨rfl, hb4⟩
        have HB4 := Lib.hid (HB.out.trans (hb4.mono HB.out.size))
        have HP4 := Lib.hid (aown_ext HP.out (fun q hq => hb4.block q (HP.out.lt q hq).2) (Nat.le_refl _))
        have QX := Lib.hid (QU.out x w4 (HE.out.ext HB4.out) hrx (by omega))
        clear hb4 R1 c0 hrx
        go_wp2_with fail
        go_at_call 53
        refine QX.out.mono ?_
        rintro _ w5 ⟨rfl, hb5⟩
        have HB5 := Lib.hid (HB4.out.trans (hb5.mono HB4.out.size))
        have HP5 := Lib.hid (aown_ext HP4.out (fun q hq => hb5.block q (HP4.out.lt q hq).2) (Nat.le_refl _))
        have hle5 := HB5.out.size
        clear hb5 QX
        obtain ⟨qx, hqx⟩ : ∃ qx, quoteB x = qx := ⟨_, rfl⟩
        have HQ := Lib.hid hqx
        rw [hqx]
        clear hqx
        go_wp2_with (at_builtin; refine wpList_appAt (w5.alloc (.cells #[.string qx] 9)) rfl _ _ 39 rfl w.heap.size elStr8 u4 m _ rfl (HP5.out.alloc _) ⟨w5.heap.size, 0, none⟩ 1 1 [.string qx] rfl rfl (World.news_of_block (cs := #[.string qx]) (t := 9) (fr := (0, 0)) (heap_alloc_new w5 _)) ?c1 ?c2 ?c3 ?c4 ?_)
        case c1 => simp [Value.oneCell']
        case c2 => unfold maxLen; omega
        case c3 => omega
        case c4 => simp; omega
        intro v8 w8 ho8 hg8 _
        have e8 : strV ((values.map quoteB).take (m + 1)) = strV ((values.map quoteB).take m) ++ [.string qx] := by
          rw [List.take_add_one, HKV.out, HQ.out]
          simp [strV]
        have RR : LstRel values w v8 (.int .i64 ((m : Int) + 1)) w8 := ⟨m + 1, by go_num, by rw [HN2.out]; exact hlt, fun i hi => by
          by_cases e : i = m
          · subst e; rw [HBP.out, HTX.out]; rfl
          · exact HOK.out i (by omega), by rw [e8]; exact ho8, (ext_alloc HB5.out _).grown hg8 (by simp; omega) (fun q hq => (HP5.out.lt q hq).1)⟩
        have HRR := Lib.hid RR
        clear RR ho8 hg8 e8
        go_wp2
        refine ⟨?_, by simp [intOf]; omega⟩
        have R3 := HRR.out
        first | exact R3 | ((repeat apply Exists.intro); exact ⟨R3, rfl⟩)
    · have hmn : m = n := by omega
      have t1 : decide ((m : Int) < (n : Int)) = false := decide_eq_false (by omega)
      have t1' : decide (m < n) = false := decide_eq_false hlt
      have hbd : ∀ i, i < values.length → (!okC (keyAt values i)) = false := fun i hi => HOK.out i (by rw [HN2.out] at hi; omega)
      have hR3 := HR.out
      rw [firstT_none hbd] at hR3
      simp only at hR3
      have hml : (values.map quoteB).length = n := by rw [List.length_map, HN2.out]
      have htl : (values.map quoteB).take m = values.map quoteB := List.take_of_length_le (by rw [hml]; omega)
      have hp2 := HP.out
      rw [htl, hmn, ← hml] at hp2
      have JO := join_any wr w.heap.size u4 (values.map quoteB) hp2 (by rw [hml]; omega) (Nat.le_trans JZ.out (by omega))
      obtain ⟨jb, hjb⟩ : ∃ jb, J (values.map quoteB) = jb := ⟨_, rfl⟩
      have hjz := JZ.out
      have hre : R = (⟨#[91]⟩ ++ jb ++ ⟨#[93]⟩, 0, 0) := by rw [← hR3, ← hjb]; rfl
      rw [hjb] at JO hjz
      have HR3 := Lib.hid hre
      have JO := Lib.hid JO
      clear hp hb hok hbd hR3 htl hp2 hjb hml hre
      go_wp2_with fail
      go_at_call 56
      refine JO.out.mono ?_
      rintro _ w5 ⟨rfl, hb5⟩
      have HF := Lib.hid (HB.out.trans (hb5.mono HB.out.size))
      clear hb5 JO
      go_wp2
      rw [HR3.out]
      go_ret2
      exact ⟨_, rfl, .inl ⟨rfl, rfl⟩, HF.out⟩
end
section
open Go.RowKit
def RobPost (w : World) (R : ByteArray × Int × Int) (e : Ending) (w' : World) : Prop := e = .returned (.tuple #[.string R.1, .int .i64 R.2.1, .int .i64 R.2.2]) ∧ Below w.heap.size w w'
def DoRel (keys : List ByteArray) (W : World) (vj : Value) (wr : World) : Prop := ∃ j : Nat, vj = .int .i64 j ∧ j ≤ keys.length ∧ Below W.heap.size W wr ∧ ∀ m, m < j → dupP keys m = false
def DiRel (keys : List ByteArray) (i : Nat) (W : World) (vj : Value) (wr : World) : Prop := ∃ j : Nat, vj = .int .i64 j ∧ j ≤ i ∧ Below W.heap.size W wr ∧ ∀ m, m < j → keyAt keys m ≠ keyAt keys i
def RbRel (keys values : List ByteArray) (W : World) (vp vj : Value) (wr : World) : Prop := ∃ j : Nat, vj = .int .i64 j ∧ j ≤ keys.length ∧ (∀ m, m < j → badP keys values m = false) ∧ wr.ownsRow W.heap.size 9 1 vp j (strV ((values.map quoteB).take j)) ∧ Below W.heap.size W wr
set_option maxRecDepth 100000 in
set_option maxHeartbeats 2000000 in
theorem robj_any (w : World) (v1 v2 : Value) (keys values : List ByteArray) (h1 : Rd (Own w) w v1 (.list 1 (keys.map .str))) (h2 : Rd (Own w) w v2 (.list 1 (values.map .str))) (hl1 : keys.length ≤ 1000)
    (hz1 : ∀ x ∈ keys, x.size ≤ 1000) (hz2 : ∀ x ∈ values, x.size ≤ 1000) :
    Calls Tryz.prog 26 #[v1, v2] w (RobPost w (objectS keys values)) := by
  obtain ⟨R, hR⟩ : ∃ R, objectS keys values = R := ⟨_, rfl⟩
  rw [hR]
  unfold objectS at hR
  have H1 := Lib.hid h1
  obtain ⟨a1, c1, rfl, _, hc1, hx1⟩ := h1.strs_inv
  obtain ⟨a2, c2, rfl, _, hc2, hx2⟩ := h2.strs_inv
  have RI := Lib.hid rright8_any
  have QU := Lib.hid rquote_any
  have HX1 := Lib.hid hx1; have HX2 := Lib.hid hx2; have HZ1 := Lib.hid hz1; have HZ2 := Lib.hid hz2
  by_cases hne : keys.length = values.length
  · rw [if_neg (not_not_intro hne)] at hR
    have HR := Lib.hid hR; have HNE := Lib.hid hne
    obtain ⟨n, hn⟩ : ∃ n, keys.length = n := ⟨_, rfl⟩
    have hn2 : values.length = n := by omega
    have HN := Lib.hid hn; have HN2 := Lib.hid hn2
    rw [hn] at hl1 hc1 H1
    rw [hn2] at hc2
    rw [hn, hn2]
    clear h1 h2 hx1 hx2 hz1 hz2 hR hne
    have tn : ((n : Int) != n) = false := by simp
    go_enter Tryz.func26, Tryz.ntmps26
    go_wp2_with fail
    clear tn
    go_loopw [7] (DoRel keys w) (fun i _ => n - (intOf i).toNat)
    case atStart => exact ⟨0, rfl, Nat.zero_le _, Below.refl _ _, fun m h => by omega⟩
    case round =>
      obtain ⟨i, rfl, hi, hb, hno⟩ := hrel
      rw [HN.out] at hi
      have HNO := Lib.hid hno; have HB := Lib.hid hb
      clear hno hb
      by_cases hlt : i < n
      · have t1 : decide ((i : Int) < (n : Int)) = true := decide_eq_true (by omega)
        have t1' : decide (i < n) = true := decide_eq_true hlt
        have q1 : IntKind.i64.wrap ((i : Int) + 1) = (i : Int) + 1 := IntWalk.i64_in _ (by omega)
        obtain ⟨b, off, rfl, hbz, hc⟩ := HX1.out (by rw [HN.out]; omega)
        obtain ⟨k, hk⟩ := get_ex keys i (by rw [HN.out]; exact hlt)
        have hki : keyAt keys i = k := by unfold keyAt; rw [hk]; rfl
        have HKI := Lib.hid hki; have HCC := Lib.hid hc
        have CK := Lib.hid (hc i k hk)
        have HBZ : Hid (b < w.heap.size) := Lib.hid hbz
        have HT := Lib.hid hlt
        clear hk hki hc hbz hlt
        go_wp2_with fail
        generalize wr = wo at *
        go_loopw [8] (DiRel keys i wo) (fun j _ => i - (intOf j).toNat)
        case atStart => exact ⟨0, rfl, Nat.zero_le _, Below.refl _ _, fun m h => by omega⟩
        case round =>
          obtain ⟨j, rfl, hj, hb, hnj⟩ := hrel
          have HNJ := Lib.hid hnj
          have HB2 := Lib.hid (HB.out.trans (hb.mono HB.out.size))
          have HBo := Lib.hid hb
          clear hnj hb
          by_cases hji : j < i
          · have t2 : decide ((j : Int) < (i : Int)) = true := decide_eq_true (by omega)
            have t2' : decide (j < i) = true := decide_eq_true hji
            have q2 : IntKind.i64.wrap ((j : Int) + 1) = (j : Int) + 1 := IntWalk.i64_in _ (by omega)
            obtain ⟨kj, hkj⟩ := get_ex keys j (by rw [HN.out]; omega)
            have hkj2 : keyAt keys j = kj := by unfold keyAt; rw [hkj]; rfl
            have k1 : wr.cell? ⟨b, off + j, none⟩ = some (.string kj) := (bcell1 HB2.out HBZ.out _).trans (HCC.out j kj hkj)
            have k2 : wr.cell? ⟨b, off + i, none⟩ = some (.string k) := (bcell1 HB2.out HBZ.out _).trans CK.out
            have ti := HT.out
            have HKJ := Lib.hid hkj2
            clear hkj hkj2
            by_cases he : kj = k
            · have t3 := beqS_t he
              have hd : dupP keys i = true := by
                unfold dupP
                rw [HKI.out, ← he, ← HKJ.out]
                have hjl : j < keys.length := by rw [HN.out]; omega
                refine hasL_t (List.mem_iff_getElem.2 ⟨j, by rw [List.length_take]; omega, ?_⟩)
                rw [List.getElem_take]
                unfold keyAt
                rw [List.getElem?_eq_getElem hjl]; rfl
              have hRR : R = (⟨#[]⟩, 31, (i : Int)) := by
                rw [← HR.out, firstT_some (by rw [HN.out]; exact HT.out) hd HNO.out]
              have HRR := Lib.hid hRR
              clear hd hRR he
              go_wp2_with fail
              go_quiet (fail)
              go_wp2
              rw [HRR.out]
              refine bodyPost_ret (v := .tuple #[.string ⟨#[]⟩, .int .i64 31, .int .i64 (i : Int)]) (by simp [results, Tryz.results26, go_sem]) rfl ⟨rfl, ?_⟩
              exact ext_drewN _ HB2.out
            · have t3 := beqS_f he
              have HE := Lib.hid he
              clear he
              go_wp2_with fail
              go_quiet (fail)
              go_wp2
              refine ⟨?_, by simp [intOf]; omega⟩
              have R1 : ∀ q, DiRel keys i wo (.int .i64 ((j : Int) + 1)) (wr.drewN q) := fun q => ⟨j + 1, by go_num, hji, ext_drewN _ HBo.out, fun m hm => by
                by_cases e : m = j
                · subst e; rw [HKJ.out, HKI.out]; exact HE.out
                · exact HNJ.out m (by omega)⟩
              first | exact R1 _ | ((repeat apply Exists.intro); exact ⟨R1 _, rfl⟩)
          · have hjn : j = i := by omega
            have t2 : decide ((j : Int) < (i : Int)) = false := decide_eq_false (by omega)
            have t2' : decide (j < i) = false := decide_eq_false hji
            have hd : dupP keys i = false := by
              unfold dupP
              refine hasL_f (fun hm => ?_)
              obtain ⟨m, hml, hme⟩ := List.mem_iff_getElem.1 hm
              rw [List.length_take] at hml
              rw [List.getElem_take] at hme
              refine HNJ.out m (by omega) ?_
              have : keyAt keys m = keys[m]'(by omega) := by unfold keyAt; rw [List.getElem?_eq_getElem (by omega)]; rfl
              rw [this]; exact hme
            have ti := HT.out
            have R1 : DoRel keys w (.int .i64 ((i : Int) + 1)) wr := ⟨i + 1, by go_num, by rw [HN.out]; exact HT.out, HB2.out, fun m hm => by
              by_cases e : m = i
              · subst e; exact hd
              · exact HNO.out m (by omega)⟩
            have HRR := Lib.hid R1
            clear R1 hd hji hjn
            go_wp2
            refine ⟨?_, by simp [intOf]; omega⟩
            have R := HRR.out
            first | exact R | ((repeat apply Exists.intro); exact ⟨R, rfl⟩)
      · have hjn : i = n := by omega
        have t1 : decide ((i : Int) < (n : Int)) = false := decide_eq_false (by omega)
        have t1' : decide (i < n) = false := decide_eq_false hlt
        have hnd : ∀ m, m < keys.length → dupP keys m = false := fun m hm => HNO.out m (by rw [HN.out] at hm; omega)
        have hR2 := HR.out
        rw [firstT_none hnd] at hR2
        simp only at hR2
        have HR2 := Lib.hid hR2; have HND := Lib.hid hnd
        clear hR2 hnd HR HNO hlt hjn
        generalize wr = wo at *
        have hb1 : Below w.heap.size w (wo.alloc (.cells #[] 9)) := ext_alloc HB.out _
        have ho1 : (wo.alloc (.cells #[] 9)).ownsRow wo.heap.size 9 1 (.slice (some ⟨wo.heap.size, 0, none⟩) 0 0) 0 [] := by
          simpa using World.ownsRow_lit (base := wo.heap.size) (e := 9) (size := 1) wo #[] 0 (Nat.le_refl _) (by decide) rfl
        have hbo : Below wo.heap.size wo (wo.alloc (.cells #[] 9)) := ext_alloc (Below.refl _ _) _
        have RS : RbRel keys values wo (.slice (some ⟨wo.heap.size, 0, none⟩) 0 0) (.int .i64 0) (wo.alloc (.cells #[] 9)) := ⟨0, rfl, Nat.zero_le _, fun m h => by omega, by rw [List.take_zero]; exact ho1, hbo⟩
        have HRS := Lib.hid RS
        clear RS ho1 hb1 hbo
        go_wp2_with fail
        clear t1 t1' hi
        go_loopw [9, 10] (RbRel keys values wo) (fun _ i _ => n - (intOf i).toNat)
        case atStart => exact HRS.out
        case round =>
          obtain ⟨m, rfl, hm, hok, hp, hb⟩ := hrel
          rw [HN.out] at hm
          have HOK := Lib.hid hok; have HP := Lib.hid hp; have HBo := Lib.hid hb
          have HB2 := Lib.hid (HB.out.trans (hb.mono HB.out.size))
          by_cases hlt : m < n
          · have t1 : decide ((m : Int) < (n : Int)) = true := decide_eq_true (by omega)
            have t1' : decide (m < n) = true := decide_eq_true hlt
            have q1 : IntKind.i64.wrap ((m : Int) + 1) = (m : Int) + 1 := IntWalk.i64_in _ (by omega)
            obtain ⟨b1, o1, rfl, hbz1, hcl1⟩ := HX1.out (by rw [HN.out]; omega)
            obtain ⟨b2, o2, rfl, hbz2, hcl2⟩ := HX2.out (by rw [HN2.out]; omega)
            obtain ⟨k, hk⟩ := get_ex keys m (by rw [HN.out]; exact hlt)
            obtain ⟨x, hx⟩ := get_ex values m (by rw [HN2.out]; exact hlt)
            have kz := HZ1.out k (List.mem_of_getElem? hk)
            have xz := HZ2.out x (List.mem_of_getElem? hx)
            have hz1' : b1 < w.heap.size := hbz1
            have hz2' : b2 < w.heap.size := hbz2
            have C1 := Lib.hid (hcl1 m k hk); have C2 := Lib.hid (hcl2 m x hx)
            have k1 : ∀ n : BW wr.heap.size wr, n.w.cell? ⟨b1, o1 + m, none⟩ = some (.string k) := fun n => (bcell1 n.below (Nat.lt_of_lt_of_le hz1' HB2.out.size) _).trans ((bcell1 HB2.out hz1' _).trans C1.out)
            have k2 : ∀ n : BW wr.heap.size wr, n.w.cell? ⟨b2, o2 + m, none⟩ = some (.string x) := fun n => (bcell1 n.below (Nat.lt_of_lt_of_le hz2' HB2.out.size) _).trans ((bcell1 HB2.out hz2' _).trans C2.out)
            have HBZ2 := Lib.hid hz2'
            have hbp : badP keys values m = !(okC k && okC x) := by unfold badP keyAt; rw [hk, hx]; rfl
            have HBP := Lib.hid hbp
            have hkv : (values.map quoteB)[m]? = some (quoteB x) := by rw [List.getElem?_map, hx]; rfl
            have HKV := Lib.hid hkv
            have hRn : (okC k && okC x) = false → R = (⟨#[]⟩, 12, (m : Int)) := fun h => by
              rw [← HR2.out, firstT_some (by rw [HN.out]; exact hlt) (by rw [HBP.out, h]; rfl) HOK.out]
            have HRN := Lib.hid hRn
            have R1 := fun W => RI.out k x W (by omega) (by omega)
            obtain ⟨tk, htk⟩ : ∃ t, (okC k && okC x) = t := ⟨_, rfl⟩
            have HTK := Lib.hid htk
            rw [htk] at R1
            have R1 := Lib.hid R1
            have QX := Lib.hid (fun W => QU.out x W (by omega))
            have hle := HB2.out.size
            clear hcl1 hcl2 hk hx hbp hok hp hb hRn hbz1 hbz2 htk hkv hz1' hz2'
            go_wp2_with fail
            refine wp_region_quietB wr.heap.size (by kernel_rfl) (by kernel_rfl) ?_
            repeat (go_big_quiet_step ((go_at_call 57; exact quiet_callB (R1.out _) (Nat.le_refl _))))
            refine wpQuiet_nil ?_
            intro _ hw'
            obtain ⟨nb, hw4⟩ := hw'
            subst hw4
            have HNB := Lib.hid nb.below
            have c2 := k2 nb
            clear k1 k2
            generalize nb.w = W6 at *
            have HB6 := Lib.hid (HBo.out.trans (HNB.out.mono HBo.out.size))
            have HP6 := Lib.hid (aown_ext HP.out (fun q hq => HNB.out.block q (HP.out.lt q hq).2) (Nat.le_refl _))
            cases tk with
            | false =>
              have HRR := Lib.hid (HRN.out HTK.out)
              go_wp2
              rw [HRR.out]
              refine bodyPost_ret (v := .tuple #[.string ⟨#[]⟩, .int .i64 12, .int .i64 (m : Int)]) (by simp [results, Tryz.results26, go_sem]) rfl ⟨rfl, ?_⟩
              exact HB.out.trans (HB6.out.mono HB.out.size)
            | true =>
              go_wp2_with fail
              go_at_call 37
              refine (QX.out _).mono ?_
              rintro _ w5 ⟨rfl, hb5⟩
              have HB5 := Lib.hid (HB6.out.trans (hb5.mono HB6.out.size))
              have HP5 := Lib.hid (aown_ext HP6.out (fun q hq => hb5.block q (HP6.out.lt q hq).2) (Nat.le_refl _))
              have hle5 := HB5.out.size
              clear hb5 QX
              obtain ⟨qx, hqx⟩ : ∃ qx, quoteB x = qx := ⟨_, rfl⟩
              have HQ := Lib.hid hqx
              rw [hqx]
              clear hqx
              go_wp2_with (at_builtin; refine wpList_appAt (w5.alloc (.cells #[.string qx] 9)) rfl _ _ 39 rfl wo.heap.size elStr8 u9 m _ rfl (HP5.out.alloc _) ⟨w5.heap.size, 0, none⟩ 1 1 [.string qx] rfl rfl (World.news_of_block (cs := #[.string qx]) (t := 9) (fr := (0, 0)) (heap_alloc_new w5 _)) ?c1 ?c2 ?c3 ?c4 ?_)
              case c1 => simp [Value.oneCell']
              case c2 => unfold maxLen; omega
              case c3 => omega
              case c4 => simp; omega
              intro v8 w8 ho8 hg8 _
              have e8 : strV ((values.map quoteB).take (m + 1)) = strV ((values.map quoteB).take m) ++ [.string qx] := by
                rw [List.take_add_one, HKV.out, HQ.out]
                simp [strV]
              have RR : RbRel keys values wo v8 (.int .i64 ((m : Int) + 1)) w8 := ⟨m + 1, by go_num, by rw [HN.out]; exact hlt, fun i hi => by
                by_cases e : i = m
                · subst e; rw [HBP.out, HTK.out]; rfl
                · exact HOK.out i (by omega), by rw [e8]; exact ho8, (ext_alloc HB5.out _).grown hg8 (by simp; omega) (fun q hq => (HP5.out.lt q hq).1)⟩
              have HRR := Lib.hid RR
              clear RR ho8 hg8 e8
              go_wp2
              refine ⟨?_, by simp [intOf]; omega⟩
              have R3 := HRR.out
              first | exact R3 | ((repeat apply Exists.intro); exact ⟨R3, rfl⟩)
          · have hmn : m = n := by omega
            have t1 : decide ((m : Int) < (n : Int)) = false := decide_eq_false (by omega)
            have t1' : decide (m < n) = false := decide_eq_false hlt
            have hbd : ∀ i, i < keys.length → badP keys values i = false := fun i hi => HOK.out i (by rw [HN.out] at hi; omega)
            have hR3 := HR2.out
            rw [firstT_none hbd] at hR3
            simp only at hR3
            have hml : (values.map quoteB).length = n := by rw [List.length_map, HN2.out]
            have htl : (values.map quoteB).take m = values.map quoteB := List.take_of_length_le (by rw [hml]; omega)
            have hp2 := HP.out
            rw [htl, hmn, ← hml] at hp2
            have D8 := rd_strV hp2
            have hos := obj_small (keys := keys) (values := values) (by rw [HN.out]; exact hl1) HZ1.out HZ2.out
            have hre := objR_eq keys (values.map quoteB) (by rw [hml, HN.out])
            rw [← hre] at hos hR3
            have OB := robject_any wr _ u9 keys (values.map quoteB) (H1.out.ext HB2.out) D8 (by rw [hml, HN.out]) (by rw [HN.out]; omega) (dup_inj HND.out) (fun k hk => Nat.le_trans (HZ1.out k hk) (by omega)) (Nat.le_trans hos (by omega))
            obtain ⟨ob, hob⟩ : ∃ ob, objR keys (values.map quoteB) = ob := ⟨_, rfl⟩
            rw [hob] at OB hR3
            have HR3 : Hid (R = (ob, 0, 0)) := Lib.hid hR3.symm
            have OB := Lib.hid OB
            clear hp hb hok hbd hR3 htl hp2 hob hml hre hos D8 hmn
            go_wp2_with fail
            go_at_call 40
            refine OB.out.mono ?_
            rintro _ w5 ⟨rfl, hb5⟩
            have HF := Lib.hid (HB2.out.trans (hb5.mono HB2.out.size))
            clear hb5 OB
            go_wp2
            rw [HR3.out]
            refine bodyPost_ret (v := .tuple #[.string ob, .int .i64 0, .int .i64 0]) (by simp [results, Tryz.results26, go_sem]) rfl ⟨rfl, HF.out⟩
  · rw [if_pos hne] at hR
    have tn : ((keys.length : Int) != values.length) = true := by simp; omega
    have HR := Lib.hid hR
    clear h1 h2 hx1 hx2 hz1 hz2 hR hne
    go_enter Tryz.func26, Tryz.ntmps26
    go_wp2_with fail
    rw [← HR.out]
    refine bodyPost_ret (v := .tuple #[.string ⟨#[]⟩, .int .i64 1, .int .i64 0]) (by simp [results, Tryz.results26, go_sem]) rfl ⟨rfl, Below.refl _ _⟩
end
section
open Go.RowKit
def RlstRel (values : List ByteArray) (W : World) (vp vj : Value) (wr : World) : Prop := ∃ j : Nat, vj = .int .i64 j ∧ j ≤ values.length ∧ (∀ m, m < j → (!okC (keyAt values m)) = false) ∧ wr.ownsRow W.heap.size 9 1 vp j (strV ((values.map quoteB).take j)) ∧ Below W.heap.size W wr
set_option maxRecDepth 100000 in
set_option maxHeartbeats 2000000 in
theorem rlst8_any (w : World) (v2 : Value) (values : List ByteArray) (h2 : Rd (Own w) w v2 (.list 1 (values.map .str))) (hl2 : values.length ≤ 1000) (hz2 : ∀ x ∈ values, x.size ≤ 1000) :
    Calls Tryz.prog 27 #[v2] w (RobPost w (listS values)) := by
  obtain ⟨R, hR⟩ : ∃ R, listS values = R := ⟨_, rfl⟩
  rw [hR]
  unfold listS at hR
  obtain ⟨a2, c2, rfl, _, hc2, hx2⟩ := h2.strs_inv
  have RI := Lib.hid rright8_any
  have QU := Lib.hid rquote_any
  have hls := lst_small hl2 hz2
  have HLS := Lib.hid hls
  have HX2 := Lib.hid hx2; have HZ2 := Lib.hid hz2; have HR := Lib.hid hR
  obtain ⟨n, hn2⟩ : ∃ n, values.length = n := ⟨_, rfl⟩
  have HN2 := Lib.hid hn2
  rw [hn2] at hc2 hl2 ⊢
  clear h2 hx2 hz2 hR hls
  have ho1 : (w.alloc (.cells #[] 9)).ownsRow w.heap.size 9 1 (.slice (some ⟨w.heap.size, 0, none⟩) 0 0) 0 [] := by
    simpa using World.ownsRow_lit (base := w.heap.size) (e := 9) (size := 1) w #[] 0 (Nat.le_refl _) (by decide) rfl
  have hbo : Below w.heap.size w (w.alloc (.cells #[] 9)) := ext_alloc (Below.refl _ _) _
  have RS : RlstRel values w (.slice (some ⟨w.heap.size, 0, none⟩) 0 0) (.int .i64 0) (w.alloc (.cells #[] 9)) := ⟨0, rfl, Nat.zero_le _, fun m h => by omega, by rw [List.take_zero]; exact ho1, hbo⟩
  have HRS := Lib.hid RS
  clear RS ho1 hbo
  go_enter Tryz.func27, Tryz.ntmps27
  go_wp2_with fail
  go_loopw [5, 6] (RlstRel values w) (fun _ i _ => n - (intOf i).toNat)
  case atStart => exact HRS.out
  case round =>
    obtain ⟨m, rfl, hm, hok, hp, hb⟩ := hrel
    rw [HN2.out] at hm
    have HOK := Lib.hid hok; have HP := Lib.hid hp; have HB := Lib.hid hb
    by_cases hlt : m < n
    · have t1 : decide ((m : Int) < (n : Int)) = true := decide_eq_true (by omega)
      have t1' : decide (m < n) = true := decide_eq_true hlt
      have q1 : IntKind.i64.wrap ((m : Int) + 1) = (m : Int) + 1 := IntWalk.i64_in _ (by omega)
      obtain ⟨b2, o2, rfl, hbz2, hcl2⟩ := HX2.out (by rw [HN2.out]; omega)
      obtain ⟨x, hx⟩ := get_ex values m (by rw [HN2.out]; exact hlt)
      have hz2' : b2 < w.heap.size := hbz2
      have C2 := Lib.hid (hcl2 m x hx)
      have c0 : wr.cell? ⟨b2, o2 + m, none⟩ = some (.string x) := (bcell1 hb hz2' _).trans C2.out
      have HBZ2 := Lib.hid hz2'
      have xz := HZ2.out x (List.mem_of_getElem? hx)
      have hka : keyAt values m = x := by unfold keyAt; rw [hx]; rfl
      have hbp : (!okC (keyAt values m)) = !(okC x) := by rw [hka]
      have HBP := Lib.hid hbp
      have hkv : (values.map quoteB)[m]? = some (quoteB x) := by rw [List.getElem?_map, hx]; rfl
      have HKV := Lib.hid hkv
      have R1 := RI.out x ⟨#[]⟩ wr (by omega) (by decide)
      have he0 : (okC x && okC ⟨#[]⟩) = okC x := by rw [show okC ⟨#[]⟩ = true by kernel_rfl]; simp
      rw [he0] at R1
      have hRn : okC x = false → R = (⟨#[]⟩, 12, (m : Int)) := fun h => by
        rw [← HR.out, firstT_some (j := m) (by rw [HN2.out]; exact hlt) (by rw [HBP.out, h]; rfl) HOK.out]
      have HRN := Lib.hid hRn
      obtain ⟨tx, htx⟩ : ∃ t, okC x = t := ⟨_, rfl⟩
      have HTX := Lib.hid htx
      rw [htx] at R1
      have R1 := Lib.hid R1
      have QX := Lib.hid (fun W => QU.out x W (by omega))
      clear hcl2 hx hbp hok hp hb hRn hbz2 htx hka hkv he0 hz2'
      go_wp2_with fail
      go_at_call 57
      refine R1.out.mono ?_
      rintro _ w4 ⟨rfl, hb4⟩
      have HB4 := Lib.hid (HB.out.trans (hb4.mono HB.out.size))
      have HP4 := Lib.hid (aown_ext HP.out (fun q hq => hb4.block q (HP.out.lt q hq).2) (Nat.le_refl _))
      have c4 : w4.cell? ⟨b2, o2 + m, none⟩ = some (.string x) := (bcell1 HB4.out HBZ2.out _).trans C2.out
      clear hb4 R1 c0
      cases tx with
      | false =>
        have HRR := Lib.hid (HRN.out HTX.out)
        go_wp2
        rw [HRR.out]
        refine bodyPost_ret (v := .tuple #[.string ⟨#[]⟩, .int .i64 12, .int .i64 (m : Int)]) (by simp [results, Tryz.results27, go_sem]) rfl ⟨rfl, HB4.out⟩
      | true =>
        go_wp2_with fail
        go_at_call 37
        refine (QX.out _).mono ?_
        rintro _ w5 ⟨rfl, hb5⟩
        have HB5 := Lib.hid (HB4.out.trans (hb5.mono HB4.out.size))
        have HP5 := Lib.hid (aown_ext HP4.out (fun q hq => hb5.block q (HP4.out.lt q hq).2) (Nat.le_refl _))
        have hle5 := HB5.out.size
        clear hb5 QX
        obtain ⟨qx, hqx⟩ : ∃ qx, quoteB x = qx := ⟨_, rfl⟩
        have HQ := Lib.hid hqx
        rw [hqx]
        clear hqx
        go_wp2_with (at_builtin; refine wpList_appAt (w5.alloc (.cells #[.string qx] 9)) rfl _ _ 39 rfl w.heap.size elStr8 u5 m _ rfl (HP5.out.alloc _) ⟨w5.heap.size, 0, none⟩ 1 1 [.string qx] rfl rfl (World.news_of_block (cs := #[.string qx]) (t := 9) (fr := (0, 0)) (heap_alloc_new w5 _)) ?c1 ?c2 ?c3 ?c4 ?_)
        case c1 => simp [Value.oneCell']
        case c2 => unfold maxLen; omega
        case c3 => omega
        case c4 => simp; omega
        intro v8 w8 ho8 hg8 _
        have e8 : strV ((values.map quoteB).take (m + 1)) = strV ((values.map quoteB).take m) ++ [.string qx] := by
          rw [List.take_add_one, HKV.out, HQ.out]
          simp [strV]
        have RR : RlstRel values w v8 (.int .i64 ((m : Int) + 1)) w8 := ⟨m + 1, by go_num, by rw [HN2.out]; exact hlt, fun i hi => by
          by_cases e : i = m
          · subst e; rw [HBP.out, HTX.out]; rfl
          · exact HOK.out i (by omega), by rw [e8]; exact ho8, (ext_alloc HB5.out _).grown hg8 (by simp; omega) (fun q hq => (HP5.out.lt q hq).1)⟩
        have HRR := Lib.hid RR
        clear RR ho8 hg8 e8
        go_wp2
        refine ⟨?_, by simp [intOf]; omega⟩
        have R3 := HRR.out
        first | exact R3 | ((repeat apply Exists.intro); exact ⟨R3, rfl⟩)
    · have hmn : m = n := by omega
      have t1 : decide ((m : Int) < (n : Int)) = false := decide_eq_false (by omega)
      have t1' : decide (m < n) = false := decide_eq_false hlt
      have hbd : ∀ i, i < values.length → (!okC (keyAt values i)) = false := fun i hi => HOK.out i (by rw [HN2.out] at hi; omega)
      have hR3 := HR.out
      rw [firstT_none hbd] at hR3
      simp only at hR3
      have hml : (values.map quoteB).length = n := by rw [List.length_map, HN2.out]
      have htl : (values.map quoteB).take m = values.map quoteB := List.take_of_length_le (by rw [hml]; omega)
      have hp2 := HP.out
      rw [htl, hmn, ← hml] at hp2
      have OB := rlist_any wr u5 (values.map quoteB) (rd_strV hp2) (by rw [hml]; omega) (Nat.le_trans HLS.out (by omega))
      obtain ⟨ob, hob⟩ : ∃ ob, lstB (values.map quoteB) = ob := ⟨_, rfl⟩
      rw [hob] at OB hR3
      have HR3 : Hid (R = (ob, 0, 0)) := Lib.hid hR3.symm
      have OB := Lib.hid OB
      clear hp hb hok hbd hR3 htl hp2 hob hml hmn
      go_wp2_with fail
      go_at_call 41
      refine OB.out.mono ?_
      rintro _ w5 ⟨rfl, hw5⟩
      subst hw5
      go_wp2
      rw [HR3.out]
      refine bodyPost_ret (v := .tuple #[.string ob, .int .i64 0, .int .i64 0]) (by simp [results, Tryz.results27, go_sem]) rfl ⟨rfl, HB.out⟩
end
end Go.Proofs.YtheoaijheijojaaGreatDoor
