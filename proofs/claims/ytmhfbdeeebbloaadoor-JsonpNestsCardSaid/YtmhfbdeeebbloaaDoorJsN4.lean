/- Lists in one another: the plain law of JsonpNests. Nothing of the program. -/
import Derived.Test.YtmhfbdeeebbloaaDoorJsP0
import Derived.Test.YtmhfbdeeebbloaaDoorJsN1
namespace Go.Proofs.YtmhfbdeeebbloaaDoor
open Go.RowKit
structure Nest (B : ByteArray) (k : Nat) : Prop where
  size : B.size = 2 * k + 1
  opens : ∀ i, i < k → byteAt B i = 91
  one : byteAt B k = 49
  closes : ∀ i, k < i → i < 2 * k + 1 → byteAt B i = 93
theorem nest_open {B : ByteArray} {k i : Nat} (h : Nest B k) (hi : i < k) : nextI B i = .ok ⟨3, i, (i + 1 : Nat)⟩ := by
  have hz := h.size
  have hc := h.opens i hi
  rw [nextI_at (by omega) (fun _ => by rw [hc]; rfl)]
  unfold tokenS
  rw [if_neg (by omega), hc, if_pos (by decide)]; rfl
theorem nest_close {B : ByteArray} {k i : Nat} (h : Nest B k) (hi : k < i) (h2 : i < 2 * k + 1) : nextI B i = .ok ⟨4, i, (i + 1 : Nat)⟩ := by
  have hz := h.size
  have hc := h.closes i hi h2
  rw [nextI_at (by omega) (fun _ => by rw [hc]; rfl)]
  unfold tokenS
  rw [if_neg (by omega), hc, if_pos (by decide)]; rfl
theorem nest_end {B : ByteArray} {k : Nat} (h : Nest B k) : nextI B (2 * k + 1 : Nat) = .ok ⟨0, (2 * k + 1 : Nat), (2 * k + 1 : Nat)⟩ := by
  have hz := h.size
  rw [nextI_at (by omega) (fun h => by omega)]
  unfold tokenS
  rw [if_pos hz.symm]; rfl
theorem nest_one {B : ByteArray} {k : Nat} (h : Nest B k) : nextI B k = .ok ⟨8, k, (k + 1 : Nat)⟩ := by
  have hz := h.size
  have hc := h.one
  rw [nextI_at (by omega) (fun _ => by rw [hc]; rfl)]
  have hlt : k < B.size := by omega
  have nx : k + 1 < B.size → byteAt B (k + 1) = 93 := fun _ => h.closes (k + 1) (by omega) (by omega)
  have off : ∀ l : List Nat, l.contains 93 = false → onAt l B (k + 1) = false := fun l hl => by
    by_cases h2 : k + 1 < B.size
    · rw [onAt_in h2, nx h2]; exact hl
    · exact onAt_out (by omega)
  have sk : skip isDig B k = k + 1 := by
    rw [skip_go hlt (by rw [hc]; rfl)]
    exact skip_stop (fun h2 => by rw [nx h2]; rfl)
  have hd : digitsS B k = .ok (k + 1) := by unfold digitsS; rw [sk, if_pos (by omega)]
  have hn : numberS B k = .ok (k + 1) := by
    unfold numberS
    rw [show onAt [45] B k = false by rw [onAt_in hlt, hc]; rfl]
    simp only [Bool.false_eq_true, if_false]
    rw [show onAt [48] B k = false by rw [onAt_in hlt, hc]; rfl]
    simp only [Bool.false_eq_true, if_false, hd, Sc.bind_ok]
    rw [off [46] rfl]
    simp only [Bool.false_eq_true, if_false, Sc.bind_ok]
    rw [off [101, 69] rfl]
    simp
  unfold tokenS
  rw [if_neg (by omega), hc, if_neg (by decide), if_neg (by decide), if_pos (by decide), hn]; rfl
def nestJ (i : Nat) : List JN := (List.range i).map fun j : Nat => ⟨5, ⟨#[]⟩, ⟨#[]⟩, (j : Int)⟩
def nestU (i : Nat) : List Nat := (List.range i).map fun j => j - 1
def nestO : Nat → List Op
  | 0 => [⟨-1, false, 1, ⟨#[]⟩⟩]
  | i + 1 => ⟨i, false, 0, ⟨#[]⟩⟩ :: nestO i
theorem nestO_length : ∀ i, (nestO i).length = i + 1
  | 0 => rfl
  | i + 1 => by rw [nestO, List.length_cons, nestO_length i]
theorem nestO_head (i : Nat) : ∃ o r, nestO i = o :: r ∧ o.obj = false ∧ (o.st = 0 ∨ o.st = 1) ∧ o.id.toNat = i - 1 ∧ o.key = ⟨#[]⟩ := by
  cases i with
  | zero => exact ⟨_, _, rfl, rfl, .inr rfl, rfl, rfl⟩
  | succ i => exact ⟨_, _, rfl, rfl, .inl rfl, by simp, rfl⟩
theorem nestJ_length (i : Nat) : (nestJ i).length = i := by simp [nestJ]
theorem nestU_length (i : Nat) : (nestU i).length = i := by simp [nestU]
theorem nestJ_snoc (i : Nat) : nestJ i ++ [⟨5, ⟨#[]⟩, ⟨#[]⟩, (i : Int)⟩] = nestJ (i + 1) := by simp [nestJ, List.range_succ]
theorem nestU_snoc (i : Nat) : nestU i ++ [i - 1] = nestU (i + 1) := by simp [nestU, List.range_succ]
/-- The text of the number. -/
def nestT (B : ByteArray) (k : Nat) : JN := ⟨3, ⟨#[]⟩, B.extract k (k + 1), (k : Int)⟩
theorem take_value {B : ByteArray} {m : Bd} {s : PS} {o : Op} {r : List Op} {t : Tok} (hs : s.stack = o :: r) (ho : o.obj = false) (hst : o.st = 0 ∨ o.st = 1) (h4 : t.kind ≠ 4) : takeS B m s t = valueS B m s o r t := by
  unfold takeS
  rw [hs]
  simp only
  rcases hst with h | h
  · rw [h, if_neg (by decide), if_neg (by decide), if_neg (by decide), if_pos rfl, ho]
    have : endsS o t = false := by unfold endsS; rw [ho]; exact beq_eq_false_iff_ne.2 h4
    rw [this]; rfl
  · rw [h, if_neg (by decide), if_neg (by decide), if_neg (by decide), if_neg (by decide), if_neg (by decide)]
theorem nest_step {B : ByteArray} {m : Bd} {i : Nat} (t : Tok) (ht : t.kind = 3) (hf : t.fr = i) (hn : (i : Int) < m.nodes) : takeS B m ⟨nestJ i, nestU i, nestO i⟩ t = if m.deep < ((i + 1 : Nat) : Int) then .no 13 i else .ok ⟨nestJ (i + 1), nestU (i + 1), nestO (i + 1)⟩ := by
  obtain ⟨o, r, he, ho, hst, hid, hk⟩ := nestO_head i
  have hl := nestO_length i
  rw [take_value (o := o) (r := r) he ho hst (by rw [ht]; decide)]
  unfold valueS
  have hkd : kindS t.kind = some 5 := by rw [ht]; rfl
  rw [hkd]
  simp only [nestJ_length]
  rw [if_neg (by omega), if_neg (by decide), ← he, hl, hf]
  split
  · rfl
  · unfold addS nodeS textN
    simp only [ho, Bool.false_eq_true, if_false, hid, hf]
    rw [if_neg (by decide), if_neg (by decide), nestJ_snoc, nestU_snoc]
    congr 2
    done
theorem nest_down {B : ByteArray} {k : Nat} {m : Bd} (h : Nest B k) (hn : (k : Int) < m.nodes) : ∀ n i : Nat, k - i = n → i ≤ k → runS B m i ⟨nestJ i, nestU i, nestO i⟩ = if i ≤ m.deep.toNat ∧ m.deep.toNat < k ∧ 0 ≤ m.deep then .no 13 m.deep else if k ≤ m.deep.toNat then runS B m k ⟨nestJ k, nestU k, nestO k⟩ else runS B m i ⟨nestJ i, nestU i, nestO i⟩
  | 0, i, hk, hi => by
    obtain rfl : i = k := by omega
    split
    · omega
    · split <;> rfl
  | n + 1, i, hk, hi => by
    have hi' : i < k := by omega
    by_cases hd : i ≤ m.deep.toNat ∧ 0 ≤ m.deep
    · obtain ⟨hd, h0⟩ := hd
      rw [runS_step, nest_open h hi']
      simp only [Sc.bind_ok]
      rw [nest_step _ rfl rfl (by omega)]
      by_cases hc : m.deep < ((i + 1 : Nat) : Int)
      · rw [if_pos hc, Sc.bind_no, if_pos ⟨hd, by omega, h0⟩]
        congr 1; omega
      · rw [if_neg hc]
        simp only [Sc.bind_ok]
        rw [if_neg (by decide), nest_down h hn n (i + 1) (by omega) (by omega)]
        by_cases hq : m.deep.toNat < k
        · rw [if_pos ⟨by omega, hq, h0⟩, if_pos ⟨hd, hq, h0⟩]
        · rw [if_neg (by omega), if_pos (by omega), if_neg (by omega), if_pos (by omega)]
    · rw [if_neg (by omega)]
      split
      · omega
      · rfl
def nestE (B : ByteArray) (k i : Nat) : PS := ⟨nestJ k ++ [nestT B k], nestU k ++ [k - 1], afterS (nestO i)⟩
theorem nest_up {B : ByteArray} {k : Nat} {m : Bd} (h : Nest B k) : ∀ i : Nat, i ≤ k → runS B m (2 * k + 1 - i : Nat) (nestE B k i) = .ok (nestE B k 0)
  | 0, _ => by
    rw [runS_step, Nat.sub_zero, nest_end h]
    simp only [Sc.bind_ok]
    have : takeS B m (nestE B k 0) ⟨0, (2 * k + 1 : Nat), (2 * k + 1 : Nat)⟩ = .ok (nestE B k 0) := rfl
    rw [this]
    rfl
  | i + 1, hi => by
    rw [runS_step, nest_close h (by omega) (by omega)]
    simp only [Sc.bind_ok]
    have : takeS B m (nestE B k (i + 1)) ⟨4, ((2 * k + 1 - (i + 1) : Nat) : Int), ((2 * k + 1 - (i + 1) + 1 : Nat) : Int)⟩ = .ok (nestE B k i) := by
      unfold takeS nestE
      simp only [nestO, afterS, aftO]
      rw [if_neg (c := ((i : Int) < 0)) (by omega)]
      simp only [show ¬ ((4 : Int) = 5) by decide, show ¬ ((4 : Int) = 3) by decide, if_false, if_true]
      rfl
    rw [this]
    simp only [Sc.bind_ok]
    rw [if_neg (by decide), show 2 * k + 1 - (i + 1) + 1 = 2 * k + 1 - i by omega]
    exact nest_up h i (by omega)
theorem nest_run {B : ByteArray} {k : Nat} {m : Bd} (h : Nest B k) (hn : (k : Int) < m.nodes) (hb : (B.size : Int) ≤ m.bytes) (h0 : 0 ≤ m.deep) : parseS B m = if m.deep < k then .no 13 m.deep else .ok (nestE B k 0) := by
  unfold parseS
  rw [if_neg (by omega)]
  have e := nest_down h hn k 0 (by omega) (by omega)
  have e0 : (⟨nestJ 0, nestU 0, nestO 0⟩ : PS) = ps0 := rfl
  rw [e0] at e
  rw [show ((0 : Nat) : Int) = 0 from rfl] at e
  rw [e]
  by_cases hd : m.deep < k
  · rw [if_pos ⟨by omega, by omega, h0⟩, if_pos hd]
  · rw [if_neg (by omega), if_pos (by omega), if_neg hd, runS_step, nest_one h]
    simp only [Sc.bind_ok]
    obtain ⟨o, r, he, ho, hst, hid, hk⟩ := nestO_head k
    have : takeS B m ⟨nestJ k, nestU k, nestO k⟩ ⟨8, k, (k + 1 : Nat)⟩ = .ok (nestE B k k) := by
      rw [take_value (o := o) (r := r) he ho hst (show (8 : Int) ≠ 4 by decide)]
      unfold valueS
      rw [show kindS 8 = some 3 from rfl]
      simp only [nestJ_length]
      rw [if_neg (by omega), if_pos (by decide)]
      unfold addS nodeS textN nestE nestT
      simp only [ho, Bool.false_eq_true, if_false, hid]
      rw [if_neg (by decide), he]
      simp
    rw [this]
    simp only [Sc.bind_ok]
    rw [if_neg (by decide)]
    have := nest_up h (m := m) k (Nat.le_refl _)
    rw [show 2 * k + 1 - k = k + 1 by omega] at this
    exact this
theorem nestE_get {B : ByteArray} {k i : Nat} (hi : i ≤ k) : ∃ x, (nestE B k 0).js[i]? = some x ∧ x.at_ = i ∧ x.kind = (if i = k then 3 else 5) := by
  show ∃ x, (nestJ k ++ [nestT B k])[i]? = some x ∧ _
  by_cases h : i = k
  · subst h
    refine ⟨nestT B i, ?_, rfl, by rw [if_pos rfl]; rfl⟩
    rw [List.getElem?_append_right (by rw [nestJ_length]; omega), nestJ_length]; simp
  · refine ⟨⟨5, ⟨#[]⟩, ⟨#[]⟩, (i : Int)⟩, ?_, rfl, by rw [if_neg h]⟩
    rw [List.getElem?_append_left (by rw [nestJ_length]; omega)]
    simp [nestJ, show i < k by omega]
theorem nestE_length (B : ByteArray) (k : Nat) : (nestE B k 0).js.length = k + 1 := by
  show (nestJ k ++ [nestT B k]).length = _
  simp [nestJ_length]
open Go.RowKit
theorem and127 : ∀ X : Fin 256, bits .and .u8 ((X.val : Nat) : Int) 127 = ((X.val % 128 : Nat) : Int) := by decide +kernel
def nestB (k : Nat) : ByteArray := ⟨(List.replicate k (91 : UInt8) ++ (49 : UInt8) :: List.replicate k 93).toArray⟩
theorem nestB_size (k : Nat) : (nestB k).size = 2 * k + 1 := by
  show (List.replicate k (91 : UInt8) ++ (49 : UInt8) :: List.replicate k 93).toArray.size = _
  simp; omega
theorem nestB_nest (k : Nat) : Nest (nestB k) k := by
  have hat : ∀ i, byteAt (nestB k) i = ((List.replicate k (91 : UInt8) ++ (49 : UInt8) :: List.replicate k 93)[i]?.getD 0).toNat := fun i => by simp [byteAt, nestB]
  refine ⟨nestB_size k, fun i hi => ?_, ?_, fun i h1 h2 => ?_⟩
  · rw [hat, List.getElem?_append_left (by simpa using hi), List.getElem?_replicate, if_pos hi]; rfl
  · rw [hat, List.getElem?_append_right (by simp)]; simp
  · rw [hat, List.getElem?_append_right (by simp; omega)]
    obtain ⟨j, hj⟩ : ∃ j, i - (List.replicate k (91 : UInt8)).length = j + 1 := ⟨i - k - 1, by simp; omega⟩
    rw [hj, List.getElem?_cons_succ, List.getElem?_replicate, if_pos (by simp at hj; omega)]; rfl
theorem byV_nestB (k : Nat) : byV (nestB k) = List.replicate k (Value.int .u8 91) ++ Value.int .u8 49 :: List.replicate k (Value.int .u8 93) := by simp [byV, nestB]
def N1Rel (k : Nat) (W : World) (v i : Value) (wr : World) : Prop := ∃ j : Nat, i = .int .i64 j ∧ j ≤ k ∧ wr.ownsRow W.heap.size 5 1 v j (List.replicate j (.int .u8 91)) ∧ Below W.heap.size W wr
def N2Rel (k : Nat) (W : World) (v i : Value) (wr : World) : Prop := ∃ j : Nat, i = .int .i64 j ∧ j ≤ k ∧ wr.ownsRow W.heap.size 5 1 v (k + 1 + j) (List.replicate k (.int .u8 91) ++ .int .u8 49 :: List.replicate j (.int .u8 93)) ∧ Below W.heap.size W wr
def N3Rel (k : Nat) (W : World) (i : Value) (wr : World) : Prop := ∃ j : Nat, i = .int .i64 j ∧ j ≤ k + 1 ∧ Below W.heap.size W wr
set_option maxRecDepth 100000 in
set_option maxHeartbeats 16000000 in
theorem jsonpNests_any (n most : Nat) (w : World) (he : ScEnv w) (hg : Glob w) (hn : n < 256) (hmo : most < 256) :
    Calls Tryd.prog 7 #[.int .u8 n, .int .u8 most] w fun e w' => e = .returned (.bool true) ∧ Below w.heap.size w w' := by
  have SP := Lib.hid (speaks07 w he)
  have HE := Lib.hid he; have HG := Lib.hid hg
  obtain ⟨k, hk⟩ : ∃ k, n % 128 = k := ⟨_, rfl⟩
  obtain ⟨m, hm⟩ : ∃ m, most % 128 = m := ⟨_, rfl⟩
  have a1 : bits .and .u8 (n : Int) 127 = (k : Int) := by rw [← hk]; exact and127 ⟨n, hn⟩
  have a2 : bits .and .u8 (most : Int) 127 = (m : Int) := by rw [← hm]; exact and127 ⟨most, hmo⟩
  have hk128 : k < 128 := by omega
  have hm128 : m < 128 := by omega
  have w1 : IntKind.i64.wrap (k : Int) = (k : Int) := IntWalk.i64_in _ (by omega)
  have w2 : IntKind.i64.wrap (m : Int) = (m : Int) := IntWalk.i64_in _ (by omega)
  clear he hg hk hm hn hmo
  go_enter Tryd.func7, Tryd.ntmps7
  go_wp2_with fail
  refine SP.out.mono ?_
  rintro e W ⟨rfl, hb⟩
  have HB := Lib.hid hb
  have hlit := World.ownsRow_lit (base := W.heap.size) (e := 5) (size := 1) W #[] 0 (Nat.le_refl _) (by decide) rfl
  have R0 : N1Rel k W (.slice (some ⟨W.heap.size, 0, none⟩) 0 0) (.int .i64 0) (W.alloc (.cells #[] 5)) := ⟨0, rfl, Nat.zero_le _, hlit, ext_alloc (Below.refl _ _) _⟩
  have HR0 := Lib.hid R0
  clear hb hlit R0
  go_wp2_with fail
  go_loopw [7, 8] (N1Rel k W) (fun _ i _ => k - (intOf i).toNat)
  case atStart => exact HR0.out
  case round =>
    obtain ⟨j, rfl, hj, ho, hbw⟩ := hrel
    obtain ⟨ao, cap, rfl, _⟩ := aown_form ho
    have HO := Lib.hid ho
    by_cases hlt : j < k
    · have t1 : decide ((j : Int) < (k : Int)) = true := decide_eq_true (by omega)
      have t1' : decide (j < k) = true := decide_eq_true hlt
      have q1 : IntKind.i64.wrap ((j : Int) + 1) = (j : Int) + 1 := IntWalk.i64_in _ (by omega)
      have HBW := Lib.hid hbw
      clear ho hbw HR0
      go_wp2_with (at_builtin; refine wpList_app1 wr #[.int .u8 91] _ rfl _ _ 26 rfl W.heap.size elByte _ _ _ rfl HO.out rfl rfl ?c1 ?c2 ?c3 ?c4 ?_)
      case c1 => first | rfl | (intro u hu; simp at hu; subst hu; rfl)
      case c2 => simp [maxLen]; omega
      case c3 => omega
      case c4 => exact HBW.out.size
      intro v7 w7 ho7 hg7
      have hb7 : Below W.heap.size W w7 := (ext_alloc HBW.out (.cells #[.int .u8 91] 5)).grown hg7 (ext_alloc HBW.out (.cells #[.int .u8 91] 5)).size (fun g hg => (HO.out.lt g hg).1)
      have R : N1Rel k W v7 (.int .i64 ((j : Int) + 1)) w7 := ⟨j + 1, by go_num, hlt, by rw [List.replicate_succ']; exact ho7, hb7⟩
      have HR := Lib.hid R
      clear R ho7 hg7 hb7
      go_wp2
      refine ⟨?_, by simp [intOf]; omega⟩
      have R := HR.out
      first | exact R | ((repeat apply Exists.intro); exact ⟨R, rfl⟩)
    · have t1 : decide ((j : Int) < (k : Int)) = false := decide_eq_false (by omega)
      have t1' : decide (j < k) = false := decide_eq_false hlt
      obtain rfl : j = k := by omega
      have HBW := Lib.hid hbw
      clear ho hbw HR0
      go_wp2_with (at_builtin; refine wpList_app1 wr #[.int .u8 49] _ rfl _ _ 26 rfl W.heap.size elByte _ _ _ rfl HO.out rfl rfl ?c1 ?c2 ?c3 ?c4 ?_)
      case c1 => first | rfl | (intro u hu; simp at hu; subst hu; rfl)
      case c2 => simp [maxLen]; omega
      case c3 => omega
      case c4 => exact HBW.out.size
      intro v7 w7 ho7 hg7
      have hb7 : Below W.heap.size W w7 := (ext_alloc HBW.out (.cells #[.int .u8 49] 5)).grown hg7 (ext_alloc HBW.out (.cells #[.int .u8 49] 5)).size (fun g hg => (HO.out.lt g hg).1)
      have R2 : N2Rel j W v7 (.int .i64 0) w7 := ⟨0, rfl, Nat.zero_le _, by simpa using ho7, hb7⟩
      have HR2 := Lib.hid R2
      clear R2 ho7 hg7 hb7
      go_wp2_with fail
      go_loopw [7, 9] (N2Rel j W) (fun _ i _ => j - (intOf i).toNat)
      case atStart => exact HR2.out
      case round =>
        obtain ⟨i, rfl, hi, ho, hbw⟩ := hrel
        obtain ⟨ao, cap, rfl, _⟩ := aown_form ho
        have HO := Lib.hid ho
        by_cases hlt : i < j
        · have t2 : decide ((i : Int) < (j : Int)) = true := decide_eq_true (by omega)
          have t2' : decide (i < j) = true := decide_eq_true hlt
          have q1 : IntKind.i64.wrap ((i : Int) + 1) = (i : Int) + 1 := IntWalk.i64_in _ (by omega)
          have HBW := Lib.hid hbw
          clear ho hbw HR2
          go_wp2_with (at_builtin; refine wpList_app1 wr #[.int .u8 93] _ rfl _ _ 26 rfl W.heap.size elByte _ _ _ rfl HO.out rfl rfl ?c1 ?c2 ?c3 ?c4 ?_)
          case c1 => first | rfl | (intro u hu; simp at hu; subst hu; rfl)
          case c2 => simp [maxLen]; omega
          case c3 => omega
          case c4 => exact HBW.out.size
          intro v7 w7 ho7 hg7
          have hb7 : Below W.heap.size W w7 := (ext_alloc HBW.out (.cells #[.int .u8 93] 5)).grown hg7 (ext_alloc HBW.out (.cells #[.int .u8 93] 5)).size (fun g hg => (HO.out.lt g hg).1)
          have R : N2Rel j W v7 (.int .i64 ((i : Int) + 1)) w7 := ⟨i + 1, by go_num, hlt, by rw [List.replicate_succ', show j + 1 + (i + 1) = j + 1 + i + 1 by omega]; simpa using ho7, hb7⟩
          have HR := Lib.hid R
          clear R ho7 hg7 hb7
          go_wp2
          refine ⟨?_, by simp [intOf]; omega⟩
          have R := HR.out
          first | exact R | ((repeat apply Exists.intro); exact ⟨R, rfl⟩)
        · have t2 : decide ((i : Int) < (j : Int)) = false := decide_eq_false (by omega)
          have t2' : decide (i < j) = false := decide_eq_false hlt
          obtain rfl : i = j := by omega
          have HB2 := Lib.hid (ext_trans HB.out hbw)
          have hz := nestB_size i
          have hrd : Rd (Own wr) wr (.slice ao (i + 1 + i) cap) (bytesDB (nestB i)) := by
            rw [bytesDB_eq]
            refine rd_owned (vs := byV (nestB i)) (n := i + 1 + i) (by rw [byV_nestB]; exact ho) (byV_rds _) (fun g hg => (ho.lt g hg).2)
          have PR := parse_any wr _ (nestB i) ⟨1000, m, 1000⟩ hrd (HE.out.ext HB2.out) (by omega)
          rw [nest_run (nestB_nest i) (by simp only; omega) (by simp only; omega) (by simp only; omega)] at PR
          simp only at PR
          by_cases hkm : (m : Int) < (i : Int)
          · have t3 : decide ((m : Int) < (i : Int)) = true := decide_eq_true hkm
            have t3' : decide (m < i) = true := decide_eq_true (by omega)
            rw [if_pos hkm] at PR
            have PR := Lib.hid PR
            clear ho hbw HR2 hrd hkm hz
            go_wp2_with fail
            refine PR.out.mono ?_
            rintro e w8 ⟨u, rfl, hf⟩
            have HB8 := Lib.hid (ext_trans HB2.out hf.2)
            have HU := Lib.hid (hf.1.wide (S' := Own w8) (fun b hb => hb.2))
            have HA := Lib.hid (by
              have := has_any _ 13 [(((13 : Nat) : Int), (m : Int))] w8 HU.out
              rw [show isKind [(((13 : Nat) : Int), (m : Int))] 13 = true by simp [isKind]] at this
              exact this)
            have AT := Lib.hid (at_any _ [(((13 : Nat) : Int), (m : Int))] w8 (HG.out.ext HB8.out) HU.out)
            clear hf
            go_wp2_with fail
            refine HA.out.mono ?_
            rintro e w9 ⟨rfl, rfl⟩
            go_wp2_with fail
            refine AT.out.mono ?_
            rintro e w9 ⟨rfl, hb9⟩
            have HF := Lib.hid (ext_trans HB8.out hb9)
            clear hb9
            simp only [atI]
            go_wp2
            go_ret
            exact ⟨rfl, HF.out⟩
          · have t3 : decide ((m : Int) < (i : Int)) = false := decide_eq_false hkm
            have t3' : decide (m < i) = false := decide_eq_false (by omega)
            rw [if_neg hkm] at PR
            have PR := Lib.hid PR
            clear ho hbw HR2 hrd hkm hz
            go_wp2_with fail
            refine PR.out.mono ?_
            rintro e w8 ⟨D, T, tv, ns, rfl, hd, hb8⟩
            have HD := Lib.hid hd
            have HB8 := Lib.hid (ext_trans HB2.out hb8)
            have hlen := nestE_length (nestB i) i
            have LN := Lib.hid (by
              have := tlen_any w8 _ D T _ _ tv ns hd
              rw [hlen] at this
              exact this)
            have ND := Lib.hid (fun V (hV : Below w8.heap.size w8 V) (id : Int) => node_any V _ D T _ _ tv ns id (hd.below hV) (by rw [hlen]; omega))
            have HLEN := Lib.hid hlen
            have q2 : IntKind.i64.wrap ((i : Int) + 1) = (i : Int) + 1 := IntWalk.i64_in _ (by omega)
            have R3 : N3Rel i w8 (.int .i64 0) w8 := ⟨0, rfl, Nat.zero_le _, Below.refl _ _⟩
            have HR3 := Lib.hid R3
            clear hd hb8 hlen R3 PR
            go_wp2_with fail
            refine LN.out.mono ?_
            rintro e w9 ⟨rfl, rfl⟩
            go_wp2_with fail
            go_loopw [12] (N3Rel i w8) (fun x _ => i + 1 - (intOf x).toNat)
            case atStart => exact HR3.out
            case round =>
              obtain ⟨x, rfl, hx, hbw⟩ := hrel
              have HBW := Lib.hid hbw
              by_cases hlt3 : x ≤ i
              · have t4 : decide ((x : Int) ≤ (i : Int)) = true := decide_eq_true (by omega)
                have t4' : decide (x ≤ i) = true := decide_eq_true hlt3
                have q3 : IntKind.i64.wrap ((x : Int) + 1) = (x : Int) + 1 := IntWalk.i64_in _ (by omega)
                obtain ⟨y, hy, hya, hyk⟩ := nestE_get (B := nestB i) hlt3
                have NDX := Lib.hid (ND.out wr hbw x)
                have HY := Lib.hid hy
                have hR : ∀ V, Below w8.heap.size w8 V → N3Rel i w8 (.int .i64 ((x : Int) + 1)) V := fun V hV => ⟨x + 1, by go_num, by omega, hV⟩
                have HRR := Lib.hid hR
                clear hbw hy hR
                go_wp2_with fail
                refine NDX.out.mono ?_
                intro e w10 hp
                have hp' : e = .returned (.tuple #[.agg #[.int .i64 y.kind, .string y.key, .string y.text, .int .i64 (x : Int)], .bool true]) ∧ Below wr.heap.size wr w10 := by
                  rcases hp with ⟨i', y', hi', hy', h, hb⟩ | ⟨hno, _⟩
                  · obtain rfl : x = i' := by omega
                    obtain rfl : y' = y := by rw [HY.out] at hy'; exact (Option.some.inj hy').symm
                    rw [hya] at h
                    exact ⟨h, hb⟩
                  · have := HLEN.out; omega
                obtain ⟨rfl, hb10⟩ := hp'
                have HR10 := Lib.hid (fun ob => HRR.out _ (ext_alloc (ext_trans HBW.out hb10) ob))
                clear hp hb10
                by_cases hxi : x = i
                · have tk : y.kind = 3 := by rw [hyk, if_pos hxi]
                  have t5 : ((x : Int) == (i : Int)) = true := beq_iff_eq.2 (by omega)
                  rw [tk]
                  clear hyk tk hya hxi
                  go_wp2
                  refine ⟨?_, by simp [intOf]; omega⟩
                  have R := HR10.out
                  first | exact R _ | ((repeat apply Exists.intro); exact ⟨R _, rfl⟩)
                · have tk : y.kind = 5 := by rw [hyk, if_neg hxi]
                  have t5 : ((x : Int) == (i : Int)) = false := beq_eq_false_iff_ne.2 (by omega)
                  rw [tk]
                  clear hyk tk hya hxi
                  go_wp2
                  refine ⟨?_, by simp [intOf]; omega⟩
                  have R := HR10.out
                  first | exact R _ | ((repeat apply Exists.intro); exact ⟨R _, rfl⟩)
              · have t4 : decide ((x : Int) ≤ (i : Int)) = false := decide_eq_false (by omega)
                have t4' : decide (x ≤ i) = false := decide_eq_false hlt3
                have HF := Lib.hid (ext_trans HB8.out hbw)
                clear hbw
                go_wp2
                go_ret
                exact ⟨rfl, HF.out⟩
end Go.Proofs.YtmhfbdeeebbloaaDoor
