/- JrP0, JrM0 in one text (a claim holds at most 60 files). -/
import Derived.Test.YtheoaijheijojaaGreatDoorZArena0s
import Derived.Test.YtheoaijheijojaaGreatDoorZJsN1
import Derived.Test.YtheoaijheijojaaGreatDoorZScan0s
import Derived.Test.YtheoaijheijojaaGreatDoorZOwn0s
import Derived.Test.YtheoaijheijojaaGreatDoorZLib0s
import Derived.Test.YtheoaijheijojaaGreatDoorZErrs1s
import Derived.Lib.SmallJoins
import Derived.BigQuiet
import Derived.Deep.RegionHeld3
import Derived.Deep.DeepCutAuto
import Derived.Test.YtheoaijheijojaaGreatDoorZFold0s
import Derived.Test.YtheoaijheijojaaGreatDoorZScan4s
import Derived.Test.YtheoaijheijojaaGreatDoorZChr1s
import Derived.Deep.AppendLies
import Derived.Test.YtheoaijheijojaaGreatDoorZTxtWs
import Derived.Test.YtheoaijheijojaaGreatDoorZTxt1
namespace Go.Proofs.YtheoaijheijojaaGreatDoor
section
open Go.RowKit
section
variable {B : ByteArray} {m : Bd} {i : Int} {s s' : PS} {t : Tok} {k : Nat} {p : Int} {js : List JN} {ups : List Nat} {o : Op} {r : List Op}
theorem run_ok (h : nextI B i = .ok t) (h2 : takeS B m s t = .ok s') (h0 : t.kind ≠ 0) : runS B m i s = runS B m t.to s' := by rw [runS_step, h, Sc.bind_ok, h2, Sc.bind_ok, if_neg h0]
theorem run_end (h : nextI B i = .ok t) (h2 : takeS B m s t = .ok s') (h0 : t.kind = 0) : runS B m i s = .ok s' := by rw [runS_step, h, Sc.bind_ok, h2, Sc.bind_ok, if_pos h0]
/-- A value is wanted, or a key. -/
def WantV (B : ByteArray) (m : Bd) (i : Int) (js : List JN) (ups : List Nat) (o : Op) (r : List Op) : Prop := ∀ t, nextI B i = .ok t → takeS B m ⟨js, ups, o :: r⟩ t = valueS B m ⟨js, ups, o :: r⟩ o r t
def WantK (B : ByteArray) (m : Bd) (i : Int) (js : List JN) (ups : List Nat) (o : Op) (r : List Op) : Prop := ∀ t, nextI B i = .ok t → takeS B m ⟨js, ups, o :: r⟩ t = keyS B ⟨js, ups, o :: r⟩ o r t
theorem wantV_1 (h : o.st = 1) : WantV B m i js ups o r := fun t _ => by simp [takeS, h]
theorem wantK_2 (h : o.st = 2) : WantK B m i js ups o r := fun t _ => by simp [takeS, h]
theorem wantV_0 (h : o.st = 0) (ho : o.obj = false) (hn : nextI B i = .ok t) (he : endsS o t = false) : WantV B m i js ups o r := fun t' h' => by
  rw [hn] at h'; cases h'
  simp [takeS, h, ho, he]
theorem wantK_0 (h : o.st = 0) (ho : o.obj = true) (hn : nextI B i = .ok t) (he : endsS o t = false) : WantK B m i js ups o r := fun t' h' => by
  rw [hn] at h'; cases h'
  simp [takeS, h, ho, he]
theorem kindS_pos {k : Int} (h : kindS t.kind = some k) : t.kind ≠ 0 := fun e => by rw [e] at h; cases h
theorem v_leaf {c : Int} (hw : WantV B m i js ups o r) (hn : nextI B i = .ok t) (hk : kindS t.kind = some c) (hm : ¬ m.nodes ≤ js.length) (hc : c < 5) : runS B m i ⟨js, ups, o :: r⟩ = runS B m t.to ⟨js ++ [nodeS B o c t], ups ++ [o.id.toNat], aftO o :: r⟩ :=
  run_ok hn (by rw [hw t hn]; unfold valueS; rw [hk]; simp only; rw [if_neg hm, if_pos hc]; rfl) (kindS_pos hk)
theorem v_push {c : Int} (hw : WantV B m i js ups o r) (hn : nextI B i = .ok t) (hk : kindS t.kind = some c) (hm : ¬ m.nodes ≤ js.length) (hc : ¬ c < 5) (hd : ¬ m.deep < ((o :: r).length : Nat)) : runS B m i ⟨js, ups, o :: r⟩ = runS B m t.to ⟨js ++ [nodeS B o c t], ups ++ [o.id.toNat], ⟨js.length, c == 6, 0, ⟨#[]⟩⟩ :: o :: r⟩ :=
  run_ok hn (by rw [hw t hn]; unfold valueS; rw [hk]; simp only; rw [if_neg hm, if_neg hc, if_neg hd]; rfl) (kindS_pos hk)
theorem k_text {x : ByteArray} (hw : WantK B m i js ups o r) (hn : nextI B i = .ok t) (h7 : t.kind = 7) (hx : textTok B t = some x) : runS B m i ⟨js, ups, o :: r⟩ = runS B m t.to ⟨js, ups, { o with st := 3, key := x } :: r⟩ :=
  run_ok hn (by rw [hw t hn]; unfold keyS; rw [if_neg (by simp [h7]), hx]) (by omega)
theorem take_3 (h : o.st = 3) : takeS B m ⟨js, ups, o :: r⟩ t = if t.kind = 5 then .ok ⟨js, ups, { o with st := 1 } :: r⟩ else wrongS t := by simp [takeS, h]
theorem k_colon (h : o.st = 3) (hn : nextI B i = .ok t) (h5 : t.kind = 5) : runS B m i ⟨js, ups, o :: r⟩ = runS B m t.to ⟨js, ups, { o with st := 1 } :: r⟩ :=
  run_ok hn (by rw [take_3 h, if_pos h5]) (by omega)
/-- Behind a value. -/
theorem take_4 (h : o.st = 4) : takeS B m ⟨js, ups, o :: r⟩ t = betweenS ⟨js, ups, o :: r⟩ o r t := by simp [takeS, h]
theorem b_ends (h : o.st = 4) (hn : nextI B i = .ok t) (he : endsS o t = true) : runS B m i ⟨js, ups, o :: r⟩ = runS B m t.to ⟨js, ups, afterS r⟩ :=
  run_ok hn (by rw [take_4 h]; unfold betweenS; rw [if_pos he]) (by unfold endsS at he; have := beq_iff_eq.1 he; split at this <;> omega)
theorem b_comma (h : o.st = 4) (hn : nextI B i = .ok t) (he : endsS o t = false) (h6 : t.kind = 6) : runS B m i ⟨js, ups, o :: r⟩ = runS B m t.to ⟨js, ups, { o with st := if o.obj then 2 else 1 } :: r⟩ :=
  run_ok hn (by rw [take_4 h]; unfold betweenS; rw [he]; simp [h6]) (by omega)
theorem f_ends (h : o.st = 0) (hn : nextI B i = .ok t) (he : endsS o t = true) : runS B m i ⟨js, ups, o :: r⟩ = runS B m t.to ⟨js, ups, afterS r⟩ :=
  run_ok hn (by simp [takeS, h, he]) (by unfold endsS at he; have := beq_iff_eq.1 he; split at this <;> omega)
theorem d_end (h : o.st = 5) (hn : nextI B i = .ok t) (h0 : t.kind = 0) : runS B m i ⟨js, ups, o :: r⟩ = .ok ⟨js, ups, o :: r⟩ :=
  run_end hn (by simp [takeS, h, h0]) h0
end
end
section
open Go.RowKit
structure RS where
  at_ : Int
  err : Int
  to_ : Int
  js : List JN
  ups : List Int
section
variable {w w' : World} {base E D : Nat} {bv nv uv : Value} {m : Bd} {s s' : RS} {js : List JN} {ups : List Int}
end
/-- What has grown lies above the base, and no token has turned. -/
theorem TKept.grown {a b c : World} {base e sz n : Nat} {v : Value} {xs : List Value} {ob : Obj} (h : TKept a b) (ho : b.ownsRow base e sz v n xs) (he : e ≠ 79) (hg : (b.alloc ob).grownBy c v.ownBlock) : TKept a c := fun i cs f hi => by
  have h2 := h i cs f hi
  rw [hg.block i (by have := heap_lt h2; simp; omega) (fun e' => by
    obtain ⟨cur, hc⟩ := own_type ho e'.symm
    exact ne_type hc h2 he rfl), Below.heap_alloc b ob i (heap_lt h2)]
  exact h2
theorem TKept.alloc {a b : World} (h : TKept a b) (ob : Obj) : TKept a (b.alloc ob) := h.trans (.of (ext_alloc (Below.refl _ b) ob))
end
end Go.Proofs.YtheoaijheijojaaGreatDoor
