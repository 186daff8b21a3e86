/- JSON texts: the reader as a plain machine. Nothing of the program. -/
import Derived.Test.YtmhfbdeeebbloaaDoorTxt0
import Derived.Test.YtmhfbdeeebbloaaDoorArena1
namespace Go.Proofs.YtmhfbdeeebbloaaDoor
open Go.RowKit
/-- A value of a JSON text. -/
structure JN where
  kind : Int
  key : ByteArray
  text : ByteArray
  at_ : Int
/-- A list, or an object, that has not ended. -/
structure Op where
  id : Int
  obj : Bool
  st : Int
  key : ByteArray
/-- What was read; the last of the stack is the head. -/
structure PS where
  js : List JN
  ups : List Nat
  stack : List Op
structure Bd where
  bytes : Int
  deep : Int
  nodes : Int
def wrongS {α : Type} (t : Tok) : Sc α := if t.kind = 0 then .no 10 t.fr else .no 11 t.fr
def endsS (o : Op) (t : Tok) : Bool := t.kind == (if o.obj then 2 else 4)
def aftO (o : Op) : Op := { o with st := if o.id < 0 then 5 else 4 }
def afterS : List Op → List Op
  | [] => []
  | o :: r => aftO o :: r
def kindS (k : Int) : Option Int := if k = 1 then some 6 else if k = 3 then some 5 else if k = 7 then some 4 else if k = 8 then some 3 else if k = 9 then some 2 else if k = 10 then some 1 else if k = 11 then some 0 else none
def textN (B : ByteArray) (k : Int) (t : Tok) : ByteArray := if k = 4 then (textTok B t).getD ⟨#[]⟩ else if k = 3 then B.extract t.fr.toNat t.to.toNat else ⟨#[]⟩
def nodeS (B : ByteArray) (o : Op) (k : Int) (t : Tok) : JN := ⟨k, if o.obj then o.key else ⟨#[]⟩, textN B k t, t.fr⟩
def addS (B : ByteArray) (s : PS) (o : Op) (k : Int) (t : Tok) (st : List Op) : PS := ⟨s.js ++ [nodeS B o k t], s.ups ++ [o.id.toNat], st⟩
def valueS (B : ByteArray) (m : Bd) (s : PS) (o : Op) (r : List Op) (t : Tok) : Sc PS := match kindS t.kind with
  | none => wrongS t
  | some k => if m.nodes ≤ s.js.length then .no 15 t.fr else if k < 5 then .ok (addS B s o k t (afterS (o :: r)))
    else if m.deep < ((o :: r).length : Nat) then .no 13 t.fr else .ok (addS B s o k t (⟨s.js.length, k == 6, 0, ⟨#[]⟩⟩ :: o :: r))
def keyS (B : ByteArray) (s : PS) (o : Op) (r : List Op) (t : Tok) : Sc PS := if t.kind ≠ 7 then wrongS t else match textTok B t with
  | some x => .ok { s with stack := { o with st := 3, key := x } :: r }
  | none => .no 32 t.fr
def betweenS (s : PS) (o : Op) (r : List Op) (t : Tok) : Sc PS :=
  if endsS o t then .ok { s with stack := afterS r } else if t.kind ≠ 6 then wrongS t else .ok { s with stack := { o with st := if o.obj then 2 else 1 } :: r }
def takeS (B : ByteArray) (m : Bd) (s : PS) (t : Tok) : Sc PS := match s.stack with
  | [] => .ok s
  | o :: r => if o.st = 5 then (if t.kind = 0 then .ok s else wrongS t)
    else if o.st = 3 then (if t.kind = 5 then .ok { s with stack := { o with st := 1 } :: r } else wrongS t)
    else if o.st = 4 then betweenS s o r t
    else if o.st = 0 then (if endsS o t then .ok { s with stack := afterS r } else if o.obj then keyS B s o r t else valueS B m s o r t)
    else if o.st = 2 then keyS B s o r t else valueS B m s o r t
def runF (B : ByteArray) (m : Bd) : Nat → Int → PS → Sc PS
  | 0, _, s => .ok s
  | f + 1, i, s => (nextI B i).bind fun t => (takeS B m s t).bind fun s' => if t.kind = 0 then .ok s' else runF B m f t.to s'
def runS (B : ByteArray) (m : Bd) (i : Int) (s : PS) : Sc PS := runF B m (B.size - i.toNat + 2) i s
def ps0 : PS := ⟨[], [], [⟨-1, false, 1, ⟨#[]⟩⟩]⟩
def parseS (B : ByteArray) (m : Bd) : Sc PS := if m.bytes < B.size then .no 14 (max m.bytes 0) else runS B m 0 ps0
theorem tok_shape {B : ByteArray} {i : Int} {t : Tok} (h : nextI B i = .ok t) : 0 ≤ i ∧ i ≤ t.fr ∧ t.fr ≤ t.to ∧ t.to ≤ B.size ∧ 0 ≤ t.kind ∧ (t.kind = 0 ∧ t.fr = B.size ∨ 0 < t.kind ∧ t.fr < t.to) := by
  unfold nextI at h
  split at h
  · cases h
  · rename_i hi
    unfold nextS at h
    obtain ⟨x, hx, he⟩ := Sc.bind_eq_ok h
    cases he
    have h1 := skip_ge isBlank B i.toNat
    have h2 := skip_le isBlank B i.toNat (by omega)
    have h3 := tokenS_ok h2 hx
    refine ⟨by omega, by simp only; omega, ?_, ?_, ?_, ?_⟩
    · simp only; omega
    · simp only; omega
    · simp only; omega
    · simp only; omega
theorem tok_again {B : ByteArray} {i : Int} {t : Tok} (h : nextI B i = .ok t) : nextI B t.fr = .ok t := by
  have hs := tok_shape h
  unfold nextI at h ⊢
  split at h
  · cases h
  · rw [if_neg (by omega)]
    have h0 := h
    unfold nextS at h ⊢
    obtain ⟨x, hx, he⟩ := Sc.bind_eq_ok h
    have hf : t.fr.toNat = skip isBlank B i.toNat := by cases he; simp
    have hk : skip isBlank B t.fr.toNat = t.fr.toNat := by rw [hf]; exact skip_stop (fun hl => skip_end isBlank B _ _ rfl hl)
    rw [hk, hf]
    exact h
theorem text_is {B : ByteArray} {i : Int} {t : Tok} (h : nextI B i = .ok t) (h7 : t.kind = 7) : ∃ x, textTok B t = some x := by
  have h2 := tok_again h
  obtain ⟨p, y, hp, _, _, hy⟩ := tok_text h2 h7
  refine ⟨strOf y.1, ?_⟩
  unfold textTok
  rw [h2]
  simp only [h7, and_self, if_true]
  rw [hp, Int.toNat_natCast, hy]
theorem runF_fuel (B : ByteArray) (m : Bd) : ∀ n f g i s, B.size - i.toNat = n → n < f → n < g → runF B m f i s = runF B m g i s := by
  intro n
  induction n using Nat.strongRecOn with
  | ind n ih =>
    intro f g i s hn hf hg
    cases f with
    | zero => omega
    | succ f =>
      cases g with
      | zero => omega
      | succ g =>
        rw [runF, runF]
        cases hx : nextI B i with
        | no k p => rfl
        | ok t =>
          simp only [Sc.bind_ok]
          cases hy : takeS B m s t with
          | no k p => rfl
          | ok s' =>
            simp only [Sc.bind_ok]
            split
            · rfl
            · have := tok_shape hx
              exact ih (B.size - t.to.toNat) (by omega) f g t.to s' rfl (by omega) (by omega)
theorem runS_step (B : ByteArray) (m : Bd) (i : Int) (s : PS) : runS B m i s = (nextI B i).bind fun t => (takeS B m s t).bind fun s' => if t.kind = 0 then .ok s' else runS B m t.to s' := by
  unfold runS
  rw [show B.size - i.toNat + 2 = (B.size - i.toNat + 1) + 1 from rfl, runF]
  cases hx : nextI B i with
  | no k p => rfl
  | ok t =>
    simp only [Sc.bind_ok]
    cases hy : takeS B m s t with
    | no k p => rfl
    | ok s' =>
      simp only [Sc.bind_ok]
      split
      · rfl
      · have := tok_shape hx
        exact runF_fuel B m _ _ _ _ _ rfl (by omega) (by omega)
end Go.Proofs.YtmhfbdeeebbloaaDoor
