/- Texts put together. -/
import Derived.Test.YtcaiibkgajhohaaGreatDoorYJsN1
import Derived.Test.YtcaiibkgajhohaaGreatDoorYQuo0f
namespace Go.Proofs.YtcaiibkgajhohaaGreatDoor
open Go.RowKit
structure AppA where
 team : ByteArray
 bundle : ByteArray
structure ItA where
 name : ByteArray
 value : ByteArray
structure RuA where
 path : ByteArray
 query : ByteArray
 frag : ByteArray
 hasPath : Bool
 hasQuery : Bool
 hasFrag : Bool
 items : List ItA
 exclude : Bool
 fold : Bool
 decoded : Bool
structure DeA where
 apps : List AppA
 rules : List RuA
structure VaA where
 name : ByteArray
 values : List ByteArray
structure AsA where
 details : List DeA
 vars : List VaA
def noB : ByteArray := ⟨#[]⟩
def ru0 : RuA := ⟨noB, noB, noB, false, false, false, [], false, false, false⟩
/-- The reader's state: is something wrong, and the variables. -/
structure RdSt where
 bad : Bool
 vars : List VaA
def RdSt.fail (s : RdSt) : RdSt := ⟨true, s.vars⟩
def kCase : ByteArray := ⟨#[99, 97, 115, 101, 83, 101, 110, 115, 105, 116, 105, 118, 101]⟩
def kPct : ByteArray := ⟨#[112, 101, 114, 99, 101, 110, 116, 69, 110, 99, 111, 100, 101, 100]⟩
def kDef : ByteArray := ⟨#[100, 101, 102, 97, 117, 108, 116, 115]⟩
def kSub : ByteArray := ⟨#[115, 117, 98, 115, 116, 105, 116, 117, 116, 105, 111, 110, 86, 97, 114, 105, 97, 98, 108, 101, 115]⟩
def kSl : ByteArray := ⟨#[47]⟩
def kQu : ByteArray := ⟨#[63]⟩
def kHa : ByteArray := ⟨#[35]⟩
def kExc : ByteArray := ⟨#[101, 120, 99, 108, 117, 100, 101]⟩
def kCom : ByteArray := ⟨#[99, 111, 109, 109, 101, 110, 116]⟩
def kIds : ByteArray := ⟨#[97, 112, 112, 73, 68, 115]⟩
def kId : ByteArray := ⟨#[97, 112, 112, 73, 68]⟩
def kCmp : ByteArray := ⟨#[99, 111, 109, 112, 111, 110, 101, 110, 116, 115]⟩
def kPth : ByteArray := ⟨#[112, 97, 116, 104, 115]⟩
def kDet : ByteArray := ⟨#[100, 101, 116, 97, 105, 108, 115]⟩
def kApl : ByteArray := ⟨#[97, 112, 112, 108, 105, 110, 107, 115]⟩
/-- What the reader asks beside the document: is a variable right, is a pattern right, is an elder path right. -/
structure AsK where
 okVar : VaA → Bool
 okPat : ByteArray → List VaA → Bool
 okGlob : ByteArray → Bool
section
variable (K : AsK) (js : List JN) (ups : List Nat)
def kindA (id : Nat) : Int := match js[id]? with
 | some x => x.kind
 | none => 0
def txtA0 (id : Nat) : ByteArray := match js[id]? with
 | some x => x.text
 | none => noB
def isA (s : RdSt) (id : Nat) (k : Int) : Bool × RdSt := (!(s.bad || decide (kindA js id ≠ k)), ⟨s.bad || decide (kindA js id ≠ k), s.vars⟩)
def memA (s : RdSt) (id : Nat) (key : ByteArray) : Option Nat := if s.bad = true then none else if kindA js id = 6 ∧ anyK js (kids ups id) key = true then some (lastK js (kids ups id) key).toNat else none
def txtA (s : RdSt) (id : Nat) : ByteArray × RdSt := if (isA js s id 4).1 = true then (txtA0 js id, (isA js s id 4).2) else (noB, (isA js s id 4).2)
/-- A list of texts: until one is none. -/
def textsF : List Nat → RdSt → List ByteArray → List ByteArray × RdSt
 | [], s, acc => (acc, s)
 | k :: l, s, acc => if (txtA js s k).2.bad = true then (acc, (txtA js s k).2) else textsF l (txtA js s k).2 (acc ++ [(txtA js s k).1])
def textsA (s : RdSt) (id : Nat) : List ByteArray × RdSt := if (isA js s id 5).1 = true then textsF js (kids ups id) (isA js s id 5).2 [] else ([], (isA js s id 5).2)
def flagA (s : RdSt) (id : Nat) (key : ByteArray) (plain : Bool) : Bool × RdSt := match memA js ups s id key with
 | none => (plain, s)
 | some k => (decide (kindA js k = 2), ⟨s.bad || !(decide (kindA js k = 1) || decide (kindA js k = 2)), s.vars⟩)
def flagsA (s : RdSt) (id : Nat) (a b : Bool) (ka kb : ByteArray) : (Bool × Bool) × RdSt :=
 let x := flagA js ups s id ka a
 let y := flagA js ups x.2 id kb b
 ((x.1, y.1), y.2)
def defaultsA (s : RdSt) (id : Nat) (a b : Bool) : (Bool × Bool) × RdSt := match memA js ups s id kDef with
 | none => ((a, b), s)
 | some k => if (isA js s k 6).1 = true then flagsA js ups (isA js s k 6).2 k a b kCase kPct else ((a, b), (isA js s k 6).2)
/-- The variables. -/
def varF : List Nat → RdSt → RdSt
 | [], s => s
 | m :: l, s => if (textsA js ups s m).2.bad = true then (textsA js ups s m).2 else varF l ⟨(textsA js ups s m).2.bad || !K.okVar ⟨keyA js m, (textsA js ups s m).1⟩, (textsA js ups s m).2.vars ++ [⟨keyA js m, (textsA js ups s m).1⟩]⟩
def varsA (s : RdSt) (id : Nat) : RdSt := match memA js ups s id kSub with
 | none => s
 | some k => if (isA js s k 6).1 = true then varF K js ups (membersS js (kids ups k)) ⟨(isA js s k 6).2.bad || decide (64 < (membersS js (kids ups k)).length), (isA js s k 6).2.vars⟩ else (isA js s k 6).2
def checkedA (s : RdSt) (id : Nat) : ByteArray × RdSt := if (txtA js s id).2.bad = true then (noB, (txtA js s id).2) else ((txtA js s id).1, ⟨(txtA js s id).2.bad || !K.okPat (txtA js s id).1 (txtA js s id).2.vars, (txtA js s id).2.vars⟩)
def patternA (s : RdSt) (id : Nat) (key : ByteArray) : (ByteArray × Bool) × RdSt := match memA js ups s id key with
 | none => ((noB, false), s)
 | some k => (((checkedA K js s k).1, true), (checkedA K js s k).2)
def itemsF : List Nat → RdSt → List ItA → List ItA × RdSt
 | [], s, acc => (acc, s)
 | m :: l, s, acc => itemsF l (checkedA K js s m).2 (acc ++ [⟨keyA js m, (checkedA K js s m).1⟩])
def queryA (s : RdSt) (id : Nat) (x : RuA) : RuA × RdSt := match memA js ups s id kQu with
 | none => (x, s)
 | some k => if kindA js k ≠ 6 then ({ x with query := (checkedA K js s k).1, hasQuery := true }, (checkedA K js s k).2) else ({ x with items := (itemsF K js (membersS js (kids ups k)) s x.items).1 }, (itemsF K js (membersS js (kids ups k)) s x.items).2)
/-- The rule of a component. -/
def componentA (s : RdSt) (id : Nat) (a b : Bool) : RuA × RdSt := if (isA js s id 6).1 = true then
    let s1 := (isA js s id 6).2
    let p := patternA K js ups s1 id kSl
    let q := queryA K js ups p.2 id { ru0 with path := p.1.1, hasPath := p.1.2 }
    let h := patternA K js ups q.2 id kHa
    let e := flagA js ups h.2 id kExc false
    let f := flagsA js ups e.2 id a b kCase kPct
    ({ q.1 with frag := h.1.1, hasFrag := h.1.2, exclude := e.1, fold := !f.1.1, decoded := !f.1.2 }, match memA js ups f.2 id kCom with
      | none => f.2
      | some k => (txtA js f.2 k).2)
 else (ru0, (isA js s id 6).2)
def notB (t : ByteArray) : Bool := decide (t.extract 0 4 = ⟨#[78, 79, 84, 32]⟩)
def notR (t : ByteArray) : ByteArray := if notB t = true then t.extract 4 t.size else t
/-- The rule of an elder path. -/
def legacyA (t : ByteArray) : Option RuA := if K.okGlob (notR t) = true then some { ru0 with path := notR t, hasPath := true, exclude := notB t } else none
def appA (s : RdSt) (t : ByteArray) (apps : List AppA) : List AppA × RdSt := (apps ++ [⟨appTeam t, appBundle t⟩], ⟨s.bad || decide (appR t ≠ []), s.vars⟩)
/-- Apps of a list; none: something was wrong. -/
def appsF : List Nat → RdSt → List AppA → Option (List AppA) × RdSt
 | [], s, acc => (some acc, s)
 | k :: l, s, acc => if (txtA js s k).2.bad = true then (some acc, (txtA js s k).2) else if (appA (txtA js s k).2 (txtA js s k).1 acc).2.bad = true then (none, (appA (txtA js s k).2 (txtA js s k).1 acc).2) else appsF l (appA (txtA js s k).2 (txtA js s k).1 acc).2 (appA (txtA js s k).2 (txtA js s k).1 acc).1
def appsL (s : RdSt) (id : Nat) (apps : List AppA) : Option (List AppA) × RdSt := match memA js ups s id kIds with
 | none => (some apps, s)
 | some k => if (isA js s k 5).1 = true then appsF js (kids ups k) (isA js s k 5).2 apps else (some apps, (isA js s k 5).2)
def appsO (s : RdSt) (id : Nat) (apps : List AppA) : List AppA × RdSt := match memA js ups s id kId with
 | none => (apps, s)
 | some k => if (txtA js s k).2.bad = true then (apps, (txtA js s k).2) else appA (txtA js s k).2 (txtA js s k).1 apps
/-- A detail's apps. -/
def appsA (s : RdSt) (id : Nat) (key : ByteArray) (keyed : Bool) : List AppA × RdSt :=
 let r := if keyed = true then appA s key [] else ([], s)
 match appsL js ups r.2 id r.1 with
 | (none, s1) => ([], s1)
 | (some l, s1) => ((appsO js ups s1 id l).1, ⟨(appsO js ups s1 id l).2.bad || (appsO js ups s1 id l).1.isEmpty, (appsO js ups s1 id l).2.vars⟩)
def compF : List Nat → RdSt → Bool → Bool → List RuA → List RuA × RdSt
 | [], s, _, _, acc => (acc, s)
 | m :: l, s, a, b, acc => compF l (componentA K js ups s m a b).2 a b (acc ++ [(componentA K js ups s m a b).1])
def pathF : List Nat → RdSt → List RuA → List RuA × RdSt
 | [], s, acc => (acc, s)
 | k :: l, s, acc => if (txtA js s k).2.bad = true then (acc, (txtA js s k).2) else match legacyA K (txtA js s k).1 with
   | none => ([], (txtA js s k).2.fail)
   | some x => pathF l (txtA js s k).2 (acc ++ [x])
def fewA (s : RdSt) (n most : Nat) : Bool × RdSt := (!(s.bad || decide (most < n)), ⟨s.bad || decide (most < n), s.vars⟩)
/-- A list that is not too long. -/
def listA (s : RdSt) (k most : Nat) : Bool × RdSt := if (isA js s k 5).1 = true then fewA (isA js s k 5).2 (kids ups k).length most else (false, (isA js s k 5).2)
/-- A detail's rules. -/
def rulesA (s : RdSt) (id : Nat) (a b : Bool) : List RuA × RdSt := match memA js ups s id kCmp with
 | some k => if (listA js ups s k 512).1 = true then compF K js ups (kids ups k) (listA js ups s k 512).2 a b [] else ([], (listA js ups s k 512).2)
 | none => match memA js ups s id kPth with
   | none => ([], s)
   | some k => if (listA js ups s k 512).1 = true then pathF K js (kids ups k) (listA js ups s k 512).2 [] else ([], (listA js ups s k 512).2)
def detailA (s : RdSt) (id : Nat) (key : ByteArray) (keyed a b : Bool) : DeA × RdSt := if (isA js s id 6).1 = true then
    let p := appsA js ups (isA js s id 6).2 id key keyed
    let d := defaultsA js ups p.2 id a b
    let r := rulesA K js ups d.2 id d.1.1 d.1.2
    (⟨p.1, r.1⟩, r.2)
 else (⟨[], []⟩, (isA js s id 6).2)
def detF : List Nat → RdSt → Bool → Bool → Bool → List DeA → List DeA × RdSt
 | [], s, _, _, _, acc => (acc, s)
 | m :: l, s, keyed, a, b, acc => if (detailA K js ups s m (keyA js m) keyed a b).2.bad = true then ([], (detailA K js ups s m (keyA js m) keyed a b).2) else detF l (detailA K js ups s m (keyA js m) keyed a b).2 keyed a b (acc ++ [(detailA K js ups s m (keyA js m) keyed a b).1])
def detailsA (s : RdSt) (id : Nat) (a b : Bool) : List DeA × RdSt := match memA js ups s id kDet with
 | none => ([], s)
 | some k => if kindA js k = 6 then (if (fewA s (membersS js (kids ups k)).length 256).1 = true then detF K js ups (membersS js (kids ups k)) (fewA s (membersS js (kids ups k)).length 256).2 true a b [] else ([], (fewA s (membersS js (kids ups k)).length 256).2))
   else if kindA js k = 5 then (if (fewA s (kids ups k).length 256).1 = true then detF K js ups (kids ups k) (fewA s (kids ups k).length 256).2 false a b [] else ([], (fewA s (kids ups k).length 256).2))
   else ([], s.fail)
/-- What a document tells; none: something is wrong. -/
def docA : Option AsA :=
 let s0 : RdSt := ⟨false, []⟩
 if (isA js s0 0 6).1 = true then match memA js ups (isA js s0 0 6).2 0 kApl with
  | none => none
  | some k => if (isA js (isA js s0 0 6).2 k 6).1 = true then
      let d := defaultsA js ups (isA js (isA js s0 0 6).2 k 6).2 k true true
      let v := varsA K js ups d.2 k
      let l := detailsA K js ups v k d.1.1 d.1.2
      if l.2.bad = true then none else some ⟨l.1, l.2.vars⟩
    else none
 else none
end
end Go.Proofs.YtcaiibkgajhohaaGreatDoor
