/- ref08.Form: the document's form of a value. -/
import Derived.Test.YtheoaijheijojaaGreatDoorZCnw7s
import Derived.Test.YtheoaijheijojaaGreatDoorZJrP1s
import Derived.Test.YtheoaijheijojaaGreatDoorZIdl0s
namespace Go.Proofs.YtheoaijheijojaaGreatDoor
open Go.RowKit
theorem strV_rds {S : Nat → Prop} {w : World} (l : List ByteArray) : Rds S w (strV l) (l.map .str) :=
  ⟨by simp [strV], fun j u d hu hd => by
    simp only [strV, List.getElem?_map] at hu hd
    cases hx : l[j]? with
    | none => rw [hx] at hu; cases hu
    | some x => rw [hx] at hu hd; cases hu; cases hd; exact .str _⟩
theorem rd_strV {w : World} {base : Nat} {v : Value} {l : List ByteArray} (h : w.ownsRow base 9 1 v l.length (strV l)) : Rd (Own w) w v (.list 1 (l.map .str)) := rd_owned h (strV_rds l) (fun g hg => (h.lt g hg).2)
end Go.Proofs.YtheoaijheijojaaGreatDoor
