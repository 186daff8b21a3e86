import Derived.Shelf.Strings.Builder1
import Derived.Shelf.Strings.Builder2
import Derived.Shelf.Strings.OnBuilder
import Derived.Shelf.Small.Bits
import Derived.Shelf.Small.Strs
import Derived.Shelf.Small.Wraps
import Derived.Shelf.Strings.BuilderF
import Derived.Shelf.Strings.BuilderK
import Derived.Shelf.Utf8.AppendRunePlain
import Derived.Shelf.Strconv.Itoa0
import Derived.Shelf.Strings.Search1
import Derived.Shelf.Strings.Search2
import Derived.Shelf.Strings.Search3
import Derived.Shelf.Strings.Cut
import Derived.Shelf.LaysM
import Derived.Shelf.Strings.Shaped
import Derived.Shelf.Strings.Prefix
import Derived.Shelf.Bits.Mul64
import Derived.Shelf.Spec.DecodeRune
import Derived.Shelf.Spec.BitsCarry
import Derived.Test.YtcaiibkgajhohaaGreatDoorProg
namespace Go.Proofs
open Go.Shelf
def Tryz.lays7_32_ren : Go.Shelf.Ren := ⟨fun | 32 => 163 | 49 => 183 | n => n, fun | 30 => 22 | 21 => 21 | 3 => 3 | 0 => 0 | 5 => 5 | 4 => 4 | 33 => 268 | 66 => 288 | 25 => 217 | 69 => 291 | 68 => 290 | n => n, fun | 2 => 4 | 3 => 5 | n => n⟩
theorem Tryz.lays7_32 : Go.Proofs.Lays7.n32 Tryz.prog Tryz.lays7_32_ren := {
  mixed := by kernel_rfl
  f32 := Tryz.func163.trans (congrArg some (by kernel_rfl))
  f49 := Tryz.func183.trans (congrArg some (by kernel_rfl))
  t0 := Tryz.underlying0
  a0 := Tryz.isAgg0
  z0 := Tryz.sizeOf0
  v0 := Tryz.zeroValue0
  i0 := by kernel_rfl
  t3 := Tryz.underlying3
  a3 := Tryz.isAgg3
  z3 := Tryz.sizeOf3
  v3 := Tryz.zeroValue3
  i3 := by kernel_rfl
  t4 := Tryz.underlying4
  a4 := Tryz.isAgg4
  z4 := Tryz.sizeOf4
  v4 := Tryz.zeroValue4
  i4 := by kernel_rfl
  t5 := Tryz.underlying5
  a5 := Tryz.isAgg5
  z5 := Tryz.sizeOf5
  v5 := Tryz.zeroValue5
  i5 := by kernel_rfl
  t21 := Tryz.underlying21
  a21 := Tryz.isAgg21
  z21 := Tryz.sizeOf21
  v21 := Tryz.zeroValue21
  i21 := by kernel_rfl
  t25 := Tryz.underlying217
  a25 := Tryz.isAgg217
  z25 := Tryz.sizeOf217
  v25 := Tryz.zeroValue217
  i25 := by kernel_rfl
  t30 := Tryz.underlying22
  a30 := Tryz.isAgg22
  z30 := Tryz.sizeOf22
  v30 := Tryz.zeroValue22
  i30 := by kernel_rfl
  t33 := Tryz.underlying268
  a33 := Tryz.isAgg268
  z33 := Tryz.sizeOf268
  v33 := Tryz.zeroValue268
  i33 := by kernel_rfl
  t66 := Tryz.underlying288
  a66 := Tryz.isAgg288
  z66 := Tryz.sizeOf288
  t68 := Tryz.underlying290
  a68 := Tryz.isAgg290
  z68 := Tryz.sizeOf290
  v68 := Tryz.zeroValue290
  i68 := by kernel_rfl
  t69 := Tryz.underlying291
  a69 := Tryz.isAgg291
  z69 := Tryz.sizeOf291
  v69 := Tryz.zeroValue291
  i69 := by kernel_rfl
  g2 := by kernel_rfl
  g3 := by kernel_rfl }
open Go.RowKit in
theorem Tryz.utf8_DecodeRune (s : ByteArray) (b off cap : Nat) (w : World) (hT : Lib.Utf8Tabs 4 5 w)
    (hp : ∀ j, j < s.size → w.cell? ⟨b, off + j, none⟩ = some (.int .u8 (s.get! j).toNat)) :
    Calls Tryz.prog 163 #[.slice (some ⟨b, off, none⟩) s.size cap] w fun e w' => e = .returned (.tuple #[.int .i32 (Lib.decodeGo s).1, .int .i64 (Lib.decodeGo s).2]) ∧ Below w.heap.size w w' := Any7.utf8_DecodeRune Tryz.lays7_32 s b off cap w hT hp
def Tryz.lays7_25_ren : Go.Shelf.Ren := ⟨fun | 25 => 201 | n => n, fun | 22 => 243 | n => n, fun | n => n⟩
theorem Tryz.lays7_25 : Go.Proofs.Lays7.n25 Tryz.prog Tryz.lays7_25_ren := {
  mixed := by kernel_rfl
  f25 := Tryz.func201.trans (congrArg some (by kernel_rfl))
  t22 := Tryz.underlying243
  a22 := Tryz.isAgg243
  z22 := Tryz.sizeOf243
  v22 := Tryz.zeroValue243
  i22 := by kernel_rfl }
def Tryz.lays169_ren : Go.Shelf.Ren := ⟨fun | 169 => 110 | n => n, fun | 70 => 209 | 9 => 9 | 0 => 0 | 72 => 211 | 37 => 22 | 127 => 240 | 3 => 3 | 5 => 5 | n => n, fun | n => n⟩
theorem Tryz.lays169 : Go.Proofs.Lays.n169 Tryz.prog Tryz.lays169_ren := {
  mixed := by kernel_rfl
  f169 := Tryz.func110.trans (congrArg some (by kernel_rfl))
  t0 := Tryz.underlying0
  a0 := Tryz.isAgg0
  z0 := Tryz.sizeOf0
  v0 := Tryz.zeroValue0
  t3 := Tryz.underlying3
  a3 := Tryz.isAgg3
  z3 := Tryz.sizeOf3
  v3 := Tryz.zeroValue3
  t9 := Tryz.underlying9
  a9 := Tryz.isAgg9
  z9 := Tryz.sizeOf9
  v9 := Tryz.zeroValue9
  t37 := Tryz.underlying22
  a37 := Tryz.isAgg22
  z37 := Tryz.sizeOf22
  v37 := Tryz.zeroValue22
  t70 := Tryz.underlying209
  a70 := Tryz.isAgg209
  z70 := Tryz.sizeOf209
  v70 := Tryz.zeroValue209
  t72 := Tryz.underlying211
  a72 := Tryz.isAgg211
  z72 := Tryz.sizeOf211
  v72 := Tryz.zeroValue211
  t127 := Tryz.underlying240
  a127 := Tryz.isAgg240
  z127 := Tryz.sizeOf240
  v127 := Tryz.zeroValue240 }
theorem Tryz.Builder_Extra_169 : Builder.Extra Tryz.prog Tryz.lays169_ren := {
  sizeBuilder := by kernel_rfl
  liesBuilder := by kernel_rfl
  t5 := Tryz.underlying5
  a5 := Tryz.isAgg5
  z5 := Tryz.sizeOf5
  v5 := Tryz.zeroValue5
  infoByte := by kernel_rfl
  cellsByte := by kernel_rfl
  sizeByte := by kernel_rfl
  neB5 := by decide }
open Go.RowKit in
theorem Tryz.Builder_String_any (B b : Nat) (l : List UInt8) (w : World) (h : Lib.IsBuilder 211 5 B b (Lib.byteCells l) w) (hBw : B ≤ w.heap.size) :
    Calls Tryz.prog 110 #[.pointer (some ⟨b, 0, none⟩)] w fun e w' => e = .returned (.string ⟨l.toArray⟩) ∧ Below B w w' := Any.Builder_String_any Tryz.lays169 Tryz.Builder_Extra_169 B b l w h hBw
def Tryz.lays156_ren : Go.Shelf.Ren := ⟨fun | 156 => 74 | 165 => 108 | 166 => 109 | 169 => 110 | 240 => 135 | 241 => 136 | 276 => 165 | 277 => 166 | n => n, fun | 31 => 96 | 9 => 9 | 3 => 3 | 4 => 4 | 0 => 0 | 20 => 20 | 72 => 211 | 76 => 133 | 70 => 209 | 37 => 22 | 75 => 29 | 127 => 240 | 164 => 148 | 5 => 5 | 80 => 213 | n => n, fun | n => n⟩
theorem Tryz.lays156 : Go.Proofs.Lays.n156 Tryz.prog Tryz.lays156_ren := {
  mixed := by kernel_rfl
  f156 := Tryz.func74.trans (congrArg some (by kernel_rfl))
  f165 := Tryz.func108.trans (congrArg some (by kernel_rfl))
  f166 := Tryz.func109.trans (congrArg some (by kernel_rfl))
  f169 := Tryz.func110.trans (congrArg some (by kernel_rfl))
  f240 := Tryz.func135.trans (congrArg some (by kernel_rfl))
  f241 := Tryz.func136.trans (congrArg some (by kernel_rfl))
  f276 := Tryz.func165.trans (congrArg some (by kernel_rfl))
  f277 := Tryz.func166.trans (congrArg some (by kernel_rfl))
  t0 := Tryz.underlying0
  a0 := Tryz.isAgg0
  z0 := Tryz.sizeOf0
  v0 := Tryz.zeroValue0
  t3 := Tryz.underlying3
  a3 := Tryz.isAgg3
  z3 := Tryz.sizeOf3
  v3 := Tryz.zeroValue3
  t4 := Tryz.underlying4
  a4 := Tryz.isAgg4
  z4 := Tryz.sizeOf4
  v4 := Tryz.zeroValue4
  t9 := Tryz.underlying9
  a9 := Tryz.isAgg9
  z9 := Tryz.sizeOf9
  v9 := Tryz.zeroValue9
  t20 := Tryz.underlying20
  a20 := Tryz.isAgg20
  z20 := Tryz.sizeOf20
  v20 := Tryz.zeroValue20
  t31 := Tryz.underlying96
  a31 := Tryz.isAgg96
  z31 := Tryz.sizeOf96
  v31 := Tryz.zeroValue96
  t37 := Tryz.underlying22
  a37 := Tryz.isAgg22
  z37 := Tryz.sizeOf22
  v37 := Tryz.zeroValue22
  t70 := Tryz.underlying209
  a70 := Tryz.isAgg209
  z70 := Tryz.sizeOf209
  v70 := Tryz.zeroValue209
  t72 := Tryz.underlying211
  a72 := Tryz.isAgg211
  z72 := Tryz.sizeOf211
  v72 := Tryz.zeroValue211
  t75 := Tryz.underlying29
  a75 := Tryz.isAgg29
  z75 := Tryz.sizeOf29
  v75 := Tryz.zeroValue29
  t76 := Tryz.underlying133
  a76 := Tryz.isAgg133
  z76 := Tryz.sizeOf133
  v76 := Tryz.zeroValue133
  t127 := Tryz.underlying240
  a127 := Tryz.isAgg240
  z127 := Tryz.sizeOf240
  v127 := Tryz.zeroValue240
  t164 := Tryz.underlying148
  a164 := Tryz.isAgg148
  z164 := Tryz.sizeOf148
  v164 := Tryz.zeroValue148 }
theorem Tryz.Builder_Extra_156 : Builder.Extra Tryz.prog Tryz.lays156_ren := {
  sizeBuilder := by kernel_rfl
  liesBuilder := by kernel_rfl
  t5 := Tryz.underlying5
  a5 := Tryz.isAgg5
  z5 := Tryz.sizeOf5
  v5 := Tryz.zeroValue5
  infoByte := by kernel_rfl
  cellsByte := by kernel_rfl
  sizeByte := by kernel_rfl
  neB5 := by decide }
open Go.RowKit in
theorem Tryz.strings_Join_none (a : Option Addr) (c : Nat) (sep : ByteArray) (w : World) :
    Calls Tryz.prog 74 #[.slice a 0 c, .string sep] w fun e w' => e = .returned (.string ⟨#[]⟩) ∧ w' = w := Any.strings_Join_none Tryz.lays156 Tryz.Builder_Extra_156 a c sep w
open Go.RowKit in
theorem Tryz.strings_Join (bk o c : Nat) (xs : List ByteArray) (sep : ByteArray) (w : World) (hcells : ∀ (j : Nat) x, xs[j]? = some x → w.cell? ⟨bk, o + j, none⟩ = some (.string x)) (hbk : bk < w.heap.size) (hN : xs.length ≤ 140737488355328) (hcap : xs.length ≤ c) (hlen : (Lib.join (xs.map (·.data.toList)) sep.data.toList).length ≤ 140737488355328) :
    Calls Tryz.prog 74 #[.slice (some ⟨bk, o, none⟩) xs.length c, .string sep] w fun e w' => e = .returned (.string ⟨(Lib.join (xs.map (·.data.toList)) sep.data.toList).toArray⟩) ∧ Below w.heap.size w w' := Any.strings_Join Tryz.lays156 Tryz.Builder_Extra_156 bk o c xs sep w hcells hbk hN hcap hlen
def Tryz.lays106_ren : Go.Shelf.Ren := ⟨fun | 106 => 78 | 213 => 114 | 265 => 149 | n => n, fun | 9 => 9 | 3 => 3 | n => n, fun | n => n⟩
theorem Tryz.lays106 : Go.Proofs.Lays.n106 Tryz.prog Tryz.lays106_ren := {
  mixed := by kernel_rfl
  f106 := Tryz.func78.trans (congrArg some (by kernel_rfl))
  f213 := Tryz.func114.trans (congrArg some (by kernel_rfl))
  f265 := Tryz.func149.trans (congrArg some (by kernel_rfl))
  t3 := Tryz.underlying3
  a3 := Tryz.isAgg3
  z3 := Tryz.sizeOf3
  v3 := Tryz.zeroValue3
  t9 := Tryz.underlying9
  a9 := Tryz.isAgg9
  z9 := Tryz.sizeOf9
  v9 := Tryz.zeroValue9 }
open Go.RowKit in
theorem Tryz.strings_Compare (a b : ByteArray) (w : World) :
    Calls Tryz.prog 78 #[.string a, .string b] w fun e w' => e = .returned (.int .i64 (Lib.compareBytes a.data.toList b.data.toList)) ∧ w' = w := Any.strings_Compare Tryz.lays106 a b w
def Tryz.lays137_ren : Go.Shelf.Ren := ⟨fun | 137 => 81 | 217 => 116 | 266 => 151 | n => n, fun | 9 => 9 | 5 => 5 | 3 => 3 | n => n, fun | n => n⟩
theorem Tryz.lays137 : Go.Proofs.Lays.n137 Tryz.prog Tryz.lays137_ren := {
  mixed := by kernel_rfl
  f137 := Tryz.func81.trans (congrArg some (by kernel_rfl))
  f217 := Tryz.func116.trans (congrArg some (by kernel_rfl))
  f266 := Tryz.func151.trans (congrArg some (by kernel_rfl))
  t3 := Tryz.underlying3
  a3 := Tryz.isAgg3
  z3 := Tryz.sizeOf3
  v3 := Tryz.zeroValue3
  t5 := Tryz.underlying5
  a5 := Tryz.isAgg5
  z5 := Tryz.sizeOf5
  v5 := Tryz.zeroValue5
  t9 := Tryz.underlying9
  a9 := Tryz.isAgg9
  z9 := Tryz.sizeOf9
  v9 := Tryz.zeroValue9 }
open Go.RowKit in
theorem Tryz.strings_IndexByte (s : ByteArray) (c : Int) (w : World) :
    Calls Tryz.prog 81 #[.string s, .int .u8 c] w fun e w' => e = .returned (.int .i64 (Lib.indexByte s.data.toList c.toNat.toUInt8)) ∧ w' = w := Any.strings_IndexByte Tryz.lays137 s c w
def Tryz.lays103_ren : Go.Shelf.Ren := ⟨fun | 103 => 33 | 210 => 63 | 206 => 101 | n => n, fun | 9 => 9 | 4 => 4 | 24 => 80 | 3 => 3 | n => n, fun | n => n⟩
theorem Tryz.lays103 : Go.Proofs.Lays.n103 Tryz.prog Tryz.lays103_ren := {
  mixed := by kernel_rfl
  f103 := Tryz.func33.trans (congrArg some (by kernel_rfl))
  f206 := Tryz.func101.trans (congrArg some (by kernel_rfl))
  f210 := Tryz.func63.trans (congrArg some (by kernel_rfl))
  t3 := Tryz.underlying3
  a3 := Tryz.isAgg3
  z3 := Tryz.sizeOf3
  v3 := Tryz.zeroValue3
  t4 := Tryz.underlying4
  a4 := Tryz.isAgg4
  z4 := Tryz.sizeOf4
  v4 := Tryz.zeroValue4
  t9 := Tryz.underlying9
  a9 := Tryz.isAgg9
  z9 := Tryz.sizeOf9
  v9 := Tryz.zeroValue9
  t24 := Tryz.underlying80
  a24 := Tryz.isAgg80
  z24 := Tryz.sizeOf80
  v24 := Tryz.zeroValue80 }
open Go.RowKit in
theorem Tryz.strings_CutPrefix (s p : ByteArray) (w : World) :
    Calls Tryz.prog 33 #[.string s, .string p] w fun e w' => e = .returned (.tuple #[.string ⟨(Lib.trimPrefix s.data.toList p.data.toList).toArray⟩, .bool (Lib.hasPrefix s.data.toList p.data.toList)]) ∧ w' = w := Any.strings_CutPrefix Tryz.lays103 s p w
def Tryz.lays242_ren : Go.Shelf.Ren := ⟨fun | 242 => 176 | 278 => 188 | n => n, fun | 37 => 22 | 21 => 21 | 51 => 252 | 4 => 4 | 5 => 5 | 46 => 217 | n => n, fun | n => n⟩
theorem Tryz.lays242 : Go.Proofs.Lays.n242 Tryz.prog Tryz.lays242_ren := {
  mixed := by kernel_rfl
  f242 := Tryz.func176.trans (congrArg some (by kernel_rfl))
  f278 := Tryz.func188.trans (congrArg some (by kernel_rfl))
  t4 := Tryz.underlying4
  a4 := Tryz.isAgg4
  z4 := Tryz.sizeOf4
  v4 := Tryz.zeroValue4
  t5 := Tryz.underlying5
  a5 := Tryz.isAgg5
  z5 := Tryz.sizeOf5
  v5 := Tryz.zeroValue5
  t21 := Tryz.underlying21
  a21 := Tryz.isAgg21
  z21 := Tryz.sizeOf21
  v21 := Tryz.zeroValue21
  t37 := Tryz.underlying22
  a37 := Tryz.isAgg22
  z37 := Tryz.sizeOf22
  v37 := Tryz.zeroValue22
  t46 := Tryz.underlying217
  a46 := Tryz.isAgg217
  z46 := Tryz.sizeOf217
  v46 := Tryz.zeroValue217
  t51 := Tryz.underlying252
  a51 := Tryz.isAgg252
  z51 := Tryz.sizeOf252
  v51 := Tryz.zeroValue252 }
open Go.RowKit in
theorem Tryz.utf8_AppendRune_plain (B : Nat) (v : Value) (n : Nat) (xs : List Value) (r : Int) (hr0 : -2147483648 ≤ r) (hr1 : r ≤ 2147483647) (w : World) (hown : w.ownsRow B 5 1 v n xs) (hlen : n + 4 ≤ 140737488355328) (hBw : B ≤ w.heap.size) :
    Calls Tryz.prog 176 #[v, .int .i32 r] w fun e w' => ∃ v', e = .returned v' ∧ w'.ownsRow B 5 1 v' (n + (Lib.runeCells r).length) (xs ++ Lib.runeCells r) ∧ ∃ o, (w.alloc o).grownBy w' v.ownBlock := Any.utf8_AppendRune_plain Tryz.lays242 (by kernel_rfl) B v n xs r hr0 hr1 w hown hlen hBw
def Tryz.lays143_ren : Go.Shelf.Ren := ⟨fun | 143 => 195 | 219 => 202 | 217 => 116 | 225 => 204 | 224 => 205 | 267 => 206 | 266 => 151 | 314 => 207 | n => n, fun | 9 => 9 | 3 => 3 | 4 => 4 | 5 => 5 | 46 => 217 | 146 => 310 | 51 => 252 | n => n, fun | 1 => 2 | n => n⟩
theorem Tryz.lays143 : Go.Proofs.Lays.n143 Tryz.prog Tryz.lays143_ren := {
  mixed := by kernel_rfl
  f143 := Tryz.func195.trans (congrArg some (by kernel_rfl))
  f217 := Tryz.func116.trans (congrArg some (by kernel_rfl))
  f219 := Tryz.func202.trans (congrArg some (by kernel_rfl))
  f224 := Tryz.func205.trans (congrArg some (by kernel_rfl))
  f225 := Tryz.func204.trans (congrArg some (by kernel_rfl))
  f266 := Tryz.func151.trans (congrArg some (by kernel_rfl))
  f267 := Tryz.func206.trans (congrArg some (by kernel_rfl))
  f314 := Tryz.func207.trans (congrArg some (by kernel_rfl))
  t3 := Tryz.underlying3
  a3 := Tryz.isAgg3
  z3 := Tryz.sizeOf3
  v3 := Tryz.zeroValue3
  t4 := Tryz.underlying4
  a4 := Tryz.isAgg4
  z4 := Tryz.sizeOf4
  v4 := Tryz.zeroValue4
  t5 := Tryz.underlying5
  a5 := Tryz.isAgg5
  z5 := Tryz.sizeOf5
  v5 := Tryz.zeroValue5
  t9 := Tryz.underlying9
  a9 := Tryz.isAgg9
  z9 := Tryz.sizeOf9
  v9 := Tryz.zeroValue9
  t46 := Tryz.underlying217
  a46 := Tryz.isAgg217
  z46 := Tryz.sizeOf217
  v46 := Tryz.zeroValue217
  t51 := Tryz.underlying252
  a51 := Tryz.isAgg252
  z51 := Tryz.sizeOf252
  v51 := Tryz.zeroValue252
  t146 := Tryz.underlying310
  a146 := Tryz.isAgg310
  z146 := Tryz.sizeOf310
  v146 := Tryz.zeroValue310
  g1 := by kernel_rfl }
open Go.RowKit Go.Lib in
theorem Tryz.strings_Index (s sub : ByteArray) (m : Int) (w : World) (hs : s.size < 4294967281) (hm : w.cell? ⟨2, 0, none⟩ = some (.int .i64 m)) :
    Calls Tryz.prog 195 #[.string s, .string sub] w fun e w' => e = .returned (.int .i64 (Lib.index s.data.toList sub.data.toList)) ∧ w' = w := Any.strings_Index Tryz.lays143 s sub m w hs hm
def Tryz.lays145_ren : Go.Shelf.Ren := ⟨fun | 145 => 196 | 220 => 203 | 219 => 202 | 217 => 116 | 225 => 204 | 224 => 205 | 267 => 206 | 266 => 151 | 314 => 207 | n => n, fun | 9 => 9 | 4 => 4 | 59 => 302 | 3 => 3 | 5 => 5 | 46 => 217 | 146 => 310 | 51 => 252 | n => n, fun | 1 => 2 | n => n⟩
theorem Tryz.lays145 : Go.Proofs.Lays.n145 Tryz.prog Tryz.lays145_ren := {
  mixed := by kernel_rfl
  f145 := Tryz.func196.trans (congrArg some (by kernel_rfl))
  f217 := Tryz.func116.trans (congrArg some (by kernel_rfl))
  f219 := Tryz.func202.trans (congrArg some (by kernel_rfl))
  f220 := Tryz.func203.trans (congrArg some (by kernel_rfl))
  f224 := Tryz.func205.trans (congrArg some (by kernel_rfl))
  f225 := Tryz.func204.trans (congrArg some (by kernel_rfl))
  f266 := Tryz.func151.trans (congrArg some (by kernel_rfl))
  f267 := Tryz.func206.trans (congrArg some (by kernel_rfl))
  f314 := Tryz.func207.trans (congrArg some (by kernel_rfl))
  t3 := Tryz.underlying3
  a3 := Tryz.isAgg3
  z3 := Tryz.sizeOf3
  v3 := Tryz.zeroValue3
  t4 := Tryz.underlying4
  a4 := Tryz.isAgg4
  z4 := Tryz.sizeOf4
  v4 := Tryz.zeroValue4
  t5 := Tryz.underlying5
  a5 := Tryz.isAgg5
  z5 := Tryz.sizeOf5
  v5 := Tryz.zeroValue5
  t9 := Tryz.underlying9
  a9 := Tryz.isAgg9
  z9 := Tryz.sizeOf9
  v9 := Tryz.zeroValue9
  t46 := Tryz.underlying217
  a46 := Tryz.isAgg217
  z46 := Tryz.sizeOf217
  v46 := Tryz.zeroValue217
  t51 := Tryz.underlying252
  a51 := Tryz.isAgg252
  z51 := Tryz.sizeOf252
  v51 := Tryz.zeroValue252
  t59 := Tryz.underlying302
  a59 := Tryz.isAgg302
  z59 := Tryz.sizeOf302
  v59 := Tryz.zeroValue302
  t146 := Tryz.underlying310
  a146 := Tryz.isAgg310
  z146 := Tryz.sizeOf310
  v146 := Tryz.zeroValue310
  g1 := by kernel_rfl }
open Go.RowKit Go.Lib in
theorem Tryz.strings_Cut (s sep : ByteArray) (m : Int) (w : World) (hs : s.size < 4294967281) (hm : w.cell? ⟨2, 0, none⟩ = some (.int .i64 m)) :
    Calls Tryz.prog 196 #[.string s, .string sep] w fun e w' => e = .returned (.tuple #[.string ⟨(Lib.cut s.data.toList sep.data.toList).1.toArray⟩, .string ⟨(Lib.cut s.data.toList sep.data.toList).2.1.toArray⟩, .bool (Lib.cut s.data.toList sep.data.toList).2.2]) ∧ ∃ n, w' = w.drewN n := Any.strings_Cut Tryz.lays145 s sep m w hs hm
def Tryz.lays264_ren : Go.Shelf.Ren := ⟨fun | 264 => 200 | n => n, fun | 53 => 243 | 46 => 217 | n => n, fun | n => n⟩
theorem Tryz.lays264 : Go.Proofs.Lays.n264 Tryz.prog Tryz.lays264_ren := {
  mixed := by kernel_rfl
  f264 := Tryz.func200.trans (congrArg some (by kernel_rfl))
  t46 := Tryz.underlying217
  a46 := Tryz.isAgg217
  z46 := Tryz.sizeOf217
  v46 := Tryz.zeroValue217
  t53 := Tryz.underlying243
  a53 := Tryz.isAgg243
  z53 := Tryz.sizeOf243
  v53 := Tryz.zeroValue243 }
open Go.RowKit Go.Lib in
theorem Tryz.bits_Mul64 (x y : Nat) (hx : x < 18446744073709551616) (hy : y < 18446744073709551616) (w : World) :
    Calls Tryz.prog 200 #[.int .u64 x, .int .u64 y] w fun e w' => e = .returned (.tuple #[.int .u64 ((x * y / 18446744073709551616 : Nat) : Int), .int .u64 ((x * y % 18446744073709551616 : Nat) : Int)]) ∧ w' = w := Any.bits_Mul64 Tryz.lays264 x y hx hy w
end Go.Proofs
