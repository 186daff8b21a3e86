/- waybill: lemmas and walks, printed from longer texts. -/
import Derived.Test.YtcaiibkgajhohaaGreatDoorM01
set_option maxHeartbeats 4000000
namespace Go.Proofs.YtcaiibkgajhohaaGreatDoor
open Go.RowKit Go.Extern.Stop Go.Stop Go.Extern
theorem WI(t:Addr)(w:World):(ReflectliteValue.unpack (.iface 87 (.pointer (some t)))).run Tryz.prog w=.ok (.agg #[.pointer (some ⟨6,87,none⟩),.pointer (some ⟨w.heap.size,0,none⟩),.int .u64 150]) (w.alloc (.cells #[.pointer (some t)] 87)):=by kernel_rfl
theorem WJ(a:Addr)(w:World):(ReflectliteValue.methodAny (ReflectliteValue.valueError "reflectlite.Value.Type" 0) (fun t _ _ _=>ReflectliteType.toType t) #[.agg #[.pointer (some ⟨6,87,none⟩),.pointer (some a),.int .u64 150]]).run Tryz.prog w=.ok (.iface 192 (.agg #[.pointer (some ⟨6,87,none⟩)])) w:=by kernel_rfl
theorem WK(h:Value)(w:World):(Go.method 440 192 (.agg #[h]) "Kind").run Tryz.prog w=.ok (222,h) w:=by kernel_rfl
theorem WL(w:World):((ReflectliteType.abiMethod fun t=>(fun a:Nat=>Value.int IntKind.u8 (a:Int))<$>Rtype.kind t) #[.pointer (some ⟨6,87,none⟩)]).run Tryz.prog w=.ok (.int .u8 22) w:=by kernel_rfl
theorem WM(w:World):((ReflectliteType.abiMethod fun t=>(fun a:Nat=>Value.int IntKind.u8 (a:Int))<$>Rtype.kind t) #[.pointer (some ⟨6,85,none⟩)]).run Tryz.prog w=.ok (.int .u8 22) w:=by kernel_rfl
theorem Mg(z:Sem Value)(f:TypeId→Addr→Nat→Nat→Sem Value)(v:Value):ReflectliteValue.method z f #[v]=(do match←ReflectliteValue.parts v with|none=>z|some (t,a,fl)=>f t a fl (fl%32)):=rfl
theorem Mh(a:Addr)(w:World):(ReflectliteValue.parts (.agg #[.pointer (some ⟨6,87,none⟩),.pointer (some a),.int .u64 150])).run Tryz.prog w=.ok (some (87,a,150)) w:=by kernel_rfl
theorem WN(a p:Addr)(W:World)(ha:W.cell? a=some (.pointer (some p))):(ReflectliteValue.method (ReflectliteValue.valueError "reflectlite.Value.IsNil" 0) ReflectliteValue.isNil #[.agg #[.pointer (some ⟨6,87,none⟩),.pointer (some a),.int .u64 150]]).run Tryz.prog W=.ok (.bool false) W:=by rw[Mg];simp only[Sem.run_bind,Mh,Result.andThen];simp[ReflectliteValue.isNil,loadVar,isAgg,underlying,Tryz.underlying87,ha,Result.andThen]
theorem WO(h:Value)(w:World):(Go.method 440 192 (.agg #[h]) "Elem").run Tryz.prog w=.ok (237,.agg #[h]) w:=by kernel_rfl
theorem WQ(h:Value)(w:World):(Go.method 440 192 (.agg #[h]) "Implements").run Tryz.prog w=.ok (238,.agg #[h]) w:=by kernel_rfl
theorem WT(h:Value)(w:World):(Go.method 440 192 (.agg #[h]) "AssignableTo").run Tryz.prog w=.ok (235,.agg #[h]) w:=by kernel_rfl
theorem WU(w:World):(ReflectliteType.method ReflectliteType.elem #[.agg #[.pointer (some ⟨6,87,none⟩)]]).run Tryz.prog w=.ok (.iface 192 (.agg #[.pointer (some ⟨6,85,none⟩)])) w:=by kernel_rfl
theorem WV(w:World):(ReflectliteType.relation "Implements" ReflectliteType.implements_ #[.agg #[.pointer (some ⟨6,85,none⟩)],.iface 192 (.agg #[.pointer (some ⟨6,29,none⟩)])]).run Tryz.prog w=.ok (.bool true) w:=by kernel_rfl
theorem WX(v:Value)(w:World):(ReflectliteType.typeOf #[.iface 85 v]).run Tryz.prog w=.ok (.iface 192 (.agg #[.pointer (some ⟨6,85,none⟩)])) w:=by kernel_rfl
theorem WY(w:World):(ReflectliteType.relation "AssignableTo" ReflectliteType.assignableTo #[.agg #[.pointer (some ⟨6,85,none⟩)],.iface 192 (.agg #[.pointer (some ⟨6,85,none⟩)])]).run Tryz.prog w=.ok (.bool true) w:=by kernel_rfl
theorem WZ(e:Addr)(w:World):(ReflectliteValue.unpack (.iface 85 (.pointer (some e)))).run Tryz.prog w=.ok (.agg #[.pointer (some ⟨6,85,none⟩),.pointer (some ⟨w.heap.size,0,none⟩),.int .u64 150]) (w.alloc (.cells #[.pointer (some e)] 85)):=by kernel_rfl
theorem W_(w:World):(Rtype.elem? 87).run Tryz.prog w=.ok (some 85) w:=by kernel_rfl
theorem Xa(p:Addr)(w:World):(ReflectliteValue.mk 85 p ReflectliteValue.flagAddr).run Tryz.prog w=.ok (.agg #[.pointer (some ⟨6,85,none⟩),.pointer (some p),.int .u64 406]) w:=by kernel_rfl
theorem Xb(a p:Addr)(W:World)(ha:W.cell? a=some (.pointer (some p))):(ReflectliteValue.method (ReflectliteValue.valueError "reflectlite.Value.Elem" 0) ReflectliteValue.elem #[.agg #[.pointer (some ⟨6,87,none⟩),.pointer (some a),.int .u64 150]]).run Tryz.prog W=.ok (.agg #[.pointer (some ⟨6,85,none⟩),.pointer (some p),.int .u64 406]) W:=by rw[Mg];simp only[Sem.run_bind,Mh,Result.andThen];simp[ReflectliteValue.elem,loadVar,isAgg,underlying,Tryz.underlying87,ha,Result.andThen,W_,Xa]
theorem Xc(v x:Value):ReflectliteValue.set #[v,x]=(do
 let(some (dst,a,fl),some (src,b,_)):=(←ReflectliteValue.parts v,←ReflectliteValue.parts x)|unsupported (.noEntry "extern/(internal/reflectlite.Value).Set.zeroValue")
  if fl/ReflectliteValue.flagAddr%2==0 then unsupported (.noEntry "extern/(internal/reflectlite.Value).Set.unaddressable")
  let val←loadVar src b
  if←Rtype.directlyAssignable dst src then storeVar dst a val else if←Rtype.implements dst src then
   if(←Rtype.kind src)==20 then
    match val with
      |.nilIface=>unsupported (.noEntry "extern/reflectlite: a nil value of one interface type handed on as a value of another")
      |_=>storeVar dst a val else storeVar dst a (.iface src val)else panicString ("reflectlite.Set: value of type "++(←Rtype.spelt src)++ " is not assignable to type "++(←Rtype.spelt dst))
  pure (.tuple #[])):=rfl
theorem Xd(a:Addr)(w:World):(ReflectliteValue.parts (.agg #[.pointer (some ⟨6,85,none⟩),.pointer (some a),.int .u64 406])).run Tryz.prog w=.ok (some (85,a,406)) w:=by kernel_rfl
theorem Xe(a:Addr)(w:World):(ReflectliteValue.parts (.agg #[.pointer (some ⟨6,85,none⟩),.pointer (some a),.int .u64 150])).run Tryz.prog w=.ok (some (85,a,150)) w:=by kernel_rfl
theorem Xf(w:World):(Rtype.directlyAssignable 85 85).run Tryz.prog w=.ok true w:=by kernel_rfl
theorem Xg(ta b e:Addr)(old:Value)(W:World)(hb:W.cell? b=some (.pointer (some e)))(ht:W.cell? ta=some old)(hf:W.frozen? ta=false):(ReflectliteValue.set #[.agg #[.pointer (some ⟨6,85,none⟩),.pointer (some ta),.int .u64 406],.agg #[.pointer (some ⟨6,85,none⟩),.pointer (some b),.int .u64 150]]).run Tryz.prog W=.ok (.tuple #[]) (W.setCell ta (.pointer (some e))):=by rw[Xc];simp only[Sem.run_bind,Xd,Xe,Result.andThen];simp[ReflectliteValue.flagAddr,loadVar,isAgg,underlying,Tryz.underlying85,hb,Result.andThen,Xf,storeVar,Value.cells,storeCells,Addr.add];rw[run_store Tryz.prog W ta _ _ (by rfl)];simp[ht,hf]
theorem Xh(e t:Addr)(old:Value)(w:World)(hg:w.cell? ⟨0,0,none⟩=some (.iface 192 (.agg #[.pointer (some ⟨6,29,none⟩)])))(FQ:w.cell? t=some old)(kY:w.frozen? t=false):Calls Tryz.prog 36 #[.iface 85 (.pointer (some e)),.iface 87 (.pointer (some t))] w fun ev w'=>ev=.returned (.bool true)∧w'=((((w.alloc (.cells #[.pointer (some t)] 87)).alloc (.cells #[.pointer (some ⟨6,87,none⟩),.pointer (some ⟨w.heap.size,0,none⟩),.int .u64 150] 151)).alloc (.cells #[.pointer (some ⟨6,87,none⟩),.pointer (some ⟨w.heap.size,0,none⟩),.int .u64 150] 151)).alloc (.cells #[.pointer (some e)] 85)).setCell t (.pointer (some e)):=by
 have h6:=@run_callFunc_extern Tryz.prog 66 _ (fun args=>ReflectliteValue.unpack (args.getD 0 (.tuple #[]))) Tryz.func66 (by kernel_rfl) (by kernel_rfl) (by kernel_rfl) (by kernel_rfl);have h7:=@run_callFunc_extern Tryz.prog 67 _ (ReflectliteValue.methodAny (ReflectliteValue.valueError "reflectlite.Value.Type" 0) (fun t _ _ _=>ReflectliteType.toType t)) Tryz.func67 (by kernel_rfl) (by kernel_rfl) (by kernel_rfl) (by kernel_rfl)
 have h8:=@run_callFunc_extern Tryz.prog 68 _ (ReflectliteValue.method (ReflectliteValue.valueError "reflectlite.Value.IsNil" 0) ReflectliteValue.isNil) Tryz.func68 (by kernel_rfl) (by kernel_rfl) (by kernel_rfl) (by kernel_rfl);have h27:=@run_callFunc_extern Tryz.prog 222 _ (ReflectliteType.abiMethod fun t=>do pure (.int .u8 (←Rtype.kind t))) Tryz.func222 (by kernel_rfl) (by kernel_rfl) (by kernel_rfl) (by kernel_rfl)
 have h37:=@run_callFunc_extern Tryz.prog 237 _ (ReflectliteType.method ReflectliteType.elem) Tryz.func237 (by kernel_rfl) (by kernel_rfl) (by kernel_rfl) (by kernel_rfl);have h38:=@run_callFunc_extern Tryz.prog 238 _ (ReflectliteType.relation "Implements" ReflectliteType.implements_) Tryz.func238 (by kernel_rfl) (by kernel_rfl) (by kernel_rfl) (by kernel_rfl);have pP:=@run_callFunc_extern Tryz.prog 70 _ ReflectliteType.typeOf Tryz.func70 (by kernel_rfl) (by kernel_rfl) (by kernel_rfl) (by kernel_rfl)
 have h35:=@run_callFunc_extern Tryz.prog 235 _ (ReflectliteType.relation "AssignableTo" ReflectliteType.assignableTo) Tryz.func235 (by kernel_rfl) (by kernel_rfl) (by kernel_rfl) (by kernel_rfl);have yD:=@run_callFunc_extern Tryz.prog 104 _ (ReflectliteValue.method (ReflectliteValue.valueError "reflectlite.Value.Elem" 0) ReflectliteValue.elem) Tryz.func104 (by kernel_rfl) (by kernel_rfl) (by kernel_rfl) (by kernel_rfl)
 have h12:=@run_callFunc_extern Tryz.prog 105 _ ReflectliteValue.set Tryz.func105 (by kernel_rfl) (by kernel_rfl) (by kernel_rfl) (by kernel_rfl);have tO:=WX;have mA:=WT;have a25:=WY;have v25:=WZ;have f6:=WI;have f7:=WJ;have mK:=WK;have mE:=WO;have mI:=WQ;have k27:=WL;have k25:=WM;have e27:=WU;have i25:=WV;have n8:=WN ⟨w.heap.size,0,none⟩ t ((w.alloc (.cells #[.pointer (some t)] 87)).alloc (.cells #[.pointer (some ⟨6,87,none⟩),.pointer (some ⟨w.heap.size,0,none⟩),.int .u64 150] 151)) (by simp)
 have hlt:0<w.heap.size:=World.block_lt_of_cell? w ⟨0,0,none⟩ hg;have aL:((w.alloc (.cells #[.pointer (some t)] 87)).alloc (.cells #[.pointer (some ⟨6,87,none⟩),.pointer (some ⟨w.heap.size,0,none⟩),.int .u64 150] 151)).cell? ⟨0,0,none⟩=some (.iface 192 (.agg #[.pointer (some ⟨6,29,none⟩)])):=by rw[World.cell?_alloc_lt _ _ ⟨0,0,none⟩ (by simp<;>omega),World.cell?_alloc_lt _ _ ⟨0,0,none⟩ hlt];exact hg
 have wF:t.block<w.heap.size:=by
  rcases Nat.lt_or_ge t.block w.heap.size with h|h
  ·exact h
  ·simp[World.cell?,Array.getElem?_eq_none h]at FQ
 have el:=Xb ⟨w.heap.size,0,none⟩ t (((w.alloc (.cells #[.pointer (some t)] 87)).alloc (.cells #[.pointer (some ⟨6,87,none⟩),.pointer (some ⟨w.heap.size,0,none⟩),.int .u64 150] 151)).alloc (.cells #[.pointer (some ⟨6,87,none⟩),.pointer (some ⟨w.heap.size,0,none⟩),.int .u64 150] 151)) (by rw[World.cell?_alloc_lt _ _ ⟨w.heap.size,0,none⟩ (by simp;omega)];simp)
 have st:=Xg t ⟨w.heap.size+1+1+1,0,none⟩ e old ((((w.alloc (.cells #[.pointer (some t)] 87)).alloc (.cells #[.pointer (some ⟨6,87,none⟩),.pointer (some ⟨w.heap.size,0,none⟩),.int .u64 150] 151)).alloc (.cells #[.pointer (some ⟨6,87,none⟩),.pointer (some ⟨w.heap.size,0,none⟩),.int .u64 150] 151)).alloc (.cells #[.pointer (some e)] 85)) (by rw[World.cell?_alloc_at _ _ _ _ (by simp)];rfl) (by rw[World.cell?_alloc_lt _ _ t (by simp;omega),World.cell?_alloc_lt _ _ t (by simp;omega),World.cell?_alloc_lt _ _ t (by simp;omega),World.cell?_alloc_lt _ _ t wF];exact FQ) (by rw[World.frozen?_alloc_old _ _ t (by simp;omega),World.frozen?_alloc_old _ _ t (by simp;omega),World.frozen?_alloc_old _ _ t (by simp;omega),World.frozen?_alloc_old _ _ t (Nat.ne_of_lt wF)];exact kY)
 go_enter Tryz.func36,Tryz.ntmps36;go_wp2;refine wp_loop_rounds 1 ?_;rw[rounds_succ];go_wp2;go_ret;exact⟨rfl,rfl⟩
def ir(c:Nat):Bool:=decide (48≤c)&&decide (c≤57)
def jV(c:Nat):Bool:=[32,9,10,13].contains c
def km(c:Nat):Bool:=ir c||(decide (97≤c)&&decide (c≤102))||(decide (65≤c)&&decide (c≤70))
def oI(c:Nat):Nat:=if c≤57 then c-48 else if c≤70 then c-55 else c-87
def fi(B:ByteArray)(i:Nat):Sc Nat:=if i<skip ir B i then .ok (skip ir B i)else if i=B.size then .no 10 B.size else .no 11 i
def pR(B:ByteArray)(i:Nat):Sc Nat:=(if dB [48] B (if dB [45] B i then i+1 else i)then .ok ((if dB [45] B i then i+1 else i)+1)else fi B (if dB [45] B i then i+1 else i)).bind fun i2=>(if dB [46] B i2 then fi B (i2+1)else .ok i2).bind fun i3=>if dB [101,69] B i3 then fi B (if dB [43,45] B (i3+1)then i3+2 else i3+1)else .ok i3
def kn(B:ByteArray)(i k:Nat):Bool:=decide (i+k<B.size)&&(if k=0 then af B i==92 else if k=1 then af B (i+1)==117 else km (af B (i+k)))
def iM(B:ByteArray)(i n:Nat)(fit:Nat→Bool):Sc Unit:=match(List.range n).find? (fun k=>!fit k)with
  |some k=>if i+k=B.size then .no 10 B.size else .no 11 (i+k:Nat)
  |none=>.ok ()
theorem CD{B:ByteArray}{i n k:Nat}{fit:Nat→Bool}(hk:k<n)(hb:fit k=false)(h:∀m,m<k→fit m=true):iM B i n fit=if i+k=B.size then .no 10 B.size else .no 11 (i+k:Nat):=by(have:(List.range n).find? (fun k=>!fit k)=some k:=by rw[List.find?_range_eq_some];exact⟨by simp[hb],List.mem_range.2 hk,fun m hm=>by simp[h m hm]⟩);simp[iM,this]
theorem Mr{B:ByteArray}{i n:Nat}{fit:Nat→Bool}(h:∀m,m<n→fit m=true):iM B i n fit=.ok ():=by(have:(List.range n).find? (fun k=>!fit k)=none:=by rw[List.find?_range_eq_none];exact fun m hm=>by simp[h m hm]);simp[iM,this]
def pS(B:ByteArray)(i:Nat):Nat:=4096*oI (af B i)+256*oI (af B (i+1))+16*oI (af B (i+2))+oI (af B (i+3))
def jB(B:ByteArray)(i:Nat):Sc Nat:=(iM B i 6 (kn B i)).bind fun _=>.ok (pS B (i+2))
def jC(_B:ByteArray)(i n:Nat):Sc Nat→Sc (Nat×Nat)
 |.ok m=>if 56320≤m∧m≤57343 then .ok (65536+(n-55296)*1024+(m-56320),12)else .no 11 i
 |.no k j=>if k=10 then .no 10 j else .no 11 i
def uF(B:ByteArray)(i:Nat):Sc (Nat×Nat):=(jB B i).bind fun n=>if n<55296∨57343<n then .ok (n,6)else if n<56320 then jC B i n (jB B (i+6))else .no 11 i
def sG(c:Nat):Option Nat:=if c=34∨c=92∨c=47 then some c else if c=98 then some 8 else if c=102 then some 12 else if c=110 then some 10 else if c=114 then some 13 else if c=116 then some 9 else none
def pT(B:ByteArray)(i:Nat):Sc (Nat×Nat):=if i+1=B.size then .no 10 B.size else if af B (i+1)=117 then uF B i else match sG (af B (i+1))with
  |some x=>.ok (x,2)
  |none=>.no 11 (i+1:Nat)
def bR(B:ByteArray)(i:Nat):Nat×Nat:=Go.Lib.decodeN (B.size-i) (af B i) (af B (i+1)) (af B (i+2)) (af B (i+3))
def lW(B:ByteArray)(i:Nat):Sc (Nat×Nat):=if i=B.size then .no 10 i else if bR B i=(65533,1)then .no 12 i else .ok (bR B i)
def kr(B:ByteArray)(i:Nat):Sc (Nat×Nat):=if af B i=92 then pT B i else lW B i
def kt(B:ByteArray):Nat→Nat→List Nat→Sc (List Nat×Nat)
 |0,_,_=>.no 10 B.size
 |f+1,i,acc=>if i=B.size then .no 10 B.size else if af B i=34 then .ok (acc,i+1)else if af B i<32 then .no 11 i else(kr B i).bind fun x=>kt B f (i+x.2) (acc++[x.1])
def jW(B:ByteArray)(i:Nat)(acc:List Nat):Sc (List Nat×Nat):=kt B (B.size-i+1) i acc
structure Tok where
 kind:Int
 fr:Int
 cK:Int deriving DecidableEq
def nc(B:ByteArray)(i:Nat)(w:List Nat):Sc Nat:=(iM B i w.length fun k=>decide (i+k<B.size)&&(af B (i+k)==w[k]?.getD 0)).bind fun _=>.ok (i+w.length)
def oJ:List Nat:=[123,125,91,93,58,44]
def FV:List Nat:=[116,114,117,101]
def FX:List Nat:=[102,97,108,115,101]
def FY:List Nat:=[110,117,108,108]
def ng(B:ByteArray)(p:Nat):Sc (Nat×Nat):=if p=B.size then .ok (0,p)else if oJ.contains (af B p)then .ok (1+oJ.idxOf (af B p),p+1)else if af B p=34 then(jW B (p+1) []).bind fun x=>.ok (7,x.2)else if af B p=45∨ir (af B p)=true then(pR B p).bind fun e=>.ok (8,e)else if af B p=116 then(nc B p FV).bind fun e=>.ok (9,e)else if af B p=102 then(nc B p FX).bind fun e=>.ok (10,e)else if af B p=110 then(nc B p FY).bind fun e=>.ok (11,e)else .no 11 p
def sH(B:ByteArray)(i:Nat):Sc Tok:=(ng B (skip jV B i)).bind fun x=>.ok ⟨x.1,skip jV B i,x.2⟩
def b_(B:ByteArray)(at_:Int):Sc Tok:=if at_<0∨(B.size:Int)<at_ then .no 1 at_ else sH B at_.toNat
theorem sI{B:ByteArray}{i e:Nat}(hi:i≤B.size)(h:fi B i=.ok e):i<e∧e≤B.size:=by
 unfold fi at h;split at h
 ·cases h;rename_i h1;exact⟨h1,yK _ _ _ hi⟩
 ·split at h<;>cases h
theorem Sc.dT{α β:Type}{r:Sc α}{f:α→Sc β}{b:β}(h:r.bind f=.ok b):∃a,r=.ok a∧f a=.ok b:=by
 cases r with
 |ok a=>exact⟨a,rfl,h⟩
 |no k i=>cases h
theorem XD{B:ByteArray}{i e:Nat}(hi:i<B.size)(h:pR B i=.ok e):i<e∧e≤B.size:=by
 unfold pR at h;have h1:i≤(if dB [45] B i then i+1 else i)∧(if dB [45] B i then i+1 else i)≤B.size:=by split<;>omega
 generalize(if dB [45] B i then i+1 else i)=i1 at h h1;obtain⟨i2,h2,h⟩:=Sc.dT h
 have q2:i<i2∧i2≤B.size:=by
  split at h2
  ·rename_i ho;have:=lV ho;cases h2;omega
  ·have:=sI h1.2 h2;omega
 obtain⟨i3,h3,h⟩:=Sc.dT h
 have q3:i<i3∧i3≤B.size:=by
  split at h3
  ·rename_i ho;have:=lV ho;have:=sI (by omega) h3;omega
  ·cases h3;exact q2
 split at h
 ·rename_i ho;have:=lV ho;by_cases hs:dB [43,45] B (i3+1)=true
  ·rw[if_pos hs]at h;have:=lV hs;have:=sI (by omega) h;omega
  ·rw[if_neg hs]at h;have:=sI (by omega) h;omega
 ·cases h;exact q3
theorem CF{B:ByteArray}{i k:Nat}(h:kn B i k=true):i+k<B.size:=by simp[kn]at h;exact h.1
theorem Ms{B:ByteArray}{i n:Nat}{fit:Nat→Bool}(h:iM B i n fit=.ok ()):∀m,m<n→fit m=true:=by
 unfold iM at h;split at h
 ·split at h<;>cases h
 ·rename_i h1;rw[List.find?_range_eq_none]at h1;intro m hm;simpa using h1 m hm
theorem yL{B:ByteArray}{i n:Nat}(h:jB B i=.ok n):(∀m,m<6→kn B i m=true)∧n=pS B (i+2)∧i+6≤B.size:=by obtain⟨u,h1,h2⟩:=Sc.dT h;have hf:=Ms h1;have:=CF (hf 5 (by omega));cases h2;exact⟨hf,rfl,by omega⟩
theorem XE{c:Nat}(h:km c=true):oI c<16:=by
 simp[km,ir]at h;unfold oI;split
 ·omega
 ·split<;>omega
theorem FZ{B:ByteArray}{i n:Nat}(h:jB B i=.ok n):n<65536:=by obtain⟨hf,rfl,_⟩:=yL h;(have key:∀k,2≤k→k<6→oI (af B (i+k))<16:=fun k h2 h6=>by have:=hf k h6;simp only[kn,Bool.and_eq_true]at this;rw[if_neg (by omega),if_neg (by omega)]at this;exact XE this.2);have h2:=key 2 (by omega) (by omega);have h3:=key 3 (by omega) (by omega);have h4:=key 4 (by omega) (by omega);have h5:=key 5 (by omega) (by omega);unfold pS;simp only[Nat.add_assoc,Nat.reduceAdd]at*;omega
theorem XF{B:ByteArray}{i:Nat}{x:Nat×Nat}(h:uF B i=.ok x):0<x.2∧i+x.2≤B.size:=by
 obtain⟨n,h1,h2⟩:=Sc.dT h;have hu:=(yL h1).2.2;split at h2
 ·obtain rfl:=Sc.ok.inj h2;exact⟨Nat.succ_pos _,hu⟩
 ·split at h2
  ·cases hl:jB B (i+6)with
   |ok m=>
    rw[hl]at h2;have:=(yL hl).2.2;simp only[jC]at h2;split at h2
    ·obtain rfl:=Sc.ok.inj h2;exact⟨Nat.succ_pos _,this⟩
    ·cases h2
   |no k j=>rw[hl]at h2;simp only[jC]at h2;split at h2<;>cases h2
  ·cases h2
theorem XG{B:ByteArray}{i:Nat}{x:Nat×Nat}(hi:i<B.size)(h:pT B i=.ok x):0<x.2∧i+x.2≤B.size:=by
 unfold pT at h;split at h
 ·cases h
 ·split at h
  ·exact XF h
  ·split at h
   ·cases h;simp only;omega
   ·cases h
theorem Mt(n b0 b1 b2 b3:Nat)(h:0<n):0<(Go.Lib.decodeN n b0 b1 b2 b3).2∧(Go.Lib.decodeN n b0 b1 b2 b3).2≤n:=by unfold Go.Lib.decodeN;(repeat' split);all_goals simp only<;>omega
theorem XH{B:ByteArray}{i:Nat}{x:Nat×Nat}(hi:i≤B.size)(h:lW B i=.ok x):0<x.2∧i+x.2≤B.size:=by
 unfold lW at h;split at h
 ·cases h
 ·split at h
  ·cases h
  ·cases h;have:=Mt (B.size-i) (af B i) (af B (i+1)) (af B (i+2)) (af B (i+3)) (by omega);unfold bR;omega
theorem wK{B:ByteArray}{i:Nat}{x:Nat×Nat}(hi:i<B.size)(h:kr B i=.ok x):0<x.2∧i+x.2≤B.size:=by
 unfold kr at h;split at h
 ·exact XG hi h
 ·exact XH (by omega) h
theorem XI(B:ByteArray):∀n f g i acc,B.size-i=n→i≤B.size→n<f→n<g→kt B f i acc=kt B g i acc:=by
 intro n
 induction n using Nat.strongRecOn with
 |ind n ih=>
  intro f g i acc hn hi hf hg
  cases f with
  |zero=>omega
  |succ f=>
   cases g with
   |zero=>omega
   |succ g=>
    rw[kt,kt];split
    ·rfl
    ·split
     ·rfl
     ·split
      ·rfl
      ·cases hs:kr B i with
       |no k j=>rfl
       |ok x=>have:=wK (by omega) hs;simp only[Sc.fA];exact ih (B.size-(i+x.2)) (by omega) f g _ _ rfl (by omega) (by omega) (by omega)
theorem Mu{B:ByteArray}{i:Nat}{acc:List Nat}(hi:i≤B.size):jW B i acc=if i=B.size then .no 10 B.size else if af B i=34 then .ok (acc,i+1)else if af B i<32 then .no 11 i else(kr B i).bind fun x=>jW B (i+x.2) (acc++[x.1]):=by
 unfold jW;rw[kt];split
 ·rfl
 ·split
  ·rfl
  ·split
   ·rfl
   ·cases hs:kr B i with
    |no k j=>rfl
    |ok x=>have:=wK (by omega) hs;simp only[Sc.fA];exact XI B (B.size-(i+x.2)) _ _ _ _ rfl (by omega) (by omega) (by omega)
theorem XJ{B:ByteArray}:∀n i acc x,B.size-i=n→i≤B.size→jW B i acc=.ok x→i<x.2∧x.2≤B.size:=by
 intro n
 induction n using Nat.strongRecOn with
 |ind n ih=>
  intro i acc x hn hi h;rw[Mu hi]at h;split at h
  ·cases h
  ·split at h
   ·cases h;simp only;omega
   ·split at h
    ·cases h
    ·obtain⟨y,h1,h2⟩:=Sc.dT h;have:=wK (by omega) h1;have:=ih (B.size-(i+y.2)) (by omega) (i+y.2) _ x rfl (by omega) h2;omega
theorem F0{B:ByteArray}{i e:Nat}{w:List Nat}(hw:0<w.length)(h:nc B i w=.ok e):i<e∧e≤B.size:=by obtain⟨u,h1,h2⟩:=Sc.dT h;have:=Ms h1 (w.length-1) (by omega);simp only[Bool.and_eq_true,decide_eq_true_eq]at this;cases h2;omega
theorem XK{B:ByteArray}{p:Nat}{x:Nat×Nat}(hp:p≤B.size)(h:ng B p=.ok x):(x.1=0∧p=B.size∧x.2=p)∨(0<x.1∧p<x.2∧x.2≤B.size):=by
 unfold ng at h;split at h
 ·cases h;left;simp_all
 ·right;split at h
  ·cases h;simp only;omega
  ·split at h
   ·obtain⟨y,h1,h2⟩:=Sc.dT h;have:=XJ _ _ _ _ rfl (by omega) h1;cases h2;simp only;omega
   ·split at h
    ·obtain⟨y,h1,h2⟩:=Sc.dT h;have:=XD (by omega) h1;cases h2;simp only;omega
    ·split at h
     ·obtain⟨y,h1,h2⟩:=Sc.dT h;have:=F0 (by decide) h1;cases h2;simp only;omega
     ·split at h
      ·obtain⟨y,h1,h2⟩:=Sc.dT h;have:=F0 (by decide) h1;cases h2;simp only;omega
      ·split at h
       ·obtain⟨y,h1,h2⟩:=Sc.dT h;have:=F0 (by decide) h1;cases h2;simp only;omega
       ·cases h
end Go.Proofs.YtcaiibkgajhohaaGreatDoor
