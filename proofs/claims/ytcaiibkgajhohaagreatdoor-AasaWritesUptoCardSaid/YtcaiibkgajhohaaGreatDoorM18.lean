/- waybill: lemmas and walks, printed from longer texts. -/
import Derived.Test.YtcaiibkgajhohaaGreatDoorM17
import Derived.LaidHandle
import Derived.Stop.Joined
import Derived.Shelf.SlSortCmp.NoneTotal
namespace Go.Proofs.YtcaiibkgajhohaaGreatDoor
open Go.ChangeShapes Go.WideShapes Go.RowKit
theorem Xo:ownKnob Tryz.prog.godebug=none:=by kernel_rfl
theorem Xp:laidOutB Tryz.prog=true:=by kernel_rfl
theorem Xq:Tryz.prog.globalNamed "errors.errorType"=some 0:=by kernel_rfl
theorem Xr:(Tryz.prog.cutTypes.find? (·.1== "internal/reflectlite.rtype")).map (·.2)=some 192:=by kernel_rfl
theorem Xs:((List.range 340).filter fun t=>Tryz.prog.rowNamed t [101,114,114,111,114])=[29]:=by kernel_rfl
theorem Xt:Tryz.prog.types.size=340:=by kernel_rfl
theorem Mn{W:World}(h:laidMetH Tryz.prog [("errors.errorType",Rows.laid_errors_errorType)] W):iZ W:=by
 have h':laidMet Tryz.prog [] W∧handlesMet Tryz.prog [("errors.errorType",Rows.laid_errors_errorType)] W:=h;obtain⟨name,u,ty,e1,e2,e3,e4,e5⟩:=h'.2 _ (List.mem_singleton.2 rfl);have en:name=[101,114,114,111,114]:=(Option.some.inj e1).symm;subst en;obtain rfl:=Option.some.inj (Xr.symm.trans e2);have hm:ty∈(List.range 340).filter fun t=>Tryz.prog.rowNamed t [101,114,114,111,114]:=List.mem_filter.2 ⟨List.mem_range.2 (by rw[←Xt];exact e3),e4⟩;rw[Xs]at hm
 obtain rfl:=List.mem_singleton.1 hm;have hh:typeHandle Tryz.prog 29=.pointer (some ⟨6,29,none⟩):=by kernel_rfl
 rw[hh]at e5;unfold iZ;simpa using World.var?_cell Xq e5 0
noncomputable def Mo(os:Os):World:=let w0:=World.holding Tryz.prog os ⟨#[],#[],[]⟩;{w0 with heap:=w0.heap.modify 0 fun
  |.cells _ t frozen=>.cells #[.iface 192 (.agg #[.pointer (some ⟨6,29,none⟩)])] t frozen
  |o=>o}
structure aS where
 bZ:ByteArray
 b7:ByteArray
structure eI where
 name:ByteArray
 value:ByteArray
structure aZ where
 path:ByteArray
 query:ByteArray
 bw:ByteArray
 bz:Bool
 cS:Bool
 bM:Bool
 items:List eI
 cU:Bool
 fold:Bool
 dG:Bool
structure dr where
 apps:List aS
 rules:List aZ
structure cW where
 name:ByteArray
 values:List ByteArray
structure ie where
 df:List dr
 vars:List cW
def fL:ByteArray:=⟨#[]⟩
def eu:aZ:=⟨fL,fL,fL,false,false,false,[],false,false,false⟩
structure ai where
 bad:Bool
 vars:List cW
def ai.fail(s:ai):ai:=⟨true,s.vars⟩
def ew:ByteArray:=⟨#[99,97,115,101,83,101,110,115,105,116,105,118,101]⟩
def fe:ByteArray:=⟨#[112,101,114,99,101,110,116,69,110,99,111,100,101,100]⟩
def Ik:ByteArray:=⟨#[100,101,102,97,117,108,116,115]⟩
def lx:ByteArray:=⟨#[115,117,98,115,116,105,116,117,116,105,111,110,86,97,114,105,97,98,108,101,115]⟩
def dH:ByteArray:=⟨#[47]⟩
def gy:ByteArray:=⟨#[63]⟩
def ee:ByteArray:=⟨#[35]⟩
def fY:ByteArray:=⟨#[101,120,99,108,117,100,101]⟩
def Il:ByteArray:=⟨#[99,111,109,109,101,110,116]⟩
def iC:ByteArray:=⟨#[97,112,112,73,68,115]⟩
def Im:ByteArray:=⟨#[97,112,112,73,68]⟩
def iR:ByteArray:=⟨#[99,111,109,112,111,110,101,110,116,115]⟩
def Io:ByteArray:=⟨#[112,97,116,104,115]⟩
def eJ:ByteArray:=⟨#[100,101,116,97,105,108,115]⟩
def fM:ByteArray:=⟨#[97,112,112,108,105,110,107,115]⟩
structure Ip where
 Iq:cW→Bool
 Pf:ByteArray→List cW→Bool
 Ir:ByteArray→Bool
section
variable(K:Ip)(js:List JN)(aa:List Nat)
def du(id:Nat):Int:=match js[id]? with
  |some x=>x.kind
  |none=>0
def iD(id:Nat):ByteArray:=match js[id]? with
  |some x=>x.text
  |none=>fL
def ba(s:ai)(id:Nat)(k:Int):Bool×ai:=(!(s.bad||decide (du js id≠k)),⟨s.bad||decide (du js id≠k),s.vars⟩)
def dV(s:ai)(id:Nat)(key:ByteArray):Option Nat:=if s.bad=true then none else if du js id=6∧jh js (kids aa id) key=true then some (ic js (kids aa id) key).toNat else none
def bD(s:ai)(id:Nat):ByteArray×ai:=if(ba js s id 4).1=true then(iD js id,(ba js s id 4).2)else(fL,(ba js s id 4).2)
def qk:List Nat→ai→List ByteArray→List ByteArray×ai
 |[],s,acc=>(acc,s)
 |k::l,s,acc=>if(bD js s k).2.bad=true then(acc,(bD js s k).2)else qk l (bD js s k).2 (acc++[(bD js s k).1])
def iE(s:ai)(id:Nat):List ByteArray×ai:=if(ba js s id 5).1=true then qk js (kids aa id) (ba js s id 5).2 []else([],(ba js s id 5).2)
def nK(s:ai)(id:Nat)(key:ByteArray)(plain:Bool):Bool×ai:=match dV js aa s id key with
  |none=>(plain,s)
  |some k=>(decide (du js k=2),⟨s.bad||!(decide (du js k=1)||decide (du js k=2)),s.vars⟩)
def rH(s:ai)(id:Nat)(a b:Bool)(ka kb:ByteArray):(Bool×Bool)×ai:=let x:=nK js aa s id ka a;let y:=nK js aa x.2 id kb b;((x.1,y.1),y.2)
def ly(s:ai)(id:Nat)(a b:Bool):(Bool×Bool)×ai:=match dV js aa s id Ik with
  |none=>((a,b),s)
  |some k=>if(ba js s k 6).1=true then rH js aa (ba js s k 6).2 k a b ew fe else((a,b),(ba js s k 6).2)
def ql:List Nat→ai→ai
 |[],s=>s
 |m::l,s=>if(iE js aa s m).2.bad=true then(iE js aa s m).2 else ql l ⟨(iE js aa s m).2.bad||!K.Iq ⟨bh js m,(iE js aa s m).1⟩,(iE js aa s m).2.vars++[⟨bh js m,(iE js aa s m).1⟩]⟩
def nL(s:ai)(id:Nat):ai:=match dV js aa s id lx with
  |none=>s
  |some k=>if(ba js s k 6).1=true then ql K js aa (et js (kids aa k)) ⟨(ba js s k 6).2.bad||decide (64<(et js (kids aa k)).length),(ba js s k 6).2.vars⟩else(ba js s k 6).2
def lz(s:ai)(id:Nat):ByteArray×ai:=if(bD js s id).2.bad=true then(fL,(bD js s id).2)else((bD js s id).1,⟨(bD js s id).2.bad||!K.Pf (bD js s id).1 (bD js s id).2.vars,(bD js s id).2.vars⟩)
def gO(s:ai)(id:Nat)(key:ByteArray):(ByteArray×Bool)×ai:=match dV js aa s id key with
  |none=>((fL,false),s)
  |some k=>(((lz K js s k).1,true),(lz K js s k).2)
def rI:List Nat→ai→List eI→List eI×ai
 |[],s,acc=>(acc,s)
 |m::l,s,acc=>rI l (lz K js s m).2 (acc++[⟨bh js m,(lz K js s m).1⟩])
def j4(s:ai)(id:Nat)(x:aZ):aZ×ai:=match dV js aa s id gy with
  |none=>(x,s)
  |some k=>if du js k≠6 then({x with query:=(lz K js s k).1,cS:=true},(lz K js s k).2)else({x with items:=(rI K js (et js (kids aa k)) s x.items).1},(rI K js (et js (kids aa k)) s x.items).2)
def nM(s:ai)(id:Nat)(a b:Bool):aZ×ai:=if(ba js s id 6).1=true then let s1:=(ba js s id 6).2;let p:=gO K js aa s1 id dH;let q:=j4 K js aa p.2 id {eu with path:=p.1.1,bz:=p.1.2};let h:=gO K js aa q.2 id ee;let e:=nK js aa h.2 id fY false;let f:=rH js aa e.2 id a b ew fe;({q.1 with bw:=h.1.1,bM:=h.1.2,cU:=e.1,fold:=!f.1.1,dG:=!f.1.2},match dV js aa f.2 id Il with
  |none=>f.2
  |some k=>(bD js f.2 k).2)else(eu,(ba js s id 6).2)
def tu(t:ByteArray):Bool:=decide (t.extract 0 4=⟨#[78,79,84,32]⟩)
def ig(t:ByteArray):ByteArray:=if tu t=true then t.extract 4 t.size else t
def kH(t:ByteArray):Option aZ:=if K.Ir (ig t)=true then some {eu with path:=ig t,bz:=true,cU:=tu t}else none
def ey(s:ai)(t:ByteArray)(apps:List aS):List aS×ai:=(apps++[⟨tp t,tr t⟩],⟨s.bad||decide (lv t≠[]),s.vars⟩)
def j5:List Nat→ai→List aS→Option (List aS)×ai
 |[],s,acc=>(some acc,s)
 |k::l,s,acc=>if(bD js s k).2.bad=true then(some acc,(bD js s k).2)else if(ey (bD js s k).2 (bD js s k).1 acc).2.bad=true then(none,(ey (bD js s k).2 (bD js s k).1 acc).2)else j5 l (ey (bD js s k).2 (bD js s k).1 acc).2 (ey (bD js s k).2 (bD js s k).1 acc).1
def ml(s:ai)(id:Nat)(apps:List aS):Option (List aS)×ai:=match dV js aa s id iC with
  |none=>(some apps,s)
  |some k=>if(ba js s k 5).1=true then j5 js (kids aa k) (ba js s k 5).2 apps else(some apps,(ba js s k 5).2)
def mm(s:ai)(id:Nat)(apps:List aS):List aS×ai:=match dV js aa s id Im with
  |none=>(apps,s)
  |some k=>if(bD js s k).2.bad=true then(apps,(bD js s k).2)else ey (bD js s k).2 (bD js s k).1 apps
def kI(s:ai)(id:Nat)(key:ByteArray)(keyed:Bool):List aS×ai:=let r:=if keyed=true then ey s key []else([],s);match ml js aa r.2 id r.1 with
  |(none,s1)=>([],s1)
  |(some l,s1)=>((mm js aa s1 id l).1,⟨(mm js aa s1 id l).2.bad||(mm js aa s1 id l).1.isEmpty,(mm js aa s1 id l).2.vars⟩)
def qm:List Nat→ai→Bool→Bool→List aZ→List aZ×ai
 |[],s,_,_,acc=>(acc,s)
 |m::l,s,a,b,acc=>qm l (nM K js aa s m a b).2 a b (acc++[(nM K js aa s m a b).1])
def rJ:List Nat→ai→List aZ→List aZ×ai
 |[],s,acc=>(acc,s)
 |k::l,s,acc=>if(bD js s k).2.bad=true then(acc,(bD js s k).2)else match kH K (bD js s k).1 with
   |none=>([],(bD js s k).2.fail)
   |some x=>rJ l (bD js s k).2 (acc++[x])
def eR(s:ai)(n most:Nat):Bool×ai:=(!(s.bad||decide (most<n)),⟨s.bad||decide (most<n),s.vars⟩)
def lA(s:ai)(k most:Nat):Bool×ai:=if(ba js s k 5).1=true then eR (ba js s k 5).2 (kids aa k).length most else(false,(ba js s k 5).2)
def oZ(s:ai)(id:Nat)(a b:Bool):List aZ×ai:=match dV js aa s id iR with
  |some k=>if(lA js aa s k 512).1=true then qm K js aa (kids aa k) (lA js aa s k 512).2 a b []else([],(lA js aa s k 512).2)
  |none=>match dV js aa s id Io with
    |none=>([],s)
    |some k=>if(lA js aa s k 512).1=true then rJ K js (kids aa k) (lA js aa s k 512).2 []else([],(lA js aa s k 512).2)
def lB(s:ai)(id:Nat)(key:ByteArray)(keyed a b:Bool):dr×ai:=if(ba js s id 6).1=true then let p:=kI js aa (ba js s id 6).2 id key keyed;let d:=ly js aa p.2 id a b;let r:=oZ K js aa d.2 id d.1.1 d.1.2;(⟨p.1,r.1⟩,r.2)else(⟨[],[]⟩,(ba js s id 6).2)
def mo:List Nat→ai→Bool→Bool→Bool→List dr→List dr×ai
 |[],s,_,_,_,acc=>(acc,s)
 |m::l,s,keyed,a,b,acc=>if(lB K js aa s m (bh js m) keyed a b).2.bad=true then([],(lB K js aa s m (bh js m) keyed a b).2)else mo l (lB K js aa s m (bh js m) keyed a b).2 keyed a b (acc++[(lB K js aa s m (bh js m) keyed a b).1])
def nN(s:ai)(id:Nat)(a b:Bool):List dr×ai:=match dV js aa s id eJ with
  |none=>([],s)
  |some k=>if du js k=6 then(if(eR s (et js (kids aa k)).length 256).1=true then mo K js aa (et js (kids aa k)) (eR s (et js (kids aa k)).length 256).2 true a b []else([],(eR s (et js (kids aa k)).length 256).2))else if du js k=5 then(if(eR s (kids aa k).length 256).1=true then mo K js aa (kids aa k) (eR s (kids aa k).length 256).2 false a b []else([],(eR s (kids aa k).length 256).2))else([],s.fail)
def DN:Option ie:=let s0:ai:=⟨false,[]⟩;if(ba js s0 0 6).1=true then match dV js aa (ba js s0 0 6).2 0 fM with
  |none=>none
  |some k=>if(ba js (ba js s0 0 6).2 k 6).1=true then let d:=ly js aa (ba js (ba js s0 0 6).2 k 6).2 k true true;let v:=nL K js aa d.2 k;let l:=nN K js aa v k d.1.1 d.1.2;if l.2.bad=true then none else some ⟨l.1,l.2.vars⟩else none else none
end
structure Kp(s t:ai):Prop where
 vars:t.vars=s.vars
 bad:s.bad=true→t.bad=true
theorem Kp.refl(s:ai):Kp s s:=⟨rfl,id⟩
theorem Kp.trans{a b c:ai}(h:Kp a b)(k:Kp b c):Kp a c:=⟨k.vars.trans h.vars,fun x=>k.bad (h.bad x)⟩
theorem Kp.more(s:ai)(b:Bool):Kp s ⟨s.bad||b,s.vars⟩:=⟨rfl,fun h=>by simp[h]⟩
theorem Kp.de{s t:ai}(h:Kp s t)(ht:t.bad=false):s.bad=false:=by
 cases hs:s.bad with
 |false=>rfl
 |true=>rw[h.bad hs]at ht;cases ht
section
variable(K:Ip)(js:List JN)(aa:List Nat)
theorem kJ(s:ai)(id:Nat)(k:Int):Kp s (ba js s id k).2:=Kp.more s _
theorem mq(s:ai)(id:Nat):Kp s (bD js s id).2:=by
 unfold bD;split
 ·exact kJ js s id 4
 ·exact kJ js s id 4
theorem Pg:∀(l:List Nat)(s:ai)(acc:List ByteArray),Kp s (qk js l s acc).2
 |[],s,acc=>Kp.refl s
 |k::l,s,acc=>by
  rw[qk];split
  ·exact mq js s k
  ·exact(mq js s k).trans (Pg l _ _)
theorem Ph(s:ai)(id:Nat):Kp s (iE js aa s id).2:=by
 unfold iE;split
 ·exact(kJ js s id 5).trans (Pg js _ _ _)
 ·exact kJ js s id 5
theorem Is(s:ai)(id:Nat)(key:ByteArray)(p:Bool):Kp s (nK js aa s id key p).2:=by
 unfold nK;split
 ·exact Kp.refl s
 ·exact Kp.more s _
theorem Pj(s:ai)(id:Nat)(a b:Bool)(ka kb:ByteArray):Kp s (rH js aa s id a b ka kb).2:=(Is js aa s id ka a).trans (Is js aa _ id kb b)
theorem DO(s:ai)(id:Nat)(a b:Bool):Kp s (ly js aa s id a b).2:=by
 unfold ly;split
 ·exact Kp.refl s
 ·split
  ·exact(kJ js s _ 6).trans (Pj js aa _ _ a b _ _)
  ·exact kJ js s _ 6
end
section
variable{α:Type} [Inhabited α]{enc:α→List Value}{k:Nat}
theorem UP(hk:∀x,(enc x).length=k)(xs:List α):(Go.Sort.flatK enc k xs.toArray).toList=xs.flatMap enc:=by
 apply List.ext_getElem?;intro t;by_cases ht:t<xs.length*k
 ·have k0:0<k:=by
   rcases Nat.eq_zero_or_pos k with h|h
   ·subst h;simp at ht
   ·exact h
  have hd:t/k<xs.length:=(Nat.div_lt_iff_lt_mul k0).2 ht;have hm:=Nat.mod_lt t k0;have hx:xs[t/k]?=some xs[t/k]:=List.getElem?_eq_getElem hd;have h1:=Gz hk xs (t/k) (t%k) _ hx hm;rw[show t/k*k+t%k=t by rw[Nat.mul_comm];exact Nat.div_add_mod t k]at h1;have h2:=Go.Sort.get_flatK enc k xs.toArray t (by simpa using ht);have hz:t<(Go.Sort.flatK enc k xs.toArray).size:=by rw[Go.Sort.size_flatK];simpa using ht
  rw[getElem!_pos (Go.Sort.flatK enc k xs.toArray) t hz]at h2;have fS:xs.toArray[t/k]! =xs[t/k]:=by rw[getElem!_pos xs.toArray (t/k) (by simpa using hd)];simp
  have fN:t%k<(enc xs[t/k]).length:=by rw[hk];exact hm
  rw[fS,getElem!_pos (enc xs[t/k]) (t%k) fN]at h2;rw[h1,Array.getElem?_toList,Array.getElem?_eq_getElem hz,h2,←List.getElem?_eq_getElem fN]
 ·rw[List.getElem?_eq_none (by rw[Array.length_toList,Go.Sort.size_flatK];simp;omega),List.getElem?_eq_none (by rw[za hk];omega)]
theorem ags(hk:∀x,(enc x).length=k){w:World}{base g cap:Nat}{e:TypeId}{xs:List α}(h:w.ownsRow base e k (.slice (some ⟨g,0,none⟩) xs.length cap) xs.length (xs.flatMap enc)):Go.Sort.HoldsK enc k w g 0 xs.toArray:=by
 intro t ht;rw[Go.Sort.size_flatK]at ht;have ht2:t<xs.length*k:=by simpa using ht
 have AK:(Go.Sort.flatK enc k xs.toArray)[t]?=(xs.flatMap enc)[t]?:=by rw[←UP hk,Array.getElem?_toList]
 have hz:t<(Go.Sort.flatK enc k xs.toArray).size:=by rw[Go.Sort.size_flatK];exact ht
 refine⟨?_,?_⟩
 ·rw[getElem!_pos (Go.Sort.flatK enc k xs.toArray) t hz,Nat.zero_add,World.ownsRow.cellAt h t ht2,←AK,Array.getElem?_eq_getElem hz];rfl
 ·rw[Nat.zero_add];exact World.ownsRow.frozenAt h t
theorem agu(hk:∀x,(enc x).length=k){w:World}{base g cap n:Nat}{e:TypeId}{xs ys:List α}{os:Array Obj}(h:w.ownsRow base e k (.slice (some ⟨g,0,none⟩) xs.length cap) xs.length (xs.flatMap enc))(hl:ys.length=xs.length):(sortWorldK enc k w g 0 n ys.toArray os).ownsRow base e k (.slice (some ⟨g,0,none⟩) xs.length cap) xs.length (ys.flatMap enc)∧w.grownBy (sortWorldK enc k w g 0 n ys.toArray os) (some g):=by
 have hg:g<w.heap.size:=(h.lt g rfl).2;refine⟨?_,⟨rfl,rfl,rfl,by simp[sortWorldK,Go.Sort.putRowK,Go.Sort.putRow,Go.Sort.mapBlock,Go.Sort.ahead],fun j hj hne=>?_⟩⟩
 ·rcases h.2 with⟨h2,_⟩|⟨g',cap',cur,hv,jU,hc,h1,h2,h3,h4⟩
  ·cases h2
  ·simp only[Value.slice.injEq,Option.some.injEq,Addr.mk.injEq,and_true,true_and]at hv;obtain⟨rfl,rfl⟩:=hv;refine⟨by rw[za hk,hl],.inr ⟨g,cap,Go.Sort.putCells id 0 (Go.Sort.flatK enc k ys.toArray) cur,rfl,jU,?_,h1,h2,by simp[Go.Sort.putCells,h3],?_⟩⟩
   ·unfold sortWorldK;rw[Go.Sort.heap_grow_old _ _ (by simpa[Go.Sort.putRowK,Go.Sort.putRow,Go.Sort.mapBlock,Go.Sort.ahead]using hg)];simp[Go.Sort.putRowK,Go.Sort.putRow,Go.Sort.mapBlock,Go.Sort.ahead,Array.getElem?_modify,hc,Go.Sort.onCells]
   ·apply List.ext_getElem?;intro j;by_cases hj:j<xs.length*k
    ·have hz:j<(Go.Sort.flatK enc k ys.toArray).size:=by rw[Go.Sort.size_flatK];simpa[hl]using hj
     have hjc:j<cur.size:=by rw[h3];exact Nat.lt_of_lt_of_le hj (Nat.mul_le_mul_right _ h1)
     have bA:j<ys.length*k:=by rw[hl];exact hj
     rw[List.getElem?_take_of_lt hj,Array.getElem?_toList,←UP hk,Array.getElem?_toList];rw[Array.getElem?_eq_getElem hz,←getElem!_pos (Go.Sort.flatK enc k ys.toArray) j hz];simp[Go.Sort.putCells,hjc,bA]
    ·rw[List.getElem?_take_eq_none (by omega),List.getElem?_eq_none (by rw[za hk,hl];omega)]
 ·unfold sortWorldK;rw[Go.Sort.heap_grow_old _ _ (by simpa[Go.Sort.putRowK,Go.Sort.putRow,Go.Sort.mapBlock,Go.Sort.ahead]using hj)];have:g≠j:=fun e=>hne (by rw[e]);simp[Go.Sort.putRowK,Go.Sort.putRow,Go.Sort.mapBlock,Go.Sort.ahead,Array.getElem?_modify,this]
end
end Go.Proofs.YtcaiibkgajhohaaGreatDoor
