/- waybill: lemmas and walks, printed from longer texts. -/
import Derived.Test.YtcaiibkgajhohaaGreatDoorM18
import Derived.Lib.IndexMore
import Derived.Deep.WholeRow
import Derived.Shelf.SlicesQ.IndexFunc
import Derived.Ground.SlgfProg
import Derived.Shelf.SlGeneric
set_option maxRecDepth 100000
set_option maxHeartbeats 16000000
namespace Go.Proofs.YtcaiibkgajhohaaGreatDoor
open Go.RowKit
def tC(t:ByteArray):List (Int×Int):=match dZ t 0 []with
  |.ok _=>[]
  |.no k p=>[((k:Nat),p)]
theorem Pz(B:ByteArray):∀f i acc k p,nw B f i acc=.no k p→k=12∧0≤p
 |0,i,acc,k,p,h=>by
  rw[nw]at h;split at h
  ·cases h;exact⟨rfl,by omega⟩
  ·cases h
 |f+1,i,acc,k,p,h=>by
  rw[nw]at h;split at h
  ·split at h
   ·cases h;exact⟨rfl,by omega⟩
   ·exact Pz B f _ _ _ _ h
  ·cases h
theorem abm{B:ByteArray}{k:Nat}{p:Int}(h:dZ B 0 []=.no k p):k=12∧0≤p:=Pz _ _ _ _ _ _ h
def jK(t:ByteArray):List (Int×Int):=if 1024<t.size then[(14,1024)]else tC t
def o5(t:ByteArray):Bool:=(jK t).isEmpty
def PB:List ByteArray:=[⟨#[97,108,112,104,97]⟩,⟨#[117,112,112,101,114]⟩,⟨#[108,111,119,101,114]⟩,⟨#[100,105,103,105,116]⟩,⟨#[97,108,110,117,109]⟩,⟨#[120,100,105,103,105,116]⟩,⟨#[114,101,103,105,111,110]⟩,⟨#[108,97,110,103]⟩]
def o6(t:ByteArray):Bool:=PB.any fun x=>decide (x=t)
def rK(t:ByteArray)(marks:List UInt8):Bool:=t.data.toList.any fun c=>decide (0≤Go.Lib.indexByte marks c)
def DU(v:cW):Bool:=decide (v.name≠fL)&&decide (v.name.size≤64)&&!o6 v.name&&!rK v.name [36,40,41]&&(tC v.name).isEmpty&&decide (v.values.length≤256)&&v.values.all fun t=>!rK t [36]&&o5 t
structure Pc where
 text:ByteArray
 var:Bool
 at_:Nat
def jL(s:ByteArray)(i:Nat):Int:=Go.Lib.index (s.extract i s.size).data.toList [36,40]
def qn(s:ByteArray)(i:Nat):List UInt8×List UInt8×Bool:=Go.Lib.cut (s.extract i s.size).data.toList [41]
def xm(s:ByteArray)(i:Nat)(m:Int)(acc:List Pc):List Pc:=if 0<m then acc++[⟨s.extract i (i+m.toNat),false,i⟩]else acc
def DV:Nat→ByteArray→Nat→List Pc→List Pc×Int
 |0,_,_,acc=>(acc,-1)
 |f+1,s,i,acc=>if s.size≤i then(acc,-1)else if jL s i<0 then(acc++[⟨s.extract i s.size,false,i⟩],-1)else if(qn s (i+(jL s i).toNat+2)).2.2=false then(xm s i (jL s i) acc,((i+(jL s i).toNat:Nat):Int))else DV f s (i+(jL s i).toNat+(qn s (i+(jL s i).toNat+2)).1.length+3) (xm s i (jL s i) acc++[⟨⟨(qn s (i+(jL s i).toNat+2)).1.toArray⟩,true,i+(jL s i).toNat⟩])
def vm(t:ByteArray):List Pc×Int:=DV (t.size+1) t 0 []
def vn(t:ByteArray)(vars:List cW):Bool:=o5 t&&((vm t).1.all fun p=>!p.var||o6 p.text||vars.any fun v=>decide (v.name=p.text))&&decide ((vm t).2<0)
def cg:Ip:=⟨DU,vn,o5⟩
theorem PD(B:ByteArray):(aG B).size=(ny B).length:=by show((ny B).map UInt8.ofNat).toArray.size=_;simp
theorem abq(B:ByteArray):fj B 0=1:=by simp[fj]
theorem Iz{B:ByteArray}{i:Nat}(hi:i<B.size):(dC B).take (i+1)=(dC B).take i++[af B i]:=by rw[List.take_add_one,C7 hi];rfl
theorem IA{B:ByteArray}{i:Nat}(hi:i<B.size):fj B (i+1)=fj B i+(cO (af B i)).length:=by unfold fj;rw[Iz hi,List.flatMap_append,List.length_append];simp;omega
def zS(B:ByteArray)(R:Sc (List Nat))(w:World)(o i:Value)(wr:World):Prop:=∃(j:Nat)(acc:List Nat),i=.int .i64 j∧j≤B.size∧acc.length≤j∧wr.ownsRow w.heap.size 3 1 o acc.length (lZ acc)∧Below w.heap.size w wr∧dZ B j acc=R
theorem abv{B:ByteArray}{i:Nat}(hi:i<B.size):lW B i=if bR B i=(65533,1)then .no 12 i else .ok (bR B i):=by unfold lW;rw[if_neg (by omega)]
def abw(w:World)(r:Sc (List Nat))(e:Ending)(w':World):Prop:=match r with
  |.ok l=>∃v,e=.returned (.tuple #[v,.nilIface])∧Rd (dY w w') w' v (oO l)∧Below w.heap.size w w'
  |.no k i=>∃u,e=.returned (.tuple #[.slice none 0 0,.iface 85 (.pointer (some u))])∧dK w k i (.iface 85 (.pointer (some u))) w'
theorem abx(v:Value)(B:ByteArray)(w:World)(h:Rd (Own w) w v (dF B))(ht:nu w)(hm:B.size≤1100000):Calls Tryz.prog 102 #[v] w (abw w (dZ B 0 [])):=by
 obtain⟨R,hR⟩:∃R,dZ B 0 []=R:=⟨_,rfl⟩;rw[hR];have HR:=Lib.hid hR;have H:=Lib.hid h;have HT:=Lib.hid ht;obtain⟨a,c,rfl,_,_,_⟩:=h.eY;clear h ht hR;go_enter Tryz.func102,Tryz.ntmps102;go_wp2_with fail;go_loopw[4,5](zS B R w)(fun _ k _=>B.size-(intOf k).toNat);case atStart=>exact⟨0,[],rfl,Nat.zero_le _,Nat.zero_le _,World.ownsRow_nil _ _ _ _,Below.refl _ _,HR.out⟩
 case round=>
  obtain⟨j,acc,rfl,hj,hA,ho,hb,hr⟩:=hrel;obtain⟨ao,cap,rfl,_⟩:=aM ho;have HO:=Lib.hid ho;have HB:=Lib.hid hb;by_cases hlt:j<B.size
  ·have t1:decide ((j:Int)<(B.size:Int))=true:=decide_eq_true (by omega);have aT:decide (j<B.size)=true:=decide_eq_true hlt;have CN:=MV _ B j wr (H.out.ext hb) (HT.out.ext hb) hm hlt;rw[abv hlt]at CN;rw[y9 hlt]at hr;have hz:=wR hlt;by_cases hd:bR B j=(65533,1)
   ·rw[if_pos hd]at hr CN;have aO:=Lib.hid hr.symm;have rL:=Lib.hid CN;clear ho hb hr CN hd hz;go_wp2_with fail;refine rL.out.mono ?_;rintro e w1⟨u,rfl,hx⟩;have HX:=Lib.hid (hx.after HB.out);clear hx;go_wp2;go_ret2;rw[aO.out];exact⟨_,rfl,HX.out⟩
   ·rw[if_neg hd]at hr CN;generalize bR B j=x at*;obtain⟨ch,n⟩:=x;simp only at hr hz;have aO:=Lib.hid hr;have rL:=Lib.hid CN;have q1:IntKind.i64.wrap ((j:Int)+(n:Int))=(j:Int)+(n:Int):=IntWalk.i64_in _ (by omega);clear ho hb hr CN hd;go_wp2_with fail;refine rL.out.mono ?_;rintro e w1⟨rfl,ar⟩;have xn:=Lib.hid (bu HO.out (fun g hg=>ar.block g (HO.out.lt g hg).2) (Nat.le_refl _));have aQ:=Lib.hid (aF HB.out ar);clear ar
    go_wp2_with(at_builtin;refine iY w1 _ _ rfl _ _ 106 rfl w.heap.size wT _ _ _ rfl xn.out rfl rfl ?c1 ?c2 ?c3 ?c4 ?_);case c1=>first|rfl|(intro u hu;simp at hu;subst hu;rfl)
    case c2=>simp[maxLen];omega
    case c3=>omega
    case c4=>exact aQ.out.size
    intro v2 w2 aE aL
    have R':zS B R w v2 (.int .i64 (j+n)) w2:=by
     refine⟨j+n,acc++[ch],by go_num,hz.2,by simp;omega,?_,?_,aO.out⟩
     ·simpa[lZ]using aE
     ·exact(aj aQ.out _).grown aL (aj aQ.out _).size (fun m hm=>(xn.out.lt m hm).1)
    have br:=Lib.hid R';clear R' aE aL;go_wp2;refine⟨?_,by simp[intOf]<;>omega⟩;have R:=br.out;first|exact R|((repeat apply Exists.intro);exact⟨R,rfl⟩)
  ·have t1:decide ((j:Int)<(B.size:Int))=false:=decide_eq_false (by omega);have aT:decide (j<B.size)=false:=decide_eq_false hlt;rw[wS hlt]at hr;have aO:=Lib.hid hr.symm;have xg:=Lib.hid (mY (S:=dY w wr) ho (C8 acc) (fun g hg=>ho.lt g hg));clear ho hb hr hlt;go_wp2;go_ret2;rw[aO.out];exact⟨_,rfl,xg.out,HB.out⟩
def aby(w:World)(r:Sc (List Nat))(e:Ending)(w':World):Prop:=match r with
  |.ok _=>e=.returned .nilIface∧Below w.heap.size w w'
  |.no k i=>∃u,e=.returned (.iface 85 (.pointer (some u)))∧dK w k i (.iface 85 (.pointer (some u))) w'
theorem IC(v:Value)(B:ByteArray)(w:World)(h:Rd (Own w) w v (dF B))(ht:nu w)(hm:B.size≤1100000):Calls Tryz.prog 64 #[v] w (aby w (dZ B 0 [])):=by
 have hc:=abx v B w h ht hm;obtain⟨a,c,rfl,_,_,_⟩:=h.eY;generalize dZ B 0 []=R at hc⊢;have HC:=Lib.hid hc;clear h ht hc;go_enter Tryz.func64,Tryz.ntmps64;go_wp2_with fail;refine HC.out.mono ?_;intro e w1 hp
 cases R with
 |ok l=>obtain⟨v1,rfl,_,hb⟩:=hp;have HB:=Lib.hid hb;clear hb;go_wp2;go_ret;exact⟨rfl,HB.out⟩
 |no k p=>obtain⟨u,rfl,hf⟩:=hp;have HF:=Lib.hid hf;clear hf;go_wp2;go_ret;exact⟨_,rfl,HF.out⟩
def abz(w:World)(r:Sc (List Nat))(e:Ending)(w':World):Prop:=Below w.heap.size w w'∧match r with
  |.ok _=>∃v,e=.returned (.tuple #[v,.int .i64 (-1)])
  |.no _ i=>∃v,e=.returned (.tuple #[v,.int .i64 i])
theorem abA(v:Value)(B:ByteArray)(w:World)(h:Rd (Own w) w v (dF B))(hm:B.size≤1100000):Calls Tryz.prog 65 #[v] w (abz w (dZ B 0 [])):=by
 obtain⟨R,hR⟩:∃R,dZ B 0 []=R:=⟨_,rfl⟩;rw[hR];have HR:=Lib.hid hR;have H:=Lib.hid h;have R0:zS B R w (.slice (some ⟨w.heap.size,0,none⟩) 0 0) (.int .i64 0) (w.alloc (.cells #[] 3)):=by refine⟨0,[],rfl,Nat.zero_le _,Nat.zero_le _,?_,aj (Below.refl _ _) _,hR⟩;have:=World.ownsRow_lit (base:=w.heap.size) (e:=3) (size:=1) w #[] 0 (Nat.le_refl _) (by decide) rfl;simpa[lZ]using this
 have eF:=Lib.hid R0;obtain⟨a,c,rfl,_,_,_⟩:=h.eY;clear h hR R0;go_enter Tryz.func65,Tryz.ntmps65;go_wp2_with fail;go_loopw[4,5](zS B R w)(fun _ k _=>B.size-(intOf k).toNat);case atStart=>exact eF.out
 case round=>
  obtain⟨j,acc,rfl,hj,hA,ho,hb,hr⟩:=hrel;obtain⟨ao,cap,rfl,_⟩:=aM ho;have HO:=Lib.hid ho;have HB:=Lib.hid hb;by_cases hlt:j<B.size
  ·have t1:decide ((j:Int)<(B.size:Int))=true:=decide_eq_true (by omega);have aT:decide (j<B.size)=true:=decide_eq_true hlt;have CN:=ZQ _ B j wr (H.out.ext hb) hm hlt;rw[y9 hlt]at hr;have hz:=wR hlt;by_cases hd:bR B j=(65533,1)
   ·have hn:ma B j=(0,0):=by unfold ma;rw[if_pos hd]
    rw[if_pos hd]at hr;rw[hn]at CN;have aO:=Lib.hid hr.symm;have rL:=Lib.hid CN;clear ho hb hr CN hd hz hn;go_wp2_with fail;refine rL.out.mono ?_;rintro e w1⟨rfl,ar⟩;have aQ:=Lib.hid (aF HB.out ar);clear ar;go_wp2;go_ret2;rw[aO.out];exact⟨aj aQ.out _,_,rfl⟩
   ·have hn:ma B j=bR B j:=by unfold ma;rw[if_neg hd]
    rw[if_neg hd]at hr;rw[hn]at CN;clear hn;generalize bR B j=x at*;obtain⟨ch,n⟩:=x;simp only at hr hz CN;have aO:=Lib.hid hr;have rL:=Lib.hid CN;have t2:((n:Int)==0)=false:=beq_eq_false_iff_ne.2 (by omega);have q1:IntKind.i64.wrap ((j:Int)+(n:Int))=(j:Int)+(n:Int):=IntWalk.i64_in _ (by omega);clear ho hb hr CN hd;go_wp2_with fail;refine rL.out.mono ?_;rintro e w1⟨rfl,ar⟩;have xn:=Lib.hid (bu HO.out (fun g hg=>ar.block g (HO.out.lt g hg).2) (Nat.le_refl _));have aQ:=Lib.hid (aF HB.out ar)
    clear ar;go_wp2_with(at_builtin;refine iY w1 _ _ rfl _ _ 106 rfl w.heap.size wT _ _ _ rfl xn.out rfl rfl ?c1 ?c2 ?c3 ?c4 ?_);case c1=>first|rfl|(intro u hu;simp at hu;subst hu;rfl)
    case c2=>simp[maxLen];omega
    case c3=>omega
    case c4=>exact aQ.out.size
    intro v2 w2 aE aL
    have R':zS B R w v2 (.int .i64 (j+n)) w2:=by
     refine⟨j+n,acc++[ch],by go_num,hz.2,by simp;omega,?_,?_,aO.out⟩
     ·simpa[lZ]using aE
     ·exact(aj aQ.out _).grown aL (aj aQ.out _).size (fun m hm=>(xn.out.lt m hm).1)
    have br:=Lib.hid R';clear R' aE aL;go_wp2;refine⟨?_,by simp[intOf]<;>omega⟩;have R:=br.out;first|exact R|((repeat apply Exists.intro);exact⟨R,rfl⟩)
  ·have t1:decide ((j:Int)<(B.size:Int))=false:=decide_eq_false (by omega);have aT:decide (j<B.size)=false:=decide_eq_false hlt;rw[wS hlt]at hr;have aO:=Lib.hid hr.symm;clear ho hb hr hlt;go_wp2;go_ret2;rw[aO.out];exact⟨HB.out,_,rfl⟩
def nO(a:aS):List a_:=[.str a.bZ,.str a.b7]
def IF(i:eI):List a_:=[.str i.name,.str i.value,.bool true]
def gP(x:aZ):List a_:=[.str x.path,.str x.query,.str x.bw,.bool x.bz,.bool x.cS,.bool x.bM,.list 3 (x.items.flatMap IF),.bool x.cU,.bool x.fold,.bool x.dG]
def lC(d:dr):List a_:=[.list 2 (d.apps.flatMap nO),.list 10 (d.rules.flatMap gP)]
def o7(v:cW):List a_:=[.str v.name,.list 1 (v.values.map .str)]
theorem IL{P:Program}{w:World}{ops:Array Oper}{rest:List Oper}{o:Oper}{a:Act}{Q:Exit→Act→World→Prop}(t:TypeId)(b:Nat)(v:Value)(hl:(loadVar t ⟨b,0,none⟩).run P w=.ok v w)(x:Operand)(iX:o.guard=none)(ho:o.op=.load t x)(hx:a.eval x=.pointer (some ⟨b,0,none⟩))(hK:wpList P ops Q rest (a.put o.dst v) w):wpList P ops Q (o::rest) a w:=by refine wpList_plain iX fun K hK'=>?_;unfold Oper.wp;simp[execOp,ho,hx,Instr.loadAt,Instr.sureAddr,hl,Result.andThen];exact hK' _ _ hK
theorem zW{P:Program}{w w':World}{ops:Array Oper}{rest:List Oper}{o:Oper}{a:Act}{Q:Exit→Act→World→Prop}(t:TypeId)(b:Nat)(v:Value)(hl:(storeVar t ⟨b,0,none⟩ v).run P w=.ok () w')(x y:Operand)(iX:o.guard=none)(ho:o.op=.store t x y)(hx:a.eval x=.pointer (some ⟨b,0,none⟩))(hy:a.eval y=v)(hK:wpList P ops Q rest (a.put o.dst undef) w'):wpList P ops Q (o::rest) a w:=by refine wpList_plain iX fun K hK'=>?_;unfold Oper.wp;simp[execOp,ho,hx,hy,Instr.storeAt,Instr.sureAddr,hl,Result.andThen];exact hK' _ _ hK
theorem setRow_heap{w:World}{b:Nat}{c d:Array Value}{t:TypeId}{fr:Nat×Nat}(h:w.heap[b]?=some (.cells d t fr)):(w.setRow b c).heap[b]?=some (.cells c t fr):=by simp only[World.setRow];rw[Array.getElem?_modify,if_pos rfl,h];rfl
theorem abL{w0 w:World}{B b:Nat}{c:Array Value}(h:Below B w0 w)(hb:B≤b):Below B w0 (w.setRow b c):=by refine⟨h.os,h.tape,h.output,by simp only[World.setRow,Array.size_modify];exact h.size,fun k hk=>?_⟩;simp only[World.setRow];rw[Array.getElem?_modify,if_neg (by omega)];exact h.block k hk
theorem PK{w:World}{b:Nat}{c:Array Value}{t:TypeId}{fr:Nat×Nat}(h:w.heap[b]?=some (.cells c t fr)):w.setRow b c=w:=by
 simp only[World.setRow]
 have:w.heap.modify b (fun o=>match o with|.cells _ t f=>.cells c t f|o=>o)=w.heap:=by
  apply Array.ext_getElem?;intro i;rw[Array.getElem?_modify];by_cases e:b=i
  ·subst e;rw[if_pos rfl,h];rfl
  ·rw[if_neg e]
 exact congrArg (fun h=>{w with heap:=h}) this
end Go.Proofs.YtcaiibkgajhohaaGreatDoor
namespace Go.Proofs
open Go.Shelf
def Tryz.ab3:Go.Shelf.Ren:=⟨fun|6=>158|n=>n,fun|22=>260|23=>233|25=>262|3=>3|0=>0|4=>4|n=>n,fun|n=>n⟩
theorem Tryz.ab4:Go.Proofs.SlLaysH0.n6 Tryz.prog Tryz.ab3:={mixed:=by kernel_rfl,f6:=⟨Tryz.f158.name,by decide,Tryz.func158.trans (congrArg some (by kernel_rfl))⟩,t0:=Tryz.underlying0,a0:=Tryz.isAgg0,z0:=Tryz.sizeOf0,v0:=Tryz.zeroValue0,t3:=Tryz.underlying3,a3:=Tryz.isAgg3,z3:=Tryz.sizeOf3,v3:=Tryz.zeroValue3,t4:=Tryz.underlying4,a4:=Tryz.isAgg4,z4:=Tryz.sizeOf4,v4:=Tryz.zeroValue4,t22:=Tryz.underlying260,a22:=Tryz.isAgg260,z22:=Tryz.sizeOf260,v22:=Tryz.zeroValue260,t25:=Tryz.underlying262,a25:=Tryz.isAgg262,z25:=Tryz.sizeOf262,v25:=Tryz.zeroValue262}
def Tryz.ab5:Go.Shelf.Ren:=⟨fun|6=>197|n=>n,fun|22=>25|23=>103|25=>305|3=>3|0=>0|4=>4|n=>n,fun|n=>n⟩
theorem Tryz.ab6:Go.Proofs.SlLaysH0.n6 Tryz.prog Tryz.ab5:={mixed:=by kernel_rfl,f6:=⟨Tryz.f197.name,by decide,Tryz.func197.trans (congrArg some (by kernel_rfl))⟩,t0:=Tryz.underlying0,a0:=Tryz.isAgg0,z0:=Tryz.sizeOf0,v0:=Tryz.zeroValue0,t3:=Tryz.underlying3,a3:=Tryz.isAgg3,z3:=Tryz.sizeOf3,v3:=Tryz.zeroValue3,t4:=Tryz.underlying4,a4:=Tryz.isAgg4,z4:=Tryz.sizeOf4,v4:=Tryz.zeroValue4,t22:=Tryz.underlying25,a22:=Tryz.isAgg25,z22:=Tryz.sizeOf25,v22:=Tryz.zeroValue25,t25:=Tryz.underlying305,a25:=Tryz.isAgg305,z25:=Tryz.sizeOf305,v25:=Tryz.zeroValue305}
end Go.Proofs
namespace Go.Proofs.YtcaiibkgajhohaaGreatDoor
open Go.RowKit
def ft(l:List Nat):Prop:=∀x∈l,x<256
theorem ft.append{a b:List Nat}(ha:ft a)(hb:ft b):ft (a++b):=fun x hx=>by
 rcases List.mem_append.1 hx with h|h
 ·exact ha x h
 ·exact hb x h
theorem ft.sub{a b:List Nat}(h:ft b)(hs:∀x∈a,x∈b):ft a:=fun x hx=>h x (hs x hx)
theorem ft.drop{l:List Nat}(h:ft l)(n:Nat):ft (l.drop n):=fun x hx=>h x (List.mem_of_mem_drop hx)
theorem ft.take{l:List Nat}(h:ft l)(n:Nat):ft (l.take n):=fun x hx=>h x (List.mem_of_mem_take hx)
def fI(c:Nat):Nat:=if 65≤c∧c≤90 then c+32 else c
structure vA(n:Nat)(w:World)(r m:Nat)(arr:Array Value)(wr:World):Prop where
 box:wr.heap[w.heap.size]?=some (.cells arr 283 (0,0))
 size:arr.size=64
 below:Below w.heap.size w wr
 val:m=n/16^r
 one:1≤r→arr[63]?=some (.int .u8 (c_ (n%16):Nat))
 two:2≤r→arr[62]?=some (.int .u8 (c_ (n/16%16):Nat))
def QH(n:Nat)(w:World)(nv av:Value)(wr:World):Prop:=∃r m arr,nv=.int .u64 (m:Nat)∧av=.int .i64 ((64-r:Nat):Int)∧r≤2∧vA n w r m arr wr
theorem vA.cell{n r m:Nat}{w wr:World}{arr:Array Value}(h:vA n w r m arr wr)(j:Nat)(hj:j<64):∃x,wr.cell? ⟨w.heap.size,j,none⟩=some x:=by have hs:=h.size;refine⟨arr[j],?_⟩;simp[World.cell?,h.box]
theorem vA.frozen{n r m:Nat}{w wr:World}{arr:Array Value}(h:vA n w r m arr wr)(j:Nat):wr.frozen? ⟨w.heap.size,j,none⟩=false:=Go.Joins.unfrozen_of_block h.box j
theorem vA.step{n r m:Nat}{w wr:World}{arr:Array Value}(h:vA n w r m arr wr)(hr:r<2):QH n w (.int .u64 ((m/16:Nat):Int)) (.int .i64 ((64-(r+1):Nat):Int)) (wr.setCell ⟨w.heap.size,63-r,none⟩ (.int .u8 (c_ (m%16):Nat))):=by
 have hs:=h.size;have hb:=Go.Joins.block_setCell h.box (i:=63-r) (.int .u8 (c_ (m%16):Nat));refine⟨r+1,m/16,_,rfl,rfl,hr,⟨hb,by simp[hs],h.below.setCell (Nat.le_refl _) _,by rw[h.val,Nat.pow_succ,Nat.div_div_eq_div_mul],fun _=>?_,fun h2=>?_⟩⟩
 ·have hc:r=0∨r=1:=by omega
  rcases hc with rfl|rfl
  ·have:=h.val;simp at this;subst this;simp[hs]
  ·have:=h.one (by omega);simp[this]
 ·obtain rfl:r=1:=by omega
  have:=h.val;simp at this;subst this;simp[hs]
theorem acY(n:Nat)(w:World)(hn:n<256):Calls Tryz.prog 167 #[.int .u64 n,.int .u64 16,.int .i64 2] w fun e w'=>e=.returned (.string ⟨#[UInt8.ofNat (c_ (n/16)),UInt8.ofNat (c_ (n%16))]⟩)∧Below w.heap.size w w':=by
 go_enter Tryz.func167,Tryz.ntmps167;go_wp2_with fail;go_loopw[0,8](QH n w)(fun _ a _=>(intOf a).toNat);case atStart=>exact⟨0,n,_,rfl,rfl,by decide,⟨heap_alloc_new w _,rfl,aj (Below.refl _ _) _,by simp,fun h=>by omega,fun h=>by omega⟩⟩
 case round=>
  obtain⟨r,m,arr,rfl,rfl,hr,hA⟩:=hrel;have hL:=(Array.getElem?_eq_some_iff.1 hA.box).1;obtain⟨S,hS⟩:∃S:ByteArray,(⟨#[48,49,50,51,52,53,54,55,56,57,65,66,67,68,69,70]⟩:ByteArray)=S:=⟨_,rfl⟩;have Aj:S.size=16:=by rw[←hS];rfl
  have HN:Hid (∀d(h:d<S.size),(S[d]'h).toNat=c_ d):=Lib.hid (by subst hS;intro d h;have h':d<16:=h;revert h;(have hj:d=0∨d=1∨d=2∨d=3∨d=4∨d=5∨d=6∨d=7∨d=8∨d=9∨d=10∨d=11∨d=12∨d=13∨d=14∨d=15:=by omega);rcases hj with rfl|rfl|rfl|rfl|rfl|rfl|rfl|rfl|rfl|rfl|rfl|rfl|rfl|rfl|rfl|rfl<;>exact fun _=>rfl);have HA:=Lib.hid hA;have hmv:=hA.val;have hm:m<256:=by have:n/16^r≤n:=Nat.div_le_self _ _;omega
  have xj:r=0∨r=1∨r=2:=by omega
  rw[hS];have HS:=Lib.hid Aj;clear hA hS Aj hmv;have nj:m%16<S.size:=by rw[HS.out];omega
  have Ak:(m:Int)%16<(S.size:Int):=by rw[HS.out];omega
  have xq:((m:Int)%16).toNat=m%16:=by omega
  have hgx:(S[m%16]'nj).toNat=c_ (m%16):=HN.out _ nj;have xA:r=2→m=0:=fun e=>by have:=HA.out.val;rw[e]at this;omega
  rcases xj with rfl|rfl|rfl
  ·obtain⟨x,hx⟩:=HA.out.cell 63 (by decide);have hf:=HA.out.frozen 63;have cM:=HA.out.step (by decide);clear xA;rcases Nat.eq_zero_or_pos m with rfl|h0
   ·have hz:S.size=16:=HS.out;have Al:(S[0]'(by omega)).toNat=c_ 0:=hgx;have dw:0<S.size:=by omega
    have cM:=Lib.hid cM;have HG:=Lib.hid Al;clear Al hgx Ak xq;have Am:=Lib.hid hz;clear hz;go_wp2;rw[HG.out];refine⟨?_,by simp[intOf]⟩;have R:=cM.out;first|exact R|((repeat apply Exists.intro);exact⟨R,rfl⟩)
   ·have t1:decide ((0:Int)<(m:Int))=true:=decide_eq_true (by omega);have aT:decide (0<m)=true:=decide_eq_true h0;rw[show((m/16:Nat):Int)=(m:Int)/16 by omega]at cM;have cM:=Lib.hid cM;have HG:=Lib.hid hgx;clear hgx h0;go_wp2;rw[HG.out];refine⟨?_,by simp[intOf]⟩;have R:=cM.out;first|exact R|((repeat apply Exists.intro);exact⟨R,rfl⟩)
  ·obtain⟨x,hx⟩:=HA.out.cell 62 (by decide);have hf:=HA.out.frozen 62;have cM:=HA.out.step (by decide);clear xA;rcases Nat.eq_zero_or_pos m with rfl|h0
   ·have hz:S.size=16:=HS.out;have Al:(S[0]'(by omega)).toNat=c_ 0:=hgx;have dw:0<S.size:=by omega
    have cM:=Lib.hid cM;have HG:=Lib.hid Al;clear Al hgx Ak xq;have Am:=Lib.hid hz;clear hz;go_wp2;rw[HG.out];refine⟨?_,by simp[intOf]⟩;have R:=cM.out;first|exact R|((repeat apply Exists.intro);exact⟨R,rfl⟩)
   ·have t1:decide ((0:Int)<(m:Int))=true:=decide_eq_true (by omega);have aT:decide (0<m)=true:=decide_eq_true h0;rw[show((m/16:Nat):Int)=(m:Int)/16 by omega]at cM;have cM:=Lib.hid cM;have HG:=Lib.hid hgx;clear hgx h0;go_wp2;rw[HG.out];refine⟨?_,by simp[intOf]⟩;have R:=cM.out;first|exact R|((repeat apply Exists.intro);exact⟨R,rfl⟩)
  ·obtain rfl:=xA rfl;have h1:=HA.out.one (by decide);have h2:=HA.out.two (by decide);have hd:n/16%16=n/16:=Nat.mod_eq_of_lt (by omega);rw[hd]at h2;have hu:∀d,d<16→(UInt8.ofNat (c_ d)).toNat=c_ d:=fun d h=>by(have:c_ d<256:=by unfold c_;split<;>omega);simp;omega
   have e1:=hu (n/16) (by omega);have e2:=hu (n%16) (by omega)
   have cv:=sM wr w.heap.size 62 2 2 ⟨#[UInt8.ofNat (c_ (n/16)),UInt8.ofNat (c_ (n%16))]⟩ rfl (fun j hj=>by
    have hc:j=0∨j=1:=by omega
    rcases hc with rfl|rfl
    ·have:af ⟨#[UInt8.ofNat (c_ (n/16)),UInt8.ofNat (c_ (n%16))]⟩ 0=c_ (n/16):=e1;rw[this];simp[World.cell?,HA.out.box,h2]
    ·have:af ⟨#[UInt8.ofNat (c_ (n/16)),UInt8.ofNat (c_ (n%16))]⟩ 1=c_ (n%16):=e2;rw[this];simp[World.cell?,HA.out.box,h1])
   have HB:=Lib.hid HA.out.below;clear hgx h1 h2 hd hu e1 e2 xA;go_wp2;go_ret;exact⟨rfl,HB.out⟩
theorem ac0(n:Nat)(w:World)(hn:n<256):Calls Tryz.prog 138 #[.int .u64 n,.int .i64 2] w fun e w'=>e=.returned (.string ⟨#[UInt8.ofNat (c_ (n/16)),UInt8.ofNat (c_ (n%16))]⟩)∧Below w.heap.size w w':=by have HW:=Lib.hid (acY n w hn);clear hn;go_enter Tryz.func138,Tryz.ntmps138;go_wp2_with fail;refine HW.out.mono ?_;rintro e w1⟨rfl,hb⟩;have HB:=Lib.hid hb;clear hb;go_wp2;go_ret;exact⟨rfl,HB.out⟩
theorem adJ{P:Program}(w:World){ops:Array Oper}{rest:List Oper}{o:Oper}{a:Act}{Q:Exit→Act→World→Prop}(iX:o.guard=none)(s x:Operand)(t:TypeId)(ho:o.op=.call {callee:=.builtin .append,args:=#[s,x],argTypes:=#[t,t]})(base:Nat){e:TypeId}{z:Value}{size bytes:Nat}(T:iq P t e size bytes z)(v:Value)(n:Nat)(xs:List Value)(hs:a.eval s=v)(az:w.ownsRow base e size v n xs)(ad:Addr)(m c:Nat)(news:List Value)(hx:a.eval x=.slice (some ad) m c)(hl:news.length=m*size)(yA:∀(j:Nat)u,news[j]?=some u→w.cell? (ad.add j)=some u)(h1:∀u∈news,u.oneCell'=true)(oD:n+m≤maxLen)(oE:(n+m)*bytes≤140737488355328)(jU:base≤w.heap.size)(hK:∀v' w',w'.ownsRow base e size v' (n+m) (xs++news)→w.grownBy w' v.ownBlock→(v'.ownBlock=v.ownBlock∨v'.ownBlock=some w.heap.size)→wpList P ops Q rest (a.put o.dst v') w'):wpList P ops Q (o::rest) a w:=by obtain⟨i,hi,hz,hsz,yB⟩:=info_parts T.hi;exact wpList_append_own_at w iX s x t ho base e i z size bytes T.ht hi hz hsz yB T.hz T.h0 v n xs hs az ad m c news hx hl yA h1 oD oE jU (fun v' w' a1 a2 _ a4=>hK v' w' a1 a2 a4)
theorem eK:iq Tryz.prog 96 9 1 16 (.string ⟨#[]⟩):=⟨Tryz.underlying96,by kernel_rfl,rfl,by decide⟩
def bo(l:List ByteArray):List Value:=l.map Value.string
theorem afQ{S:Nat→Prop}{w:World}(l:List ByteArray):bp S w (bo l) (l.map .str):=⟨by simp[bo],fun j u d hu hd=>by
 simp only[bo,List.getElem?_map]at hu hd
 cases hx:l[j]? with
 |none=>rw[hx]at hu;cases hu
 |some x=>rw[hx]at hu hd;cases hu;cases hd;exact .str _⟩
theorem Fc{w:World}{base:Nat}{v:Value}{l:List ByteArray}(h:w.ownsRow base 9 1 v l.length (bo l)):Rd (Own w) w v (.list 1 (l.map .str)):=mY h (afQ l) (fun g hg=>(h.lt g hg).2)
end Go.Proofs.YtcaiibkgajhohaaGreatDoor
