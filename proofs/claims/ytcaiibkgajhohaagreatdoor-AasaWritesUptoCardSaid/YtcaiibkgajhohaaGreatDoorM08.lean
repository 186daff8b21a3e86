/- waybill: lemmas and walks, printed from longer texts. -/
import Derived.Test.YtcaiibkgajhohaaGreatDoorM07
import Derived.Deep.RegionHeld3
set_option maxRecDepth 100000
set_option maxHeartbeats 8000000
namespace Go.Proofs.YtcaiibkgajhohaaGreatDoor
open Go.RowKit
structure JN where
 kind:Int
 key:ByteArray
 text:ByteArray
 at_:Int
structure Op where
 id:Int
 obj:Bool
 st:Int
 key:ByteArray
structure PS where
 js:List JN
 aa:List Nat
 stack:List Op
structure Bd where
 bytes:Int
 deep:Int
 nodes:Int
def eD{α:Type}(t:Tok):Sc α:=if t.kind=0 then .no 10 t.fr else .no 11 t.fr
def iO(o:Op)(t:Tok):Bool:=t.kind==(if o.obj then 2 else 4)
def sP(o:Op):Op:={o with st:=if o.id<0 then 5 else 4}
def jc:List Op→List Op
 |[]=>[]
 |o::r=>sP o::r
def jE(k:Int):Option Int:=if k=1 then some 6 else if k=3 then some 5 else if k=7 then some 4 else if k=8 then some 3 else if k=9 then some 2 else if k=10 then some 1 else if k=11 then some 0 else none
def sQ(B:ByteArray)(k:Int)(t:Tok):ByteArray:=if k=4 then(fa B t).getD ⟨#[]⟩else if k=3 then B.extract t.fr.toNat t.cK.toNat else⟨#[]⟩
def gZ(B:ByteArray)(o:Op)(k:Int)(t:Tok):JN:=⟨k,if o.obj then o.key else⟨#[]⟩,sQ B k t,t.fr⟩
def eE(B:ByteArray)(s:PS)(o:Op)(k:Int)(t:Tok)(st:List Op):PS:=⟨s.js++[gZ B o k t],s.aa++[o.id.toNat],st⟩
def fc(B:ByteArray)(m:Bd)(s:PS)(o:Op)(r:List Op)(t:Tok):Sc PS:=match jE t.kind with
  |none=>eD t
  |some k=>if m.nodes≤s.js.length then .no 15 t.fr else if k<5 then .ok (eE B s o k t (jc (o::r)))else if m.deep<((o::r).length:Nat)then .no 13 t.fr else .ok (eE B s o k t (⟨s.js.length,k==6,0,⟨#[]⟩⟩::o::r))
def jF(B:ByteArray)(s:PS)(o:Op)(r:List Op)(t:Tok):Sc PS:=if t.kind≠7 then eD t else match fa B t with
  |some x=>.ok {s with stack:={o with st:=3,key:=x}::r}
  |none=>.no 32 t.fr
def kx(s:PS)(o:Op)(r:List Op)(t:Tok):Sc PS:=if iO o t then .ok {s with stack:=jc r}else if t.kind≠6 then eD t else .ok {s with stack:={o with st:=if o.obj then 2 else 1}::r}
def ca(B:ByteArray)(m:Bd)(s:PS)(t:Tok):Sc PS:=match s.stack with
  |[]=>.ok s
  |o::r=>if o.st=5 then(if t.kind=0 then .ok s else eD t)else if o.st=3 then(if t.kind=5 then .ok {s with stack:={o with st:=1}::r}else eD t)else if o.st=4 then kx s o r t else if o.st=0 then(if iO o t then .ok {s with stack:=jc r}else if o.obj then jF B s o r t else fc B m s o r t)else if o.st=2 then jF B s o r t else fc B m s o r t
def gq(B:ByteArray)(m:Bd):Nat→Int→PS→Sc PS
 |0,_,s=>.ok s
 |f+1,i,s=>(b_ B i).bind fun t=>(ca B m s t).bind fun s'=>if t.kind=0 then .ok s' else gq B m f t.cK s'
def dQ(B:ByteArray)(m:Bd)(i:Int)(s:PS):Sc PS:=gq B m (B.size-i.toNat+2) i s
def fG:PS:=⟨[],[],[⟨-1,false,1,⟨#[]⟩⟩]⟩
def fU(B:ByteArray)(m:Bd):Sc PS:=if m.bytes<B.size then .no 14 (max m.bytes 0)else dQ B m 0 fG
theorem rq{B:ByteArray}{i:Int}{t:Tok}(h:b_ B i=.ok t):0≤i∧i≤t.fr∧t.fr≤t.cK∧t.cK≤B.size∧0≤t.kind∧(t.kind=0∧t.fr=B.size∨0<t.kind∧t.fr<t.cK):=by
 unfold b_ at h;split at h
 ·cases h
 ·rename_i hi;unfold sH at h;obtain⟨x,hx,he⟩:=Sc.dT h;cases he;have h1:=Cz jV B i.toNat;have h2:=yK jV B i.toNat (by omega);have h3:=XK h2 hx;refine⟨by omega,by simp only;omega,?_,?_,?_,?_⟩
  ·simp only;omega
  ·simp only;omega
  ·simp only;omega
  ·simp only;omega
theorem Zp{B:ByteArray}{i:Int}{t:Tok}(h:b_ B i=.ok t):b_ B t.fr=.ok t:=by
 have hs:=rq h;unfold b_ at h⊢;split at h
 ·cases h
 ·rw[if_neg (by omega)];have h0:=h;unfold sH at h⊢;obtain⟨x,hx,he⟩:=Sc.dT h;have hf:t.fr.toNat=skip jV B i.toNat:=by cases he;simp
  have hk:skip jV B t.fr.toNat=t.fr.toNat:=by rw[hf];exact sE (fun hl=>CA jV B _ _ rfl hl)
  rw[hk,hf];exact h
theorem NG{B:ByteArray}{i:Int}{t:Tok}(h:b_ B i=.ok t)(h7:t.kind=7):∃x,fa B t=some x:=by have h2:=Zp h;obtain⟨p,y,hp,_,_,hy⟩:=Np h2 h7;refine⟨strOf y.1,?_⟩;unfold fa;rw[h2];simp only[h7,and_self,if_true];rw[hp,Int.toNat_natCast,hy]
theorem Zq(B:ByteArray)(m:Bd):∀n f g i s,B.size-i.toNat=n→n<f→n<g→gq B m f i s=gq B m g i s:=by
 intro n
 induction n using Nat.strongRecOn with
 |ind n ih=>
  intro f g i s hn hf hg
  cases f with
  |zero=>omega
  |succ f=>
   cases g with
   |zero=>omega
   |succ g=>
    rw[gq,gq]
    cases hx:b_ B i with
    |no k p=>rfl
    |ok t=>
     simp only[Sc.fA]
     cases hy:ca B m s t with
     |no k p=>rfl
     |ok s'=>
      simp only[Sc.fA];split
      ·rfl
      ·have:=rq hx;exact ih (B.size-t.cK.toNat) (by omega) f g t.cK s' rfl (by omega) (by omega)
theorem wV(B:ByteArray)(m:Bd)(i:Int)(s:PS):dQ B m i s=(b_ B i).bind fun t=>(ca B m s t).bind fun s'=>if t.kind=0 then .ok s' else dQ B m t.cK s':=by
 unfold dQ;rw[show B.size-i.toNat+2=(B.size-i.toNat+1)+1 from rfl,gq]
 cases hx:b_ B i with
 |no k p=>rfl
 |ok t=>
  simp only[Sc.fA]
  cases hy:ca B m s t with
  |no k p=>rfl
  |ok s'=>
   simp only[Sc.fA];split
   ·rfl
   ·have:=rq hx;exact Zq B m _ _ _ _ _ rfl (by omega) (by omega)
def JN.val(x:JN):Value:=.agg #[.int .i64 x.kind,.string x.key,.string x.text,.int .i64 x.at_]
def ze:Value→List Value
 |.agg ⟨[a,b,c,d]⟩=>[a,b,c,d]
 |_=>[.int .i64 0,.int .i64 0,.int .i64 0,.int .i64 0]
theorem zf(v:Value):(ze v).length=4:=by unfold ze;split<;>rfl
def jd(a:aW):List Value:=ze a.val++[.int .i64 a.up,.int .i64 a.first,.int .i64 a.last,.int .i64 a.next,.int .i64 a.deep,.int .i64 a.count]
theorem NH(a:aW):(jd a).length=10:=by simp[jd,zf]
theorem p8(a:aW)(j:Nat):(jd a)[4+j]?=([.int .i64 a.up,.int .i64 a.first,.int .i64 a.last,.int .i64 a.next,.int .i64 a.deep,.int .i64 a.count]:List Value)[j]?:=by unfold jd;rw[List.getElem?_append_right (by rw[zf];omega),zf,Nat.add_sub_cancel_left]
theorem wW(a b:aW)(j:Nat)(x:Value)(hv:b.val=a.val)(h:([.int .i64 b.up,.int .i64 b.first,.int .i64 b.last,.int .i64 b.next,.int .i64 b.deep,.int .i64 b.count]:List Value)=([.int .i64 a.up,.int .i64 a.first,.int .i64 a.last,.int .i64 a.next,.int .i64 a.deep,.int .i64 a.count]:List Value).set j x):jd b=(jd a).set (4+j) x:=by unfold jd;rw[hv,List.set_append_right _ _ (by rw[zf];omega),zf,Nat.add_sub_cancel_left,h]
structure bJ(w:World)(B:Nat)(v:Value)(ns:List aW)(most:Int):Prop where
 box:w.heap[B]?=some (.cells #[v,.int .i64 most] 172 (0,0))
 own:w.ownsRow (B+1) 228 10 v ns.length (ns.flatMap jd)
def TB(B:Nat)(v:Value):Nat→Prop:=fun k=>k=B∨v.ownBlock=some k
section
variable{w w':World}{B:Nat}{v:Value}{ns:List aW}{most:Int}
theorem bJ.lt(h:bJ w B v ns most):B<w.heap.size:=(Array.getElem?_eq_some_iff.1 h.box).1
theorem bJ.cell0(h:bJ w B v ns most):w.cell? ⟨B,0,none⟩=some v:=by simp[World.cell?,h.box]
theorem bJ.cell1(h:bJ w B v ns most):w.cell? ⟨B,1,none⟩=some (.int .i64 most):=by simp[World.cell?,h.box]
theorem bJ.ext(h:bJ w B v ns most)(hb:∀k,k<w.heap.size→TB B v k→w'.heap[k]?=w.heap[k]?):bJ w' B v ns most:=⟨by rw[hb B h.lt (.inl rfl)];exact h.box,bu h.own (fun g hg=>hb g (h.own.lt g hg).2 (.inr hg)) (Nat.le_refl _)⟩
theorem bJ.below(h:bJ w B v ns most)(hb:Below w.heap.size w w'):bJ w' B v ns most:=h.ext (fun k hk _=>hb.block k hk)
theorem bJ.form(h:bJ w B v ns most):∃ao cap,v=.slice ao ns.length cap∧(ns.length=0∧ao=none∨∃g,ao=some ⟨g,0,none⟩∧B<g∧g<w.heap.size):=aM h.own
theorem bJ.GR(h:bJ w B v ns most)(h0:0<ns.length):∃g cap,v=.slice (some ⟨g,0,none⟩) ns.length cap∧B<g∧g<w.heap.size:=by
 obtain⟨ao,cap,rfl,⟨h1,_⟩|⟨g,rfl,h1,h2⟩⟩:=h.form
 ·omega
 ·exact⟨g,cap,rfl,h1,h2⟩
theorem bJ.node{g cap:Nat}(h:bJ w B (.slice (some ⟨g,0,none⟩) ns.length cap) ns most){i:Nat}{a:aW}(hi:ns[i]?=some a):∀j,j<10→w.cell? ⟨g,i*10+j,none⟩=(jd a)[j]?:=fun _ hj=>pY NH h.own hi hj
variable{g cap i:Nat}{a:aW}
theorem bJ.n1(h:bJ w B (.slice (some ⟨g,0,none⟩) ns.length cap) ns most)(hi:ns[i]?=some a):w.cell? ⟨g,i*10+4,none⟩=some (.int .i64 a.up):=(h.node hi 4 (by decide)).trans (p8 a 0)
theorem bJ.n2(h:bJ w B (.slice (some ⟨g,0,none⟩) ns.length cap) ns most)(hi:ns[i]?=some a):w.cell? ⟨g,i*10+5,none⟩=some (.int .i64 a.first):=(h.node hi 5 (by decide)).trans (p8 a 1)
theorem bJ.n3(h:bJ w B (.slice (some ⟨g,0,none⟩) ns.length cap) ns most)(hi:ns[i]?=some a):w.cell? ⟨g,i*10+6,none⟩=some (.int .i64 a.last):=(h.node hi 6 (by decide)).trans (p8 a 2)
theorem bJ.n4(h:bJ w B (.slice (some ⟨g,0,none⟩) ns.length cap) ns most)(hi:ns[i]?=some a):w.cell? ⟨g,i*10+7,none⟩=some (.int .i64 a.next):=(h.node hi 7 (by decide)).trans (p8 a 3)
theorem bJ.n5(h:bJ w B (.slice (some ⟨g,0,none⟩) ns.length cap) ns most)(hi:ns[i]?=some a):w.cell? ⟨g,i*10+8,none⟩=some (.int .i64 a.deep):=(h.node hi 8 (by decide)).trans (p8 a 4)
theorem bJ.n6(h:bJ w B (.slice (some ⟨g,0,none⟩) ns.length cap) ns most)(hi:ns[i]?=some a):w.cell? ⟨g,i*10+9,none⟩=some (.int .i64 a.count):=(h.node hi 9 (by decide)).trans (p8 a 5)
end
theorem zg(B:Nat)(v:Value)(ns:List aW)(most:Int)(id:Int)(w:World)(h:bJ w B v ns most):Calls Tryz.prog 125 #[.pointer (some ⟨B,0,none⟩),.int .i64 id] w fun e w'=>e=.returned (.bool (decide (0≤id∧id<ns.length)))∧w=w':=by
 have c0:=h.cell0;have hl:=h.own.1;obtain⟨ao,cap,rfl,_⟩:=h.form;clear h hl;by_cases h0:0≤id
 ·by_cases h1:id<ns.length
  ·have e:decide (0≤id∧id<(ns.length:Int))=true:=decide_eq_true ⟨h0,h1⟩;rw[e];clear e;go_enter Tryz.func125,Tryz.ntmps125;go_wp2;go_ret;exact⟨rfl,rfl⟩
  ·have e:decide (0≤id∧id<(ns.length:Int))=false:=decide_eq_false (fun h=>h1 h.2);rw[e];clear e;go_enter Tryz.func125,Tryz.ntmps125;go_wp2;go_ret;exact⟨rfl,rfl⟩
 ·have e:decide (0≤id∧id<(ns.length:Int))=false:=decide_eq_false (fun h=>h0 h.1);rw[e];clear e;go_enter Tryz.func125,Tryz.ntmps125;go_wp2;go_ret;exact⟨rfl,rfl⟩
def nC(n:Nat):Array Value:=((bm n).map fun(b:Nat)=>Value.int .u8 (b:Int)).toArray
theorem ZG{a c:Int}(h1:a=c):(#[.int .u8 a]:Array Value)=#[.int .u8 c]:=by rw[h1]
theorem ZH{a b c d:Int}(h1:a=c)(h2:b=d):(#[.int .u8 a,.int .u8 b]:Array Value)=#[.int .u8 c,.int .u8 d]:=by rw[h1,h2]
theorem ZI{a b c d e f:Int}(h1:a=d)(h2:b=e)(h3:c=f):(#[.int .u8 a,.int .u8 b,.int .u8 c]:Array Value)=#[.int .u8 d,.int .u8 e,.int .u8 f]:=by rw[h1,h2,h3]
theorem ZJ{a b c d e f g h:Int}(h1:a=e)(h2:b=f)(h3:c=g)(h4:d=h):(#[.int .u8 a,.int .u8 b,.int .u8 c,.int .u8 d]:Array Value)=#[.int .u8 e,.int .u8 f,.int .u8 g,.int .u8 h]:=by rw[h1,h2,h3,h4]
theorem ZK(n:Nat)(hn:n<1114112)(w:World):Calls Tryz.prog 134 #[.int .i64 n] w fun e w'=>e=.returned (.slice (some ⟨w.heap.size,0,none⟩) (bm n).length (bm n).length)∧w'=w.alloc (.cells (nC n) 5):=by
 by_cases h1:n<128
 ·have t1:decide ((n:Int)<128)=true:=decide_eq_true (by omega);have HE:bm n=[n]:=by unfold bm;rw[if_pos h1]
  have HV:nC n=#[.int .u8 (n:Int)]:=by unfold nC;rw[HE];rfl
  rw[HE,HV];clear HE HV;go_enter Tryz.func134,Tryz.ntmps134;go_wp2;go_ret;exact⟨rfl,congrArg (fun x=>w.alloc (.cells x 5)) (ZG (by omega))⟩
 ·have t1:decide ((n:Int)<128)=false:=decide_eq_false (by omega);by_cases h2:n<2048
  ·have t2:decide ((n:Int)<2048)=true:=decide_eq_true (by omega);have HE:bm n=[192+n/64,128+n%64]:=by unfold bm;rw[if_neg h1,if_pos h2]
   have HV:nC n=#[.int .u8 ((192+n/64:Nat):Int),.int .u8 ((128+n%64:Nat):Int)]:=by unfold nC;rw[HE];rfl
   rw[HE,HV];clear HE HV;go_enter Tryz.func134,Tryz.ntmps134;go_wp2;go_ret;exact⟨rfl,congrArg (fun x=>w.alloc (.cells x 5)) (ZH (by omega) (by omega))⟩
  ·have t2:decide ((n:Int)<2048)=false:=decide_eq_false (by omega);by_cases h3:n<65536
   ·have t3:decide ((n:Int)<65536)=true:=decide_eq_true (by omega);have HE:bm n=[224+n/4096,128+n/64%64,128+n%64]:=by unfold bm;rw[if_neg h1,if_neg h2,if_pos h3]
    have HV:nC n=#[.int .u8 ((224+n/4096:Nat):Int),.int .u8 ((128+n/64%64:Nat):Int),.int .u8 ((128+n%64:Nat):Int)]:=by unfold nC;rw[HE];rfl
    rw[HE,HV];clear HE HV;go_enter Tryz.func134,Tryz.ntmps134;go_wp2;go_ret;exact⟨rfl,congrArg (fun x=>w.alloc (.cells x 5)) (ZI (by omega) (by omega) (by omega))⟩
   ·have t3:decide ((n:Int)<65536)=false:=decide_eq_false (by omega);have HE:bm n=[240+n/262144,128+n/4096%64,128+n/64%64,128+n%64]:=by unfold bm;rw[if_neg h1,if_neg h2,if_neg h3]
    have HV:nC n=#[.int .u8 ((240+n/262144:Nat):Int),.int .u8 ((128+n/4096%64:Nat):Int),.int .u8 ((128+n/64%64:Nat):Int),.int .u8 ((128+n%64:Nat):Int)]:=by unfold nC;rw[HE];rfl
    rw[HE,HV];clear HE HV;go_enter Tryz.func134,Tryz.ntmps134;go_wp2;go_ret;exact⟨rfl,congrArg (fun x=>w.alloc (.cells x 5)) (ZJ (by omega) (by omega) (by omega) (by omega))⟩
theorem ZU{S:Nat→Prop}{w:World}{v:Value}{B:ByteArray}(h:Rd S w v (dF B)):(convert 22 9 v).run Tryz.prog w=.ok (.string B) w:=by
 obtain⟨a,c,rfl,_,_,hx⟩:=h.eY;by_cases h0:0<B.size
 ·obtain⟨b,off,rfl,_,hx⟩:=hx h0;exact sM w b off B.size c B rfl hx
 ·obtain rfl:=YW h0;rw[run_convert_bytes_string w 22 9 5 a _ c Tryz.underlying22 Tryz.underlying5 Tryz.underlying9]
  cases a with
  |none=>simp[Conv.bytesToString]
  |some a=>exact run_bytesToString w a 0 c [] (by simp[loadCells,loadCellsFrom])
theorem zq{S:Nat→Prop}{w:World}{b cap:Nat}{B:ByteArray}(hS:S b)(gY:B.size≤cap)(h:∀i,i<B.size→w.cell? ⟨b,i,none⟩=some (.int .u8 (af B i))):Rd S w (.slice (some ⟨b,0,none⟩) B.size cap) (dF B):=by
 by_cases h0:B.size=0
 ·have e:=ML h0;subst e;exact .kX _ _ _ nofun
 ·refine .list b 0 B.size cap 1 _ (fun j=>.int .u8 (af B j)) hS (by omega) gY (by simp) (fun j hj=>?_) (fun j hj=>?_)
  ·rw[Nat.zero_add];exact h j (by simpa using hj)
  ·have hj':j<B.data.size:=by simpa using hj
   have e:(B.data.toList.map fun x=>a_.int .u8 ((x.toNat:Nat):Int))[j]=a_.int .u8 (af B j):=by simp only[List.getElem_map,Array.getElem_toList];unfold af;rw[Array.getElem?_eq_getElem hj'];rfl
   rw[e];exact .int _ _
structure Fits(k:FuncId)(f:Nat→Nat→Bool):Prop where
 enters:∀args w,(callFunc k args).run Tryz.prog w=.ok (.enter k args) w
 calls:∀(i c:Nat)w,i≤1100000→c<256→Calls Tryz.prog k #[.int .i64 i,.int .u8 c] w fun e w'=>e=.returned (.bool (f i c))∧w=w'
def qj(s:ByteArray)(most:Nat)(f:Nat→Nat→Bool)(i:Nat):Bool:=decide (most≤i)||!f i (af s i)
def rG(s:ByteArray)(most:Nat)(f:Nat→Nat→Bool)(whole:Bool):List (Int×Int):=match(List.range s.size).find? (qj s most f)with
  |some i=>[(if most≤i then 14 else 11,(i:Int))]
  |none=>if whole then[]else[(10,(s.size:Int))]
theorem O9{s:ByteArray}{most:Nat}{f:Nat→Nat→Bool}{whole:Bool}{j:Nat}(hj:j<s.size)(hb:qj s most f j=true)(h:∀m,m<j→qj s most f m=false):rG s most f whole=[(if most≤j then 14 else 11,(j:Int))]:=by(have:(List.range s.size).find? (qj s most f)=some j:=by rw[List.find?_range_eq_some];exact⟨hb,List.mem_range.2 hj,fun m hm=>by simp[h m hm]⟩);simp[rG,this]
theorem aa4{s:ByteArray}{most:Nat}{f:Nat→Nat→Bool}{whole:Bool}(h:∀m,m<s.size→qj s most f m=false):rG s most f whole=if whole then[]else[(10,(s.size:Int))]:=by(have:(List.range s.size).find? (qj s most f)=none:=by rw[List.find?_range_eq_none];exact fun m hm=>by simp[h m hm]);simp[rG,this]
def O_(s:ByteArray)(most:Nat)(f:Nat→Nat→Bool)(W:World)(i:Value)(wr:World):Prop:=wr=W∧∃j:Nat,i=.int .i64 j∧j≤s.size∧∀m,m<j→qj s most f m=false
theorem aa5(k:FuncId)(f:Nat→Nat→Bool)(hf:Fits k f)(s:ByteArray)(most:Nat)(whole:Bool)(w:World)(hs:s.size≤1100000)(_hm:most≤1100000):Calls Tryz.prog 177 #[.string s,.int .i64 most,.func (.func k) #[] #[],.bool whole] w fun e w'=>∃v,e=.returned v∧Rd (dY w w') w' v (cz 85 (rG s most f whole))∧Below w.heap.size w w':=by
 have hcv:=run_bytes_of_string (P:=Tryz.prog) w 9 22 5 s Tryz.underlying9 Tryz.underlying22 Tryz.underlying5;generalize gY:grownCap w s.size 0 5=cap at hcv;obtain⟨W0,dU⟩:∃W,w.drew.alloc (.cells (bytesRow s cap) 5 ((bytesRow s cap).size,(bytesRow s cap).size+1))=W:=⟨_,rfl⟩;rw[dU]at hcv;have dc:Below w.heap.size w W0:=by rw[←dU];exact⟨rfl,rfl,rfl,by simp,fun k hk=>Below.heap_alloc w.drew _ k hk⟩
 have hcell:∀i,i<s.size→W0.cell? ⟨w.heap.size,i,none⟩=some (.int .u8 (af s i)):=fun i hi=>by have eB:i<s.data.size:=hi;have:=bytesRow_at s cap i eB;rw[←dU,af,Array.getElem?_eq_getElem eB];have hx:(w.drew.alloc (.cells (bytesRow s cap) 5 ((bytesRow s cap).size,(bytesRow s cap).size+1))).heap[w.heap.size]?=some (.cells (bytesRow s cap) 5 ((bytesRow s cap).size,(bytesRow s cap).size+1)):=heap_alloc_new w.drew _;rw[cell_of_row _ w.heap.size i _ _ _ hx];simpa using this
 have bT:w.heap.size<W0.heap.size:=by rw[←dU];simp
 have HC:=Lib.hid hcell;have HB:=Lib.hid dc;have ZB:=hf.enters;clear hcell dc dU gY;go_enter Tryz.func177,Tryz.ntmps177;go_wp2_with fail;go_loopw[14](O_ s most f W0)(fun i _=>s.size-(intOf i).toNat);case atStart=>exact⟨rfl,0,rfl,Nat.zero_le _,fun m h=>by omega⟩
 case round=>
  obtain⟨rfl,j,rfl,hj,hn⟩:=hrel;clear hcv;by_cases hlt:j<s.size
  ·have x0:=HC.out j hlt;have hc:=dm s j;by_cases sS:most≤j
   ·have E:=Lib.hid (O9 (whole:=whole) hlt (by simp[qj,sS]) hn);have t:decide ((most:Int)≤(j:Int))=true:=decide_eq_true (by omega);clear hn;go_wp2_with fail;refine(ri 14 j _).mono ?_;rintro e w1⟨rfl,lu⟩;have r:=Rd.Cx 14 (j:Int) wr;rw[←lu]at r;have hb:Below w.heap.size w w1:=by rw[lu];exact aj HB.out _
    have r:=r.wide (S':=dY w w1) (fun b e=>⟨by have:=HB.out.size;omega,by rw[lu];simp;omega⟩);have HR:=Lib.hid r;have aQ:=Lib.hid hb;clear r hb lu;go_wp2;go_ret;exact⟨_,rfl,by rw[E.out,if_pos sS];exact HR.out,aQ.out⟩
   ·have t:decide ((most:Int)≤(j:Int))=false:=decide_eq_false (by omega);have HN:=Lib.hid hn;clear hn;go_wp2_with fail;refine(hf.calls j (af s j) _ (by omega) hc).mono ?_;rintro e w1⟨rfl,rfl⟩
    cases DI:f j (af s j)with
    |true=>
     have R:O_ s most f wr (.int .i64 (j+1)) wr:=⟨rfl,j+1,by go_num,by omega,fun m hm=>by
      by_cases e:m=j
      ·subst e;simp[qj,sS,DI]
      ·exact HN.out m (by omega)⟩
     have HR:=Lib.hid R;clear R DI;go_wp2;refine⟨?_,by simp[intOf];omega⟩;have R:=HR.out;first|exact R|((repeat apply Exists.intro);exact⟨R,rfl⟩)
    |false=>have E:=Lib.hid (O9 (whole:=whole) hlt (by simp[qj,DI]) HN.out);clear DI;go_wp2_with fail;refine(ri 11 j _).mono ?_;rintro e w1⟨rfl,lu⟩;have r:=Rd.Cx 11 (j:Int) wr;rw[←lu]at r;(have hb:Below w.heap.size w w1:=by rw[lu];exact aj HB.out _);have r:=r.wide (S':=dY w w1) (fun b e=>⟨by have:=HB.out.size;omega,by rw[lu];simp;omega⟩);have HR:=Lib.hid r;have aQ:=Lib.hid hb;clear r hb lu;go_wp2;go_ret;exact⟨_,rfl,by rw[E.out,if_neg sS];exact HR.out,aQ.out⟩
  ·obtain rfl:j=s.size:=by omega
   have E:=Lib.hid (aa4 (whole:=whole) hn);clear hn
   cases whole with
   |true=>go_wp2;go_ret;exact⟨.nilIface,rfl,by rw[E.out];simp only[if_true,cz];exact .mW,HB.out⟩
   |false=>go_wp2_with fail;refine(ri 10 s.size _).mono ?_;rintro e w1⟨rfl,lu⟩;have r:=Rd.Cx 10 (s.size:Int) wr;rw[←lu]at r;(have hb:Below w.heap.size w w1:=by rw[lu];exact aj HB.out _);have r:=r.wide (S':=dY w w1) (fun b e=>⟨by have:=HB.out.size;omega,by rw[lu];simp;omega⟩);have HR:=Lib.hid r;have aQ:=Lib.hid hb;clear r hb lu;go_wp2;go_ret;exact⟨_,rfl,by rw[E.out,if_neg (by simp)];exact HR.out,aQ.out⟩
def vx(x:Nat):Prop:=97≤x∧x≤122∨48≤x∧x≤57
structure eT where
 delta:Nat
 dS:Nat
 h:Nat
 out:List Nat
def kK(s t:eT):Prop:=∃X,t.out=s.out++X∧(∀x∈X,vx x)∧(X=[]→t.h=s.h)
theorem kK.refl(s:eT):kK s s:=⟨[],(List.append_nil _).symm,fun x h=>by simp at h,fun _=>rfl⟩
theorem kK.trans{a b c:eT}(h:kK a b)(k:kK b c):kK a c:=by
 obtain⟨X,h1,h2,h3⟩:=h;obtain⟨Y,k1,k2,k3⟩:=k;refine⟨X++Y,by rw[k1,h1,List.append_assoc],fun x hx=>?_,fun he=>?_⟩
 ·rcases List.mem_append.1 hx with h|h
  ·exact h2 x h
  ·exact k2 x h
 ·rw[List.append_eq_nil_iff]at he;rw[k3 he.2,h3 he.1]
section
variable{B:ByteArray}{m:Bd}{i:Int}{s s':PS}{t:Tok}{k:Nat}{p:Int}{js:List JN}{aa:List Nat}{o:Op}{r:List Op}
theorem EU{k:Int}(h:jE t.kind=some k):t.kind≠0:=fun e=>by rw[e]at h;cases h
end
end Go.Proofs.YtcaiibkgajhohaaGreatDoor
