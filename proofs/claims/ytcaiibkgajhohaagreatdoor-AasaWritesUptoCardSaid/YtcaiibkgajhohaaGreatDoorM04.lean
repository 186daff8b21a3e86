/- waybill: lemmas and walks, printed from longer texts. -/
import Derived.Test.YtcaiibkgajhohaaGreatDoorM03
import Derived.Test.YtcaiibkgajhohaaGreatDoorRows
import Derived.ProofKit
import Derived.OpenShut
import Derived.Lib.LaidTab
import Derived.Lib.Bytealg
namespace Go.Proofs.YtcaiibkgajhohaaGreatDoor
open Go.RowKit Go.ChangeShapes Go.WideShapes
variable{H:Type}{enc:TypeId×Value→H}{P:Program}{W:World}{base:Nat}{sp:Nat→Bool}{held:Bool}
def ep(enc:TypeId×Value→H)(P:Program)(W:World)(base:Nat)(sp:Nat→Bool)(held:Bool)(t:TypeId)(α:Type)(cd:α→List a_)(ok:α→Prop)(bk:α→Nat):Prop:=∀fuel cs x,DataW.trod enc P W base sp held fuel t cs=some x→∃a:α,bp (Own W) W cs (cd a)∧ok a∧bk a≤Rows.uptoBulk x.1
theorem uE{t:TypeId}(ht:P.underlying t=some .bool):ep enc P W base sp held t Bool (fun b=>[.bool b]) (fun _=>True) (fun _=>1):=by intro fuel cs x h;obtain⟨n,rfl,rfl⟩:=DataW.trod_bool ht h;exact⟨n,.cons (.bool _) .nil,trivial,by simp[Rows.uptoBulk]⟩
theorem rj{t:TypeId}(ht:P.underlying t=some .string):ep enc P W base sp held t ByteArray (fun s=>[.str s]) (fun s=>s.size≤maxLen) (fun s=>s.size+1):=by intro fuel cs x h;obtain⟨s,rfl,rfl,hw⟩:=DataW.trod_string ht h;exact⟨s,.cons (.str _) .nil,hw,by simp[Rows.uptoBulk]⟩
theorem Mk{β:Type}{bk:β→Nat}:∀(ds:List (DataW H))(bs:List β),ds.length=bs.length→(∀(i:Nat)d b,ds[i]?=some d→bs[i]?=some b→bk b≤Rows.uptoBulk d)→(bs.map bk).sum≤Rows.uptoBulkAll ds
 |[],[],_,_=>by simp[Rows.uptoBulkAll]
 |[],b::bs,h,_=>by simp at h
 |d::ds,[],h,_=>by simp at h
 |d::ds,b::bs,h,hb=>by have h1:=hb 0 d b rfl rfl;have h2:=Mk ds bs (by simpa using h) (fun i d b hd lU=>hb (i+1) d b (by simpa using hd) (by simpa using lU));simp only[List.map_cons,List.sum_cons,Rows.uptoBulkAll];omega
theorem Ml{β:Type}{p:Nat→β→Prop}:∀n,(∀i,i<n→∃b,p i b)→∃bs:List β,bs.length=n∧∀(i:Nat)b,bs[i]?=some b→p i b
 |0,_=>⟨[],rfl,fun i b h=>by simp at h⟩
 |n+1,h=>by
  obtain⟨bs,hl,hb⟩:=Ml n (fun i hi=>h i (by omega));obtain⟨b,lU⟩:=h n (by omega);refine⟨bs++[b],by simp[hl],fun i c hc=>?_⟩;by_cases hi:i<n
  ·rw[List.getElem?_append_left (by omega)]at hc;exact hb i c hc
  ·rw[List.getElem?_append_right (by omega)]at hc;have:i-bs.length=0:=by have:=(List.getElem?_eq_some_iff.1 hc).1;simp at this;omega
   rw[this]at hc;simp at hc;subst hc;obtain rfl:i=n:=by omega
   exact lU
theorem wH{t e:TypeId}{β:Type}{cd:β→List a_}{ok:β→Prop}{bk:β→Nat}{sz:Nat}(ht:P.underlying t=some (.slice e))(hsz:P.cellsOf e=sz)(h0:0<sz)(hl:∀b,(cd b).length=sz)(he:ep enc P W base sp held e β cd ok bk):ep enc P W base sp held t (List β) (fun xs=>[.list sz (xs.flatMap cd)]) (fun xs=>xs.length≤maxLen∧∀x∈xs,ok x) (fun xs=>(xs.map bk).sum+1):=by
 intro fuel cs x h;rcases DataW.trod_slice ht h with⟨rfl,rfl⟩|⟨a,len,cap,elems,rest,n,_,rfl,rfl,hb,Xk,hm,hlen,Xl,_,_⟩
 ·exact⟨[],.cons (.kX _ _ _ (fun _=>rfl)) .nil,⟨Nat.zero_le _,nofun⟩,by simp[Rows.uptoBulk]⟩
 ·have each:∀i,i<len→∃b:β,∃m_,W.cells? base (a.add (i*sz)) sz=some m_∧bp (Own W) W m_ (cd b)∧ok b∧∀y,elems[i]?=some y→bk b≤Rows.uptoBulk y.1:=by intro i hi;have h1:=Xl i hi;rw[hsz]at h1;have hy:elems[i]?=some elems[i]:=List.getElem?_eq_getElem (by omega);rw[hy,Option.bind_eq_some_iff]at h1;obtain⟨m_,hc,hd⟩:=h1;obtain⟨b,q1,q2,q3⟩:=he _ _ _ hd;exact⟨b,m_,hc,q1,q2,fun y h=>by rw[hy]at h;cases h;exact q3⟩
  obtain⟨bs,b9,eO⟩:=Ml len each;refine⟨bs,.cons ?_ .nil,⟨by rw[b9];omega,fun b hb=>?_⟩,?_⟩
  ·by_cases hz:len=0
   ·subst hz;obtain rfl:=List.eq_nil_of_length_eq_zero b9;exact .kX _ _ _ nofun
   ·have cell:∀i b,bs[i]?=some b→∀j d,(cd b)[j]?=some d→∃u,W.cell? ((a.add (i*sz)).add j)=some u∧Rd (Own W) W u d:=by intro i b hb j d hd;obtain⟨m_,hc,hr,_⟩:=eO i b hb;obtain⟨_,dg,hcc⟩:=World.cells?_some hc;(have hj:j<sz:=by have:=(List.getElem?_eq_some_iff.1 hd).1;rw[hl]at this;exact this);have hu:m_[j]?=some m_[j]:=List.getElem?_eq_getElem (by omega);exact⟨_,(hcc j hj).trans hu,hr.2 j _ d hu hd⟩
    obtain⟨b0,dc⟩:=bN bs 0 (by omega);obtain⟨d0,yG⟩:=bN (cd b0) 0 (by rw[hl];exact h0);obtain⟨u0,pQ,_⟩:=cell 0 b0 dc 0 d0 yG
    have hspot:a.spot=none:=by
     simp only[Nat.zero_mul,Addr.add,if_true]at pQ;unfold World.cell? at pQ;split at pQ
     ·cases hs:a.spot with
      |none=>rfl
      |some _=>simp[hs]at pQ
     ·cases pQ
    have az:Own W a.block:=by simp only[Nat.zero_mul,Addr.add,if_true]at pQ;exact World.block_lt_of_cell? W a pQ
    obtain⟨ab,ao,asp⟩:=a;simp only at hspot az;subst hspot
    have key:∀j,j<(bs.flatMap cd).length→∃u,W.cell? ⟨ab,ao+j,none⟩=some u∧∀d,(bs.flatMap cd)[j]?=some d→Rd (Own W) W u d:=by
     intro j hj;rw[Cs hl,b9]at hj;have hq:j/sz<len:=by rw[Nat.div_lt_iff_lt_mul h0];exact hj
     obtain⟨b,hb⟩:=bN bs (j/sz) (by omega);have hr:j%sz<sz:=Nat.mod_lt _ h0;obtain⟨d,hd⟩:=bN (cd b) (j%sz) (by rw[hl];exact hr);obtain⟨u,hu,gm⟩:=cell _ b hb _ d hd;have e:j/sz*sz+j%sz=j:=Nat.div_add_mod' j sz;refine⟨u,?_,fun d' Xm=>?_⟩
     ·rw[Addr.add_lit,Addr.add_lit,Nat.add_assoc,e]at hu;exact hu
     ·have:=FN hl bs (j/sz) (j%sz) b hb hr;rw[e,Xm]at this;rw[hd]at this;cases this;exact gm
    refine .list ab ao len cap sz _ (fun j=>(W.cell? ⟨ab,ao+j,none⟩).getD undef) az (by omega) Xk (by rw[Cs hl,b9]) (fun j hj=>?_) (fun j hj=>?_)
    ·obtain⟨u,hu,_⟩:=key j hj;rw[hu];rfl
    ·obtain⟨u,hu,hr⟩:=key j hj;rw[hu];exact hr _ (List.getElem?_eq_getElem hj)
  ·obtain⟨i,hi⟩:=List.getElem?_of_mem hb;obtain⟨_,_,_,h,_⟩:=eO i b hi;exact h
  ·have:(bs.map bk).sum≤Rows.uptoBulkAll (elems.map (·.1)):=Mk _ bs (by simp[hlen,b9]) (fun i d b hd hb=>by obtain⟨_,_,_,_,h⟩:=eO i b hb;simp at hd;(obtain⟨y,hy,rfl⟩:∃y,elems[i]?=some y∧y.1=d:=by obtain⟨q,hq⟩:=hd;exact⟨_,hq,rfl⟩);exact h y hy);simp only[Rows.uptoBulk];omega
def Cy(enc:TypeId×Value→H)(P:Program)(W:World)(base:Nat)(sp:Nat→Bool)(held:Bool)(fs:List Field)(off tot:Nat)(α:Type)(cd:α→List a_)(ok:α→Prop)(bk:α→Nat):Prop:=∀(n:Nat)(cs:List Value)(xs:List (DataW H×List MemPlace)),xs.length=fs.length→off+tot≤cs.length→(∀(i:Nat)f,fs[i]?=some f→DataW.trod enc P W base sp held n f.type ((cs.drop f.offset).take (P.cellsOf f.type))=xs[i]?)→∃a:α,bp (Own W) W ((cs.drop off).take tot) (cd a)∧ok a∧bk a≤Rows.uptoBulkAll (xs.map (·.1))
theorem wI{off:Nat}:Cy enc P W base sp held [] off 0 Unit (fun _=>[]) (fun _=>True) (fun _=>0):=by intro n cs xs hx _ _;obtain rfl:=List.eq_nil_of_length_eq_zero hx;exact⟨(),by simpa using bp.nil,trivial,Nat.zero_le _⟩
theorem gX{f:Field}{fs:List Field}{off k tot:Nat}{α β:Type}{cd:α→List a_}{ok:α→Prop}{bk:α→Nat}{yH:β→List a_}{ok':β→Prop}{yI:β→Nat}(ho:f.offset=off)(hk:P.cellsOf f.type=k)(h:ep enc P W base sp held f.type α cd ok bk)(hs:Cy enc P W base sp held fs (off+k) tot β yH ok' yI):Cy enc P W base sp held (f::fs) off (k+tot) (α×β) (fun a=>cd a.1++yH a.2) (fun a=>ok a.1∧ok' a.2) (fun a=>bk a.1+yI a.2):=by
 intro n cs xs hx hc hf
 cases xs with
 |nil=>simp at hx
 |cons x xs=>have h0:=hf 0 f rfl;simp only[List.getElem?_cons_zero,ho,hk]at h0;obtain⟨a,r1,o1,b1⟩:=h _ _ _ h0;obtain⟨b,r2,o2,b2⟩:=hs n cs xs (by simpa using hx) (by omega) (fun i g hg=>by simpa using hf (i+1) g (by simpa using hg));refine⟨(a,b),?_,⟨o1,o2⟩,by simp only[List.map_cons,Rows.uptoBulkAll];omega⟩;(have e:(cs.drop off).take (k+tot)=(cs.drop off).take k++(cs.drop (off+k)).take tot:=by rw[List.take_add,List.drop_drop]);rw[e];exact r1.append r2
theorem wJ{t:TypeId}{fs:Array Field}{tot:Nat}{α:Type}{cd:α→List a_}{ok:α→Prop}{bk:α→Nat}(ht:P.underlying t=some (.struct fs))(hc:P.cellsOf t=tot)(h:Cy enc P W base sp held fs.toList 0 tot α cd ok bk):ep enc P W base sp held t α cd ok (fun a=>bk a+1):=by intro fuel cs x hx;obtain⟨xs,n,_,rfl,hl,oH,hf⟩:=DataW.trod_struct ht hx;obtain⟨a,r,o,b⟩:=h n cs xs (by simpa using oH) (by omega) (fun i f hg=>hf i f (by simpa using hg));refine⟨a,?_,o,by simp only[Rows.uptoBulk];omega⟩;(have e:(cs.drop 0).take tot=cs:=by rw[List.drop_zero];exact List.take_of_length_le (by omega));rwa[e]at r
theorem ep.map{t:TypeId}{α β:Type}{cd:α→List a_}{ok:α→Prop}{bk:α→Nat}(h:ep enc P W base sp held t α cd ok bk)(g:α→β){yH:β→List a_}{ok':β→Prop}{yI:β→Nat}(hc:∀a,yH (g a)=cd a)(ho:∀a,ok a→ok' (g a))(hb:∀a,yI (g a)≤bk a):ep enc P W base sp held t β yH ok' yI:=by intro fuel cs x hx;obtain⟨a,r,o,b⟩:=h fuel cs x hx;exact⟨g a,by rw[hc];exact r,ho a o,Nat.le_trans (hb a) b⟩
theorem ep.one{t:TypeId}{α:Type}{cd:α→List a_}{ok:α→Prop}{bk:α→Nat}(h:ep enc P W base sp held t α cd ok bk){v:Value}{d:DataW H}{p:List MemPlace}(hd:DataW.Trod enc P W base sp held t v d p):∃a,bp (Own W) W v.cells.toList (cd a)∧ok a∧bk a≤Rows.uptoBulk d:=by obtain⟨fuel,hf⟩:=hd;exact h fuel _ _ hf
theorem bp.one{S:Nat→Prop}{w:World}{v:Value}{d:a_}(h:bp S w [v] [d]):Rd S w v d:=h.2 0 v d rfl rfl
theorem Mm{W':World}(hl:laidOutB P=true)(hb:Below W.heap.size W W'):∀{ts:List TypeId}{vs:List Value}{ds:List (DataW H)}{ps:List MemPlace},(∀t∈ts,P.readableRec t=true∧t<P.types.size)→DataW.TrodAll enc P W 0 (fun _=>true) true ts vs ds ps→(∀x∈ps,x.block<W.heap.size)→DataW.TrodAll enc P W' 0 (fun b=>decide (b<W.heap.size)) true ts vs ds ps
 |[],[],[],ps,_,h,_=>h
 |t::ts,v::vs,d::ds,ps,ht,h,hlt=>by obtain⟨p,q,hp,hq,rfl⟩:=h;exact⟨p,q,Below.trod hl (ht t (by simp)).1 (ht t (by simp)).2 hp hb (fun x hx=>hlt x (by simp[hx])),Mm hl hb (fun t kZ=>ht t (by simp[kZ])) hq (fun x hx=>hlt x (by simp[hx])),rfl⟩
theorem Xn{fn:Func}{s:ChangeSpec}{f:FuncId}{args:Array Value}{ds gs:List (DataW H)}{before:List MemPlace}{tb:TypeId}(hl:laidOutB P=true)(ht:∀t∈fn.params.toList,P.readableRec t=true∧t<P.types.size)(hr:fn.resultTypes=#[tb])(hb:P.underlying tb=some .bool)(hv:s.vars=[])(hW:DataW.Whole enc P fn.params.toList s.vars false W args.toList ds gs before)(h1:(s.fn H (ds++[])).results=[.lit (.bool true)])(h2:(s.fn H (ds++[])).args=ds)(h3:(s.fn H (ds++[])).vars=[])(calls:Calls P f args W fun e W'=>e=.returned (.bool true)∧Below W.heap.size W W'):Calls P f args W fun e W'=>∃v,e=.returned v∧s.post enc P fn false true false false W args v W':=by
 refine calls.mono fun e W'⟨he,lU⟩=>⟨_,he,?_⟩;have FU:=hW;have hlt:=hW.lt;obtain⟨p,q,hA,hV,rfl,_,_⟩:=hW;rw[hv]at hV;obtain⟨rfl,rfl⟩:=trodVars_none hV;refine⟨ds,[],_,[],p,[],FU,?_,?_,?_,lU.frame _,nofun⟩
 ·rw[h1,hr];exact trodAll_cons_mk (shut_bool hb _) trodAll_mk0
 ·rw[h2];exact Mm hl lU ht hA (fun x hx=>hlt x (by simp[hx]))
 ·rw[hv,h3];rfl
def fD(c:Nat):Nat:=if 48≤c∧c≤57 then c-48 else if 97≤c∧c≤102 then c-87 else if 65≤c∧c≤70 then c-55 else 99
theorem MI(c:Nat):fD c≤99:=by
 unfold fD;split
 ·omega
 ·split
  ·omega
  ·split<;>omega
def gn(base:Nat)(s:ByteArray):Nat→Nat
 |0=>0
 |j+1=>gn base s j*base+fD (af s j)
def nt(base:Nat)(s:ByteArray)(i:Nat):Bool:=decide (base≤fD (af s i))
def pU(base most:Nat)(s:ByteArray):Sc Nat:=if s.size=0 then .no 10 0 else match(List.range s.size).find? (nt base s)with
  |some i=>.no 11 i
  |none=>if most<gn base s s.size then .no 16 0 else .ok (gn base s s.size)
theorem MJ{base most:Nat}{s:ByteArray}{j:Nat}(hj:j<s.size)(hb:nt base s j=true)(h:∀m,m<j→nt base s m=false):pU base most s=.no 11 j:=by(have:(List.range s.size).find? (nt base s)=some j:=by rw[List.find?_range_eq_some];exact⟨hb,List.mem_range.2 hj,fun m hm=>by simp[h m hm]⟩);unfold pU;rw[if_neg (by omega),this]
theorem Gc{base most:Nat}{s:ByteArray}(h0:s.size≠0)(h:∀m,m<s.size→nt base s m=false):pU base most s=if most<gn base s s.size then .no 16 0 else .ok (gn base s s.size):=by(have:(List.range s.size).find? (nt base s)=none:=by rw[List.find?_range_eq_none];exact fun m hm=>by simp[h m hm]);unfold pU;rw[if_neg h0,this]
theorem XW{n base d:Nat}(XY:n<18446744073709551616)(XZ:base<18446744073709551616)(hd:d<18446744073709551616):(0<n*base/18446744073709551616+(n*base%18446744073709551616+d)/18446744073709551616↔18446744073709551616≤n*base+d)∧(n*base+d<18446744073709551616→(n*base%18446744073709551616+d)%18446744073709551616=n*base+d):=by generalize n*base=x;constructor<;>omega
theorem X0(base:Nat)(s:ByteArray)(hb:1≤base)(j:Nat):gn base s j≤gn base s (j+1):=by have:gn base s (j+1)=gn base s j*base+fD (af s j):=rfl;have h2:gn base s j*1≤gn base s j*base:=Nat.mul_le_mul_left _ hb;omega
def strOf(acc:List Nat):ByteArray:=⟨((acc.flatMap bm).map UInt8.ofNat).toArray⟩
def gJ(acc:List Nat):Prop:=∀c∈acc,dv (c:Int)=true
theorem gJ.snoc{acc:List Nat}{c:Nat}(h:gJ acc)(hc:dv (c:Int)=true):gJ (acc++[c]):=by
 intro x hx;rw[List.mem_append]at hx;rcases hx with hx|hx
 ·exact h x hx
 ·rw[List.mem_singleton.1 hx];exact hc
theorem C6{c:Nat}(h:dv (c:Int)=true):c<1114112:=by have:=(k_ _).1 h;omega
theorem YP(n:Nat):(bm n).length≤4:=by
 unfold bm;split
 ·simp
 ·split
  ·simp
  ·split<;>simp
theorem Gx(acc:List Nat):(strOf acc).size=(acc.flatMap bm).length:=by show((acc.flatMap bm).map UInt8.ofNat).toArray.size=_;simp
theorem gJ.take{acc:List Nat}(h:gJ acc)(j:Nat):gJ (acc.take j):=fun c hc=>h c (List.mem_of_mem_take hc)
theorem gJ.get{acc:List Nat}(h:gJ acc){j:Nat}(hj:j<acc.length):dv (acc[j]:Int)=true:=h _ (List.getElem_mem hj)
theorem sO(B:ByteArray):(dC B).length=B.size:=by show(B.data.toList.map (·.toNat)).length=B.data.size;simp
theorem C7{B:ByteArray}{i:Nat}(hi:i<B.size):(dC B)[i]?=some (af B i):=by have hd:i<B.data.size:=hi;unfold dC af;rw[List.getElem?_map,Array.getElem?_toList,Array.getElem?_eq_getElem hd];rfl
theorem YQ{Q:ByteArray}{p c:Nat}(hc:dv (c:Int)=true)(hp:∀m x,(bm c)[m]?=some x→af Q (p+m)=x)(hz:p+(bm c).length≤Q.size):bR Q p=(c,(bm c).length)∧bR Q p≠(65533,1):=by
 have hr:=(k_ _).1 hc
 have key:∀k,(bm c).length=k→1≤k→k≤4→k9 (af Q p) (af Q (p+1)) (af Q (p+2)) (af Q (p+3)) k=(c:Int)→bm c=[af Q p,af Q (p+1),af Q (p+2),af Q (p+3)].take k→bR Q p=(c,k)∧bR Q p≠(65533,1):=by intro k hk h1 h4 hg hl;(have hh:fT (af Q p) (af Q (p+1)) (af Q (p+2)) (af Q (p+3)) k=true:=by unfold fT;rw[hg,hc,Int.toNat_natCast,hl];simp);obtain⟨e1,e2,_⟩:=y_ h1 h4 (by omega) hh;rw[hg,Int.toNat_natCast]at e1;exact⟨e1,e2⟩
 by_cases h1:c<128
 ·have e:bm c=[c]:=by unfold bm;rw[if_pos h1]
  have b0:=hp 0 c (by rw[e];rfl);rw[Nat.add_zero]at b0;rw[e];exact key 1 (by rw[e];rfl) (by omega) (by omega) (by rw[yS];omega) (by rw[e];simp;omega)
 ·by_cases h2:c<2048
  ·have e:bm c=[192+c/64,128+c%64]:=by unfold bm;rw[if_neg h1,if_pos h2]
   have b0:=hp 0 _ (by rw[e];rfl);have b1:=hp 1 _ (by rw[e];rfl);rw[Nat.add_zero]at b0;rw[e];exact key 2 (by rw[e];rfl) (by omega) (by omega) (by rw[Gg];omega) (by rw[e,b0,b1];simp)
  ·by_cases h3:c<65536
   ·have e:bm c=[224+c/4096,128+c/64%64,128+c%64]:=by unfold bm;rw[if_neg h1,if_neg h2,if_pos h3]
    have b0:=hp 0 _ (by rw[e];rfl);have b1:=hp 1 _ (by rw[e];rfl);have b2:=hp 2 _ (by rw[e];rfl);rw[Nat.add_zero]at b0;rw[e];exact key 3 (by rw[e];rfl) (by omega) (by omega) (by rw[Gh];omega) (by rw[e,b0,b1,b2];simp)
   ·have e:bm c=[240+c/262144,128+c/4096%64,128+c/64%64,128+c%64]:=by unfold bm;rw[if_neg h1,if_neg h2,if_neg h3]
    have b0:=hp 0 _ (by rw[e];rfl);have b1:=hp 1 _ (by rw[e];rfl);have b2:=hp 2 _ (by rw[e];rfl);have b3:=hp 3 _ (by rw[e];rfl);rw[Nat.add_zero]at b0;rw[e];exact key 4 (by rw[e];rfl) (by omega) (by omega) (by rw[Gi];omega) (by rw[e,b0,b1,b2,b3];simp)
theorem YR(c:Nat):0<(bm c).length:=by
 unfold bm;split
 ·simp
 ·split
  ·simp
  ·split<;>simp
theorem Gy{Q:ByteArray}:∀(cs:List Nat)(p:Nat)(acc:List Nat),gJ cs→(∀m x,(cs.flatMap bm)[m]?=some x→af Q (p+m)=x)→Q.size=p+(cs.flatMap bm).length→dZ Q p acc=.ok (acc++cs)
 |[],p,acc,_,_,hz=>by rw[wS (by simp at hz;omega),List.append_nil]
 |c::cs,p,acc,ha,hp,hz=>by
  rw[List.flatMap_cons,List.length_append]at hz;have rh:=YR c;obtain⟨e1,e2⟩:=YQ (Q:=Q) (p:=p) (c:=c) (ha c (by simp)) (fun m x hx=>hp m x (by rw[List.flatMap_cons,List.getElem?_append_left (List.getElem?_eq_some_iff.1 hx).1];exact hx)) (by omega);rw[y9 (by omega),if_neg e2,e1]
  have:=Gy cs (p+(bm c).length) (acc++[c]) (fun x hx=>ha x (by simp[hx])) (fun m x hx=>by have:=hp ((bm c).length+m) x (by rw[List.flatMap_cons,List.getElem?_append_right (by omega),Nat.add_sub_cancel_left];exact hx);rw[Nat.add_assoc];exact this) (by omega);rw[this];simp
def cB(a b:List UInt8):Bool:=decide (Go.Lib.compareBytes a b<0)
theorem EV{a b:UInt8}:a<b↔a.toNat<b.toNat:=UInt8.lt_iff_toNat_lt
theorem Tg{a b:UInt8}:a=b↔a.toNat=b.toNat:=⟨fun h=>by rw[h],fun h=>UInt8.toNat_inj.1 h⟩
theorem Bh(a b:UInt8)(lK bs:List UInt8):cB (a::lK) (b::bs)=true↔a<b∨a=b∧cB lK bs=true:=by
 unfold cB;rw[Go.Lib.compareBytes];by_cases h1:a<b
 ·simp[h1]
 ·rw[if_neg h1];by_cases h2:b<a
  ·rw[if_pos h2];have:¬a=b:=fun e=>by subst e;exact h1 h2
   simp[h1,this]
  ·rw[if_neg h2];have:a=b:=Tg.2 (by rw[EV]at h1 h2;omega);simp[this]
theorem Th:∀a:List UInt8,cB a a=false
 |[]=>rfl
 |a::lK=>by
  rw[Bool.eq_false_iff];intro h;rcases(Bh _ _ _ _).1 h with h|⟨_,h⟩
  ·rw[EV]at h;omega
  ·rw[Th lK]at h;cases h
theorem Ti:∀a b c:List UInt8,cB a b=true→cB b c=true→cB a c=true
 |[],[],_,h,_=>by cases h
 |[],b::bs,[],_,h=>by simp[cB,Go.Lib.compareBytes]at h
 |[],b::bs,c::cs,_,_=>rfl
 |a::lK,[],_,h,_=>by simp[cB,Go.Lib.compareBytes]at h
 |a::lK,b::bs,[],_,h=>by simp[cB,Go.Lib.compareBytes]at h
 |a::lK,b::bs,c::cs,h1,h2=>by
  rw[Bh]at h1 h2⊢;rcases h1 with h1|⟨rfl,h1⟩
  ·rcases h2 with h2|⟨rfl,h2⟩
   ·left;rw[EV]at*;omega
   ·exact .inl h1
  ·rcases h2 with h2|⟨rfl,h2⟩
   ·exact .inl h2
   ·exact .inr ⟨rfl,Ti lK bs cs h1 h2⟩
theorem Tj:∀a b:List UInt8,cB a b=false→cB b a=false→a=b
 |[],[],_,_=>rfl
 |[],b::bs,h,_=>by simp[cB,Go.Lib.compareBytes]at h
 |a::lK,[],_,h=>by simp[cB,Go.Lib.compareBytes]at h
 |a::lK,b::bs,h1,h2=>by rw[Bool.eq_false_iff,Ne,Bh]at h1 h2;have e:a=b:=Tg.2 (by have h3:¬a<b:=fun h=>h1 (.inl h);have h4:¬b<a:=fun h=>h2 (.inl h);rw[EV]at h3 h4;omega);subst e;have:=Tj lK bs (by rw[Bool.eq_false_iff];exact fun h=>h1 (.inr ⟨rfl,h⟩)) (by rw[Bool.eq_false_iff];exact fun h=>h2 (.inr ⟨rfl,h⟩));rw[this]
end Go.Proofs.YtcaiibkgajhohaaGreatDoor
