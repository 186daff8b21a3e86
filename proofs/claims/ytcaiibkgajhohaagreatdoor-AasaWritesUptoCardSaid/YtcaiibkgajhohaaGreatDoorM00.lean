/- waybill: lemmas and walks, printed from longer texts. -/
import Derived.WalkKit
import Derived.Lib.Hide
import Derived.Deep.QuietTactic
import Derived.BigQuiet
import Derived.Shelf.Strings.Builder1
import Derived.Shelf.Strings.Builder2
import Derived.Shelf.Strings.OnBuilder
import Derived.Shelf.Small.Bits
import Derived.Shelf.Small.Strs
import Derived.Shelf.Small.Wraps
import Derived.Shelf.Strings.BuilderF
import Derived.Shelf.Strings.BuilderK
import Derived.Shelf.Utf8.AppendRunePlain
import Derived.Shelf.Strconv.Itoa0
import Derived.Shelf.Strings.Search1
import Derived.Shelf.Strings.Search2
import Derived.Shelf.Strings.Search3
import Derived.Shelf.Strings.Cut
import Derived.Shelf.LaysM
import Derived.Shelf.Strings.Shaped
import Derived.Shelf.Strings.Prefix
import Derived.Shelf.Bits.Mul64
import Derived.Shelf.Spec.DecodeRune
import Derived.Shelf.Spec.BitsCarry
import Derived.Test.YtcaiibkgajhohaaGreatDoorProg
namespace Go.Proofs.YtcaiibkgajhohaaGreatDoor
open Go.RowKit
inductive a_ where
 |int(k:IntKind)(n:Int)
 |bool(b:Bool)
 |str(s:ByteArray)
 |list(size:Nat)(cells:List a_)
 |yz
 |ptr(cells:List a_)
 |mW
 |iface(T:TypeId)(d:a_)
inductive Rd(S:Nat→Prop)(w:World):Value→a_→Prop
 |int(k:IntKind)(n:Int):Rd S w (.int k n) (.int k n)
 |bool(b:Bool):Rd S w (.bool b) (.bool b)
 |str(s:ByteArray):Rd S w (.string s) (.str s)
 |kX(a:Option Addr)(c sz:Nat)(fh:a=none→c=0):Rd S w (.slice a 0 c) (.list sz [])
 |list(b off n c sz:Nat)(ds:List a_)(f:Nat→Value)(hS:S b)(hn:0<n)(gG:n≤c)(hl:ds.length=n*sz)(hc:∀j,j<ds.length→w.cell? ⟨b,off+j,none⟩=some (f j))(hd:∀j(h:j<ds.length),Rd S w (f j) ds[j]):Rd S w (.slice (some ⟨b,off,none⟩) n c) (.list sz ds)
 |yz:Rd S w (.pointer none) .yz
 |ptr(b off:Nat)(ds:List a_)(f:Nat→Value)(hS:S b)(hc:∀j,j<ds.length→w.cell? ⟨b,off+j,none⟩=some (f j))(hd:∀j(h:j<ds.length),Rd S w (f j) ds[j]):Rd S w (.pointer (some ⟨b,off,none⟩)) (.ptr ds)
 |mW:Rd S w .nilIface .mW
 |iface(T:TypeId)(v:Value)(d:a_)(h:Rd S w v d):Rd S w (.iface T v) (.iface T d)
def Own(w:World):Nat→Prop:=fun b=>b<w.heap.size
theorem kl{w w':World}{b o:Nat}(h:w'.heap[b]?=w.heap[b]?):w'.cell? ⟨b,o,none⟩=w.cell? ⟨b,o,none⟩:=World.cell?_of_block (a:=⟨b,o,none⟩) h
theorem Rd.mono{S S':Nat→Prop}{w w':World}{v:Value}{d:a_}(h:Rd S w v d)(hk:∀b,S b→w'.heap[b]?=w.heap[b]?)(hS:∀b,S b→S' b):Rd S' w' v d:=by
 induction h with
 |int k n=>exact .int k n
 |bool b=>exact .bool b
 |str s=>exact .str s
 |kX a c sz fh=>exact .kX a c sz fh
 |list b off n c sz ds f pN hn gG hl hc _ ih=>exact .list b off n c sz ds f (hS _ pN) hn gG hl (fun j hj=>by rw[kl (hk b pN)];exact hc j hj) ih
 |yz=>exact .yz
 |ptr b off ds f pN hc _ ih=>exact .ptr b off ds f (hS _ pN) (fun j hj=>by rw[kl (hk b pN)];exact hc j hj) ih
 |mW=>exact .mW
 |iface T v d _ ih=>exact .iface T v d ih
theorem Rd.ext{w w':World}{v:Value}{d:a_}(h:Rd (Own w) w v d)(hb:Below w.heap.size w w'):Rd (Own w') w' v d:=h.mono (fun b hS=>hb.block b hS) (fun _ hS=>Nat.lt_of_lt_of_le hS hb.size)
theorem Rd.wide{S S':Nat→Prop}{w:World}{v:Value}{d:a_}(h:Rd S w v d)(hS:∀b,S b→S' b):Rd S' w v d:=h.mono (fun _ _=>rfl) hS
theorem Rd.set{S:Nat→Prop}{w:World}{v:Value}{d:a_}(h:Rd S w v d){p:Addr}(hne:∀b,S b→b≠p.block)(u:Value):Rd S (w.setCell p u) v d:=h.mono (fun b hS=>Below.heap_setCell w p u b (hne b hS)) (fun _ h=>h)
theorem Rd.alloc{S:Nat→Prop}{w:World}{v:Value}{d:a_}(h:Rd S w v d)(hS:∀b,S b→b<w.heap.size)(o:Obj):Rd S (w.alloc o) v d:=h.mono (fun b hb=>Below.heap_alloc w o b (hS b hb)) (fun _ h=>h)
theorem Rd.drewN{S:Nat→Prop}{w:World}{v:Value}{d:a_}(h:Rd S w v d)(n:Nat):Rd S (w.drewN n) v d:=h.mono (fun _ _=>rfl) (fun _ h=>h)
theorem Wo{P:Program}{f:FuncId}{args:Array Value}{w:World}{n:Nat}{v:Value}(h:Calls P f args (w.drewN n) fun e w'=>e=.returned v∧w.drewN n=w'):Calls P f args (w.drewN n) fun e w''=>e=.returned v∧∃m,w''=w.drewN m:=h.mono fun _ _⟨he,hm⟩=>⟨he,n,hm.symm⟩
theorem aF{a b c:World}(h:Below a.heap.size a b)(k:Below b.heap.size b c):Below a.heap.size a c:=h.trans (k.mono h.size)
theorem aj{a b:World}(h:Below a.heap.size a b)(o:Obj):Below a.heap.size a (b.alloc o):=h.alloc h.size o
theorem eW{a b:World}(n:Nat)(h:Below a.heap.size a b):Below a.heap.size a (b.drewN n):=⟨h.os,h.tape,h.output,h.size,h.block⟩
theorem toList_inj{a b:ByteArray}(h:a.toList=b.toList):a=b:=by rw[ByteArray.toList_eq,ByteArray.toList_eq]at h;cases a;cases b;simpa using Array.toList_inj.1 h
theorem iL{a b:ByteArray}(h:a=b):(a.toList==b.toList)=true:=by rw[h];exact beq_self_eq_true _
theorem mX{a b:ByteArray}(h:a≠b):(a.toList==b.toList)=false:=beq_eq_false_iff_ne.2 (fun e=>h (toList_inj e))
theorem bN{α:Type}(l:List α)(i:Nat)(h:i<l.length):∃x,l[i]?=some x:=⟨l[i],List.getElem?_eq_getElem h⟩
def oB(B:Nat)(w w':World):Prop:=w'.heap.size=w.heap.size∧∀k,k≠B→w'.heap[k]?=w.heap[k]?
theorem oB.refl(B:Nat)(w:World):oB B w w:=⟨rfl,fun _ _=>rfl⟩
theorem oB.set{B:Nat}{w w':World}{o:Nat}{u:Value}(h:oB B w w'):oB B w (w'.setCell ⟨B,o,none⟩ u):=⟨by rw[←h.1];simp[World.setCell],fun k hk=>(Below.heap_setCell w' ⟨B,o,none⟩ u k hk).trans (h.2 k hk)⟩
theorem Rd.only{S S':Nat→Prop}{w w':World}{v:Value}{d:a_}{B:Nat}(h:Rd S w v d)(ho:oB B w w')(hne:∀b,S b→b≠B)(hS:∀b,S b→S' b):Rd S' w' v d:=h.mono (fun b hb=>ho.2 b (hne b hb)) hS
def dY(w w':World):Nat→Prop:=fun b=>w.heap.size≤b∧b<w'.heap.size
theorem Rd.res{w w1 w2 w3:World}{o:Obj}{v:Value}{d:a_}(h:Rd (dY (w.alloc o) w1) w1 v d)(hb:Below w1.heap.size w1 w2)(ho:oB w.heap.size w2 w3):Rd (dY w w3) w3 v d:=h.mono (fun b hS=>by have:=hS.1;simp at this;rw[ho.2 b (by omega)];exact hb.block b hS.2) (fun b hS=>by have h1:=hS.1;have h2:=hS.2;simp at h1;have:=hb.size;have:=ho.1;exact⟨by omega,by omega⟩)
theorem aK{W w1:World}{B b:Nat}(hb:Below B W w1)(h:b<B):∀o,w1.cell? ⟨b,o,none⟩=W.cell? ⟨b,o,none⟩:=fun o=>hb.cell (p:=⟨b,o,none⟩) h
theorem oC{W w1:World}{B b:Nat}(hb:Below B W w1)(h:b<B):∀o,w1.frozen? ⟨b,o,none⟩=W.frozen? ⟨b,o,none⟩:=fun o=>hb.frozen (p:=⟨b,o,none⟩) h
section
variable{S:Nat→Prop}{w:World}{v:Value}
theorem Rd.rf{k:IntKind}{n:Int}(h:Rd S w v (.int k n)):v=.int k n:=by cases h;rfl
theorem Rd.uC{b:Bool}(h:Rd S w v (.bool b)):v=.bool b:=by cases h;rfl
theorem Rd.jS{s:ByteArray}(h:Rd S w v (.str s)):v=.string s:=by cases h;rfl
theorem Rd.pO(h:Rd S w v .mW):v=.nilIface:=by cases h;rfl
theorem Rd.Cp{T:TypeId}{d:a_}(h:Rd S w v (.iface T d)):∃u,v=.iface T u∧Rd S w u d:=by
 cases h with
 |iface _ u _ h=>exact⟨u,rfl,h⟩
theorem Rd.Cq{ds:List a_}(h:Rd S w v (.ptr ds)):∃b off,v=.pointer (some ⟨b,off,none⟩)∧S b∧∀j(hj:j<ds.length),∃u,w.cell? ⟨b,off+j,none⟩=some u∧Rd S w u ds[j]:=by
 cases h with
 |ptr b off ds f hS hc hd=>exact⟨b,off,rfl,hS,fun j hj=>⟨f j,hc j hj,hd j hj⟩⟩
theorem Rd.jT{sz:Nat}{ds:List a_}(h:Rd S w v (.list sz ds)):∃a n c,v=.slice a n c∧ds.length=n*sz∧(a=none→n=0∧c=0)∧n≤c∧(0<n→∃b off,a=some ⟨b,off,none⟩∧S b∧∀j(hj:j<ds.length),∃u,w.cell? ⟨b,off+j,none⟩=some u∧Rd S w u ds[j]):=by
 cases h with
 |kX a c _ fh=>exact⟨a,0,c,rfl,by simp,fun h=>⟨rfl,fh h⟩,Nat.zero_le _,fun h=>by omega⟩
 |list b off n c sz ds f hS hn gG hl hc hd=>exact⟨_,n,c,rfl,hl,nofun,gG,fun _=>⟨b,off,rfl,hS,fun j hj=>⟨f j,hc j hj,hd j hj⟩⟩⟩
theorem Rd.Cr{ss:List ByteArray}(h:Rd S w v (.list 1 (ss.map .str))):∃a c,v=.slice a ss.length c∧(a=none→ss.length=0∧c=0)∧ss.length≤c∧(0<ss.length→∃b off,a=some ⟨b,off,none⟩∧S b∧∀(i:Nat)x,ss[i]?=some x→w.cell? ⟨b,off+i,none⟩=some (.string x)):=by obtain⟨a,n,c,rfl,hl,fh,gG,h⟩:=h.jT;simp only[List.length_map,Nat.mul_one]at hl;subst hl;refine⟨a,c,rfl,fh,gG,fun h0=>?_⟩;obtain⟨b,off,rfl,hS,hc⟩:=h h0;refine⟨b,off,rfl,hS,fun i x hx=>?_⟩;obtain⟨hi,rfl⟩:=List.getElem?_eq_some_iff.1 hx;obtain⟨u,hu,hr⟩:=hc i (by simpa using hi);rw[List.getElem_map]at hr;rw[hu,hr.jS]
theorem Rd.Wp{k:IntKind}{xs:List Int}(h:Rd S w v (.list 1 (xs.map (.int k)))):∃a c,v=.slice a xs.length c∧(a=none→xs.length=0∧c=0)∧xs.length≤c∧(0<xs.length→∃b off,a=some ⟨b,off,none⟩∧S b∧∀(i:Nat)x,xs[i]?=some x→w.cell? ⟨b,off+i,none⟩=some (.int k x)):=by obtain⟨a,n,c,rfl,hl,fh,gG,h⟩:=h.jT;simp only[List.length_map,Nat.mul_one]at hl;subst hl;refine⟨a,c,rfl,fh,gG,fun h0=>?_⟩;obtain⟨b,off,rfl,hS,hc⟩:=h h0;refine⟨b,off,rfl,hS,fun i x hx=>?_⟩;obtain⟨hi,rfl⟩:=List.getElem?_eq_some_iff.1 hx;obtain⟨u,hu,hr⟩:=hc i (by simpa using hi);rw[List.getElem_map]at hr;rw[hu,hr.rf]
theorem Cs{α:Type}{enc:α→List a_}{k:Nat}(hk:∀x,(enc x).length=k):∀xs:List α,(xs.flatMap enc).length=xs.length*k
 |[]=>by simp
 |x::xs=>by rw[List.flatMap_cons,List.length_append,Cs hk xs,hk,List.length_cons,Nat.add_mul];omega
theorem FN{α:Type}{enc:α→List a_}{k:Nat}(hk:∀x,(enc x).length=k):∀(xs:List α)(i j:Nat)(x:α),xs[i]?=some x→j<k→(xs.flatMap enc)[i*k+j]?=(enc x)[j]?
 |[],i,j,x,h,_=>by simp at h
 |y::ys,0,j,x,h,hj=>by simp at h;subst h;rw[List.flatMap_cons,List.getElem?_append_left (by rw[hk];omega)];simp
 |y::ys,i+1,j,x,h,hj=>by simp at h;rw[List.flatMap_cons,List.getElem?_append_right (by rw[hk,Nat.add_mul];omega),hk,←FN hk ys i j x h hj];congr 1;rw[Nat.add_mul];omega
end
def bp(S:Nat→Prop)(w:World)(vs:List Value)(ds:List a_):Prop:=vs.length=ds.length∧∀(j:Nat)u d,vs[j]?=some u→ds[j]?=some d→Rd S w u d
theorem bp.nil{S:Nat→Prop}{w:World}:bp S w [] []:=⟨rfl,fun j u d h=>by simp at h⟩
theorem bp.cons{S:Nat→Prop}{w:World}{v:Value}{d:a_}{vs:List Value}{ds:List a_}(h:Rd S w v d)(hs:bp S w vs ds):bp S w (v::vs) (d::ds):=⟨by simp[hs.1],fun j u e hu he=>by
 cases j with
 |zero=>simp at hu he;subst hu;subst he;exact h
 |succ j=>exact hs.2 j u e (by simpa using hu) (by simpa using he)⟩
theorem bp.append{S:Nat→Prop}{w:World}{vs us:List Value}{ds es:List a_}(h:bp S w vs ds)(hs:bp S w us es):bp S w (vs++us) (ds++es):=⟨by simp[h.1,hs.1],fun j u e hu he=>by
 by_cases hj:j<vs.length
 ·rw[List.getElem?_append_left hj]at hu;rw[List.getElem?_append_left (by rw[←h.1];exact hj)]at he;exact h.2 j u e hu he
 ·rw[List.getElem?_append_right (by omega)]at hu;rw[List.getElem?_append_right (by rw[←h.1];omega),←h.1]at he;exact hs.2 _ u e hu he⟩
theorem bp.mono{S S':Nat→Prop}{w w':World}{vs:List Value}{ds:List a_}(h:bp S w vs ds)(hk:∀b,S b→w'.heap[b]?=w.heap[b]?)(hS:∀b,S b→S' b):bp S' w' vs ds:=⟨h.1,fun j u d hu hd=>(h.2 j u d hu hd).mono hk hS⟩
theorem mY{S:Nat→Prop}{w:World}{base:Nat}{e:TypeId}{sz n:Nat}{v:Value}{vs:List Value}{ds:List a_}(h:w.ownsRow base e sz v n vs)(FO:bp S w vs ds)(hS:∀g,v.ownBlock=some g→S g):Rd S w v (.list sz ds):=by
 obtain⟨hl,hd⟩:=FO;have hlen:=h.1;have hcs:=@World.ownsRow.cells _ _ _ _ _ _ _ h;rcases h.2 with⟨rfl,rfl⟩|⟨g,cap,cur,rfl,_,_,gG,_⟩
 ·simp only[Nat.zero_mul]at hlen;obtain rfl:ds=[]:=List.eq_nil_of_length_eq_zero (by omega);exact .kX _ _ _ (fun _=>rfl)
 ·by_cases h0:n=0
  ·subst h0;simp only[Nat.zero_mul]at hlen;obtain rfl:ds=[]:=List.eq_nil_of_length_eq_zero (by omega);exact .kX _ _ _ nofun
  ·refine .list g 0 n cap sz ds (fun j=>(vs[j]?).getD undef) (hS g rfl) (by omega) gG (by omega) (fun j hj=>?_) (fun j hj=>?_)
   ·have hj':j<vs.length:=by omega
    have:=hcs (g:=g) rfl j vs[j] (List.getElem?_eq_getElem hj');have Cu:(⟨g,0,none⟩:Addr).add j=⟨g,0+j,none⟩:=by unfold Addr.add;split<;>simp_all
    rw[Cu]at this;rw[this];simp[hj']
   ·have hj':j<vs.length:=by omega
    have:=hd j vs[j] ds[j] (List.getElem?_eq_getElem hj') (List.getElem?_eq_getElem hj);simpa[hj']using this
def cz(T:TypeId):List (Int×Int)→a_
 |[]=>.mW
 |(k,a)::r=>.iface T (.ptr [.int .i64 k,.int .i64 a,cz T r])
structure iq(P:Program)(t e:TypeId)(size bytes:Nat)(z:Value):Prop where
 ht:P.underlying t=some (.slice e)
 hi:(P.info? e).map (fun i=>(i.zero,i.size,i.bytes))=some (some z,size,bytes)
 hz:z.cells.size=size
 h0:0<size
theorem Cv{P:Program}(w:World){ops:Array Oper}{rest:List Oper}{o:Oper}{a:Act}{Q:Exit→Act→World→Prop}(iX:o.guard=none)(s x:Operand)(t:TypeId)(ho:o.op=.call {callee:=.builtin .append,args:=#[s,x],argTypes:=#[t,t]})(base:Nat){e:TypeId}{z:Value}{size bytes:Nat}(T:iq P t e size bytes z)(v:Value)(n:Nat)(xs:List Value)(hs:a.eval s=v)(az:w.ownsRow base e size v n xs)(ao:Option Addr)(m c:Nat)(news:List Value)(hx:a.eval x=.slice ao m c)(hl:news.length=m*size)(uD:ao=none→m=0∧c=0)(yA:0<news.length→∃b off,ao=some ⟨b,off,none⟩∧∀(j:Nat)u,news[j]?=some u→w.cell? ⟨b,off+j,none⟩=some u)(h1:∀u∈news,u.oneCell'=true)(oD:n+m≤maxLen)(oE:(n+m)*bytes≤140737488355328)(jU:base≤w.heap.size)(hK:∀v' w',w'.ownsRow base e size v' (n+m) (xs++news)→w.grownBy w' v.ownBlock→wpList P ops Q rest (a.put o.dst v') w'):wpList P ops Q (o::rest) a w:=by
 obtain⟨i,hi,hz,hsz,yB⟩:=info_parts T.hi
 cases ao with
 |none=>obtain⟨rfl,rfl⟩:=uD rfl;have yA:news=[]:=List.eq_nil_of_length_eq_zero (by simpa using hl);subst yA;refine wpList_plain iX fun K hK'=>?_;have hrun:=run_append_owned_none (P:=P) w base t o.type e i size T.ht hi v n xs az;unfold Oper.wp;simp[execOp,ho,resolve,invoke,builtin,hs,hx,hrun,Result.andThen];exact hK' _ _ (hK v w (by simpa using az) (World.grownBy.refl _ _))
 |some ad=>refine wpList_append_own w iX s x t ho base e i z size bytes T.ht hi hz hsz yB T.hz T.h0 v n xs hs az ad m c news hx hl (fun j u hu=>?_) h1 oD oE jU (fun v' w' a1 a2 _=>hK v' w' a1 a2);obtain⟨b,off,hb,hc⟩:=yA (by have:=(List.getElem?_eq_some_iff.1 hu).1;omega);obtain rfl:=Option.some.inj hb;rw[Addr.add_lit];exact hc j u hu
theorem jA{w:World}{a:Addr}{v:Value}(o:Obj)(h:w.cell? a=some v):(w.alloc o).cell? a=some v:=by rw[←h];exact World.cell?_of_block (Below.heap_alloc w o a.block (World.block_lt_of_cell? w a h))
theorem FP(w:World)(arr:Array Value)(t:TypeId):∀(j:Nat)u,arr.toList[j]?=some u→(w.alloc (.cells arr t)).cell? ⟨w.heap.size,0+j,none⟩=some u:=by intro j u hu;rw[cell_of_row _ w.heap.size (0+j) arr t (0,0) (heap_alloc_new w _),Nat.zero_add];simpa using hu
theorem iY{P:Program}(w:World){ops:Array Oper}{rest:List Oper}{o:Oper}{a:Act}{Q:Exit→Act→World→Prop}(arr:Array Value)(te:TypeId)(iX:o.guard=none)(s x:Operand)(t:TypeId)(ho:o.op=.call {callee:=.builtin .append,args:=#[s,x],argTypes:=#[t,t]})(base:Nat){e:TypeId}{z:Value}{size bytes:Nat}(T:iq P t e size bytes z)(v:Value)(n:Nat)(xs:List Value)(hs:a.eval s=v)(az:w.ownsRow base e size v n xs)(hx:a.eval x=.slice (some ⟨w.heap.size,0,none⟩) 1 1)(hsz:arr.size=size)(h1:∀u∈arr.toList,u.oneCell'=true)(oD:n+1≤maxLen)(oE:(n+1)*bytes≤140737488355328)(jU:base≤w.heap.size)(hK:∀v' w',w'.ownsRow base e size v' (n+1) (xs++arr.toList)→(w.alloc (.cells arr te)).grownBy w' v.ownBlock→wpList P ops Q rest (a.put o.dst v') w'):wpList P ops Q (o::rest) a (w.alloc (.cells arr te)):=Cv _ iX s x t ho base T v n xs hs (az.alloc _) _ 1 1 arr.toList hx (by simp[hsz]) nofun (fun _=>⟨_,_,rfl,FP w arr te⟩) h1 oD oE (by simp;omega) hK
theorem Wr{W w w':World}{B:Nat}{base:Nat}{e:TypeId}{sz n:Nat}{v:Value}{xs:List Value}(h:Below B W w)(az:w.ownsRow base e sz v n xs)(hg:w.grownBy w' v.ownBlock)(hB:B≤w.heap.size)(hb:B≤base):Below B W w':=h.grown hg hB (fun k hk=>Nat.le_trans hb (az.lt k hk).1)
end Go.Proofs.YtcaiibkgajhohaaGreatDoor
namespace Go.Proofs
open Go.Shelf
def Tryz.lays7_32_ren:Go.Shelf.Ren:=⟨fun|32=>163|49=>183|n=>n,fun|30=>22|21=>21|3=>3|0=>0|5=>5|4=>4|33=>268|66=>288|25=>217|69=>291|68=>290|n=>n,fun|2=>4|3=>5|n=>n⟩
theorem Tryz.lays7_32:Go.Proofs.Lays7.n32 Tryz.prog Tryz.lays7_32_ren:={mixed:=by kernel_rfl,f32:=Tryz.func163.trans (congrArg some (by kernel_rfl)),f49:=Tryz.func183.trans (congrArg some (by kernel_rfl)),t0:=Tryz.underlying0,a0:=Tryz.isAgg0,z0:=Tryz.sizeOf0,v0:=Tryz.zeroValue0,i0:=by kernel_rfl,t3:=Tryz.underlying3,a3:=Tryz.isAgg3,z3:=Tryz.sizeOf3,v3:=Tryz.zeroValue3,i3:=by kernel_rfl,t4:=Tryz.underlying4,a4:=Tryz.isAgg4,z4:=Tryz.sizeOf4,v4:=Tryz.zeroValue4,i4:=by kernel_rfl,t5:=Tryz.underlying5,a5:=Tryz.isAgg5,z5:=Tryz.sizeOf5,v5:=Tryz.zeroValue5,i5:=by kernel_rfl,t21:=Tryz.underlying21,a21:=Tryz.isAgg21,z21:=Tryz.sizeOf21,v21:=Tryz.zeroValue21,i21:=by kernel_rfl,t25:=Tryz.underlying217,a25:=Tryz.isAgg217,z25:=Tryz.sizeOf217,v25:=Tryz.zeroValue217,i25:=by kernel_rfl,t30:=Tryz.underlying22,a30:=Tryz.isAgg22,z30:=Tryz.sizeOf22,v30:=Tryz.zeroValue22,i30:=by kernel_rfl,t33:=Tryz.underlying268,a33:=Tryz.isAgg268,z33:=Tryz.sizeOf268,v33:=Tryz.zeroValue268,i33:=by kernel_rfl,t66:=Tryz.underlying288,a66:=Tryz.isAgg288,z66:=Tryz.sizeOf288,t68:=Tryz.underlying290,a68:=Tryz.isAgg290,z68:=Tryz.sizeOf290,v68:=Tryz.zeroValue290,i68:=by kernel_rfl,t69:=Tryz.underlying291,a69:=Tryz.isAgg291,z69:=Tryz.sizeOf291,v69:=Tryz.zeroValue291,i69:=by kernel_rfl,g2:=by kernel_rfl,g3:=by kernel_rfl}
open Go.RowKit in theorem Tryz.utf8_DecodeRune(s:ByteArray)(b off cap:Nat)(w:World)(hT:Lib.Utf8Tabs 4 5 w)(hp:∀j,j<s.size→w.cell? ⟨b,off+j,none⟩=some (.int .u8 (s.get! j).toNat)):Calls Tryz.prog 163 #[.slice (some ⟨b,off,none⟩) s.size cap] w fun e w'=>e=.returned (.tuple #[.int .i32 (Lib.decodeGo s).1,.int .i64 (Lib.decodeGo s).2])∧Below w.heap.size w w':=Any7.utf8_DecodeRune Tryz.lays7_32 s b off cap w hT hp
def Tryz.lays7_25_ren:Go.Shelf.Ren:=⟨fun|25=>201|n=>n,fun|22=>243|n=>n,fun|n=>n⟩
theorem Tryz.lays7_25:Go.Proofs.Lays7.n25 Tryz.prog Tryz.lays7_25_ren:={mixed:=by kernel_rfl,f25:=Tryz.func201.trans (congrArg some (by kernel_rfl)),t22:=Tryz.underlying243,a22:=Tryz.isAgg243,z22:=Tryz.sizeOf243,v22:=Tryz.zeroValue243,i22:=by kernel_rfl}
def Tryz.lays169_ren:Go.Shelf.Ren:=⟨fun|169=>110|n=>n,fun|70=>209|9=>9|0=>0|72=>211|37=>22|127=>240|3=>3|5=>5|n=>n,fun|n=>n⟩
theorem Tryz.lays169:Go.Proofs.Lays.n169 Tryz.prog Tryz.lays169_ren:={mixed:=by kernel_rfl,f169:=Tryz.func110.trans (congrArg some (by kernel_rfl)),t0:=Tryz.underlying0,a0:=Tryz.isAgg0,z0:=Tryz.sizeOf0,v0:=Tryz.zeroValue0,t3:=Tryz.underlying3,a3:=Tryz.isAgg3,z3:=Tryz.sizeOf3,v3:=Tryz.zeroValue3,t9:=Tryz.underlying9,a9:=Tryz.isAgg9,z9:=Tryz.sizeOf9,v9:=Tryz.zeroValue9,t37:=Tryz.underlying22,a37:=Tryz.isAgg22,z37:=Tryz.sizeOf22,v37:=Tryz.zeroValue22,t70:=Tryz.underlying209,a70:=Tryz.isAgg209,z70:=Tryz.sizeOf209,v70:=Tryz.zeroValue209,t72:=Tryz.underlying211,a72:=Tryz.isAgg211,z72:=Tryz.sizeOf211,v72:=Tryz.zeroValue211,t127:=Tryz.underlying240,a127:=Tryz.isAgg240,z127:=Tryz.sizeOf240,v127:=Tryz.zeroValue240}
theorem Tryz.rk:Builder.Extra Tryz.prog Tryz.lays169_ren:={sizeBuilder:=by kernel_rfl,liesBuilder:=by kernel_rfl,t5:=Tryz.underlying5,a5:=Tryz.isAgg5,z5:=Tryz.sizeOf5,v5:=Tryz.zeroValue5,infoByte:=by kernel_rfl,cellsByte:=by kernel_rfl,sizeByte:=by kernel_rfl,neB5:=by decide}
open Go.RowKit in theorem Tryz.Builder_String_any(B b:Nat)(l:List UInt8)(w:World)(h:Lib.IsBuilder 211 5 B b (Lib.byteCells l) w)(eZ:B≤w.heap.size):Calls Tryz.prog 110 #[.pointer (some ⟨b,0,none⟩)] w fun e w'=>e=.returned (.string ⟨l.toArray⟩)∧Below B w w':=Any.Builder_String_any Tryz.lays169 Tryz.rk B b l w h eZ
def Tryz.lays156_ren:Go.Shelf.Ren:=⟨fun|156=>74|165=>108|166=>109|169=>110|240=>135|241=>136|276=>165|277=>166|n=>n,fun|31=>96|9=>9|3=>3|4=>4|0=>0|20=>20|72=>211|76=>133|70=>209|37=>22|75=>29|127=>240|164=>148|5=>5|80=>213|n=>n,fun|n=>n⟩
theorem Tryz.lays156:Go.Proofs.Lays.n156 Tryz.prog Tryz.lays156_ren:={mixed:=by kernel_rfl,f156:=Tryz.func74.trans (congrArg some (by kernel_rfl)),f165:=Tryz.func108.trans (congrArg some (by kernel_rfl)),f166:=Tryz.func109.trans (congrArg some (by kernel_rfl)),f169:=Tryz.func110.trans (congrArg some (by kernel_rfl)),f240:=Tryz.func135.trans (congrArg some (by kernel_rfl)),f241:=Tryz.func136.trans (congrArg some (by kernel_rfl)),f276:=Tryz.func165.trans (congrArg some (by kernel_rfl)),f277:=Tryz.func166.trans (congrArg some (by kernel_rfl)),t0:=Tryz.underlying0,a0:=Tryz.isAgg0,z0:=Tryz.sizeOf0,v0:=Tryz.zeroValue0,t3:=Tryz.underlying3,a3:=Tryz.isAgg3,z3:=Tryz.sizeOf3,v3:=Tryz.zeroValue3,t4:=Tryz.underlying4,a4:=Tryz.isAgg4,z4:=Tryz.sizeOf4,v4:=Tryz.zeroValue4,t9:=Tryz.underlying9,a9:=Tryz.isAgg9,z9:=Tryz.sizeOf9,v9:=Tryz.zeroValue9,t20:=Tryz.underlying20,a20:=Tryz.isAgg20,z20:=Tryz.sizeOf20,v20:=Tryz.zeroValue20,t31:=Tryz.underlying96,a31:=Tryz.isAgg96,z31:=Tryz.sizeOf96,v31:=Tryz.zeroValue96,t37:=Tryz.underlying22,a37:=Tryz.isAgg22,z37:=Tryz.sizeOf22,v37:=Tryz.zeroValue22,t70:=Tryz.underlying209,a70:=Tryz.isAgg209,z70:=Tryz.sizeOf209,v70:=Tryz.zeroValue209,t72:=Tryz.underlying211,a72:=Tryz.isAgg211,z72:=Tryz.sizeOf211,v72:=Tryz.zeroValue211,t75:=Tryz.underlying29,a75:=Tryz.isAgg29,z75:=Tryz.sizeOf29,v75:=Tryz.zeroValue29,t76:=Tryz.underlying133,a76:=Tryz.isAgg133,z76:=Tryz.sizeOf133,v76:=Tryz.zeroValue133,t127:=Tryz.underlying240,a127:=Tryz.isAgg240,z127:=Tryz.sizeOf240,v127:=Tryz.zeroValue240,t164:=Tryz.underlying148,a164:=Tryz.isAgg148,z164:=Tryz.sizeOf148,v164:=Tryz.zeroValue148}
theorem Tryz.Mw:Builder.Extra Tryz.prog Tryz.lays156_ren:={sizeBuilder:=by kernel_rfl,liesBuilder:=by kernel_rfl,t5:=Tryz.underlying5,a5:=Tryz.isAgg5,z5:=Tryz.sizeOf5,v5:=Tryz.zeroValue5,infoByte:=by kernel_rfl,cellsByte:=by kernel_rfl,sizeByte:=by kernel_rfl,neB5:=by decide}
open Go.RowKit in theorem Tryz.strings_Join_none(a:Option Addr)(c:Nat)(sep:ByteArray)(w:World):Calls Tryz.prog 74 #[.slice a 0 c,.string sep] w fun e w'=>e=.returned (.string ⟨#[]⟩)∧w'=w:=Any.strings_Join_none Tryz.lays156 Tryz.Mw a c sep w
open Go.RowKit in theorem Tryz.strings_Join(bk o c:Nat)(xs:List ByteArray)(sep:ByteArray)(w:World)(uG:∀(j:Nat)x,xs[j]?=some x→w.cell? ⟨bk,o+j,none⟩=some (.string x))(fR:bk<w.heap.size)(hN:xs.length≤140737488355328)(gY:xs.length≤c)(hlen:(Lib.join (xs.map (·.data.toList)) sep.data.toList).length≤140737488355328):Calls Tryz.prog 74 #[.slice (some ⟨bk,o,none⟩) xs.length c,.string sep] w fun e w'=>e=.returned (.string ⟨(Lib.join (xs.map (·.data.toList)) sep.data.toList).toArray⟩)∧Below w.heap.size w w':=Any.strings_Join Tryz.lays156 Tryz.Mw bk o c xs sep w uG fR hN gY hlen
def Tryz.lays106_ren:Go.Shelf.Ren:=⟨fun|106=>78|213=>114|265=>149|n=>n,fun|9=>9|3=>3|n=>n,fun|n=>n⟩
theorem Tryz.lays106:Go.Proofs.Lays.n106 Tryz.prog Tryz.lays106_ren:={mixed:=by kernel_rfl,f106:=Tryz.func78.trans (congrArg some (by kernel_rfl)),f213:=Tryz.func114.trans (congrArg some (by kernel_rfl)),f265:=Tryz.func149.trans (congrArg some (by kernel_rfl)),t3:=Tryz.underlying3,a3:=Tryz.isAgg3,z3:=Tryz.sizeOf3,v3:=Tryz.zeroValue3,t9:=Tryz.underlying9,a9:=Tryz.isAgg9,z9:=Tryz.sizeOf9,v9:=Tryz.zeroValue9}
open Go.RowKit in theorem Tryz.strings_Compare(a b:ByteArray)(w:World):Calls Tryz.prog 78 #[.string a,.string b] w fun e w'=>e=.returned (.int .i64 (Lib.compareBytes a.data.toList b.data.toList))∧w'=w:=Any.strings_Compare Tryz.lays106 a b w
def Tryz.lays137_ren:Go.Shelf.Ren:=⟨fun|137=>81|217=>116|266=>151|n=>n,fun|9=>9|5=>5|3=>3|n=>n,fun|n=>n⟩
theorem Tryz.lays137:Go.Proofs.Lays.n137 Tryz.prog Tryz.lays137_ren:={mixed:=by kernel_rfl,f137:=Tryz.func81.trans (congrArg some (by kernel_rfl)),f217:=Tryz.func116.trans (congrArg some (by kernel_rfl)),f266:=Tryz.func151.trans (congrArg some (by kernel_rfl)),t3:=Tryz.underlying3,a3:=Tryz.isAgg3,z3:=Tryz.sizeOf3,v3:=Tryz.zeroValue3,t5:=Tryz.underlying5,a5:=Tryz.isAgg5,z5:=Tryz.sizeOf5,v5:=Tryz.zeroValue5,t9:=Tryz.underlying9,a9:=Tryz.isAgg9,z9:=Tryz.sizeOf9,v9:=Tryz.zeroValue9}
open Go.RowKit in theorem Tryz.strings_IndexByte(s:ByteArray)(c:Int)(w:World):Calls Tryz.prog 81 #[.string s,.int .u8 c] w fun e w'=>e=.returned (.int .i64 (Lib.indexByte s.data.toList c.toNat.toUInt8))∧w'=w:=Any.strings_IndexByte Tryz.lays137 s c w
def Tryz.lays103_ren:Go.Shelf.Ren:=⟨fun|103=>33|210=>63|206=>101|n=>n,fun|9=>9|4=>4|24=>80|3=>3|n=>n,fun|n=>n⟩
theorem Tryz.lays103:Go.Proofs.Lays.n103 Tryz.prog Tryz.lays103_ren:={mixed:=by kernel_rfl,f103:=Tryz.func33.trans (congrArg some (by kernel_rfl)),f206:=Tryz.func101.trans (congrArg some (by kernel_rfl)),f210:=Tryz.func63.trans (congrArg some (by kernel_rfl)),t3:=Tryz.underlying3,a3:=Tryz.isAgg3,z3:=Tryz.sizeOf3,v3:=Tryz.zeroValue3,t4:=Tryz.underlying4,a4:=Tryz.isAgg4,z4:=Tryz.sizeOf4,v4:=Tryz.zeroValue4,t9:=Tryz.underlying9,a9:=Tryz.isAgg9,z9:=Tryz.sizeOf9,v9:=Tryz.zeroValue9,t24:=Tryz.underlying80,a24:=Tryz.isAgg80,z24:=Tryz.sizeOf80,v24:=Tryz.zeroValue80}
open Go.RowKit in theorem Tryz.strings_CutPrefix(s p:ByteArray)(w:World):Calls Tryz.prog 33 #[.string s,.string p] w fun e w'=>e=.returned (.tuple #[.string ⟨(Lib.trimPrefix s.data.toList p.data.toList).toArray⟩,.bool (Lib.hasPrefix s.data.toList p.data.toList)])∧w'=w:=Any.strings_CutPrefix Tryz.lays103 s p w
def Tryz.lays242_ren:Go.Shelf.Ren:=⟨fun|242=>176|278=>188|n=>n,fun|37=>22|21=>21|51=>252|4=>4|5=>5|46=>217|n=>n,fun|n=>n⟩
theorem Tryz.lays242:Go.Proofs.Lays.n242 Tryz.prog Tryz.lays242_ren:={mixed:=by kernel_rfl,f242:=Tryz.func176.trans (congrArg some (by kernel_rfl)),f278:=Tryz.func188.trans (congrArg some (by kernel_rfl)),t4:=Tryz.underlying4,a4:=Tryz.isAgg4,z4:=Tryz.sizeOf4,v4:=Tryz.zeroValue4,t5:=Tryz.underlying5,a5:=Tryz.isAgg5,z5:=Tryz.sizeOf5,v5:=Tryz.zeroValue5,t21:=Tryz.underlying21,a21:=Tryz.isAgg21,z21:=Tryz.sizeOf21,v21:=Tryz.zeroValue21,t37:=Tryz.underlying22,a37:=Tryz.isAgg22,z37:=Tryz.sizeOf22,v37:=Tryz.zeroValue22,t46:=Tryz.underlying217,a46:=Tryz.isAgg217,z46:=Tryz.sizeOf217,v46:=Tryz.zeroValue217,t51:=Tryz.underlying252,a51:=Tryz.isAgg252,z51:=Tryz.sizeOf252,v51:=Tryz.zeroValue252}
open Go.RowKit in theorem Tryz.utf8_AppendRune_plain(B:Nat)(v:Value)(n:Nat)(xs:List Value)(r:Int)(nh:-2147483648≤r)(bj:r≤2147483647)(w:World)(az:w.ownsRow B 5 1 v n xs)(hlen:n+4≤140737488355328)(eZ:B≤w.heap.size):Calls Tryz.prog 176 #[v,.int .i32 r] w fun e w'=>∃v',e=.returned v'∧w'.ownsRow B 5 1 v' (n+(Lib.runeCells r).length) (xs++Lib.runeCells r)∧∃o,(w.alloc o).grownBy w' v.ownBlock:=Any.utf8_AppendRune_plain Tryz.lays242 (by kernel_rfl) B v n xs r nh bj w az hlen eZ
def Tryz.lays143_ren:Go.Shelf.Ren:=⟨fun|143=>195|219=>202|217=>116|225=>204|224=>205|267=>206|266=>151|314=>207|n=>n,fun|9=>9|3=>3|4=>4|5=>5|46=>217|146=>310|51=>252|n=>n,fun|1=>2|n=>n⟩
theorem Tryz.lays143:Go.Proofs.Lays.n143 Tryz.prog Tryz.lays143_ren:={mixed:=by kernel_rfl,f143:=Tryz.func195.trans (congrArg some (by kernel_rfl)),f217:=Tryz.func116.trans (congrArg some (by kernel_rfl)),f219:=Tryz.func202.trans (congrArg some (by kernel_rfl)),f224:=Tryz.func205.trans (congrArg some (by kernel_rfl)),f225:=Tryz.func204.trans (congrArg some (by kernel_rfl)),f266:=Tryz.func151.trans (congrArg some (by kernel_rfl)),f267:=Tryz.func206.trans (congrArg some (by kernel_rfl)),f314:=Tryz.func207.trans (congrArg some (by kernel_rfl)),t3:=Tryz.underlying3,a3:=Tryz.isAgg3,z3:=Tryz.sizeOf3,v3:=Tryz.zeroValue3,t4:=Tryz.underlying4,a4:=Tryz.isAgg4,z4:=Tryz.sizeOf4,v4:=Tryz.zeroValue4,t5:=Tryz.underlying5,a5:=Tryz.isAgg5,z5:=Tryz.sizeOf5,v5:=Tryz.zeroValue5,t9:=Tryz.underlying9,a9:=Tryz.isAgg9,z9:=Tryz.sizeOf9,v9:=Tryz.zeroValue9,t46:=Tryz.underlying217,a46:=Tryz.isAgg217,z46:=Tryz.sizeOf217,v46:=Tryz.zeroValue217,t51:=Tryz.underlying252,a51:=Tryz.isAgg252,z51:=Tryz.sizeOf252,v51:=Tryz.zeroValue252,t146:=Tryz.underlying310,a146:=Tryz.isAgg310,z146:=Tryz.sizeOf310,v146:=Tryz.zeroValue310,g1:=by kernel_rfl}
open Go.RowKit Go.Lib in theorem Tryz.strings_Index(s sub:ByteArray)(m:Int)(w:World)(hs:s.size<4294967281)(hm:w.cell? ⟨2,0,none⟩=some (.int .i64 m)):Calls Tryz.prog 195 #[.string s,.string sub] w fun e w'=>e=.returned (.int .i64 (Lib.index s.data.toList sub.data.toList))∧w'=w:=Any.strings_Index Tryz.lays143 s sub m w hs hm
def Tryz.lays145_ren:Go.Shelf.Ren:=⟨fun|145=>196|220=>203|219=>202|217=>116|225=>204|224=>205|267=>206|266=>151|314=>207|n=>n,fun|9=>9|4=>4|59=>302|3=>3|5=>5|46=>217|146=>310|51=>252|n=>n,fun|1=>2|n=>n⟩
theorem Tryz.lays145:Go.Proofs.Lays.n145 Tryz.prog Tryz.lays145_ren:={mixed:=by kernel_rfl,f145:=Tryz.func196.trans (congrArg some (by kernel_rfl)),f217:=Tryz.func116.trans (congrArg some (by kernel_rfl)),f219:=Tryz.func202.trans (congrArg some (by kernel_rfl)),f220:=Tryz.func203.trans (congrArg some (by kernel_rfl)),f224:=Tryz.func205.trans (congrArg some (by kernel_rfl)),f225:=Tryz.func204.trans (congrArg some (by kernel_rfl)),f266:=Tryz.func151.trans (congrArg some (by kernel_rfl)),f267:=Tryz.func206.trans (congrArg some (by kernel_rfl)),f314:=Tryz.func207.trans (congrArg some (by kernel_rfl)),t3:=Tryz.underlying3,a3:=Tryz.isAgg3,z3:=Tryz.sizeOf3,v3:=Tryz.zeroValue3,t4:=Tryz.underlying4,a4:=Tryz.isAgg4,z4:=Tryz.sizeOf4,v4:=Tryz.zeroValue4,t5:=Tryz.underlying5,a5:=Tryz.isAgg5,z5:=Tryz.sizeOf5,v5:=Tryz.zeroValue5,t9:=Tryz.underlying9,a9:=Tryz.isAgg9,z9:=Tryz.sizeOf9,v9:=Tryz.zeroValue9,t46:=Tryz.underlying217,a46:=Tryz.isAgg217,z46:=Tryz.sizeOf217,v46:=Tryz.zeroValue217,t51:=Tryz.underlying252,a51:=Tryz.isAgg252,z51:=Tryz.sizeOf252,v51:=Tryz.zeroValue252,t59:=Tryz.underlying302,a59:=Tryz.isAgg302,z59:=Tryz.sizeOf302,v59:=Tryz.zeroValue302,t146:=Tryz.underlying310,a146:=Tryz.isAgg310,z146:=Tryz.sizeOf310,v146:=Tryz.zeroValue310,g1:=by kernel_rfl}
open Go.RowKit Go.Lib in theorem Tryz.strings_Cut(s sep:ByteArray)(m:Int)(w:World)(hs:s.size<4294967281)(hm:w.cell? ⟨2,0,none⟩=some (.int .i64 m)):Calls Tryz.prog 196 #[.string s,.string sep] w fun e w'=>e=.returned (.tuple #[.string ⟨(Lib.cut s.data.toList sep.data.toList).1.toArray⟩,.string ⟨(Lib.cut s.data.toList sep.data.toList).2.1.toArray⟩,.bool (Lib.cut s.data.toList sep.data.toList).2.2])∧∃n,w'=w.drewN n:=Any.strings_Cut Tryz.lays145 s sep m w hs hm
def Tryz.lays264_ren:Go.Shelf.Ren:=⟨fun|264=>200|n=>n,fun|53=>243|46=>217|n=>n,fun|n=>n⟩
theorem Tryz.lays264:Go.Proofs.Lays.n264 Tryz.prog Tryz.lays264_ren:={mixed:=by kernel_rfl,f264:=Tryz.func200.trans (congrArg some (by kernel_rfl)),t46:=Tryz.underlying217,a46:=Tryz.isAgg217,z46:=Tryz.sizeOf217,v46:=Tryz.zeroValue217,t53:=Tryz.underlying243,a53:=Tryz.isAgg243,z53:=Tryz.sizeOf243,v53:=Tryz.zeroValue243}
open Go.RowKit Go.Lib in theorem Tryz.bits_Mul64(x y:Nat)(hx:x<18446744073709551616)(hy:y<18446744073709551616)(w:World):Calls Tryz.prog 200 #[.int .u64 x,.int .u64 y] w fun e w'=>e=.returned (.tuple #[.int .u64 ((x*y/18446744073709551616:Nat):Int),.int .u64 ((x*y%18446744073709551616:Nat):Int)])∧w'=w:=Any.bits_Mul64 Tryz.lays264 x y hx hy w
end Go.Proofs
