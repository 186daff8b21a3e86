/- waybill: lemmas and walks, printed from longer texts. -/
import Derived.Test.YtcaiibkgajhohaaGreatDoorM42
import Derived.Test.YtcaiibkgajhohaaGreatDoorM44
set_option maxRecDepth 100000
namespace Go.Proofs.YtcaiibkgajhohaaGreatDoor
open Go.RowKit
structure Tw(w0 w:World)(X:Nat)(f:Fl)(v5 v6:Value)(n5 n6:Nat)(ns vs:List ByteArray)(W:World):Prop where
 bq:dX w0 W X f
 only:ag (fun b=>b=X) w W
 dj:W.ownsRow w.heap.size 9 1 v5 n5 (bo ns)
 dD:W.ownsRow w.heap.size 9 1 v6 n6 (bo vs)
 sep:∀g,v5.ownBlock=some g→v6.ownBlock≠some g
 x:X<w.heap.size
 qW:ns.length=n5
 uk:vs.length=n6
section
variable{w0 w W W' W2:World}{X n5 n6:Nat}{f g:Fl}{v5 v6 v2:Value}{ns vs:List ByteArray}{o:Obj}
theorem Fs(hp:dX w0 w X f):Tw w0 w X f (.slice (some ⟨w.heap.size,0,none⟩) 0 0) (.slice (some ⟨w.heap.size+1,0,none⟩) 0 0) 0 0 [] [] ((w.alloc (.cells #[] 9)).alloc (.cells #[] 9)):=by
 have e1:(w.alloc (.cells #[] 9)).heap.size=w.heap.size+1:=Array.size_push _;have hb:Below w.heap.size w ((w.alloc (.cells #[] 9)).alloc (.cells #[] 9)):=aj (aj (Below.refl _ _) _) _;refine⟨hp.ext hb,ag.of hb,?_,?_,?_,hp.lt,rfl,rfl⟩
 ·exact(World.ownsRow_made (e:=9) (size:=1) w #[] 0 (Nat.le_refl _) (Nat.zero_le _) (by simp)).alloc _
 ·have h:=World.ownsRow_made (base:=w.heap.size) (e:=9) (size:=1) (w.alloc (.cells #[] 9)) #[] 0 (by rw[e1];exact Nat.le_succ _) (Nat.zero_le _) (by simp);rw[e1]at h;exact h
 ·intro g h1 h2;have h1:some w.heap.size=some g:=h1;have h2:some (w.heap.size+1)=some g:=h2;have h3:=Option.some.inj h1;have h4:=Option.some.inj h2;omega
theorem Tw.call(h:Tw w0 w X f v5 v6 n5 n6 ns vs W)(hp:dX w0 W' X g)(ho:ag (fun b=>b=X) W W'):Tw w0 w X g v5 v6 n5 n6 ns vs W':=by have hx:=h.x;exact⟨hp,h.only.trans ho,bu h.dj (fun k hk=>ho.block k (h.dj.lt k hk).2 (fun e=>by have:=(h.dj.lt k hk).1;omega)) (Nat.le_refl _),bu h.dD (fun k hk=>ho.block k (h.dD.lt k hk).2 (fun e=>by have:=(h.dD.lt k hk).1;omega)) (Nat.le_refl _),h.sep,h.x,h.qW,h.uk⟩
theorem Tw.ext(h:Tw w0 w X f v5 v6 n5 n6 ns vs W)(hb:Below W.heap.size W W'):Tw w0 w X f v5 v6 n5 n6 ns vs W':=h.call (h.bq.ext hb) (ag.of hb)
theorem Vg(h:dX w0 W X f)(hO:ag (fun b=>b=X) w W)(hx:X<w.heap.size)(hw:w0.heap.size≤w.heap.size){v:Value}(hv:∀k,v.ownBlock=some k→w.heap.size≤k)(hg:(W.alloc o).grownBy W2 v.ownBlock):dX w0 W2 X f∧ag (fun b=>b=X) w W2:=⟨(h.ext (aj (Below.refl _ W) o)).turn (T:=fun b=>v.ownBlock=some b) ((ag.refl _ (W.alloc o)).grown hg (fun k e _=>e)) (fun k e=>by have:=hv k e;exact⟨by omega,by omega⟩),(hO.alloc o).grown hg (fun k e hl=>by have:=hv k e;omega)⟩
theorem Tw.name(h:Tw w0 w X f v5 v6 n5 n6 ns vs W)(k:ByteArray)(ho:W2.ownsRow w.heap.size 9 1 v2 (n5+1) (bo ns++(#[Value.string k]:Array Value).toList))(hg:(W.alloc o).grownBy W2 v5.ownBlock)(cf:v5.ownBlock=v2.ownBlock∨v2.ownBlock=some (W.heap.size+1))(hw:w0.heap.size≤w.heap.size):Tw w0 w X f v2 v6 (n5+1) n6 (ns++[k]) vs W2:=by
 have hE:ag (fun b=>v5.ownBlock=some b) W W2:=((ag.refl _ W).alloc o).grown hg (fun k e _=>e);obtain⟨hp,hO⟩:=Vg h.bq h.only h.x hw (fun k e=>(h.dj.lt k e).1) hg;refine⟨hp,hO,by simpa[bo]using ho,bu h.dD (fun q hq=>hE.block q (h.dD.lt q hq).2 (fun e=>h.sep q e hq)) (Nat.le_refl _),fun q h1 h2=>?_,h.x,by rw[List.length_append,h.qW];rfl,h.uk⟩;rcases cf with e|e
 ·exact h.sep q (e.trans h1) h2
 ·have h3:=Option.some.inj (e.symm.trans h1);have h4:=(h.dD.lt q h2).2;omega
theorem Tw.val(h:Tw w0 w X f v5 v6 n5 n6 ns vs W)(k:ByteArray)(ho:W2.ownsRow w.heap.size 9 1 v2 (n6+1) (bo vs++(#[Value.string k]:Array Value).toList))(hg:(W.alloc o).grownBy W2 v6.ownBlock)(cf:v6.ownBlock=v2.ownBlock∨v2.ownBlock=some (W.heap.size+1))(hw:w0.heap.size≤w.heap.size):Tw w0 w X f v5 v2 n5 (n6+1) ns (vs++[k]) W2:=by
 have hE:ag (fun b=>v6.ownBlock=some b) W W2:=((ag.refl _ W).alloc o).grown hg (fun k e _=>e);obtain⟨hp,hO⟩:=Vg h.bq h.only h.x hw (fun k e=>(h.dD.lt k e).1) hg;refine⟨hp,hO,bu h.dj (fun q hq=>hE.block q (h.dj.lt q hq).2 (fun e=>h.sep q hq e)) (Nat.le_refl _),by simpa[bo]using ho,fun q h1 h2=>?_,h.x,h.qW,by rw[List.length_append,h.uk];rfl⟩;rcases cf with e|e
 ·exact h.sep q h1 (e.trans h2)
 ·have h3:=Option.some.inj (e.symm.trans h2);have h4:=(h.dj.lt q h1).2;omega
theorem Tw.text(h:Tw w0 w X f v5 v6 n5 n6 ns vs W)(s:ByteArray)(hs:s.size≤1048576):Calls Tryz.prog 80 #[.pointer (some ⟨X,0,none⟩),.string s] W fun e w'=>e=.returned (.string (aG s))∧Tw w0 w X (f.add (!aN s) false) v5 v6 n5 n6 ns vs w':=(KQ w0 W X f s h.bq hs).mono (fun _e _w'⟨h1,h2,h3⟩=>⟨h1,h.call h2 h3⟩)
theorem Tw.obj(h:Tw w0 w X f v5 v6 n5 n6 ns vs W)(hn:n5=n6)(hk:∀p∈ns,p.size≤1048576)(hz:cj (ns.zip vs)≤100000000000000)(hm:n5≤1100000):Calls Tryz.prog 45 #[.pointer (some ⟨X,0,none⟩),v5,v6] W fun e w'=>∃T,e=.returned (.string T)∧Tx (cj (ns.zip vs)) (!db ns) (dW (ns.zip vs)) T∧dX w0 w' X (f.add (cH ns) (db ns))∧ag (fun b=>b=X) w w':=by have hx:=h.x;(have h5:W.ownsRow (X+1) 9 1 v5 ns.length (bo ns):=by rw[h.qW];exact bu h.dj (fun _ _=>rfl) (by omega));(have h6:W.ownsRow (X+1) 9 1 v6 vs.length (bo vs):=by rw[h.uk];exact bu h.dD (fun _ _=>rfl) (by omega));exact(yd w0 W X f v5 v6 ns vs h.bq h5 h6 (by rw[h.qW,h.uk,hn]) hk hz (by rw[h.qW];exact hm)).mono (fun e w'⟨T,a,b,c,d⟩=>⟨T,a,b,c,h.only.trans d⟩)
end
theorem BV:∀l:List KV,(l.map (·.1)).zip (l.map (·.2))=l
 |[]=>rfl
 |p::l=>by simp only[List.map_cons,List.zip_cons_cons,BV l]
def Ft(x:aZ)(qs:List KV):List KV:=aU x.bz dH (aG x.path)++qs++aU x.bM ee (aG x.bw)++aU x.cU fY kc++aU x.fold ew eo++aU x.dG fe eo
theorem ag7(x:aZ)(qs:List KV):(Ft x qs).Perm (qR x (aG x.bw) (aG x.path) qs):=by unfold Ft qR;refine List.Perm.append_right _ ?_;(have h1:(aU x.bz dH (aG x.path)++qs++aU x.bM ee (aG x.bw)).Perm (aU x.bM ee (aG x.bw)++aU x.bz dH (aG x.path)++qs):=by rw[List.append_assoc (aU x.bM ee _)];exact List.perm_append_comm);(have h2:∀a b c d:List KV,a.Perm d→(a++b++c).Perm (d++c++b):=fun a b c d h=>by rw[List.append_assoc,List.append_assoc];exact h.append List.perm_append_comm);exact h2 _ _ _ _ h1
theorem ag8(x:aZ){qs:List KV}(hq:uh x qs):U3 x (Ft x qs):=by
 have h:=U8 x (Tf:=aG x.bw) (Tp:=aG x.path) (⟨tY _,fun _=>rfl⟩) (⟨tY _,fun _=>rfl⟩) hq;have hp:=ag7 x qs;refine⟨by rw[Ks (hp.map (·.1))];exact h.bad,by rw[Kq (hp.map (·.1))];exact h.dup,by rw[E2 hp];exact h.size,fun p hm=>h.keys p (hp.mem_iff.1 hm),by rw[hp.length_eq];exact h.len,fun a b=>?_⟩;rw[afx hp (TI ?_)]
 ·exact h.eq a b
 ·have:=h.dup;unfold db at this;simpa using this
theorem Vh(l:List eI):(l.map (·.name)).zip (l.map fun i=>aG i.value)=lL l:=by
 unfold lL
 induction l with
 |nil=>rfl
 |cons p l ih=>simp only[List.map_cons,List.zip_cons_cons,ih]
theorem Vi(l:List eI):(lL l).map (·.1)=l.map (·.name):=by unfold lL;rw[List.map_map];rfl
theorem Vj(x:aZ):cj (lL x.items)≤lN x:=by unfold cj lN lL;rw[List.map_map];have h:=qN (g:=(fun p:KV=>aJ p.1+p.2.size+2)∘fun i:eI=>(i.name,aG i.value)) (h:=fun i:eI=>aJ i.name+aJ i.value+2) x.items (fun i _=>by show aJ i.name+(aG i.value).size+2≤_;have:=tY i.value;omega);omega
theorem ag9(x:aZ)(hq:x.cS=false){T:ByteArray}(hT:Tx (cj (lL x.items)) (!db (x.items.map (·.name))) (dW (lL x.items)) T):Tx (lN x) (!fg x&&!di x) (ug x) T:=by refine⟨Nat.le_trans hT.size (Vj x),fun ho=>?_⟩;rw[Bool.and_eq_true]at ho;have h2:=ho.2;unfold di at h2;rw[hq]at h2;rw[hT.eq (by simpa using h2)];unfold ug;rw[if_neg (by rw[hq];simp)]
theorem ag_(x:aZ)(hq:x.cS=false)(F:Fl):(F.add (x.items.any fun i=>!aN i.value) false).add (cH (x.items.map (·.name))) (db (x.items.map (·.name)))=F.add (fg x) (di x):=by have:=Va x hq (kvs:=lL x.items) (Vi _) F;rw[Vi]at this;exact this
open Go.ChangeShapes Go.WideShapes
section
variable{H:Type}{enc:TypeId×Value→H}{W:World}
abbrev uz:=ByteArray×ByteArray×Bool×Unit
abbrev sw:=ByteArray×ByteArray×ByteArray×Bool×Bool×Bool×List uz×Bool×Bool×Bool×Unit
abbrev uA:=ByteArray×ByteArray×Unit
abbrev sx:=List uA×List sw×Unit
abbrev sy:=ByteArray×List ByteArray×Unit
abbrev yq:=List sx×List sy×Unit
def Cl(a:uz):List a_:=[.str a.1,.str a.2.1,.bool a.2.2.1]
def Cm(a:sw):List a_:=[.str a.1,.str a.2.1,.str a.2.2.1,.bool a.2.2.2.1,.bool a.2.2.2.2.1,.bool a.2.2.2.2.2.1,.list 3 (a.2.2.2.2.2.2.1.flatMap Cl),.bool a.2.2.2.2.2.2.2.1,.bool a.2.2.2.2.2.2.2.2.1,.bool a.2.2.2.2.2.2.2.2.2.1]
def Cn(a:uA):List a_:=[.str a.1,.str a.2.1]
def yr(a:sx):List a_:=[.list 2 (a.1.flatMap Cn),.list 10 (a.2.1.flatMap Cm)]
def yt(a:sy):List a_:=[.str a.1,.list 1 (a.2.1.flatMap fun s=>[.str s])]
def Ma(a:yq):List a_:=[.list 2 (a.1.flatMap yr),.list 2 (a.2.1.flatMap yt)]
def wC(a:uz):eI:=⟨a.1,a.2.1⟩
def wD(a:sw):aZ:=⟨a.1,a.2.1,a.2.2.1,a.2.2.2.1,a.2.2.2.2.1,a.2.2.2.2.2.1,a.2.2.2.2.2.2.1.map wC,a.2.2.2.2.2.2.2.1,a.2.2.2.2.2.2.2.2.1,a.2.2.2.2.2.2.2.2.2.1⟩
def sA(a:uA):aS:=⟨a.1,a.2.1⟩
def uB(a:sx):dr:=⟨a.1.map sA,a.2.1.map wD⟩
def sB(a:sy):cW:=⟨a.1,a.2.1⟩
def Wn(a:yq):ie:=⟨a.1.map uB,a.2.1.map sB⟩
def pL(a:uz):Nat:=a.1.size+a.2.1.size+3
def mT(a:sw):Nat:=a.1.size+a.2.1.size+a.2.2.1.size+(a.2.2.2.2.2.2.1.map pL).sum+10
def pM(a:uA):Nat:=a.1.size+a.2.1.size+3
def oz(a:sx):Nat:=(a.1.map pM).sum+(a.2.1.map mT).sum+3
def mV(a:sy):Nat:=a.1.size+(a.2.1.map fun s=>s.size+1).sum+2
def yu(a:yq):Nat:=(a.1.map oz).sum+(a.2.1.map mV).sum+2
theorem ain:ep enc Tryz.prog W 0 (fun _=>true) true 92 uz Cl (fun _=>True) pL:=ep.map (wJ Tryz.underlying92 (tot:=1+(1+(1+0))) (by kernel_rfl) (gX rfl (by kernel_rfl) (rj Tryz.underlying9) (gX rfl (by kernel_rfl) (rj Tryz.underlying9) (gX rfl (by kernel_rfl) (uE Tryz.underlying4) wI)))) id (fun _=>rfl) (fun _ _=>trivial) (fun a=>by simp only[id,pL];omega)
theorem aio:ep enc Tryz.prog W 0 (fun _=>true) true 38 (List uz) (fun xs=>[.list 3 (xs.flatMap Cl)]) (fun xs=>xs.length≤maxLen∧∀x∈xs,True) (fun xs=>(xs.map pL).sum+1):=wH Tryz.underlying38 (by kernel_rfl) (by decide) (fun _=>rfl) ain
theorem aip:ep enc Tryz.prog W 0 (fun _=>true) true 40 sw Cm (fun _=>True) mT:=ep.map (wJ Tryz.underlying40 (tot:=1+(1+(1+(1+(1+(1+(1+(1+(1+(1+0)))))))))) (by kernel_rfl) (gX rfl (by kernel_rfl) (rj Tryz.underlying9) (gX rfl (by kernel_rfl) (rj Tryz.underlying9) (gX rfl (by kernel_rfl) (rj Tryz.underlying9) (gX rfl (by kernel_rfl) (uE Tryz.underlying4) (gX rfl (by kernel_rfl) (uE Tryz.underlying4) (gX rfl (by kernel_rfl) (uE Tryz.underlying4) (gX rfl (by kernel_rfl) aio (gX rfl (by kernel_rfl) (uE Tryz.underlying4) (gX rfl (by kernel_rfl) (uE Tryz.underlying4) (gX rfl (by kernel_rfl) (uE Tryz.underlying4) wI))))))))))) id (fun _=>rfl) (fun _ _=>trivial) (fun a=>by simp only[id,mT];omega)
theorem aiq:ep enc Tryz.prog W 0 (fun _=>true) true 33 (List sw) (fun xs=>[.list 10 (xs.flatMap Cm)]) (fun xs=>xs.length≤maxLen∧∀x∈xs,True) (fun xs=>(xs.map mT).sum+1):=wH Tryz.underlying33 (by kernel_rfl) (by decide) (fun _=>rfl) aip
theorem air:ep enc Tryz.prog W 0 (fun _=>true) true 37 uA Cn (fun _=>True) pM:=ep.map (wJ Tryz.underlying37 (tot:=1+(1+0)) (by kernel_rfl) (gX rfl (by kernel_rfl) (rj Tryz.underlying9) (gX rfl (by kernel_rfl) (rj Tryz.underlying9) wI))) id (fun _=>rfl) (fun _ _=>trivial) (fun a=>by simp only[id,pM];omega)
theorem ais:ep enc Tryz.prog W 0 (fun _=>true) true 32 (List uA) (fun xs=>[.list 2 (xs.flatMap Cn)]) (fun xs=>xs.length≤maxLen∧∀x∈xs,True) (fun xs=>(xs.map pM).sum+1):=wH Tryz.underlying32 (by kernel_rfl) (by decide) (fun _=>rfl) air
theorem ait:ep enc Tryz.prog W 0 (fun _=>true) true 35 sx yr (fun _=>True) oz:=ep.map (wJ Tryz.underlying35 (tot:=1+(1+0)) (by kernel_rfl) (gX rfl (by kernel_rfl) ais (gX rfl (by kernel_rfl) aiq wI))) id (fun _=>rfl) (fun _ _=>trivial) (fun a=>by simp only[id,oz];omega)
theorem aiu:ep enc Tryz.prog W 0 (fun _=>true) true 24 (List sx) (fun xs=>[.list 2 (xs.flatMap yr)]) (fun xs=>xs.length≤maxLen∧∀x∈xs,True) (fun xs=>(xs.map oz).sum+1):=wH Tryz.underlying24 (by kernel_rfl) (by decide) (fun _=>rfl) ait
theorem aiv:ep enc Tryz.prog W 0 (fun _=>true) true 96 (List ByteArray) (fun xs=>[.list 1 (xs.flatMap fun s=>[.str s])]) (fun xs=>xs.length≤maxLen∧∀x∈xs,x.size≤maxLen) (fun xs=>(xs.map fun s=>s.size+1).sum+1):=wH Tryz.underlying96 (by kernel_rfl) (by decide) (fun _=>rfl) (rj Tryz.underlying9)
theorem aiw:ep enc Tryz.prog W 0 (fun _=>true) true 103 sy yt (fun _=>True) mV:=ep.map (wJ Tryz.underlying103 (tot:=1+(1+0)) (by kernel_rfl) (gX rfl (by kernel_rfl) (rj Tryz.underlying9) (gX rfl (by kernel_rfl) aiv wI))) id (fun _=>rfl) (fun _ _=>trivial) (fun a=>by simp only[id,mV];omega)
theorem aix:ep enc Tryz.prog W 0 (fun _=>true) true 25 (List sy) (fun xs=>[.list 2 (xs.flatMap yt)]) (fun xs=>xs.length≤maxLen∧∀x∈xs,True) (fun xs=>(xs.map mV).sum+1):=wH Tryz.underlying25 (by kernel_rfl) (by decide) (fun _=>rfl) aiw
theorem aiy:ep enc Tryz.prog W 0 (fun _=>true) true 27 yq Ma (fun _=>True) yu:=ep.map (wJ Tryz.underlying27 (tot:=1+(1+0)) (by kernel_rfl) (gX rfl (by kernel_rfl) aiu (gX rfl (by kernel_rfl) aix wI))) id (fun _=>rfl) (fun _ _=>trivial) (fun a=>by simp only[id,yu];omega)
end
section
variable{W:World}{v:Value}{X:Nat}
theorem yv{α β:Type}{f:α→List a_}{k:Nat}{g:α→β}{l:List α}(hf:∀x,(f x).length=k)(hk:0<k)(h:Rd (Own W) W v (.list k (l.flatMap f)))(hX:W.heap.size≤X):∃a c,v=.slice a (l.map g).length c∧∀(j:Nat)y,(l.map g)[j]?=some y→∃x b o,y=g x∧a=some ⟨b,o,none⟩∧b≠X∧b<W.heap.size∧∀i d,(f x)[i]?=some d→∃u,W.cell? ⟨b,o+(j*k+i),none⟩=some u∧Rd (Own W) W u d:=by obtain⟨a,c,rfl,h2⟩:=aim hf hk h;refine⟨a,c,by rw[List.length_map],fun j y hy=>?_⟩;rw[List.getElem?_map]at hy;obtain⟨x,hx,rfl⟩:=Option.map_eq_some_iff.1 hy;obtain⟨b,o,ha,hS,hc⟩:=h2 j x hx;have yF:b<W.heap.size:=hS;exact⟨x,b,o,rfl,ha,by omega,yF,hc⟩
theorem aiz{l:List uz}(h:Rd (Own W) W v (.list 3 (l.flatMap Cl)))(hX:W.heap.size≤X):qS X W v (l.map wC):=by obtain⟨a,c,hv,h⟩:=yv (f:=Cl) (g:=wC) (fun _=>rfl) (by decide) h hX;refine⟨a,c,hv,fun j y hy=>?_⟩;obtain⟨x,b,o,rfl,ha,hn,hl,hc⟩:=h j y hy;obtain⟨u0,c0,r0⟩:=hc 0 _ rfl;obtain⟨u1,c1,r1⟩:=hc 1 _ rfl;obtain⟨u2,c2,r2⟩:=hc 2 _ rfl;cases r0.jS;cases r1.jS;cases r2.uC;exact⟨b,o,_,ha,hn,hl,c0,c1,c2⟩
theorem aiA{l:List uA}(h:Rd (Own W) W v (.list 2 (l.flatMap Cn)))(hX:W.heap.size≤X):sm X W v (l.map sA):=by obtain⟨a,c,hv,h⟩:=yv (f:=Cn) (g:=sA) (fun _=>rfl) (by decide) h hX;refine⟨a,c,hv,fun j y hy=>?_⟩;obtain⟨x,b,o,rfl,ha,hn,hl,hc⟩:=h j y hy;obtain⟨u0,c0,r0⟩:=hc 0 _ rfl;obtain⟨u1,c1,r1⟩:=hc 1 _ rfl;cases r0.jS;cases r1.jS;exact⟨b,o,ha,hn,hl,c0,c1⟩
theorem aiB{l:List ByteArray}(h:Rd (Own W) W v (.list 1 (l.flatMap fun s=>[.str s])))(hX:W.heap.size≤X):ou X W v l:=by obtain⟨a,c,hv,h⟩:=yv (f:=fun s=>[a_.str s]) (g:=id) (fun _=>rfl) (by decide) h hX;rw[List.map_id]at hv h;refine⟨a,c,hv,fun j y hy=>?_⟩;obtain⟨x,b,o,rfl,ha,hn,hl,hc⟩:=h j y hy;obtain⟨u0,c0,r0⟩:=hc 0 _ rfl;cases r0.jS;rw[Nat.mul_one]at c0;exact⟨b,o,ha,hn,hl,c0⟩
theorem aiC{l:List sw}(h:Rd (Own W) W v (.list 10 (l.flatMap Cm)))(hX:W.heap.size≤X):sk X W v (l.map wD):=by
 obtain⟨a,c,hv,h⟩:=yv (f:=Cm) (g:=wD) (fun _=>rfl) (by decide) h hX;refine⟨a,c,hv,fun j y hy=>?_⟩;obtain⟨x,b,o,rfl,ha,hn,hl,hc⟩:=h j y hy;obtain⟨u0,c0,r0⟩:=hc 0 _ rfl;obtain⟨u1,c1,r1⟩:=hc 1 _ rfl;obtain⟨u2,c2,r2⟩:=hc 2 _ rfl;obtain⟨u3,c3,r3⟩:=hc 3 _ rfl;obtain⟨u4,c4,r4⟩:=hc 4 _ rfl;obtain⟨u5,c5,r5⟩:=hc 5 _ rfl;obtain⟨u6,c6,r6⟩:=hc 6 _ rfl;obtain⟨u7,c7,r7⟩:=hc 7 _ rfl;obtain⟨u8,c8,r8⟩:=hc 8 _ rfl;obtain⟨u9,c9,r9⟩:=hc 9 _ rfl;cases r0.jS;cases r1.jS
 cases r2.jS;cases r3.uC;cases r4.uC;cases r5.uC;cases r7.uC;cases r8.uC;cases r9.uC;refine⟨b,o,u6,ha,hn,hl,fun i hi=>?_,aiz r6 hX⟩;have eB:i=0∨i=1∨i=2∨i=3∨i=4∨i=5∨i=6∨i=7∨i=8∨i=9:=by omega
 rw[Nat.add_assoc];rcases eB with rfl|rfl|rfl|rfl|rfl|rfl|rfl|rfl|rfl|rfl
 ·exact c0
 ·exact c1
 ·exact c2
 ·exact c3
 ·exact c4
 ·exact c5
 ·exact c6
 ·exact c7
 ·exact c8
 ·exact c9
theorem aiD{l:List sx}(h:Rd (Own W) W v (.list 2 (l.flatMap yr)))(hX:W.heap.size≤X):qY X W v (l.map uB):=by obtain⟨a,c,hv,h⟩:=yv (f:=yr) (g:=uB) (fun _=>rfl) (by decide) h hX;refine⟨a,c,hv,fun j y hy=>?_⟩;obtain⟨x,b,o,rfl,ha,hn,hl,hc⟩:=h j y hy;obtain⟨u0,c0,r0⟩:=hc 0 _ rfl;obtain⟨u1,c1,r1⟩:=hc 1 _ rfl;exact⟨b,o,u0,u1,ha,hn,hl,c0,c1,aiA r0 hX,aiC r1 hX⟩
theorem aiE{l:List sy}(h:Rd (Own W) W v (.list 2 (l.flatMap yt)))(hX:W.heap.size≤X):qZ X W v (l.map sB):=by obtain⟨a,c,hv,h⟩:=yv (f:=yt) (g:=sB) (fun _=>rfl) (by decide) h hX;refine⟨a,c,hv,fun j y hy=>?_⟩;obtain⟨x,b,o,rfl,ha,hn,hl,hc⟩:=h j y hy;obtain⟨u0,c0,r0⟩:=hc 0 _ rfl;obtain⟨u1,c1,r1⟩:=hc 1 _ rfl;cases r0.jS;exact⟨b,o,u1,ha,hn,hl,c0,c1,aiB r1 hX⟩
end
section
variable{α:Type}{f g:α→Nat}
theorem yw{l:List α}{x:α}(h:x∈l):f x≤(l.map f).sum:=by
 induction l with
 |nil=>cases h
 |cons y l ih=>
  rw[List.map_cons,List.sum_cons];rcases List.mem_cons.1 h with rfl|h
  ·omega
  ·have:=ih h;omega
theorem yx{l:List α}(h:∀x,1≤f x):l.length≤(l.map f).sum:=by
 induction l with
 |nil=>simp
 |cons y l ih=>have:=h y;rw[List.map_cons,List.sum_cons,List.length_cons];omega
theorem yy{l:List α}{k:Nat}(h:∀x,f x≤k*g x):(l.map f).sum≤k*(l.map g).sum:=by
 induction l with
 |nil=>simp
 |cons y l ih=>have:=h y;rw[List.map_cons,List.sum_cons,List.map_cons,List.sum_cons,Nat.mul_add];omega
end
theorem aiF(x:sw):fQ (wD x)+1≤100*mT x:=by have h:=yy (f:=fun i:uz=>aJ (wC i).name+aJ (wC i).value+2) (g:=pL) (k:=100) (l:=x.2.2.2.2.2.2.1) (fun i=>by simp only[aJ,wC,pL];omega);simp only[fQ,aJ,wD,mT,List.map_map]at h⊢;simp only[Function.comp_def]at h⊢;omega
theorem aiG(x:sx):fw (uB x)+1≤100*oz x:=by have h:=yy (f:=fun a:uA=>aJ (cw (sA a))+1) (g:=pM) (k:=100) (l:=x.1) (fun a=>by(have:(cw (sA a)).size=a.1.size+1+a.2.1.size:=by simp only[cw,sA,ByteArray.size_append];rfl);simp only[aJ,this,pM];omega);have h2:=yy (f:=fun a:sw=>fQ (wD a)+1) (g:=mT) (k:=100) (l:=x.2.1) aiF;simp only[fw,uB,oz,List.map_map]at h h2⊢;simp only[Function.comp_def]at h h2⊢;omega
theorem aiH(l:List sy):kQ (l.map sB)≤100*(l.map mV).sum+2:=by have h:=yy (f:=fun v:sy=>aJ (sB v).name+((sB v).values.map fun t=>aJ t+1).sum+4) (g:=mV) (k:=100) (l:=l) (fun v=>by have h:=yy (f:=fun t:ByteArray=>aJ t+1) (g:=fun s=>s.size+1) (k:=100) (l:=v.2.1) (fun t=>by simp only[aJ];omega);simp only[aJ,sB,mV]at h⊢;omega);simp only[kQ,List.map_map]at h⊢;simp only[Function.comp_def]at h⊢;omega
theorem aiI(a:yq)(h:yu a≤1048576):Ca (Wn a):=by
 have hd:(a.1.map oz).sum≤1048574:=by simp only[yu]at h;omega
 have hv:(a.2.1.map mV).sum≤1048574:=by simp only[yu]at h;omega
 have one:∀x∈a.1,(x.1.map pM).sum≤1048571∧(x.2.1.map mT).sum≤1048571:=fun x hx=>by have:=yw (f:=oz) hx;simp only[oz]at this hd;omega
 refine⟨?_,?_,?_,?_,?_,?_,?_⟩
 ·intro d hd x hx;obtain⟨e,he,rfl⟩:=List.mem_map.1 hd;obtain⟨y,hy,rfl⟩:=List.mem_map.1 hx;have h1:=(one e he).1;have:=yw (f:=pM) hy;have e9:(cw (sA y)).size=y.1.size+1+y.2.1.size:=by simp only[cw,sA,ByteArray.size_append];rfl
  simp only[pM]at this;omega
 ·intro d hd x hx;obtain⟨e,he,rfl⟩:=List.mem_map.1 hd;obtain⟨y,hy,rfl⟩:=List.mem_map.1 hx;have h1:=(one e he).2;have h2:=yw (f:=mT) hy;have h3:mT y≤1048571:=Nat.le_trans h2 h1;simp only[mT]at h3;refine⟨⟨?_,?_,?_⟩,fun i hi=>?_,?_⟩
  ·show y.1.size≤_;omega
  ·show y.2.1.size≤_;omega
  ·show y.2.2.1.size≤_;omega
  ·obtain⟨i2,Ak,rfl⟩:=List.mem_map.1 hi;have:=yw (f:=pL) Ak;have h4:pL i2≤1048571:=by omega
   simp only[pL]at h4;exact⟨show i2.1.size≤_ by omega,show i2.2.1.size≤_ by omega⟩
  ·have:=yx (f:=pL) (l:=y.2.2.2.2.2.2.1) (fun i=>by simp only[pL];omega);show(y.2.2.2.2.2.2.1.map wC).length≤_;rw[List.length_map];omega
 ·intro d hd;obtain⟨e,he,rfl⟩:=List.mem_map.1 hd;obtain⟨h1,h2⟩:=one e he;have h3:=yx (f:=pM) (l:=e.1) (fun i=>by simp only[pM];omega);have h4:=yx (f:=mT) (l:=e.2.1) (fun i=>by simp only[mT];omega);exact⟨show(e.1.map sA).length≤_ by rw[List.length_map];omega,show(e.2.1.map wD).length≤_ by rw[List.length_map];omega⟩
 ·intro x hx;obtain⟨y,hy,rfl⟩:=List.mem_map.1 hx;have h1:=yw (f:=mV) hy;have h2:mV y≤1048574:=Nat.le_trans h1 hv;simp only[mV]at h2;refine⟨show y.1.size≤_ by omega,fun t ht=>?_,?_⟩
  ·have:=yw (f:=fun s:ByteArray=>s.size+1) (show t∈y.2.1 from ht);have h4:t.size+1≤1048574:=by omega
   omega
  ·have:=yx (f:=fun s:ByteArray=>s.size+1) (l:=y.2.1) (fun i=>by omega);show y.2.1.length≤_;omega
 ·have:=yx (f:=oz) (l:=a.1) (fun i=>by simp only[oz];omega);show(a.1.map uB).length≤_;rw[List.length_map];omega
 ·have:=yx (f:=mV) (l:=a.2.1) (fun i=>by simp only[mV];omega);show(a.2.1.map sB).length≤_;rw[List.length_map];omega
 ·have h1:=yy (f:=fun x:sx=>fw (uB x)+1) (g:=oz) (k:=100) (l:=a.1) aiG;have h2:=aiH a.2.1;show((a.1.map uB).map fun d=>fw d+1).sum+kQ (a.2.1.map sB)+600≤_;rw[List.map_map];simp only[Function.comp_def];omega
theorem aiJ{W:World}{S:Nat→Prop}{v:Value}{base:Nat}{a:yq}(hv:Value.okWide Tryz.prog W .any base 27 v)(h:bp S W v.cells.toList (Ma a)):∃va vv,v=.agg #[va,vv]∧Rd S W va (.list 2 (a.1.flatMap yr))∧Rd S W vv (.list 2 (a.2.1.flatMap yt)):=by
 obtain⟨cs,rfl,hz⟩:=okWide_struct Tryz.underlying27 hv;have bA:cs.size=2:=hz.trans (by kernel_rfl);obtain⟨l⟩:=cs
 match l,bA with
   |[x,y],_=>have h':bp S W [x,y] (Ma a):=h;exact⟨x,y,rfl,h'.2 0 _ _ rfl rfl,h'.2 1 _ _ rfl rfl⟩
end Go.Proofs.YtcaiibkgajhohaaGreatDoor
