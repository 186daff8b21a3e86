/- waybill: lemmas and walks, printed from longer texts. -/
import Derived.Test.YtcaiibkgajhohaaGreatDoorM36
set_option maxRecDepth 100000
set_option maxHeartbeats 8000000
namespace Go.Proofs.YtcaiibkgajhohaaGreatDoor
open Go.RowKit
theorem Fj:iq Tryz.prog 101 100 2 32 (.agg #[.string ⟨#[]⟩,.string ⟨#[]⟩]):=⟨Tryz.underlying101,by kernel_rfl,rfl,by decide⟩
def iW(p:KV):List Value:=[.string p.1,.string p.2]
theorem Bz(p:KV):(iW p).length=2:=rfl
theorem agx(a b:KV)(W:World):Calls Tryz.prog 77 #[.agg #[.string a.1,.string a.2],.agg #[.string b.1,.string b.2]] W fun e w'=>e=.returned (.int .i64 (Lib.compareBytes a.1.data.toList b.1.data.toList))∧∃q os',w'=Go.Sort.grow (W.drewN q) os':=by have BC:=Lib.hid (fun W=>Tryz.strings_Compare a.1 b.1 W);generalize Lib.compareBytes a.1.data.toList b.1.data.toList=r at*;go_enter Tryz.func77,Tryz.ntmps77;go_wp2_with fail;first|(go_at_call 78;refine(BC.out _).mono ?_;rintro _ _⟨rfl,rfl⟩;go_wp2;go_ret;refine⟨rfl,0,#[.cells #[.string a.1,.string a.2] 100 (0,0),.cells #[.string b.1,.string b.2] 100 (0,0)],?_⟩;rw[Go.Sort.alloc_eq_grow,Go.Sort.alloc_eq_grow,Go.Sort.grow_grow];rfl)|skip
theorem agy{P:Program}{k:FuncId}{fn:Func}{c:Code}(hf:P.funcs[k]?=some fn)(hn:(fn.name== "runtime.NumGoroutine")=false)(hb:fn.body=some c)(args:Array Value)(w:World):(callFunc k args).run P w=.ok (.enter k args) w:=by have wL:=beq_eq_false_iff_ne.1 hn;simp[callFunc,hf,wL,hb]
theorem agz:∀args w,(callFunc 77 args).run Tryz.prog w=.ok (.enter 77 args) w:=agy Tryz.func77 (by kernel_rfl) rfl
theorem agA:∀w,(isAgg 100).run Tryz.prog w=.ok true w:=Tryz.isAgg100
theorem agB:∀w,(sizeOf 100).run Tryz.prog w=.ok 2 w:=Tryz.sizeOf100
theorem agC{α:Type} [Inhabited α]{d d':Array α}(h:Go.Sort.PermIn 0 d.size d d'):d'.toList.Perm d.toList∧d'.size=d.size:=by obtain⟨hsz,_,qQ⟩:=h;(have e1:d'.extract 0 d.size=d':=by rw[←hsz];exact Array.extract_size);rw[e1,Array.extract_size]at qQ;exact⟨qQ,hsz⟩
theorem agD(w:World)(base:Nat)(v:Value)(l:List KV)(hm:l.length≤1100000)(h:w.ownsRow base 100 2 v l.length (l.flatMap iW)):Calls Tryz.prog 76 #[v,.func (.func 77) #[] #[]] w fun e w'=>e=.returned (.tuple #[])∧∃s:List KV,s.Perm l∧(s.Pairwise fun a b=>gj a b=true)∧w'.ownsRow base 100 2 v l.length (s.flatMap iW)∧w.grownBy w' v.ownBlock:=by
 rcases h.2 with⟨rfl,h0⟩|⟨g,cap,cur,rfl,_⟩
 ·obtain rfl:=List.eq_nil_of_length_eq_zero h0;refine Calls.mono (AnyF.slices_SortFunc_none Tryz.UQ none 0 (.func (.func 77) #[] #[]) w) ?_;rintro e w'⟨rfl,rfl⟩;exact⟨rfl,[],List.Perm.refl _,List.Pairwise.nil,by simpa using h,World.grownBy.refl _ _⟩
 ·have hO:Go.Sort.SWO (ltOf fun x y:KV=>Lib.compareBytes x.1.data.toList y.1.data.toList):=by refine⟨fun x=>Bi x.1,fun x y z h k=>Kk (a:=x.1) (b:=y.1) (c:=z.1) h k,fun x y z h k=>EY (a:=x.1) (b:=y.1) (c:=z.1) h k⟩
  have K:=AnyQ.slices_SortFunc Tryz.UQ 2 agA agB iW Bz (fun x v hv=>by simp[iW]at hv;rcases hv with rfl|rfl<;>rfl) (fun x y:KV=>Lib.compareBytes x.1.data.toList y.1.data.toList) hO 77 #[] g 0 cap l.toArray w agz (fun m os dk _ x y=>agx x y _) (ags (enc:=iW) (k:=2) Bz h) (h.lt g rfl).2 (by simp;omega);rw[show l.toArray.size=l.length by simp]at K;refine Calls.mono K ?_;rintro e w'⟨rfl,d',n,os,hp,hs,rfl⟩;have sF:=agC (d:=l.toArray) (by simpa using hp);obtain⟨jm,fO⟩:=sF
  have hsz:d'.size=l.length:=by simpa using fO
  have S:=agu (enc:=iW) (k:=2) Bz (n:=n) (os:=os) (ys:=d'.toList) h (by rw[Array.length_toList];exact hsz);obtain⟨s1,s2⟩:=S;refine⟨rfl,d'.toList,by simpa using jm,?_,s1,s2⟩;rw[List.pairwise_iff_getElem];intro i j hi hj ni;have eB:i<d'.size:=by simpa using hi
  have hj':j<d'.size:=by simpa using hj
  have:=hs i j (Nat.zero_le _) ni (by omega);rw[getElem!_pos d' j hj',getElem!_pos d' i eB]at this;unfold gj;rw[Array.getElem_toList,Array.getElem_toList];show(!(ltOf (fun x y:KV=>Lib.compareBytes x.1.data.toList y.1.data.toList) d'[j] d'[i]))=true;rw[this];rfl
def fg(x:aZ):Bool:=if x.cS=true then !aN x.query else x.items.any fun i=>!aN i.value||!aN i.name
def ug(x:aZ):ByteArray:=if x.cS=true then aG x.query else dW (lL x.items)
def lN(x:aZ):Nat:=aJ x.query+(x.items.map fun i=>aJ i.name+aJ i.value+2).sum+2
def uh(x:aZ)(qs:List KV):Prop:=(x.cS=false∧x.items=[]∧qs=[])∨((x.cS=true∨x.items≠[])∧∃T,qs=[(gy,T)]∧Tx (lN x) (!fg x&&!di x) (ug x) T)
theorem agS(b:Bool)(k v:ByteArray):(aU b k v).map (·.1)=if b=true then[k]else[]:=by unfold aU;split<;>rfl
def BH(a b q c d e:Bool):List ByteArray:=(if a=true then[ee]else[])++(if b=true then[dH]else[])++(if q=true then[gy]else[])++(if c=true then[ew]else[])++(if d=true then[fY]else[])++(if e=true then[fe]else[])
theorem agT:∀a b q c d e:Bool,db (BH a b q c d e)=false:=by decide+kernel
theorem agU:aN ee=true∧aN dH=true∧aN gy=true∧aN ew=true∧aN fY=true∧aN fe=true:=⟨by kernel_rfl,by kernel_rfl,by kernel_rfl,by kernel_rfl,by kernel_rfl,by kernel_rfl⟩
theorem agV(a b q c d e:Bool):cH (BH a b q c d e)=false:=by
 obtain⟨h1,h2,h3,h4,h5,h6⟩:=agU;unfold cH BH;rw[List.any_eq_false];intro x hx;simp only[List.mem_append]at hx
 have key:∀(p:Bool)(k:ByteArray),aN k=true→x∈(if p=true then[k]else[])→¬(!aN x)=true:=fun p k hk hm=>by
  split at hm
  ·rw[List.mem_singleton.1 hm,hk];simp
  ·cases hm
 rcases hx with((((hx|hx)|hx)|hx)|hx)|hx
 ·exact key _ _ h1 hx
 ·exact key _ _ h2 hx
 ·exact key _ _ h3 hx
 ·exact key _ _ h4 hx
 ·exact key _ _ h5 hx
 ·exact key _ _ h6 hx
theorem BJ(a b:List KV):cj (a++b)+2=cj a+cj b:=by unfold cj;rw[List.map_append,List.sum_append];omega
theorem BK{b:Bool}{k v:ByteArray}{n:Nat}(h:v.size≤n):cj (aU b k v)≤aJ k+n+4:=by
 unfold cj aU;split
 ·simp;omega
 ·simp
def qR(x:aZ)(Tf Tp:ByteArray)(qs:List KV):List KV:=aU x.bM ee Tf++aU x.bz dH Tp++qs++aU x.fold ew eo++aU x.cU fY kc++aU x.dG fe eo
structure U3(x:aZ)(l:List KV):Prop where
 bad:cH (l.map (·.1))=false
 dup:db (l.map (·.1))=false
 size:cj l≤fQ x
 keys:∀p∈l,p.1.size≤1048576
 len:l.length≤1000
 eq:gD x=false→di x=false→dW l=px x
theorem BM{b:Bool}{k v:ByteArray}{p:KV}(h:p∈aU b k v):p.1=k:=by
 unfold aU at h;split at h
 ·rw[List.mem_singleton.1 h]
 ·cases h
theorem U7{b:Bool}{k v v2:ByteArray}(h:b=true→v=v2):aU b k v=aU b k v2:=by
 unfold aU
 cases b with
 |false=>rfl
 |true=>rw[h rfl]
theorem BN(b:Bool)(k v:ByteArray):(aU b k v).length≤1:=by unfold aU;split<;>simp
theorem U8(x:aZ){Tf Tp:ByteArray}{qs:List KV}(hf:Tx (aJ x.bw) (x.bM&&aN x.bw) (aG x.bw) Tf)(hp:Tx (aJ x.path) (x.bz&&aN x.path) (aG x.path) Tp)(hq:uh x qs):U3 x (qR x Tf Tp qs):=by
 obtain⟨q,Qk,Hl,hqz,hqk⟩:∃q:Bool,qs.map (·.1)=(if q=true then[gy]else[])∧qs.length≤1∧cj qs≤aJ gy+lN x+4∧∀p∈qs,p.1=gy:=by
  rcases hq with⟨_,_,rfl⟩|⟨_,T,rfl,hT⟩
  ·exact⟨false,rfl,Nat.zero_le _,by unfold cj;simp,fun p hp=>by cases hp⟩
  ·exact⟨true,rfl,Nat.le_refl _,by have:=hT.size;unfold cj;simp;omega,fun p hp=>by rw[List.mem_singleton.1 hp]⟩
 have U9:(qR x Tf Tp qs).map (·.1)=BH x.bM x.bz q x.fold x.cU x.dG:=by unfold qR BH;simp only[List.map_append,agS,Qk]
 refine⟨by rw[U9];exact agV _ _ _ _ _ _,by rw[U9];exact agT _ _ _ _ _ _,?_,?_,?_,?_⟩
 ·have a1:=BK (b:=x.bM) (k:=ee) hf.size;have a2:=BK (b:=x.bz) (k:=dH) hp.size;have a3:=BK (b:=x.fold) (k:=ew) (v:=eo) (n:=5) (by decide);have a4:=BK (b:=x.cU) (k:=fY) (v:=kc) (n:=4) (by decide);have a5:=BK (b:=x.dG) (k:=fe) (v:=eo) (n:=5) (by decide);have b1:aJ ee=8:=rfl;have b2:aJ dH=8:=rfl;have b3:aJ gy=8:=rfl;have b4:aJ ew=80:=rfl;have b5:aJ fY=44:=rfl;have b6:aJ fe=86:=rfl;have c1:=BJ (aU x.bM ee Tf) (aU x.bz dH Tp)
  have c2:=BJ (aU x.bM ee Tf++aU x.bz dH Tp) qs;have c3:=BJ (aU x.bM ee Tf++aU x.bz dH Tp++qs) (aU x.fold ew eo);have c4:=BJ (aU x.bM ee Tf++aU x.bz dH Tp++qs++aU x.fold ew eo) (aU x.cU fY kc);have c5:=BJ (aU x.bM ee Tf++aU x.bz dH Tp++qs++aU x.fold ew eo++aU x.cU fY kc) (aU x.dG fe eo);unfold qR fQ;unfold lN at hqz;omega
 ·intro p fO;unfold qR at fO;simp only[List.mem_append]at fO;rcases fO with((((h|h)|h)|h)|h)|h
  ·rw[BM h];decide
  ·rw[BM h];decide
  ·rw[hqk p h];decide
  ·rw[BM h];decide
  ·rw[BM h];decide
  ·rw[BM h];decide
 ·unfold qR;simp only[List.length_append];have h1:=BN x.bM ee Tf;have h2:=BN x.bz dH Tp;have h3:=BN x.fold ew eo;have h4:=BN x.cU fY kc;have h5:=BN x.dG fe eo;omega
 ·intro hb hd;have lU:(x.bM&&!aN x.bw)=false∧(x.bz&&!aN x.path)=false∧fg x=false:=by unfold gD at hb;simp only[Bool.or_eq_false_iff]at hb;exact⟨hb.1.1,hb.1.2,hb.2⟩
  obtain⟨h1,h2,h3⟩:=lU;unfold px qR TO;have e1:aU x.bM ee Tf=aU x.bM ee (aG x.bw):=U7 (fun h=>hf.eq (by rw[h]at h1⊢;simpa using h1));have e2:aU x.bz dH Tp=aU x.bz dH (aG x.path):=U7 (fun h=>hp.eq (by rw[h]at h2⊢;simpa using h2))
  have e3:qs=Ku x:=by
   unfold Ku;rcases hq with⟨ha,hi,rfl⟩|⟨ha,T,rfl,hT⟩
   ·rw[if_neg (by rw[ha];simp),if_pos hi]
   ·have he:=hT.eq (by rw[h3,hd];rfl);unfold ug at he;by_cases hh:x.cS=true
    ·rw[if_pos hh]at he⊢;rw[he]
    ·rw[if_neg hh]at he⊢;rw[if_neg (by rcases ha with h|h;exact absurd h hh;exact h),he]
  rw[e1,e2,e3]
theorem agY(x:aZ){kvs:List KV}(hM:kvs.map (·.1)=x.items.map (·.name))(hT:eM (fun i:eI=>aJ i.value) (fun i=>aN i.value) (fun i=>aG i.value) x.items (kvs.map (·.2))):cj kvs≤lN x∧((∀i∈x.items,aN i.value=true)→kvs=lL x.items):=by
 constructor
 ·have h1:=hT.sum
  have key:∀(l:List eI)(k:List KV),k.map (·.1)=l.map (·.name)→(k.map fun p=>aJ p.1+p.2.size+2).sum+((l.map fun i=>aJ i.value+1).sum)≥0→((k.map (·.2)).map fun t=>t.size+1).sum≤(l.map fun i=>aJ i.value+1).sum→(k.map fun p=>aJ p.1+p.2.size+2).sum≤(l.map fun i=>aJ i.name+aJ i.value+2).sum:=by
   intro l k hk _ hs
   have e1:(k.map fun p=>aJ p.1+p.2.size+2).sum=((k.map (·.1)).map fun t=>aJ t+1).sum+((k.map (·.2)).map fun t=>t.size+1).sum:=by
    clear hk hs
    induction k with
    |nil=>rfl
    |cons p k ih=>simp only[List.map_cons,List.sum_cons]at ih⊢;omega
   have e2:(l.map fun i=>aJ i.name+aJ i.value+2).sum=((l.map (·.name)).map fun t=>aJ t+1).sum+(l.map fun i=>aJ i.value+1).sum:=by
    clear hk hs
    induction l with
    |nil=>rfl
    |cons p l ih=>simp only[List.map_cons,List.sum_cons]at ih⊢;omega
   rw[e1,e2,hk];omega
  have:=key x.items kvs hM (Nat.zero_le _) h1;unfold cj lN;omega
 ·intro ho;have h2:=hT.eq ho;have hl:kvs.length=x.items.length:=by have:=congrArg List.length hM;simpa using this
  unfold lL;apply List.ext_getElem
  ·rw[hl,List.length_map]
  ·intro i a b;have hi:i<x.items.length:=by simpa using b
   have e1:(kvs.map (·.1))[i]?=(x.items.map (·.name))[i]?:=by rw[hM]
   have e2:(kvs.map (·.2))[i]?=(x.items.map fun i=>aG i.value)[i]?:=by rw[h2]
   rw[List.getElem?_map,List.getElem?_map,List.getElem?_eq_getElem a,List.getElem?_eq_getElem hi]at e1 e2;rw[List.getElem_map];exact Prod.ext (Option.some.inj e1) (Option.some.inj e2)
theorem U_(x:aZ)(hq:x.cS=false):fg x=((x.items.any fun i=>!aN i.value)||cH (x.items.map (·.name))):=by unfold fg cH;rw[if_neg (by rw[hq];simp),Kv,List.any_map];rfl
theorem Va(x:aZ)(hq:x.cS=false){kvs:List KV}(hM:kvs.map (·.1)=x.items.map (·.name))(F:Fl):(F.add (x.items.any fun i=>!aN i.value) false).add (cH (kvs.map (·.1))) (db (kvs.map (·.1)))=F.add (fg x) (di x):=by rw[Fl.add_add,hM,U_ x hq];unfold di;rw[hq];simp
theorem agZ(x:aZ)(hq:x.cS=false){kvs:List KV}{T:ByteArray}(hI:cj kvs≤lN x∧((∀i∈x.items,aN i.value=true)→kvs=lL x.items))(hT:Tx (cj kvs) (!(cH (kvs.map (·.1)))&&!db (kvs.map (·.1))) (dW kvs) T)(hM:kvs.map (·.1)=x.items.map (·.name)):Tx (lN x) (!fg x&&!di x) (ug x) T:=by refine⟨Nat.le_trans hT.size hI.1,fun ho=>?_⟩;rw[Bool.and_eq_true,U_ x hq]at ho;unfold di at ho;rw[hq]at ho;(have h1:(x.items.any fun i=>!aN i.value)=false∧cH (x.items.map (·.name))=false:=by simpa using ho.1);(have h2:db (x.items.map (·.name))=false:=by simpa using ho.2);rw[hT.eq (by rw[hM,h1.2,h2];rfl),hI.2 (fun i hi=>by have:=h1.1;rw[List.any_eq_false]at this;simpa using this i hi)];unfold ug;rw[if_neg (by rw[hq];simp)]
def wv(v:cW):Nat:=(v.values.map fun t=>aJ t+1).sum+2
def jy(v:cW):Bool:=v.values.any fun t=>!aN t
theorem ahA(l:List cW){kvs:List KV}(hM:kvs.map (·.1)=l.map (·.name))(hT:eM wv (fun v=>!jy v) (fun v:cW=>cC (v.values.map aG)) l (kvs.map (·.2))):cj kvs≤kQ l∧(l.any jy=false→kvs=l.map py):=by
 constructor
 ·have h1:=hT.sum
  have e1:∀k:List KV,(k.map fun p=>aJ p.1+p.2.size+2).sum=((k.map (·.1)).map fun t=>aJ t+1).sum+((k.map (·.2)).map fun t=>t.size+1).sum:=by
   intro k
   induction k with
   |nil=>rfl
   |cons p k ih=>simp only[List.map_cons,List.sum_cons]at ih⊢;omega
  have e2:∀l:List cW,(l.map fun v=>aJ v.name+(v.values.map fun t=>aJ t+1).sum+4).sum=((l.map (·.name)).map fun t=>aJ t+1).sum+(l.map fun v=>wv v+1).sum:=by
   intro l
   induction l with
   |nil=>rfl
   |cons p l ih=>simp only[List.map_cons,List.sum_cons,wv]at ih⊢;omega
  unfold cj kQ;rw[e1,e2,hM];omega
 ·intro ho;have h2:=hT.eq (fun v hv=>by rw[List.any_eq_false]at ho;simpa using ho v hv);have hl:kvs.length=l.length:=by have:=congrArg List.length hM;simpa using this
  apply List.ext_getElem
  ·rw[hl,List.length_map]
  ·intro i a b;have hi:i<l.length:=by simpa using b
   have e1:(kvs.map (·.1))[i]?=(l.map (·.name))[i]?:=by rw[hM]
   have e2:(kvs.map (·.2))[i]?=(l.map fun v:cW=>cC (v.values.map aG))[i]?:=by rw[h2]
   rw[List.getElem?_map,List.getElem?_map,List.getElem?_eq_getElem a,List.getElem?_eq_getElem hi]at e1 e2;rw[List.getElem_map];exact Prod.ext (Option.some.inj e1) (Option.some.inj e2)
theorem Lq(l:List cW):om l=(cH (l.map (·.name))||l.any jy):=by have h:=Kv (fun v:cW=>!aN v.name) jy l;unfold cH;rw[List.any_map];exact h
theorem ahB(l:List cW){kvs:List KV}{T:ByteArray}(hI:cj kvs≤kQ l∧(l.any jy=false→kvs=l.map py))(hT:Tx (cj kvs) (!(cH (kvs.map (·.1)))&&!db (kvs.map (·.1))) (dW kvs) T)(hM:kvs.map (·.1)=l.map (·.name)):Tx (kQ l) (!om l&&!mM l) (dW (l.map py)) T:=by refine⟨Nat.le_trans hT.size hI.1,fun ho=>?_⟩;rw[Bool.and_eq_true,Lq]at ho;(have h1:cH (l.map (·.name))=false∧l.any jy=false:=by simpa using ho.1);(have h2:db (l.map (·.name))=false:=by have:=ho.2;unfold mM at this;simpa using this);rw[hT.eq (by rw[hM,h1.1,h2];rfl),hI.2 h1.2]
def Lr(l:List cW)(vs:List KV):Prop:=(l=[]∧vs=[])∨(l≠[]∧∃T,vs=[(lx,T)]∧Tx (kQ l) (!om l&&!mM l) (dW (l.map py)) T)
structure Ls(a:ie)(l:List KV):Prop where
 bad:cH (l.map (·.1))=false
 dup:db (l.map (·.1))=false
 size:cj l+100≤oq a
 keys:∀p∈l,p.1.size≤1048576
 len:l.length≤1000
 eq:gE a=false→gl a=false→dW l=dW (E_ a)
theorem Lt:aN eJ=true∧aN lx=true∧aN fM=true:=⟨by kernel_rfl,by kernel_rfl,by kernel_rfl⟩
theorem Lu:db [eJ]=false∧db [eJ,lx]=false∧db [fM]=false:=by decide+kernel
theorem ahC{α:Type}{p q:α→Bool}{l:List α}(h:l.any p=false)(k:l.any q=false):l.any (fun x=>!(!p x&&!q x))=false:=by rw[List.any_eq_false]at*;intro x hx;have h1:=h x hx;have h2:=k x hx;simp at h1 h2;simp[h1,h2]
theorem Lv(a:ie){T1:ByteArray}{vs:List KV}(h1:Tx ((a.df.map fun x=>fw x+1).sum+2) (!(a.df.any fun x=>!(!gV x&&!jr x))) (cC (a.df.map qO)) T1)(h2:Lr a.vars vs):Ls a ((eJ,T1)::vs):=by
 obtain⟨o1,o2,_⟩:=Lt;obtain⟨d1,d2,_⟩:=Lu;have a1:=h1.size;have b1:aJ eJ=44:=rfl;have b2:aJ lx=128:=rfl;have VC:gE a=false→gl a=false→T1=cC (a.df.map qO):=fun hb hd=>by unfold gE at hb;unfold gl at hd;rw[Bool.or_eq_false_iff]at hb hd;exact h1.eq (by rw[ahC hb.1 hd.1];rfl)
 rcases h2 with⟨hv,rfl⟩|⟨hv,T,rfl,hT⟩
 ·refine⟨by simp[cH,o1],d1,?_,?_,by show 1≤1000;decide,?_⟩
  ·unfold cj oq;simp only[List.map_cons,List.map_nil,List.sum_cons,List.sum_nil];omega
  ·intro p hp;rw[List.mem_singleton.1 hp];exact(by decide:eJ.size≤1048576)
  ·intro hb hd;unfold E_;rw[if_pos hv,VC hb hd]
 ·have a2:=hT.size;refine⟨by simp[cH,o1,o2],d2,?_,?_,by show 2≤1000;decide,?_⟩
  ·unfold cj oq;simp only[List.map_cons,List.map_nil,List.sum_cons,List.sum_nil];omega
  ·intro p hp;simp only[List.mem_cons,List.not_mem_nil,or_false]at hp;rcases hp with rfl|rfl
   ·exact(by decide:eJ.size≤1048576)
   ·exact(by decide:lx.size≤1048576)
  ·intro hb hd;unfold E_;rw[if_neg hv,VC hb hd];unfold gE at hb;unfold gl at hd;rw[Bool.or_eq_false_iff]at hb hd;rw[hT.eq (by rw[hb.2,hd.2];rfl)]
end Go.Proofs.YtcaiibkgajhohaaGreatDoor
