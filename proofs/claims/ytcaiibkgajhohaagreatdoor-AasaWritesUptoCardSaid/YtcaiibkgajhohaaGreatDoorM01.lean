/- waybill: lemmas and walks, printed from longer texts. -/
import Derived.Test.YtcaiibkgajhohaaGreatDoorM00
import Derived.LaidEql
import Derived.Stop.Asserts
import Derived.RowKitTokens
import Derived.Lib.DecodeNEq
set_option maxRecDepth 100000
set_option maxHeartbeats 4000000
namespace Go.Proofs.YtcaiibkgajhohaaGreatDoor
open Go.RowKit Go.Extern.Stop Go.Stop Go.Extern
theorem Ws(v:Value)(w:World):(ReflectliteType.typeOf #[.iface 51 v]).run Tryz.prog w=.ok (.iface 192 (.agg #[.pointer (some ⟨6,51,none⟩)])) w:=by kernel_rfl
theorem Wt(w:World):(ReflectliteType.method (fun t=>do Rtype.noPackHeld "Comparable" t;(fun a=>Value.bool a.comparable)<$>typeInfo t) #[.agg #[.pointer (some ⟨6,51,none⟩)]]).run Tryz.prog w=.ok (.bool true) w:=by kernel_rfl
theorem Wu(v:Value)(w:World):(Go.method 440 192 v "Comparable").run Tryz.prog w=.ok (236,v) w:=by kernel_rfl
theorem Ww(v:Value)(xT:TypeId)(w:World):(Instr.typeAssert (.iface 85 v) xT 204 true).run Tryz.prog w=.ok (.tuple #[.iface 85 v,.bool true]) w:=run_typeAssert_hasB Tryz.underlying204 (by kernel_rfl) v xT w
theorem Wy(v:Value)(xT:TypeId)(w:World):(Instr.typeAssert (.iface 85 v) xT 199 true).run Tryz.prog w=.ok (.tuple #[.iface 85 v,.bool true]) w:=run_typeAssert_hasB Tryz.underlying199 (by kernel_rfl) v xT w
theorem Wz(v:Value)(w:World):(Go.method 440 85 v "Is").run Tryz.prog w=.ok (228,v) w:=by kernel_rfl
theorem WA(v:Value)(w:World):(Go.method 440 85 v "Unwrap").run Tryz.prog w=.ok (229,v) w:=by kernel_rfl
theorem WB(t:Int)(w:World):(Instr.typeAssert (.iface 51 (.int .i64 t)) 29 51 true).run Tryz.prog w=.ok (.tuple #[.int .i64 t,.bool true]) w:=by kernel_rfl
theorem WC(b off:Nat)(k t:Int)(w:World)(hc:w.cell? ⟨b,off,none⟩=some (.int .i64 k)):Calls Tryz.prog 228 #[.pointer (some ⟨b,off,none⟩),.iface 51 (.int .i64 t)] w fun e w'=>e=.returned (.bool (t==k))∧w=w':=by have hA:=WB t;go_enter Tryz.func228,Tryz.ntmps228;go_wp2;go_ret;exact⟨rfl,rfl⟩
theorem WD(b off:Nat)(u:Value)(w:World)(hc:w.cell? ⟨b,off+2,none⟩=some u):Calls Tryz.prog 229 #[.pointer (some ⟨b,off,none⟩)] w fun e w'=>e=.returned u∧w=w':=by go_enter Tryz.func229,Tryz.ntmps229;go_wp2;go_ret;exact⟨rfl,rfl⟩
theorem Mb{T:TypeId}{S S':Nat→Prop}{w:World}:∀(c c':List (Int×Int))(v:Value),Rd S w v (cz T c)→Rd S' w v (cz T c')→c=c'
 |[],[],_,_,_=>rfl
 |[],(k,a)::r,v,h,h'=>by simp only[cz]at h h';have:=h.pO;subst this;cases h'
 |(k,a)::r,[],v,h,h'=>by simp only[cz]at h h';have:=h'.pO;subst this;cases h
 |(k,a)::r,(k',a')::r',v,h,h'=>by
  simp only[cz]at h h';obtain⟨u,rfl,g⟩:=h.Cp;obtain⟨u',e,g'⟩:=h'.Cp;cases e;obtain⟨b,off,rfl,_,hc⟩:=g.Cq;obtain⟨b',wE,e,_,hc'⟩:=g'.Cq;cases e;obtain⟨x0,e0,r0⟩:=hc 0 (by simp);obtain⟨x1,e1,r1⟩:=hc 1 (by simp);obtain⟨x2,e2,r2⟩:=hc 2 (by simp);obtain⟨y0,f0,s0⟩:=hc' 0 (by simp);obtain⟨y1,f1,s1⟩:=hc' 1 (by simp);obtain⟨y2,f2,s2⟩:=hc' 2 (by simp);rw[e0]at f0;rw[e1]at f1;rw[e2]at f2;cases f0;cases f1;cases f2;have a0:=r0.rf;have b0:=s0.rf;have a1:=r1.rf
  have b1:=s1.rf;rw[a0]at b0;rw[a1]at b1;cases b0;cases b1;rw[Mb r r' x2 r2 s2]
noncomputable def yC(T:TypeId)(w:World)(v:Value):Nat:=by classical exact if h:∃c:List (Int×Int),Rd (fun _=>True) w v (cz T c)then h.choose.length else 0
theorem Mc{T:TypeId}{S:Nat→Prop}{w:World}{v:Value}{c:List (Int×Int)}(h:Rd S w v (cz T c)):yC T w v=c.length:=by have hx:∃c:List (Int×Int),Rd (fun _=>True) w v (cz T c):=⟨c,h.wide (fun _ _=>trivial)⟩;unfold yC;rw[dif_pos hx,Mb _ _ v hx.choose_spec h]
theorem oF{T:TypeId}{S:Nat→Prop}{w:World}{v:Value}{k a:Int}{r:List (Int×Int)}(h:Rd S w v (cz T ((k,a)::r))):∃b off u,v=.iface T (.pointer (some ⟨b,off,none⟩))∧S b∧w.cell? ⟨b,off,none⟩=some (.int .i64 k)∧w.cell? ⟨b,off+1,none⟩=some (.int .i64 a)∧w.cell? ⟨b,off+2,none⟩=some u∧Rd S w u (cz T r):=by simp only[cz]at h;obtain⟨p,rfl,g⟩:=h.Cp;obtain⟨b,off,rfl,hS,hc⟩:=g.Cq;obtain⟨x0,e0,r0⟩:=hc 0 (by simp);obtain⟨x1,e1,r1⟩:=hc 1 (by simp);obtain⟨x2,e2,r2⟩:=hc 2 (by simp);have a0:=r0.rf;have a1:=r1.rf;subst a0 a1;exact⟨b,off,x2,rfl,hS,e0,e1,e2,r2⟩
def Md(T:TypeId)(S:Nat→Prop)(w:World)(t:Int)(res:Bool)(v:Value)(wr:World):Prop:=wr=w∧∃c:List (Int×Int),c≠[]∧Rd S w v (cz T c)∧c.any (fun x=>t==x.1)=res
abbrev isKind(c:List (Int×Int))(t:Int):Bool:=c.any fun x=>t==x.1
theorem WE{S:Nat→Prop}(v:Value)(t k a:Int)(r:List (Int×Int))(w:World)(h:Rd S w v (cz 85 ((k,a)::r))):Calls Tryz.prog 71 #[v,.iface 51 (.int .i64 t),.bool true] w fun e w'=>e=.returned (.bool (isKind ((k,a)::r) t))∧w=w':=by
 obtain⟨b,off,u,rfl,hS,c0,c1,c2,hr⟩:=oF h;have H:=Lib.hid h;clear hS c0 c1 c2 hr h;go_enter Tryz.func71,Tryz.ntmps71;go_wp2_with fail;go_loopw[0](Md 85 S w t (isKind ((k,a)::r) t))(fun v _=>yC 85 w v);case atStart=>exact⟨rfl,_,by simp,H.out,rfl⟩
 case round=>
  obtain⟨rfl,cc,hne,hv,mZ⟩:=hrel
  cases cc with
  |nil=>exact absurd rfl hne
  |cons x rr=>
   obtain⟨k',a'⟩:=x;have oG:=Mc hv;obtain⟨b',wE,u',rfl,_,c0,_,c2,hr⟩:=oF hv;rw[List.any_cons]at mZ;have heq:=run_eql_iface_types (P:=Tryz.prog) 85 51 (.pointer (some ⟨b',wE,none⟩)) (.int .i64 t) Tryz.underlying29 (by decide) wr;have nI:=Ww;have nU:=Wy;have mI:=Wz;have mU:=WA;have Me:=Lib.hid mZ;have HR:=Lib.hid hr;have WG:=Lib.hid oG;have WH:=Lib.hid c2;clear mZ hr hv hne oG c2;go_wp2_with fail;refine(WC b' wE k' t _ c0).mono ?_;rintro e w1⟨rfl,rfl⟩
   cases hk:(t==k')with
   |true=>have mZ:=Me.out;rw[hk]at mZ;go_wp2;go_ret;exact⟨by rw[←mZ];rfl,rfl⟩
   |false=>
    go_wp2_with fail;refine(WD b' wE u' _ WH.out).mono ?_;rintro e w1⟨rfl,rfl⟩;have mZ:=Me.out;rw[hk,Bool.false_or]at mZ
    cases rr with
    |nil=>have:=HR.out;simp only[cz]at this;have e:=this.pO;subst e;have sC:=Lib.hid mZ;clear mZ this;go_wp2;go_ret;exact⟨by rw[←sC.out];rfl,rfl⟩
    |cons y rr=>
     obtain⟨k2,a2⟩:=y;obtain⟨b2,Mf,u2,rfl,_⟩:=oF HR.out;have R:Md 85 S wr t (isKind ((k,a)::r) t) (.iface 85 (.pointer (some ⟨b2,Mf,none⟩))) wr:=⟨rfl,_,by simp,HR.out,mZ⟩;have M:yC 85 wr (.iface 85 (.pointer (some ⟨b2,Mf,none⟩)))<yC 85 wr (.iface 85 (.pointer (some ⟨b',wE,none⟩))):=by rw[Mc HR.out,WG.out];simp
     have aO:=Lib.hid R;have HM:=Lib.hid M;clear R M mZ;go_wp2;refine⟨?_,HM.out⟩;have R:=aO.out;first|exact R|((repeat apply Exists.intro);exact⟨R,rfl⟩)
theorem Cw{S:Nat→Prop}(v:Value)(t:Int)(c:List (Int×Int))(w:World)(h:Rd S w v (cz 85 c)):Calls Tryz.prog 37 #[v,.iface 51 (.int .i64 t)] w fun e w'=>e=.returned (.bool (isKind c t))∧w=w':=by
 cases c with
 |nil=>simp only[cz]at h;have e:=h.pO;subst e;have hn:=run_eql_iface_nil_left (P:=Tryz.prog) w 51 (.int .i64 t) Tryz.underlying29;clear h;go_enter Tryz.func37,Tryz.ntmps37;go_wp2;go_ret;exact⟨rfl,rfl⟩
 |cons x r=>
  obtain⟨k,a⟩:=x;have h8:=@run_callFunc_extern Tryz.prog 70 _ ReflectliteType.typeOf Tryz.func70 (by kernel_rfl) (by kernel_rfl) (by kernel_rfl) (by kernel_rfl);have lT:=@run_callFunc_extern Tryz.prog 236 _ (ReflectliteType.method fun t=>do Rtype.noPackHeld "Comparable" t;pure (.bool (←typeInfo t).comparable)) Tryz.func236 (by kernel_rfl) (by kernel_rfl) (by kernel_rfl) (by kernel_rfl);have tT:=Ws;have cT:=Wt;have mR:=Wu;have L:=Lib.hid (WE v t k a r w h);obtain⟨b,off,u,rfl,_⟩:=oF h;clear h
  go_enter Tryz.func37,Tryz.ntmps37;go_wp2_with fail;refine L.out.mono ?_;rintro e w1⟨rfl,rfl⟩;go_wp2;go_ret;exact⟨rfl,rfl⟩
def af(s:ByteArray)(i:Nat):Nat:=(s.data[i]?.getD 0).toNat
theorem dm(s:ByteArray)(i:Nat):af s i<256:=UInt8.toNat_lt _
theorem Xu(s:ByteArray)(i:Nat)(h:i<s.size):af s i=(s[i]'h).toNat:=by have h':i<s.data.size:=h;unfold af;rw[Array.getElem?_eq_getElem h'];rfl
inductive Sc(α:Type)where
 |ok(a:α)
 |no(k:Nat)(i:Int)deriving DecidableEq
def Sc.bind{α β:Type}(r:Sc α)(f:α→Sc β):Sc β:=match r with
  |.ok a=>f a
  |.no k i=>.no k i
@[simp]theorem Sc.fA{α β:Type}(a:α)(f:α→Sc β):(Sc.ok a).bind f=f a:=rfl
@[simp]theorem Sc.Xw{α β:Type}(k:Nat)(i:Int)(f:α→Sc β):(Sc.no k i:Sc α).bind f=.no k i:=rfl
def sD(p:Nat→Bool)(B:ByteArray):Nat→Nat→Nat
 |0,i=>i
 |f+1,i=>if i<B.size∧p (af B i)=true then sD p B f (i+1)else i
def skip(p:Nat→Bool)(B:ByteArray)(i:Nat):Nat:=sD p B (B.size-i) i
theorem yJ{p:Nat→Bool}{B:ByteArray}{i:Nat}(h:i<B.size)(hp:p (af B i)=true):skip p B i=skip p B (i+1):=by(have e:B.size-i=(B.size-(i+1))+1:=by omega);unfold skip;rw[e,sD,if_pos ⟨h,hp⟩]
theorem sE{p:Nat→Bool}{B:ByteArray}{i:Nat}(h:i<B.size→p (af B i)=false):skip p B i=i:=by
 unfold skip
 cases hf:B.size-i with
 |zero=>rfl
 |succ f=>rw[sD,if_neg (by rintro⟨h1,h2⟩;rw[h h1]at h2;cases h2)]
theorem Mp(p:Nat→Bool)(B:ByteArray):∀f i,i≤sD p B f i
 |0,i=>Nat.le_refl _
 |f+1,i=>by
  rw[sD];split
  ·have:=Mp p B f (i+1);omega
  ·exact Nat.le_refl _
theorem Cz(p:Nat→Bool)(B:ByteArray)(i:Nat):i≤skip p B i:=Mp _ _ _ _
theorem Mq(p:Nat→Bool)(B:ByteArray):∀f i,i≤B.size→sD p B f i≤B.size
 |0,i,h=>h
 |f+1,i,h=>by
  rw[sD];split
  ·rename_i hc;exact Mq p B f (i+1) hc.1
  ·exact h
theorem yK(p:Nat→Bool)(B:ByteArray)(i:Nat)(h:i≤B.size):skip p B i≤B.size:=Mq _ _ _ _ h
theorem CA(p:Nat→Bool)(B:ByteArray):∀n i,B.size-i=n→skip p B i<B.size→p (af B (skip p B i))=false
 |0,i,hn,h=>by have:=Cz p B i;omega
 |n+1,i,hn,h=>by
  by_cases hp:p (af B i)=true
  ·have hi:i<B.size:=by omega
   rw[yJ hi hp]at h⊢;exact CA p B n (i+1) (by omega) h
  ·have sF:p (af B i)=false:=by simpa using hp
   rw[sE (fun _=>sF)];exact sF
def dB(l:List Nat)(B:ByteArray)(i:Nat):Bool:=decide (i<B.size)&&l.contains (af B i)
theorem Xz{l:List Nat}{B:ByteArray}{i:Nat}(h:i<B.size):dB l B i=l.contains (af B i):=by simp[dB,h]
theorem XC{l:List Nat}{B:ByteArray}{i:Nat}(h:B.size≤i):dB l B i=false:=by simp[dB];omega
theorem lV{l:List Nat}{B:ByteArray}{i:Nat}(h:dB l B i=true):i<B.size:=by simp[dB]at h;exact h.1
def dF(B:ByteArray):a_:=.list 1 (B.data.toList.map fun x=>a_.int .u8 (x.toNat:Nat))
theorem Rd.eY{S:Nat→Prop}{w:World}{v:Value}{B:ByteArray}(h:Rd S w v (dF B)):∃a c,v=.slice a B.size c∧(a=none→B.size=0∧c=0)∧B.size≤c∧(0<B.size→∃b off,a=some ⟨b,off,none⟩∧S b∧∀i,i<B.size→w.cell? ⟨b,off+i,none⟩=some (.int .u8 (af B i))):=by
 obtain⟨a,n,c,rfl,hl,fh,gG,hc⟩:=h.jT;have hs:n=B.size:=by simp only[List.length_map,Nat.mul_one]at hl;exact hl.symm
 subst hs;refine⟨a,c,rfl,fh,gG,fun h0=>?_⟩;obtain⟨b,off,rfl,hS,hcc⟩:=hc h0;refine⟨b,off,rfl,hS,fun i hi=>?_⟩;obtain⟨u,hu,hr⟩:=hcc i (by rw[hl,Nat.mul_one];exact hi);have eB:i<B.data.size:=hi;have e:(B.data.toList.map fun x=>a_.int .u8 ((x.toNat:Nat):Int))[i]'(by simpa using hi)=a_.int .u8 (af B i):=by simp only[List.getElem_map,Array.getElem_toList];unfold af;rw[Array.getElem?_eq_getElem eB];rfl
 rw[e]at hr;rw[hu,hr.rf]
def bm(n:Nat):List Nat:=if n<128 then[n]else if n<2048 then[192+n/64,128+n%64]else if n<65536 then[224+n/4096,128+n/64%64,128+n%64]else[240+n/262144,128+n/4096%64,128+n/64%64,128+n%64]
def cY(n:Int):Int:=if 55296≤n∧n<56320 then 1 else if 56320≤n∧n<57344 then 2 else 0
def dv(n:Int):Bool:=decide (0≤n)&&decide (n<1114112)&&(cY n==0)
def k9(b0 b1 b2 b3:Nat)(k:Nat):Int:=if k=1 then b0 else if k=2 then 64*((b0:Int)-192)+b1-128 else if k=3 then 64*(64*((b0:Int)-224)+b1-128)+b2-128 else 64*(64*(64*((b0:Int)-240)+b1-128)+b2-128)+b3-128
def fT(b0 b1 b2 b3 k:Nat):Bool:=dv (k9 b0 b1 b2 b3 k)&&(bm (k9 b0 b1 b2 b3 k).toNat==[b0,b1,b2,b3].take k)
theorem yS(b0 b1 b2 b3:Nat):k9 b0 b1 b2 b3 1=b0:=rfl
theorem Gg(b0 b1 b2 b3:Nat):k9 b0 b1 b2 b3 2=64*((b0:Int)-192)+b1-128:=rfl
theorem Gh(b0 b1 b2 b3:Nat):k9 b0 b1 b2 b3 3=64*(64*((b0:Int)-224)+b1-128)+b2-128:=rfl
theorem Gi(b0 b1 b2 b3:Nat):k9 b0 b1 b2 b3 4=64*(64*(64*((b0:Int)-240)+b1-128)+b2-128)+b3-128:=rfl
theorem k_(n:Int):dv n=true↔0≤n∧n<1114112∧¬(55296≤n∧n<57344):=by
 unfold dv cY;simp only[Bool.and_eq_true,decide_eq_true_eq,beq_iff_eq];constructor
 ·rintro⟨⟨h1,h2⟩,h3⟩;refine⟨h1,h2,fun h=>?_⟩;split at h3
  ·omega
  ·split at h3<;>omega
 ·rintro⟨h1,h2,h3⟩;refine⟨⟨h1,h2⟩,?_⟩;rw[if_neg (by omega),if_neg (by omega)]
section
variable{b0 b1 b2 b3:Nat}
theorem MP(h0:b0<256):fT b0 b1 b2 b3 1=true↔b0<128:=by
 unfold fT;rw[yS];simp only[Bool.and_eq_true,k_,beq_iff_eq,Int.toNat_natCast,bm];constructor
 ·rintro⟨_,h⟩;by_cases hc:b0<128
  ·exact hc
  ·rw[if_neg hc,if_pos (by omega)]at h;simp at h
 ·intro h;rw[if_pos h];exact⟨by omega,rfl⟩
theorem Gj(h1:b1<256):fT b0 b1 b2 b3 2=true↔b0/32=6∧b1/64=2∧128≤b0%32*64+b1%64:=by
 unfold fT;rw[Gg];simp only[Bool.and_eq_true,k_,beq_iff_eq,bm];constructor
 ·rintro⟨⟨r1,r2,r3⟩,h⟩;generalize hg:(64*((b0:Int)-192)+b1-128).toNat=g at h;have oL:(g:Int)=64*((b0:Int)-192)+b1-128:=by omega
  split at h
  ·simp at h
  ·split at h
   ·simp at h;omega
   ·split at h<;>simp at h
 ·rintro⟨q1,q2,q3⟩;generalize hg:(64*((b0:Int)-192)+b1-128).toNat=g;have oL:(g:Int)=64*((b0:Int)-192)+b1-128:=by omega
  refine⟨⟨by omega,by omega,by omega⟩,?_⟩;rw[if_neg (by omega),if_pos (by omega)];simp only[List.take_succ_cons,List.take_zero,List.cons.injEq,and_true];omega
theorem Gk(h1:b1<256):fT b0 b1 b2 b3 3=true↔b0/16=14∧b1/64=2∧b2/64=2∧2048≤b0%16*4096+b1%64*64+b2%64∧(b0%16*4096+b1%64*64+b2%64<55296∨57344≤b0%16*4096+b1%64*64+b2%64):=by
 unfold fT;rw[Gh];simp only[Bool.and_eq_true,k_,beq_iff_eq,bm];constructor
 ·rintro⟨⟨r1,r2,r3⟩,h⟩;generalize hg:(64*(64*((b0:Int)-224)+b1-128)+b2-128).toNat=g at h;have oL:(g:Int)=64*(64*((b0:Int)-224)+b1-128)+b2-128:=by omega
  split at h
  ·simp at h
  ·split at h
   ·simp at h
   ·split at h
    ·simp at h;omega
    ·simp at h
 ·rintro⟨q1,q2,q3,q4,q5⟩;generalize hg:(64*(64*((b0:Int)-224)+b1-128)+b2-128).toNat=g;have oL:(g:Int)=64*(64*((b0:Int)-224)+b1-128)+b2-128:=by omega
  refine⟨⟨by omega,by omega,by omega⟩,?_⟩;rw[if_neg (by omega),if_neg (by omega),if_pos (by omega)];simp only[List.take_succ_cons,List.take_zero,List.cons.injEq,and_true];omega
theorem Gl(h2:b2<256):fT b0 b1 b2 b3 4=true↔b0/8=30∧b1/64=2∧b2/64=2∧b3/64=2∧65536≤b0%8*262144+b1%64*4096+b2%64*64+b3%64∧b0%8*262144+b1%64*4096+b2%64*64+b3%64≤1114111:=by
 unfold fT;rw[Gi];simp only[Bool.and_eq_true,k_,beq_iff_eq,bm];constructor
 ·rintro⟨⟨r1,r2,r3⟩,h⟩;generalize hg:(64*(64*(64*((b0:Int)-240)+b1-128)+b2-128)+b3-128).toNat=g at h;have oL:(g:Int)=64*(64*(64*((b0:Int)-240)+b1-128)+b2-128)+b3-128:=by omega
  split at h
  ·simp at h
  ·split at h
   ·simp at h
   ·split at h
    ·simp at h
    ·simp at h;omega
 ·rintro⟨q1,q2,q3,q4,q5,q6⟩;generalize hg:(64*(64*(64*((b0:Int)-240)+b1-128)+b2-128)+b3-128).toNat=g;have oL:(g:Int)=64*(64*(64*((b0:Int)-240)+b1-128)+b2-128)+b3-128:=by omega
  refine⟨⟨by omega,by omega,by omega⟩,?_⟩;rw[if_neg (by omega),if_neg (by omega),if_neg (by omega)];simp only[List.take_succ_cons,List.take_zero,List.cons.injEq,and_true];omega
theorem MQ(h0:b0<256)(h1:b1<256)(h2:b2<256)(n:Nat)(XY:0<n)(k:Nat)(hk:1≤k)(sL:k≤4)(yT:k≤n)(hh:fT b0 b1 b2 b3 k=true):Go.Lib.decodeN n b0 b1 b2 b3=((k9 b0 b1 b2 b3 k).toNat,k)∧((k9 b0 b1 b2 b3 k).toNat,k)≠(65533,1):=by
 have jY:k=1∨k=2∨k=3∨k=4:=by omega
 rcases jY with rfl|rfl|rfl|rfl
 ·have h:=(MP h0).1 hh;refine⟨?_,?_⟩
  ·rw[yS];unfold Go.Lib.decodeN;rw[if_pos h];simp
  ·rw[yS];simp;omega
 ·obtain⟨q1,q2,q3⟩:=(Gj h1).1 hh;refine⟨?_,by simp⟩;rw[Gg];unfold Go.Lib.decodeN;rw[if_neg (by omega),if_pos ⟨q1,by omega,q2⟩,if_pos q3];refine Prod.ext ?_ rfl;simp only;omega
 ·obtain⟨q1,q2,q3,q4,q5⟩:=(Gk h1).1 hh;refine⟨?_,by simp⟩;rw[Gh];unfold Go.Lib.decodeN;rw[if_neg (by omega),if_neg (by omega),if_pos ⟨q1,⟨by omega,q2⟩,by omega,q3⟩,if_pos ⟨q4,by omega⟩];refine Prod.ext ?_ rfl;simp only;omega
 ·obtain⟨q1,q2,q3,q4,q5,q6⟩:=(Gl h2).1 hh;refine⟨?_,by simp⟩;rw[Gi];unfold Go.Lib.decodeN;rw[if_neg (by omega),if_neg (by omega),if_neg (by omega),if_pos ⟨q1,⟨by omega,q2⟩,⟨by omega,q3⟩,by omega,q4⟩,if_pos ⟨q5,by omega⟩];refine Prod.ext ?_ rfl;simp only;omega
theorem MR(h0:b0<256)(h1:b1<256)(h2:b2<256)(n:Nat)(hn:0<n)(h:∀k,1≤k→k≤4→k≤n→fT b0 b1 b2 b3 k=false):Go.Lib.decodeN n b0 b1 b2 b3=(65533,1):=by
 have f:∀k,1≤k→k≤4→k≤n→¬fT b0 b1 b2 b3 k=true:=fun k a b c=>by rw[h k a b c];simp
 have f1:=fun c=>f 1 (by omega) (by omega) hn ((MP h0).2 c);have f2:=fun d c=>f 2 (by omega) (by omega) d ((Gj h1).2 c);have f3:=fun d c=>f 3 (by omega) (by omega) d ((Gk h1).2 c);have f4:=fun d c=>f 4 (by omega) (by omega) d ((Gl h2).2 c);unfold Go.Lib.decodeN;rw[if_neg (fun c=>f1 c)];by_cases c2:b0/32=6∧(1<n∧b1/64=2)
 ·rw[if_pos c2,if_neg (fun c=>f2 (by omega) ⟨c2.1,c2.2.2,c⟩)]
 ·rw[if_neg c2];by_cases c3:b0/16=14∧(1<n∧b1/64=2)∧(2<n∧b2/64=2)
  ·rw[if_pos c3,if_neg (fun c=>f3 (by omega) ⟨c3.1,c3.2.1.2,c3.2.2.2,c.1,by omega⟩)]
  ·rw[if_neg c3];by_cases c4:b0/8=30∧(1<n∧b1/64=2)∧(2<n∧b2/64=2)∧(3<n∧b3/64=2)
   ·rw[if_pos c4,if_neg (fun c=>f4 (by omega) ⟨c4.1,c4.2.1.2,c4.2.2.1.2,c4.2.2.2.2,c.1,by omega⟩)]
   ·rw[if_neg c4]
end
theorem CW{n:Nat}(h:n<1114112):∀x∈bm n,x<256:=by
 intro x hx;unfold bm at hx;split at hx
 ·simp at hx;omega
 ·split at hx
  ·simp at hx;omega
  ·split at hx
   ·simp at hx;omega
   ·simp at hx;omega
structure aW where
 val:Value
 up:Int
 first:Int
 last:Int
 next:Int
 deep:Int
 count:Int
def aW.cells(a:aW):List Value:=[a.val,.int .i64 a.up,.int .i64 a.first,.int .i64 a.last,.int .i64 a.next,.int .i64 a.deep,.int .i64 a.count]
def dL(aa:List Nat):Prop:=∀i u,0<i→aa[i]?=some u→u<i
def kids(aa:List Nat)(i:Nat):List Nat:=(List.range' 1 (aa.length-1)).filter fun j=>decide (aa[j]?=some i)
def iy(l:List Nat):Int:=match l.head? with|some x=>x|none=>-1
def nB(l:List Nat):Int:=match l.getLast? with|some x=>x|none=>-1
def uN(aa:List Nat)(i:Nat):Int:=match aa[i]? with
  |some u=>if i=0 then-1 else iy ((kids aa u).filter fun j=>decide (i<j))
  |none=>-1
theorem fk{aa:List Nat}{i j:Nat}:j∈kids aa i↔0<j∧j<aa.length∧aa[j]?=some i:=by
 simp[kids,List.mem_range'_1];constructor
 ·rintro⟨⟨h1,h2⟩,h3⟩;exact⟨by omega,by omega,h3⟩
 ·rintro⟨h1,h2,h3⟩;exact⟨⟨by omega,by omega⟩,h3⟩
theorem l9{aa:List Nat}(hw:dL aa){i j:Nat}(h:j∈kids aa i):i<j:=hw j i (fk.1 h).1 (fk.1 h).2.2
theorem GG(aa:List Nat)(i:Nat):(kids aa i).Pairwise (·<·):=(List.pairwise_lt_range' (s:=1) (n:=aa.length-1)).filter _
theorem Zb(aa:List Nat)(u i:Nat)(h0:0<aa.length):kids (aa++[u]) i=kids aa i++if u=i then[aa.length]else[]:=by
 have e:List.range' 1 ((aa++[u]).length-1)=List.range' 1 (aa.length-1)++[aa.length]:=by(have:(aa++[u]).length-1=(aa.length-1)+1:=by simp;omega);rw[this,List.range'_concat];congr 2;omega
 rw[kids,e,List.filter_append,kids];congr 1
 ·apply List.filter_congr;intro j hj;have:j<aa.length:=by have:=List.mem_range'_1.1 hj;omega
  rw[List.getElem?_append_left this]
 ·by_cases h:u=i
  ·subst h;simp
  ·simp[h]
structure p4(ns:List aW)(aa:List Nat):Prop where
 len:ns.length=aa.length
 first:∀i a,ns[i]?=some a→a.first=iy (kids aa i)
 last:∀i a,ns[i]?=some a→a.last=nB (kids aa i)
 next:∀i a,ns[i]?=some a→a.next=uN aa i
 count:∀i a,ns[i]?=some a→a.count=((kids aa i).length:Int)
 up:∀(i u:Nat)(a:aW),0<i→aa[i]?=some u→ns[i]?=some a→a.up=(u:Int)
 Zd:∀a,ns[0]?=some a→a.up=-1
 Nt:∀a,ns[0]?=some a→a.deep=0
 deep:∀(i u:Nat)(a b:aW),0<i→aa[i]?=some u→ns[i]?=some a→ns[u]?=some b→a.deep=b.deep+1
def root(v:Value):aW:=⟨v,-1,-1,-1,-1,0,0⟩
theorem Ze(v:Value):p4 [root v] [0]:=by
 constructor
 ·rfl
 all_goals intro i
 ·intro a h;cases i<;>simp at h;subst h;rfl
 ·intro a h;cases i<;>simp at h;subst h;rfl
 ·intro a h;cases i<;>simp at h;subst h;rfl
 ·intro a h;cases i<;>simp at h;subst h;rfl
 ·intro u a h0 h;cases i<;>simp at h0 h
 ·intro h;simp at h;subst h;rfl
 ·intro h;simp at h;subst h;rfl
 ·intro u a b h0 h;cases i<;>simp at h0 h
def addN(ns:List aW)(u:Nat)(v:Value):List aW:=match ns[u]? with
  |none=>ns
  |some a=>let Zf:=if a.last=-1 then ns.set u {a with first:=ns.length}else ns.modify a.last.toNat fun b=>{b with next:=ns.length};(Zf.modify u fun b=>{b with last:=ns.length,count:=b.count+1})++[⟨v,u,-1,-1,-1,a.deep+1,0⟩]
theorem Zg:iy []=-1:=rfl
theorem Nu(x:Nat)(l:List Nat):iy (x::l)=x:=rfl
theorem Nv(l m:List Nat):iy (l++m)=if l=[]then iy m else iy l:=by cases l<;>simp[iy]
theorem zc(l:List Nat)(x:Nat):nB (l++[x])=x:=by simp[nB]
theorem Nw{l:List Nat}:nB l=-1↔l=[]:=by
 unfold nB
 cases h:l.getLast? with
 |none=>simp at h;simp[h]
 |some x=>
  constructor
  ·intro e;simp only at e;omega
  ·intro e;subst e;simp at h
def pre(aa:List Nat):Nat→Nat→List Nat
 |0,_=>[]
 |f+1,i=>i::(kids aa i).flatMap (pre aa f)
inductive oP(aa:List Nat)(i:Nat):Nat→Prop
 |refl:oP aa i i
 |step{k j:Nat}:oP aa i k→j∈kids aa k→oP aa i j
theorem oP.le{aa:List Nat}(hw:dL aa){i j:Nat}(h:oP aa i j):i≤j:=by
 induction h with
 |refl=>exact Nat.le_refl _
 |step _ hk ih=>have:=l9 hw hk;omega
theorem NB{A B:List Nat}{c:Nat}(h:(A++c::B).Pairwise (·<·)):(A++c::B).filter (fun j=>decide (c<j))=B:=by rw[List.pairwise_append]at h;obtain⟨_,h2,h3⟩:=h;rw[List.pairwise_cons]at h2;rw[List.filter_append,List.filter_cons];(have e1:A.filter (fun j=>decide (c<j))=[]:=by rw[List.filter_eq_nil_iff];intro a ha;have:=h3 a ha c (by simp);simp;omega);(have e2:B.filter (fun j=>decide (c<j))=B:=by rw[List.filter_eq_self];intro b hb;simpa using h2.1 b hb);simp[e1,e2]
theorem GK{aa:List Nat}{k c:Nat}{A B:List Nat}(h:kids aa k=A++c::B):uN aa c=iy B:=by(have hm:c∈kids aa k:=by rw[h];simp);obtain⟨h0,hl,hu⟩:=fk.1 hm;have hs:=GG aa k;rw[h]at hs;simp only[uN,hu];rw[if_neg (by omega),h,NB hs]
theorem GN{ns:List aW}{u:Nat}{v:Value}{a:aW}(ha:ns[u]?=some a):∀i b,(addN ns u v)[i]?=some b→(i=ns.length∧b=⟨v,u,-1,-1,-1,a.deep+1,0⟩)∨(i<ns.length∧∃c,ns[i]?=some c∧b.val=c.val∧b.up=c.up∧b.deep=c.deep∧b.first=(if i=u∧c.last=-1 then(ns.length:Int)else c.first)∧b.last=(if i=u then(ns.length:Int)else c.last)∧b.count=(if i=u then c.count+1 else c.count)∧b.next=(if a.last≠-1∧i=a.last.toNat then(ns.length:Int)else c.next)):=by
 intro i b hb;obtain⟨hu,GO⟩:=List.getElem?_eq_some_iff.1 ha;by_cases hi:i<ns.length
 ·right;refine⟨hi,ns[i],List.getElem?_eq_getElem hi,?_⟩;simp only[addN,ha]at hb;rw[List.getElem?_append_left (by split<;>simp[hi])]at hb;split at hb
  ·rename_i hl;rw[List.getElem?_modify]at hb;by_cases fb:u=i
   ·subst fb;simp[hu]at hb;subst hb;simp[GO,hl]
   ·rw[List.getElem?_set_ne fb,List.getElem?_eq_getElem hi]at hb;simp[fb]at hb;subst hb;simp[show¬i=u from fun e=>fb e.symm,hl]
  ·rename_i hl;rw[List.getElem?_modify,List.getElem?_modify,List.getElem?_eq_getElem hi]at hb;by_cases fb:u=i
   ·subst fb;by_cases jZ:a.last.toNat=u
    ·simp[jZ]at hb;subst hb;simp[GO,hl,jZ]
    ·simp[jZ]at hb;subst hb;simp[GO,hl,show¬u=a.last.toNat from fun e=>jZ e.symm]
   ·have NC:¬i=u:=fun e=>fb e.symm;by_cases jZ:a.last.toNat=i
    ·simp[fb,jZ]at hb;subst hb;simp[hl,jZ,NC]
    ·simp[jZ,fb]at hb;subst hb;simp[hl,show¬i=a.last.toNat from fun e=>jZ e.symm,NC]
 ·left;simp only[addN,ha]at hb;have hlen:((if a.last=-1 then ns.set u {a with first:=ns.length}else ns.modify a.last.toNat fun b=>{b with next:=ns.length}).modify u fun b=>{b with last:=ns.length,count:=b.count+1}).length=ns.length:=by split<;>simp
  rw[List.getElem?_append_right (by rw[hlen];omega),hlen]at hb
  have:i-ns.length=0:=by
   cases hh:i-ns.length with
   |zero=>rfl
   |succ m=>rw[hh]at hb;simp at hb
  rw[this]at hb;simp at hb;exact⟨by omega,hb.symm⟩
theorem NF{ns:List aW}{u:Nat}{v:Value}(hu:u<ns.length):(addN ns u v).length=ns.length+1:=by simp only[addN,List.getElem?_eq_getElem hu];split<;>simp
theorem C_{l:List Nat}(h:l≠[]):∃A k,l=A++[k]:=⟨l.dropLast,l.getLast h,(List.dropLast_concat_getLast h).symm⟩
theorem Zm{ns:List aW}{aa:List Nat}{u:Nat}(v:Value)(hw:dL aa)(h:p4 ns aa)(hu:u<aa.length):p4 (addN ns u v) (aa++[u]):=by
 have h0:0<aa.length:=by omega
 have wU:u<ns.length:=by rw[h.len];exact hu
 obtain⟨a,ha⟩:=bN ns u wU;have G:=GN (v:=v) ha;have p6:=h.last u a ha;have hlen:=h.len;have hK:=fun i=>Zb aa u i h0;have GP:kids aa aa.length=[]:=by rw[List.eq_nil_iff_forall_not_mem];intro j hj;have:=l9 hw hj;have:=(fk.1 hj).2.1;omega
 constructor
 ·rw[NF wU];simp[hlen]
 ·intro i b hb;rw[hK];rcases G i b hb with⟨rfl,rfl⟩|⟨hi,c,hc,_,_,_,hf,_,_,_⟩
  ·simp[hlen,GP,show¬u=aa.length by omega,iy]
  ·rw[hf,h.first i c hc,h.last i c hc];by_cases fb:i=u
   ·subst fb;rw[if_pos rfl,Nv];by_cases hk:kids aa i=[]
    ·simp[hk,nB,Nu,hlen]
    ·have:¬nB (kids aa i)=-1:=fun e=>hk (Nw.1 e);simp[hk,this]
   ·simp[fb,show¬u=i from fun e=>fb e.symm]
 ·intro i b hb;rw[hK];rcases G i b hb with⟨rfl,rfl⟩|⟨hi,c,hc,_,_,_,_,hl,_,_⟩
  ·simp[hlen,GP,show¬u=aa.length by omega,nB]
  ·rw[hl,h.last i c hc];by_cases fb:i=u
   ·subst fb;rw[if_pos rfl,if_pos rfl,zc,hlen]
   ·simp[fb,show¬u=i from fun e=>fb e.symm]
 ·intro i b hb;rcases G i b hb with⟨rfl,rfl⟩|⟨hi,c,hc,_,_,_,_,_,_,hn⟩
  ·have e:(aa++[u])[ns.length]?=some u:=by rw[hlen];simp
   simp only[uN,e];rw[if_neg (by omega),hK,if_pos rfl]
   have:(kids aa u++[aa.length]).filter (fun j=>decide (ns.length<j))=[]:=by
    rw[List.filter_eq_nil_iff];intro j hj;simp at hj⊢;rcases hj with hj|rfl
    ·have:=(fk.1 hj).2.1;omega
    ·omega
   rw[this];rfl
  ·have eB:i<aa.length:=by omega
   rw[hn,h.next i c hc];have e:(aa++[u])[i]?=aa[i]?:=List.getElem?_append_left eB;simp only[uN,e,List.getElem?_eq_getElem eB];by_cases dw:i=0
   ·subst dw;have:¬(a.last≠-1∧0=a.last.toNat):=by rintro⟨h1,h2⟩;have hne:kids aa u≠[]:=fun e=>h1 (by rw[p6,e];rfl);obtain⟨A,k,hk⟩:=C_ hne;rw[p6,hk,zc]at h2;(have:k∈kids aa u:=by rw[hk];simp);have:=l9 hw this;simp at h2;omega
    rw[if_neg this,if_pos rfl,if_pos rfl]
   ·rw[if_neg dw,if_neg dw,hK];by_cases fb:aa[i]=u
    ·rw[if_pos fb.symm,fb,List.filter_append];have hm:i∈kids aa u:=fk.2 ⟨by omega,eB,by rw[List.getElem?_eq_getElem eB,fb]⟩;have hne:kids aa u≠[]:=fun e=>by rw[e]at hm;simp at hm
     have l_:a.last≠-1:=by rw[p6];exact fun e=>hne (Nw.1 e)
     obtain⟨A,k,hk⟩:=C_ hne;have hs:=GG aa u;have Zn:List.filter (fun j=>decide (i<j)) [aa.length]=[aa.length]:=by simp[eB]
     rw[Zn,Nv];rw[p6,hk,zc];rw[hk]at hs hm;by_cases GQ:i=k
     ·subst GQ;rw[NB hs];simp[iy,hlen]
     ·have Zo:i∈A:=by simpa[GQ]using hm
      have:(A++[k]).filter (fun j=>decide (i<j))≠[]:=by intro e;rw[List.filter_eq_nil_iff]at e;have h1:=e k (by simp);have h2:=(List.pairwise_append.1 hs).2.2 i Zo k (by simp);simp at h1;omega
      rw[if_neg (fun e=>GQ (by have:=e.2;simpa using this)),if_neg this]
    ·rw[if_neg (c:=u=aa[i]) (fun e=>fb e.symm),List.append_nil];have:¬(a.last≠-1∧i=a.last.toNat):=by rintro⟨h1,h2⟩;have hne:kids aa u≠[]:=fun e=>h1 (by rw[p6,e];rfl);obtain⟨A,k,hk⟩:=C_ hne;rw[p6,hk,zc]at h2;(have hm:k∈kids aa u:=by rw[hk];simp);have:=(fk.1 hm).2.2;simp at h2;subst h2;rw[List.getElem?_eq_getElem eB]at this;exact fb (Option.some.inj this)
     rw[if_neg this]
 ·intro i b hb;rw[hK];rcases G i b hb with⟨rfl,rfl⟩|⟨hi,c,hc,_,_,_,_,_,hl,_⟩
  ·simp[hlen,GP,show¬u=aa.length by omega]
  ·rw[hl,h.count i c hc];by_cases fb:i=u
   ·subst fb;simp
   ·simp[fb,show¬u=i from fun e=>fb e.symm]
 ·intro i x b dw hx hb;rcases G i b hb with⟨rfl,rfl⟩|⟨hi,c,hc,_,uP,_,_,_,_,_⟩
  ·rw[hlen]at hx;simp at hx;subst hx;rfl
  ·rw[List.getElem?_append_left (by omega)]at hx;rw[uP];exact h.up i x c dw hx hc
 ·intro b hb;rcases G 0 b hb with⟨e,_⟩|⟨hi,c,hc,_,uP,_,_,_,_,_⟩
  ·omega
  ·rw[uP];exact h.Zd c hc
 ·intro b hb;rcases G 0 b hb with⟨e,_⟩|⟨hi,c,hc,_,_,hd,_,_,_,_⟩
  ·omega
  ·rw[hd];exact h.Nt c hc
 ·intro i x b y dw hx hb hy;rcases G i b hb with⟨rfl,rfl⟩|⟨hi,c,hc,_,_,hd,_,_,_,_⟩
  ·rw[hlen]at hx;simp at hx;subst hx;rcases G u y hy with⟨e,_⟩|⟨_,c2,uQ,_,_,zd,_,_,_,_⟩
   ·omega
   ·rw[ha]at uQ;cases uQ;rw[zd]
  ·rw[List.getElem?_append_left (by omega)]at hx;have hxi:=hw i x dw hx;rcases G x y hy with⟨e,_⟩|⟨_,c2,uQ,_,_,zd,_,_,_,_⟩
   ·omega
   ·rw[hd,zd];exact h.deep i x c c2 dw hx hc uQ
end Go.Proofs.YtcaiibkgajhohaaGreatDoor
