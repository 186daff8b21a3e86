/- waybill: lemmas and walks, printed from longer texts. -/
import Derived.Test.YtcaiibkgajhohaaGreatDoorM22
set_option maxRecDepth 100000
set_option maxHeartbeats 4000000
namespace Go.Proofs.YtcaiibkgajhohaaGreatDoor
open Go.RowKit
theorem qv(js:List JN)(id:Nat)(k:Int)(hk:k≠0):(dI js (id:Int) k).1=0↔(du js id=k∨k=2∧du js id=1):=by
 cases hx:js[id]? with
 |some x=>
  have e:du js id=x.kind:=by unfold du;rw[hx]
  rw[IG hx,e];by_cases h:x.kind=k∨k=2∧x.kind=1
  ·rw[if_pos h];exact⟨fun _=>h,fun _=>rfl⟩
  ·rw[if_neg h];exact⟨fun h0=>absurd h0 (by show¬(32:Int)=0;decide),fun h0=>absurd h0 h⟩
 |none=>
  have hl:=List.getElem?_eq_none_iff.1 hx;have e:du js id=0:=by unfold du;rw[hx]
  rw[IH (by omega),e];refine⟨fun h0=>absurd h0 (by show¬(30:Int)=0;decide),fun h=>?_⟩;rcases h with h|⟨_,h⟩
  ·exact absurd h.symm hk
  ·cases h
theorem qp.form{w:World}{u:Value}{p:Int×Int}(h:qp w u p)(hp:p.1≠0):∃b off,u=.iface 85 (.pointer (some ⟨b,off,none⟩)):=by
 rcases h with⟨h,_⟩|⟨_,h⟩
 ·exact absurd h hp
 ·obtain⟨b,off,u2,e,_⟩:=oF h;exact⟨b,off,e⟩
theorem qp.none{w:World}{u:Value}{p:Int×Int}(h:qp w u p)(hp:p.1=0):u=.nilIface:=by
 rcases h with⟨_,h⟩|⟨h,_⟩
 ·exact h
 ·exact absurd hp h
def ez(r:Option Nat):Value:=match r with
  |some k=>.tuple #[.int .i64 (k:Nat),.bool true]
  |none=>.tuple #[.int .i64 0,.bool false]
theorem PV(js:List JN)(key:ByteArray):∀(l:List Nat)(a:Int),0≤a→0≤l.foldl (fun a k=>if bh js k=key then(k:Int)else a) a
 |[],_,h=>h
 |k::l,a,h=>by
  rw[List.foldl_cons];refine PV js key l _ ?_;split
  ·omega
  ·exact h
section
variable{W0 Wv:World}{vv:Value}{base D T:Nat}{s:PS}{nodes:Int}{tv:Value}{ns:List aW}
theorem qw(hV:dA W0 base D T s nodes tv ns)(st:ai)(id:Nat)(key:ByteArray)(w:World)(h:aC W0 Wv vv w D st):Calls Tryz.prog 27 #[an W0.heap.size,.int .i64 id,.string key] w fun e w'=>e=.returned (ez (dV s.js s.aa st id key))∧Below w.heap.size w w':=by
 obtain⟨ev,c0,c1,c2,f2,da⟩:=h.cells;rcases da with⟨hb,rfl⟩|⟨hb,b,rfl⟩
 ·have MB:=Lib.hid (abK (h.view hV) id key)
  have IY:∀e w',PH w s id key e w'→∃(one:Int)(u:Value),e=.returned (.tuple #[.int .i64 one,u])∧Below w.heap.size w w'∧((u=.nilIface∧ez (dV s.js s.aa st id key)=.tuple #[.int .i64 one,.bool true])∨∃b off,u=.iface 85 (.pointer (some ⟨b,off,none⟩))∧ez (dV s.js s.aa st id key)=.tuple #[.int .i64 one,.bool false]):=fun e w' hp=>by
   obtain⟨one,u,h1,h2,h3,h4⟩:=hp;refine⟨one,u,h1,h2,?_⟩;have hc:=qv s.js id 6 (by decide);unfold dV;rw[hb,if_neg (by decide)];by_cases h6:du s.js id=6
   ·have h0:=hc.2 (.inl h6);obtain⟨rfl,he⟩:=h4 h0;rw[Int.toNat_natCast]at he⊢;by_cases ha:jh s.js (kids s.aa id) key=true
    ·rw[if_pos ha]at he;rw[if_pos ⟨h6,ha⟩];refine .inl ⟨he.none rfl,?_⟩;unfold ez;dsimp only;have rh:0≤ic s.js (kids s.aa id) key:=PV s.js key _ 0 (Int.le_refl 0);rw[show(((ic s.js (kids s.aa id) key).toNat:Nat):Int)=ic s.js (kids s.aa id) key by omega]
    ·rw[if_neg ha]at he;rw[if_neg (fun h=>ha h.2)];obtain⟨b,off,hu⟩:=he.form (by show(30:Int)≠0;decide);refine .inr ⟨b,off,hu,?_⟩;rw[PJ (by simpa using ha)];rfl
   ·have h0:(dI s.js (id:Int) 6).1≠0:=fun e=>by
     rcases hc.1 e with h|⟨h,_⟩
     ·exact h6 h
     ·cases h
    obtain⟨rfl,he⟩:=h3 h0;rw[if_neg (fun h=>h6 h.1)];obtain⟨b,off,hu⟩:=he.form h0;exact .inr ⟨b,off,hu,rfl⟩
  obtain⟨V,PW⟩:∃V,ez (dV s.js s.aa st id key)=V:=⟨_,rfl⟩;rw[PW]at IY⊢;have HC:=Lib.hid IY;clear IY PW hb h hV;go_enter Tryz.func27,Tryz.ntmps27;go_wp2_with fail;refine MB.out.mono ?_;intro e w2 hp;obtain⟨one,u,rfl,ah,hu⟩:=HC.out e w2 hp;have HB:=Lib.hid ah;clear hp ah;rcases hu with⟨rfl,rfl⟩|⟨b,off,rfl,rfl⟩
  ·go_wp2;go_quiet(fail);go_wp2;go_ret2;exact⟨rfl,eW _ HB.out⟩
  ·go_wp2;go_quiet(fail);go_wp2;go_ret2;exact⟨rfl,eW _ HB.out⟩
 ·have hm:dV s.js s.aa st id key=none:=by unfold dV;rw[if_pos hb]
  rw[hm];unfold ez;clear hm hb h hV;go_enter Tryz.func27,Tryz.ntmps27;go_wp2;go_ret2;exact⟨rfl,Below.refl _ _⟩
theorem D1(hV:dA W0 base D T s nodes tv ns)(st:ai)(id:Nat)(w:World)(h:aC W0 Wv vv w D st):Calls Tryz.prog 96 #[an W0.heap.size,.int .i64 id] w fun e w'=>e=.returned (.string (bD s.js st id).1)∧bG W0 Wv vv w D (bD s.js st id).2 w':=by
 have IS:=Lib.hid (qt hV st id 4 w h);have hI:(ba s.js st id 4).1=true→du s.js id=4:=fun h=>by unfold ba at h;simp at h;exact h.2
 unfold bD;obtain⟨r,hr⟩:∃r,ba s.js st id 4=r:=⟨_,rfl⟩;rw[hr]at IS hI⊢
 cases bj:r.1 with
 |false=>rw[bj]at IS;rw[if_neg (by decide)];unfold fL;clear hI hr bj h hV;go_enter Tryz.func96,Tryz.ntmps96;go_wp2_with fail;refine IS.out.mono ?_;rintro e w2⟨rfl,hp⟩;have HP:=Lib.hid hp;clear hp;go_wp2;go_ret;exact⟨rfl,HP.out⟩
 |true=>
  have hk:=hI bj;have hc:=(qv s.js id 4 (by decide)).2 (.inl hk);rw[bj]at IS;rw[if_pos rfl];have TX:=Lib.hid (fun W(hR:aC W0 Wv vv W D r.2)=>abI (hR.view hV) id);have hn:=(D0 s.js id).2.2;have HN:=Lib.hid hn;have PX:=Lib.hid hc;clear hI hr bj hk hc hn h hV;go_enter Tryz.func96,Tryz.ntmps96;go_wp2_with fail;refine IS.out.mono ?_;rintro e w2⟨rfl,hp⟩;have HP:=Lib.hid hp;obtain⟨ev,c0,c1,c2,f2,_⟩:=hp.re.cells;have TX2:=Lib.hid (TX.out w2 hp.re);clear hp;go_wp2_with fail;refine TX2.out.mono ?_;intro e w3 hp
  obtain⟨v,u,rfl,he,hg,_,aw⟩:=hp;obtain rfl:=hg PX.out;obtain rfl:=he.none PX.out;have kC:=Lib.hid (HP.out.more aw);rw[HN.out];clear he hg aw;go_wp2;go_ret;exact⟨rfl,kC.out⟩
end
section
variable{W0 Wv:World}{vv:Value}{base D T:Nat}{s:PS}{nodes:Int}{tv:Value}{ns:List aW}
theorem IZ(st:ai)(b:Bool):(⟨st.bad||b,st.vars⟩:ai)=if b=true then st.fail else st:=by
 cases st with
 |mk bad vars=>cases b<;>cases bad<;>rfl
theorem I1(hV:dA W0 base D T s nodes tv ns)(st:ai)(id:Nat)(key:ByteArray)(plain:Bool)(w:World)(h:aC W0 Wv vv w D st):Calls Tryz.prog 94 #[an W0.heap.size,.int .i64 id,.string key,.bool plain] w fun e w'=>e=.returned (.bool (nK s.js s.aa st id key plain).1)∧bG W0 Wv vv w D (nK s.js s.aa st id key plain).2 w':=by
 have ME:=Lib.hid (qw hV st id key w h);unfold nK
 cases hm:dV s.js s.aa st id key with
 |none=>rw[hm]at ME;unfold ez at ME;have H:=Lib.hid h;clear hm h hV;go_enter Tryz.func94,Tryz.ntmps94;go_wp2_with fail;refine ME.out.mono ?_;rintro e w2⟨rfl,ah⟩;have HP:=Lib.hid (bG.of H.out ah);clear ah;go_wp2;go_ret;exact⟨rfl,HP.out⟩
 |some k=>
  rw[hm]at ME;unfold ez at ME;dsimp only;have hc:=qv s.js k 2 (by decide);have hn:=(D0 s.js k).1;have FL:=Lib.hid (fun W(hR:aC W0 Wv vv W D st)=>abJ (hR.view hV) k);have WR:=Lib.hid (fun W(hR:aC W0 Wv vv W D st)=>vo hV st k 32 W hR);have H:=Lib.hid h;rw[IZ];by_cases hk:du s.js k=2∨2=2∧du s.js k=1
  ·have h0:=hc.2 (by rcases hk with h|⟨_,h⟩;exact .inl h;exact .inr ⟨rfl,h⟩);have hb:(!(decide (du s.js k=1)||decide (du s.js k=2)))=false:=by rcases hk with h|⟨_,h⟩<;>rw[h]<;>rfl
   rw[hb,if_neg (by decide)];have HN:Hid (((ji s.js (k:Int)).kind==2)=decide (du s.js k=2)):=Lib.hid (by rw[hn,Bool.eq_iff_iff];simp);have H0:=Lib.hid h0;clear hm hc hn hk hb h0 h hV WR;go_enter Tryz.func94,Tryz.ntmps94;go_wp2_with fail;refine ME.out.mono ?_;rintro e w2⟨rfl,ah⟩;have fC:=H.out.ext ah;obtain⟨ev,c0,c1,c2,f2,_⟩:=fC.cells;have z7:=Lib.hid (FL.out w2 fC);have aP:=Lib.hid ah;clear ah fC;go_wp2_with fail;refine z7.out.mono ?_;intro e w3 hp;obtain⟨v,u,rfl,he,hg,_,aw⟩:=hp
   obtain rfl:=hg H0.out;obtain rfl:=he.none H0.out;have HP:=Lib.hid (bG.of H.out (aF aP.out aw));rw[HN.out];clear he hg aw;go_wp2;go_ret;exact⟨rfl,HP.out⟩
  ·have h0:(dI s.js (k:Int) 2).1≠0:=fun e=>hk (by rcases hc.1 e with h|⟨_,h⟩;exact .inl h;exact .inr ⟨rfl,h⟩);have h1:¬du s.js k=1:=fun e=>hk (.inr ⟨rfl,e⟩);have h2:¬du s.js k=2:=fun e=>hk (.inl e);rw[decide_eq_false h1,decide_eq_false h2,show(!(false||false))=true from rfl,if_pos rfl];have H0:=Lib.hid h0;clear hm hc hn hk h0 h1 h2 h hV;go_enter Tryz.func94,Tryz.ntmps94;go_wp2_with fail;refine ME.out.mono ?_;rintro e w2⟨rfl,ah⟩;have fC:=H.out.ext ah
   obtain⟨ev,c0,c1,c2,f2,_⟩:=fC.cells;have z7:=Lib.hid (FL.out w2 fC);have aP:=Lib.hid ah;clear ah fC;go_wp2_with fail;refine z7.out.mono ?_;intro e w3 hp;obtain⟨v,u,rfl,he,_,hg,aw⟩:=hp;obtain rfl:=hg H0.out;obtain⟨b,off,rfl⟩:=he.form H0.out;have I2:=aF aP.out aw;have WR3:=Lib.hid (WR.out w3 (H.out.ext I2));have cF:=Lib.hid I2;clear he hg aw I2;go_wp2_with fail;refine WR3.out.mono ?_;rintro e w4⟨rfl,hp⟩;have HP:=Lib.hid ((bG.of H.out cF.out).trans hp);clear hp;go_wp2;go_ret;exact⟨rfl,HP.out⟩
theorem PY(hV:dA W0 base D T s nodes tv ns)(st:ai)(id:Nat)(a:Option Addr)(n c most:Nat)(w:World)(h:aC W0 Wv vv w D st):Calls Tryz.prog 60 #[an W0.heap.size,.int .i64 id,.slice a n c,.int .i64 most] w fun e w'=>e=.returned (.bool (eR st n most).1)∧bG W0 Wv vv w D (eR st n most).2 w':=by
 have H:=Lib.hid h;obtain⟨ev,c0,c1,c2,f2,da⟩:=h.cells;unfold eR;rw[IZ];have WR:=Lib.hid (vo hV st id 15 w h);have PZ:=Lib.hid (bG.of h (Below.refl _ _));rcases da with⟨hb,rfl⟩|⟨hb,b,rfl⟩
 ·rw[hb];by_cases hm:most<n
  ·have t1:decide ((most:Int)<(n:Int))=true:=decide_eq_true (by omega);have aT:decide (most<n)=true:=decide_eq_true hm;rw[aT,if_pos rfl];clear hm hb h hV;go_enter Tryz.func60,Tryz.ntmps60;go_wp2_with fail;refine WR.out.mono ?_;rintro e w3⟨rfl,hp⟩;have HP:=Lib.hid hp;obtain⟨ev3,d0,d1,d2,g2,IQ⟩:=hp.re.cells;rcases IQ with⟨aw,_⟩|⟨_,b3,rfl⟩
   ·cases aw
   ·clear hp c0 c1 c2;go_wp2;go_ret;exact⟨rfl,HP.out⟩
  ·have t1:decide ((most:Int)<(n:Int))=false:=decide_eq_false (by omega);have aT:decide (most<n)=false:=decide_eq_false hm;rw[aT,if_neg (by decide)];clear hm hb h hV;go_enter Tryz.func60,Tryz.ntmps60;go_wp2;go_ret;exact⟨rfl,PZ.out⟩
 ·rw[hb,Bool.true_or];have hf:(if decide (most<n)=true then st.fail else st)=st:=by split;exact PM hb;rfl
  rw[hf];clear hf hb h hV;go_enter Tryz.func60,Tryz.ntmps60;go_wp2;go_ret;exact⟨rfl,PZ.out⟩
end
abbrev VP:=ByteArray×Value
def tF(x:VP):List Value:=[.string x.1,x.2]
theorem ace(x:VP):(tF x)[0]?=some (.string x.1)∧(tF x)[1]?=some x.2:=⟨rfl,rfl⟩
theorem bp.D4{S:Nat→Prop}{w:World}{cells:List Value}{d:a_}{ds:List a_}(h:bp S w cells (d::ds)):∃v vs,cells=v::vs∧Rd S w v d∧bp S w vs ds:=by
 cases cells with
 |nil=>exact absurd h.1 (by simp)
 |cons v vs=>exact⟨v,vs,rfl,h.2 0 v d rfl rfl,⟨by simpa using h.1,fun j u e hu he=>h.2 (j+1) u e (by simpa using hu) (by simpa using he)⟩⟩
def xu(w:World)(vv:Value)(vars:List cW):Prop:=∃(base:Nat)(zs:List VP),w.ownsRow base 103 2 vv vars.length (zs.flatMap tF)∧zs.map (·.1)=vars.map (·.name)
theorem xu.ext{w w':World}{vv:Value}{vars:List cW}(h:xu w vv vars)(hb:Below w.heap.size w w'):xu w' vv vars:=by obtain⟨base,zs,ho,hz⟩:=h;exact⟨base,zs,bu ho (fun g hg=>hb.block g (ho.lt g hg).2) (Nat.le_refl _),hz⟩
theorem Qc{S:Nat→Prop}{w:World}:∀(vars:List cW)(cells:List Value),bp S w cells (vars.flatMap o7)→∃zs:List VP,cells=zs.flatMap tF∧zs.map (·.1)=vars.map (·.name)
 |[],cells,h=>⟨[],List.eq_nil_of_length_eq_zero h.1,rfl⟩
 |v::vars,cells,h=>by rw[List.flatMap_cons]at h;obtain⟨a,c1,rfl,ha,h1⟩:=bp.D4 h;obtain⟨b,c2,rfl,_,h2⟩:=bp.D4 h1;obtain⟨zs,rfl,hz⟩:=Qc vars c2 h2;rw[ha.jS];exact⟨(v.name,b)::zs,rfl,by rw[List.map_cons,List.map_cons,hz]⟩
theorem aC.acf{W0 Wv w:World}{vv:Value}{D:Nat}{st:ai}(h:aC W0 Wv vv w D st):xu w vv st.vars:=by obtain⟨cells,ho,hr⟩:=h.vars.row;obtain⟨zs,rfl,hz⟩:=Qc _ _ hr;refine⟨W0.heap.size+1,zs,bu ho (fun g hg=>h.only.block g (ho.lt g hg).2 (fun e=>by have:=(ho.lt g hg).1;omega)) (Nat.le_refl _),hz⟩
theorem Qd(t:ByteArray):∀(zs:List VP)(vars:List cW),zs.map (·.1)=vars.map (·.name)→(zs.any fun x=>decide (x.1=t))=(vars.any fun v=>decide (v.name=t))
 |[],[],_=>rfl
 |[],_::_,h=>by cases h
 |_::_,[],h=>by cases h
 |z::zs,v::vars,h=>by rw[List.map_cons,List.map_cons,List.cons.injEq]at h;rw[List.any_cons,List.any_cons,Qd t zs vars h.2,h.1]
theorem acg(t:ByteArray)(B:Nat)(w:World)(hB:B<w.heap.size)(hcell:w.cell? ⟨B,0,none⟩=some (.string t)):PredBelow Tryz.prog 198 #[.pointer (some ⟨B,0,none⟩)] (fun x=>.agg (tF x).toArray) (fun x=>decide (x.1=t)) w:=fun W x hb=>by
 have hc:W.cell? ⟨B,0,none⟩=some (.string t):=(hb.cell (p:=⟨B,0,none⟩) hB).trans hcell;have hBW:B<W.heap.size:=Nat.lt_of_lt_of_le hB hb.size;have hne:B≠W.heap.size:=by omega
 obtain⟨q,rN⟩:∃q,decide (x.1=t)=q:=⟨_,rfl⟩
 have hq:(x.1.toList==t.toList)=q:=by
  by_cases e:x.1=t
  ·rw[←rN,iL e,decide_eq_true e]
  ·rw[←rN,mX e,decide_eq_false e]
 show Calls Tryz.prog 198 #[.agg #[.string x.1,x.2],.pointer (some ⟨B,0,none⟩)] W fun e w'=>e=.returned (.bool (decide (x.1=t)))∧Below w.heap.size w w';rw[rN];clear rN;go_enter Tryz.func198,Tryz.ntmps198;go_wp2;go_ret;exact⟨rfl,hb.alloc hb.size _⟩
theorem ach(vars:List cW)(vv:Value)(t:ByteArray)(w:World)(h:xu w vv vars):Calls Tryz.prog 193 #[vv,.string t] w fun e w'=>(∃u,e=.returned (.tuple #[u,.bool (vars.any fun v=>decide (v.name=t))]))∧Below w.heap.size w w':=by
 obtain⟨base,zs,ho,hz⟩:=h;rw[←Qd t zs vars hz];have hl:zs.length=vars.length:=by have:=congrArg List.length hz;simpa using this
 rw[←hl]at ho;have eg:∀args w,(callFunc 198 args).run Tryz.prog w=.ok (.enter 198 args) w:=enters_of Tryz.func198 (by kernel_rfl) rfl;have aQ:=Lib.hid (aj (Below.refl _ w) (.cells #[.string t] 9));have cq:=Lib.hid (heap_alloc_new w (.cells #[.string t] 9));rcases ho.2 with⟨rfl,hn⟩|⟨g,cap,cur,rfl,hg,qx,gG,z_,hcs,eQ⟩
 ·have I7:zs=[]:=List.eq_nil_of_length_eq_zero hn;rw[I7];rw[I7]at ho hn;have K:∀W,Calls Tryz.prog 197 #[.slice none 0 0,.func (.func 198) #[] #[.pointer (some ⟨w.heap.size,0,none⟩)]] W fun e w'=>e=.returned (.int .i64 (-1))∧w'=W:=fun W=>by go_enter Tryz.func197,Tryz.ntmps197;go_wp2_with fail;go_loopw[8](fun k wr=>k=.int .i64 0∧wr=W)(fun _ _=>0);(case atStart=>exact⟨rfl,rfl⟩);case round=>obtain⟨rfl,rfl⟩:=hrel;go_wp2;go_ret;exact⟨rfl,rfl⟩
  have K:=Lib.hid K;have HB:=Lib.hid aQ.out;clear eg hl hz ho hn I7 cq;go_enter Tryz.func193,Tryz.ntmps193;go_wp2_with fail;refine(K.out _).mono ?_;rintro e w1⟨rfl,rfl⟩;go_wp2;go_ret2;exact⟨⟨_,rfl⟩,HB.out⟩
 ·have s8:=ak qx;have hne:g≠w.heap.size:=by omega
  have hz9:zs.length≤9223372036854775807:=by(have:maxLen≤9223372036854775807:=by decide);omega
  have K:=fun(W:World)(hW:Below w.heap.size w W)(hB:w.heap.size<W.heap.size)(hcell:W.cell? ⟨w.heap.size,0,none⟩=some (.string t))=>AnyQ.slices_IndexFunc Tryz.ab6 2 Tryz.isAgg103 Tryz.sizeOf103 tF (fun _=>rfl) (fun x=>decide (x.1=t)) 198 #[.pointer (some ⟨w.heap.size,0,none⟩)] eg g 0 zs.length cap zs W (acg t w.heap.size W hB hcell) (Nat.le_refl _) hz9 (Nat.lt_of_lt_of_le s8 hW.size) (fun j hj i v hv=>by have h1:=aK hW s8 (0+j*2+i);rw[h1,Nat.zero_add];(have hx:zs[j]?=some zs[j]!:=by rw[getElem!_pos zs j hj];exact List.getElem?_eq_getElem hj);rw[pY (enc:=tF) (k:=2) (fun _=>rfl) ho hx (List.getElem?_eq_some_iff.1 hv).1];exact hv)
  change∀(W:World)(hW:Below w.heap.size w W)(hB:w.heap.size<W.heap.size)(hcell:W.cell? ⟨w.heap.size,0,none⟩=some (.string t)),Calls Tryz.prog 197 _ _ _ at K;rcases P9 (fun x:VP=>decide (x.1=t)) zs with⟨h1,h2⟩|⟨k,hk,h1,_,h2,_⟩
  ·rw[h1];simp only[h2]at K;have K:=Lib.hid K;clear h1 h2 eg hl hz ho qx hcs eQ z_;go_enter Tryz.func193,Tryz.ntmps193;go_wp2_with fail;refine(K.out _ aQ.out (ak cq.out) (Lib.cell_of_heap cq.out 0)).mono ?_;rintro e w1⟨rfl,ar⟩;have HB:=Lib.hid (aF aQ.out ar);clear ar;go_wp2;go_ret2;exact⟨⟨_,rfl⟩,HB.out⟩
  ·rw[h1];simp only[h2]at K;have K:=Lib.hid K;obtain⟨x,hx⟩:=bN zs k hk;have c1:=pY (enc:=tF) (k:=2) (fun _=>rfl) ho hx (j:=1) (by decide);rw[(ace x).2]at c1;have yT:k<zs.length:=hk;obtain⟨n,hn⟩:∃n,zs.length=n:=⟨_,rfl⟩;rw[hn]at K yT⊢;have t1:decide ((k:Int)<0)=false:=decide_eq_false (by omega);have t2:¬(k:Int)<0:=by omega
   have t3:(k:Int)<(n:Int):=by omega
   have C1:=Lib.hid c1;clear h1 h2 eg hl hz ho qx hcs eQ z_ hk hx c1 hn;go_enter Tryz.func193,Tryz.ntmps193;go_wp2_with fail;refine(K.out _ aQ.out (ak cq.out) (Lib.cell_of_heap cq.out 0)).mono ?_;rintro e w1⟨rfl,ar⟩;have HB:=Lib.hid (aF aQ.out ar);have d1:=(aK HB.out s8 (k*2+1)).trans C1.out;clear ar;go_wp2;go_ret2;exact⟨⟨_,rfl⟩,HB.out⟩
def qM(s:ByteArray):Prop:=∃cs,dZ s 0 []=.ok cs
theorem ER:qM ⟨#[]⟩:=⟨[],wS (by decide)⟩
theorem aeQ{cs:List Nat}(h:gJ cs):qM (strOf cs):=by
 refine⟨cs,?_⟩;have:=Gy (Q:=strOf cs) cs 0 [] h (fun m x hx=>?_) (by rw[Gx];omega)
 ·simpa using this
 ·rw[Nat.zero_add];have fS:x<256:=by obtain⟨c,hc,vz⟩:=List.mem_flatMap.1 (List.mem_of_getElem? hx);exact CW (C6 (h c hc)) x vz
  unfold af strOf;simp only[List.getElem?_toArray,List.getElem?_map,hx,Option.map_some,Option.getD_some];simp;omega
theorem Sq{B:ByteArray}{t:Tok}{x:ByteArray}(h:fa B t=some x):qM x:=by
 unfold fa at h;split at h
 ·split at h
  ·split at h
   ·rename_i z hz;cases h;exact aeQ (Nn hz)
   ·cases h
  ·cases h
 ·cases h
def tR(R:ByteArray→Prop)(Q:JN→Prop)(s:PS):Prop:=(∀x∈s.js,Q x)∧(∀o∈s.stack,R o.key)
theorem aeR{a k:Int}(h:jE a=some k):0≤k∧k≤6:=by unfold jE at h;(repeat' split at h);(all_goals cases h);all_goals decide
section
variable{R:ByteArray→Prop}{Q:JN→Prop}(h0:R ⟨#[]⟩)
theorem vP{o:Op}{r:List Op}(h1:R o.key)(h2:∀p∈r,R p.key):∀p∈o::r,R p.key:=fun p hp=>by
 rcases List.mem_cons.1 hp with rfl|hp
 ·exact h1
 ·exact h2 p hp
theorem Kb{r:List Op}(h:∀o∈r,R o.key):∀o∈jc r,R o.key:=by
 cases r with
 |nil=>exact h
 |cons o r=>exact vP (show R (sP o).key from h o (by simp)) (fun p hp=>h p (by simp[hp]))
include h0
theorem aeS{B:ByteArray}{m:Bd}{s s':PS}{t:Tok}(hK:∀t x,fa B t=some x→R x)(hN:∀(o:Op)(k:Int)(t:Tok),R o.key→0≤k∧k≤6→Q (gZ B o k t))(hk:tR R Q s)(h:ca B m s t=.ok s'):tR R Q s':=by
 unfold ca at h
 cases hs:s.stack with
 |nil=>rw[hs]at h;cases h;exact hk
 |cons o r=>
  rw[hs]at h;simp only at h;have ho:R o.key:=hk.2 o (by rw[hs];simp);have hr:∀p∈r,R p.key:=fun p hp=>hk.2 p (by rw[hs];simp[hp]);have hw:∀{b:PS},(eD t:Sc PS)=.ok b→tR R Q b:=fun h=>by unfold eD at h;split at h<;>cases h
  have hv:fc B m s o r t=.ok s'→tR R Q s':=fun h=>by
   unfold fc at h;split at h
   ·exact hw h
   ·rename_i kk gM;have gM:=aeR gM;split at h
    ·cases h
    ·split at h
     ·cases h
      exact⟨fun x hx=>by
       rcases List.mem_append.1 hx with hx|hx
       ·exact hk.1 x hx
       ·rw[List.mem_singleton.1 hx];exact hN _ _ _ ho gM,Kb (vP ho hr)⟩
     ·split at h
      ·cases h
      ·cases h
       exact⟨fun x hx=>by
        rcases List.mem_append.1 hx with hx|hx
        ·exact hk.1 x hx
        ·rw[List.mem_singleton.1 hx];exact hN _ _ _ ho gM,vP h0 (vP ho hr)⟩
  have hy:jF B s o r t=.ok s'→tR R Q s':=fun h=>by
   unfold jF at h;split at h
   ·exact hw h
   ·split at h
    ·rename_i x hx;cases h;exact⟨hk.1,vP (hK _ _ hx) hr⟩
    ·cases h
  have hb:kx s o r t=.ok s'→tR R Q s':=fun h=>by
   unfold kx at h;split at h
   ·cases h;exact⟨hk.1,Kb hr⟩
   ·split at h
    ·exact hw h
    ·cases h;exact⟨hk.1,vP ho hr⟩
  split at h
  ·split at h
   ·cases h;exact hk
   ·exact hw h
  ·split at h
   ·split at h
    ·cases h;exact⟨hk.1,vP ho hr⟩
    ·exact hw h
   ·split at h
    ·exact hb h
    ·split at h
     ·split at h
      ·cases h;exact⟨hk.1,Kb hr⟩
      ·split at h
       ·exact hy h
       ·exact hv h
     ·split at h
      ·exact hy h
      ·exact hv h
theorem Sr{B:ByteArray}{m:Bd}(hK:∀t x,fa B t=some x→R x)(hN:∀(o:Op)(k:Int)(t:Tok),R o.key→0≤k∧k≤6→Q (gZ B o k t)):∀f i s s',tR R Q s→gq B m f i s=.ok s'→tR R Q s'
 |0,i,s,s',hk,h=>by cases h;exact hk
 |f+1,i,s,s',hk,h=>by
  rw[gq]at h;obtain⟨t,hn,h⟩:=Sc.dT h;obtain⟨s2,ht,h⟩:=Sc.dT h;have h2:=aeS h0 hK hN hk ht;split at h
  ·cases h;exact h2
  ·exact Sr hK hN f _ s2 s' h2 h
end
structure Ss(K:Nat)(x:JN):Prop where
 key:qM x.key
 text:x.kind=4→qM x.text
 lo:0≤x.kind
 hi:x.kind≤6
 ks:x.key.size≤K
 ts:x.text.size≤K
theorem St{B:ByteArray}{t:Tok}{x:ByteArray}(h:fa B t=some x):x.size≤4*B.size:=by
 unfold fa at h;split at h
 ·rename_i y hy;split at h
  ·rename_i hc;split at h
   ·rename_i z hz;cases h;have hs:=rq hy;obtain⟨rfl,h7⟩:=hc;have:=GB (by omega) hz;have:=C9 z.1;omega
   ·cases h
  ·cases h
 ·cases h
theorem aeT{B:ByteArray}{m:Bd}{s:PS}(h:fU B m=.ok s):∀x∈s.js,Ss (4*B.size) x:=by
 unfold fU at h;split at h
 ·cases h
 ·refine(Sr (R:=fun y=>qM y∧y.size≤4*B.size) (Q:=Ss (4*B.size)) ⟨ER,Nat.zero_le _⟩ (fun t x hx=>⟨Sq hx,St hx⟩) (fun o k t ho hk=>?_) _ _ _ _ ⟨fun x hx=>by simp[fG]at hx,fun o ho=>by simp[fG]at ho;subst ho;exact⟨ER,Nat.zero_le _⟩⟩ h).1
  have jH:qM (gZ B o k t).key∧(gZ B o k t).key.size≤4*B.size:=by
   unfold gZ;simp only;split
   ·exact ho
   ·exact⟨ER,Nat.zero_le _⟩
  refine⟨jH.1,fun h4=>?_,hk.1,hk.2,jH.2,?_⟩
  ·have h4:k=4:=h4;show qM (sQ B k t);unfold sQ;rw[if_pos h4]
   cases ht:fa B t with
   |none=>exact ER
   |some x=>exact Sq ht
  ·show(sQ B k t).size≤_;unfold sQ;split
   ·cases ht:fa B t with
    |none=>exact Nat.zero_le _
    |some x=>exact St ht
   ·split
    ·rw[ByteArray.size_extract];omega
    ·exact Nat.zero_le _
end Go.Proofs.YtcaiibkgajhohaaGreatDoor
