/- waybill: lemmas and walks, printed from longer texts. -/
import Derived.Test.YtcaiibkgajhohaaGreatDoorM28
set_option maxRecDepth 100000
set_option maxHeartbeats 16000000
namespace Go.Proofs.YtcaiibkgajhohaaGreatDoor
open Go.RowKit
attribute[local go_sem]Oper.semAt_some
def qH(l:List aS)(st:ai)(_:Nat)(t:ByteArray):Bool×List aS×ai:=bif(ey st t l).2.bad then(false,[],(ey st t l).2)else(true,(ey st t l).1,(ey st t l).2)
def AG(R:Bool×List aS×ai):Option (List aS)×ai:=(bif R.1 then some R.2.1 else none,R.2.2)
theorem Rh(js:List JN):∀(ks:List Nat)(l:List aS)(s:ai),AG (lF js qH ks l s)=j5 js ks s l
 |[],_,_=>rfl
 |k::ks,l,s=>by
  rw[lF,j5];by_cases h:(bD js s k).2.bad=true
  ·rw[if_pos h,if_pos h];rfl
  ·rw[if_neg h,if_neg h];unfold qH
   cases hb:(ey (bD js s k).2 (bD js s k).1 l).2.bad with
   |true=>rfl
   |false=>rw[cond_false,cond_true,if_neg (by decide)];exact Rh js ks _ _
theorem adO(js:List JN)(aa:List Nat)(s:ai)(id k:Nat)(l:List aS)(h:dV js aa s id iC=some k):ml js aa s id l=AG (rT js aa qH l s k):=by
 unfold ml rT;rw[h];dsimp only;split
 ·exact(Rh js _ _ _).symm
 ·rfl
theorem Ri(js:List JN):∀(ks:List Nat)(s:ai)(acc r:List aS),(j5 js ks s acc).1=some r→r.length≤acc.length+ks.length
 |[],_,_,_,h=>by cases h;exact Nat.le_refl _
 |k::ks,s,acc,r,h=>by
  rw[j5]at h;split at h
  ·cases h;exact Nat.le_add_right _ _
  ·split at h
   ·cases h
   ·have:=Ri js ks _ _ r h;simp only[ey,List.length_append,List.length_cons,List.length_nil]at this⊢;omega
theorem adP{js:List JN}{aa:List Nat}{s s2:ai}{id:Nat}{l l2:List aS}{n:Nat}(hk:∀k,(kids aa k).length≤n)(h:ml js aa s id l=(some l2,s2)):l2.length≤l.length+n:=by
 unfold ml at h;split at h
 ·cases h;exact Nat.le_add_right _ _
 ·split at h
  ·have:=Ri js _ _ _ l2 (by rw[h]);exact Nat.le_trans this (Nat.add_le_add_left (hk _) _)
  ·cases h;exact Nat.le_add_right _ _
theorem adQ(b:List aS)(st:ai)(k:Nat)(t:ByteArray):(qH b st k t).2.1.length≤b.length+1:=by
 unfold qH
 cases(ey st t b).2.bad with
 |true=>exact Nat.zero_le _
 |false=>simp[ey]
theorem Rj{S:Nat→Prop}{w:World}:∀(l:List aS)(cells:List Value),bp S w cells (l.flatMap nO)→cells=l.flatMap qF
 |[],cells,h=>List.eq_nil_of_length_eq_zero h.1
 |a::l,cells,h=>by rw[List.flatMap_cons]at h;obtain⟨x,c1,rfl,hx,h1⟩:=bp.D4 h;obtain⟨y,c2,rfl,hy,h2⟩:=bp.D4 h1;rw[Rj l c2 h2,hx.jS,hy.jS];rfl
theorem Rk{S:Nat→Prop}{w:World}:∀l:List aS,bp S w (l.flatMap qF) (l.flatMap nO)
 |[]=>bp.nil
 |a::l=>by rw[List.flatMap_cons,List.flatMap_cons];exact bp.append (.cons (.str _) (.cons (.str _) .nil)) (Rk l)
abbrev JJ(B:Nat)(w:World)(v:Value)(l:List aS):Prop:=fu B 37 2 w v l.length (l.flatMap nO)
theorem fu.apps{B:Nat}{w:World}{v:Value}{l:List aS}(h:JJ B w v l):iU B w v l:=by obtain⟨cells,h1,h2⟩:=h;rw[Rj l cells h2]at h1;exact h1
theorem iU.flat{B:Nat}{w:World}{v:Value}{l:List aS}(h:iU B w v l):JJ B w v l:=⟨_,h,Rk l⟩
section
variable{W0 Wv:World}{vv:Value}{base D T:Nat}{s:PS}{nodes:Int}{tv:Value}{ns:List aW}
abbrev j9(W0 Wv:World)(vv:Value)(D:Nat)(w:World)(M:Option Nat)(st:ai)(v:Value)(l:List aS)(wr:World):Prop:=b8 W0 Wv vv D w w.heap.size (w.heap.size+1) (w.heap.size+2) 32 37 2 M st v l.length (l.flatMap nO) wr∧JJ (w.heap.size+2) wr v l
theorem j9.call{w wr w':World}{M:Option Nat}{st ff:ai}{v:Value}{l:List aS}(h:j9 W0 Wv vv D w M st v l wr)(hp:bG W0 Wv vv wr D ff w'):j9 W0 Wv vv D w M ff v l w':=⟨h.1.call hp,h.2.turn hp.only (fun g hg e=>by have:=(h.2.pj.lt g hg).1;have:=h.1.w0;omega)⟩
theorem j9.app{w wr w':World}{M:Option Nat}{st:ai}{v v2:Value}{l:List aS}{r:List aS×ai}(h:j9 W0 Wv vv D w M st v l wr)(hr:iU (w.heap.size+2) w' v2 r.1)(he:aC W0 Wv vv w' D r.2)(hg:Ra W0 wr w' v v2):j9 W0 Wv vv D w M r.2 v2 r.1 (w'.setCell ⟨w.heap.size+1,0,none⟩ v2):=⟨h.1.put he hg.only hr.flat.pj,hr.flat.turn ((ag.refl (fun b=>b=w.heap.size+1) w').set (p:=⟨w.heap.size+1,0,none⟩) (fun _=>rfl) v2) (fun g hg e=>by have:=(hr.lt g hg).1;omega)⟩
def tJ(W0 Wv:World)(vv:Value)(D:Nat)(w:World)(Z:Nat→Prop)(l:List aS)(st:ai)(W:World):Prop:=GJ W0 Wv vv D w w.heap.size (w.heap.size+1) (w.heap.size+2) 32 37 2 l.length (l.flatMap nO) Z st W
theorem tJ.tells(w:World):zZ W0 Wv vv D (tJ W0 Wv vv D w):=⟨fun h=>by obtain⟨v,⟨hg,_⟩,_⟩:=h;exact hg.re,fun h hp=>GJ.keep h hp,fun h k hk=>by obtain⟨v,_,hz⟩:=h;exact⟨(hz k hk).1,(hz k hk).2.1⟩⟩
theorem adR(hV:dA W0 base D T s nodes tv ns)(hT:∀id,(iD s.js id).size≤1100000)(st:ai)(id:Nat)(key:ByteArray)(keyed:Bool)(w:World)(h:aC W0 Wv vv w D st)(hk:key.size≤1100000):Calls Tryz.prog 99 #[an W0.heap.size,.int .i64 id,.string key,.bool keyed] w (gg W0 Wv vv w D 2 ((kI s.js s.aa st id key keyed).1.flatMap nO) (kI s.js s.aa st id key keyed).2):=by
 have BX:=vu w #[an W0.heap.size] #[.slice none 0 0] 67 32;have ef:=h.only.size;have z8:=h.vars.lt;obtain⟨Wa,bU⟩:∃Wa,((w.alloc (.cells #[an W0.heap.size] 67)).alloc (.cells #[.slice none 0 0] 32))=Wa:=⟨_,rfl⟩;rw[bU]at BX;have S0:j9 W0 Wv vv D w none st (.slice none 0 0) [] Wa:=⟨⟨h.ext BX.2.2,ag.of BX.2.2,BX.1,BX.2.1,dN.nil,ef,Nat.le_refl _,by omega,by omega,by omega,by omega,fun m hm=>by cases hm⟩,fu.nil⟩
 refine callsIn_wide.1 (callsIn_of_wp_marks (n:=3) Tryz.func99 rfl trivial ?_ rfl);simp only[Tryz.ntmps99,List.size_toArray,List.length_cons,List.length_nil,Nat.reduceAdd,Nat.reduceSub,Array.replicate_succ,Array.replicate_zero,List.push_toArray,List.append_toArray,List.nil_append,List.cons_append];refine wpIn_wide.2 ?_;obtain⟨RR,aq⟩:∃RR,kI s.js s.aa st id key keyed=RR:=⟨_,rfl⟩;rw[aq];unfold kI at aq;obtain⟨r,hr⟩:∃r:List aS×ai,(if keyed=true then ey st key []else([],st))=r:=⟨_,rfl⟩;dsimp only at aq
 rw[hr]at aq;have hrl:r.1.length≤1:=by rw[←hr];split<;>simp[ey]
 have AP:=Lib.hid (fun st k t l v W(hR:aC W0 Wv vv W D st)(ht:t.size≤1100000)(hr:iU (w.heap.size+2) W v l)(hl:l.length≤1100000)(hB:w.heap.size+2≤W.heap.size)=>adK hV st k t l v (w.heap.size+2) W hR ht hr hl (by omega) hB);have TX:=Lib.hid (fun st k W(hR:aC W0 Wv vv W D st)=>D1 hV st k W hR);have TZ:=Lib.hid (fun st k=>Eg hT st k);have ME:=Lib.hid (fun st key W(hR:aC W0 Wv vv W D st)=>qw hV st id key W hR);have En:=Lib.hid (fun k=>hV.xD k);have HS:=Lib.hid S0;have aO:=Lib.hid aq;cases keyed
 case' false=>rw[if_neg (by decide)]at hr;obtain⟨v0,hS⟩:∃v0,j9 W0 Wv vv D w none r.2 v0 r.1 Wa:=⟨_,by rw[←hr];exact S0⟩;have HS:=Lib.hid hS;have c4:=hS.1.gb;have c8:=hS.1.cell.1;clear hS S0 BX;go_wp2_with fail;clear bU
 case' true=>
  rw[if_pos rfl]at hr;have lG:=AP.out st id key [] (.slice none 0 0) Wa S0.1.re hk S0.2.apps (by simp) (by rw[←bU];simp);rw[hr]at lG;have lG:=Lib.hid lG;have c4:=S0.1.gb;have c8:=S0.1.cell.1;have f8:=S0.1.cell.2;clear S0 BX;go_wp2_with fail;clear bU;refine lG.out.mono ?_;rintro e w2⟨v2,rfl,fC,Rl,aL⟩;obtain⟨lg,p_,rfl,_⟩:=aM fC;have hS:=HS.out.app fC Rl aL;have fS:=bB aL.only HS.out.1.box (by rintro(t|t);omega;cases t);have c8:=Lib.cell_of_heap fS 0;have f8:=Go.Joins.unfrozen_of_block fS 0
  have HS:=Lib.hid hS;obtain⟨W2,dq⟩:∃W2,w2.setCell ⟨w.heap.size+1,0,none⟩ (.slice lg r.1.length p_)=W2:=⟨_,rfl⟩;rw[dq]at HS;have c4:=HS.out.1.gb;clear fC Rl aL hS fS;go_wp2_with fail;clear dq
 all_goals
  (
   obtain⟨me,gT⟩:∃me,dV s.js s.aa r.2 id iC=me:=⟨_,rfl⟩;have iH:=ME.out r.2 iC _ HS.out.1.re;rw[gT]at iH;refine iH.mono ?_;rintro e w3⟨rfl,aw⟩;have HS:=Lib.hid (HS.out.call (bG.of HS.out.1.re aw));have c4:=HS.out.1.gb;have Rm:=Lib.hid gT;clear aw iH gT c8;cases me
   case' none=>obtain⟨l2,eG⟩:∃l2,r.1=l2:=⟨_,rfl⟩;obtain⟨s2,xL⟩:∃s2,r.2=s2:=⟨_,rfl⟩;have HL:Hid (ml s.js s.aa r.2 id r.1=(some l2,s2)):=Lib.hid (by unfold ml;rw[Rm.out,eG,xL]);rw[eG,xL]at HS;unfold ez;go_wp2_with fail
   case' some k=>
    unfold ez;go_wp2_with fail;refine(Jv W0.heap.size k w3).mono ?_;rintro e w4⟨rfl,rfl⟩;have BT:=vu w3 #[an W0.heap.size] #[.int .i64 k] 67 3;obtain⟨W4,dR⟩:∃W4,((w3.alloc (.cells #[an W0.heap.size] 67)).alloc (.cells #[.int .i64 k] 3))=W4:=⟨_,rfl⟩;rw[dR]at BT;obtain⟨qb,vE⟩:∃qb,w3.heap.size=qb:=⟨_,rfl⟩;obtain⟨gC,AH⟩:∃gC,qb+1=gC:=⟨_,rfl⟩
    have H0:=Lib.hid (show tJ W0 Wv vv D w (fun j=>j=qb∨j=gC) r.1 r.2 W4 from GJ.Rf HS.out.1 HS.out.2 (by omega) BT.2.2 (by have:=ak BT.2.1;omega));rw[vE,AH]at BT;have TT:=Lib.hid (Ju (vv:=vv) (Wv:=Wv) (n:=2) List.length qH hV hT adQ r.1 r.2 k qb gC W4 BT.1 BT.2.1);obtain⟨R,hR⟩:∃R,rT s.js s.aa qH r.1 r.2 k=R:=⟨_,rfl⟩;have HA:Hid (ml s.js s.aa r.2 id r.1=AG R):=Lib.hid (by rw[←hR];exact adO _ _ _ _ _ _ Rm.out);rw[hR]at TT;have BL:=Lib.hid BT.2.2
    have h4:w.heap.size+2≤W4.heap.size:=by have:=ak HS.out.1.box;have:=BT.2.2.size;have:=ak BT.2.1;omega
    have mC:=Lib.hid dR;clear BT hR;go_wp2_with fail;refine(wpIn_wide (n:=3)).1 ?_
    refine IW (W0:=W0) (Wv:=Wv) (vv:=vv) (D:=D) (gf:=95) (lb:=#[.pointer (some ⟨qb,0,none⟩),.pointer (some ⟨gC,0,none⟩)]) (own:=fun j=>j=qb∨j=gC) (cnt:=List.length) (step:=qH) (b0:=r.1) (lD:=r.2) (R:=R) (J:=tJ W0 Wv vv D w) (Jx:=fun Z _ st W=>tJ W0 Wv vv D w Z [] st W) (Z0:=fun j=>j=qb∨j=gC) rfl rfl (enters_of Tryz.func95 (by kernel_rfl) rfl) rfl TT.out (tJ.tells w) (fun Z b st W l o h hz hl=>GJ.put o h hz (by omega)) (fun Z b st W l o h hz hl=>GJ.put o h hz (by omega)) (fun _ h=>h) H0.out ?_ ?_ ?_
    ·intro lr k2 t W;gi_wp2;refine⟨trivial,fun Z b st W2 hJ hb ht qu=>?_⟩;obtain⟨vb,⟨hg,hf⟩,hz⟩:=hJ;have c4:=hg.gb;have c8:=hg.cell.1;obtain⟨AI,AJ,rfl,_⟩:=aM hf.apps;have lG:=AP.out st k2 t b _ W2 hg.re ht hf.apps (by omega) (ak hg.box);have fv:=Lib.hid (And.intro (And.intro hg hf) hz);obtain⟨A,hA⟩:∃A,ey st t b=A:=⟨_,rfl⟩;rw[hA]at lG;have lG:=Lib.hid lG;have hst:qH b st k2 t=bif A.2.bad then(false,[],A.2)else(true,A.1,A.2):=by unfold qH;rw[hA]
     rw[hst];clear hg hf hz hst hA hb ht qu;gi_wp2_with fail;refine⟨trivial,(CallsIn.inRound lr (callsIn_wide.2 lG.out)).mono ?_⟩;rintro e w5⟨v5,rfl,JK,Rn,ph⟩;obtain⟨JL,Eo,rfl,_⟩:=aM JK;have hS:=j9.app fv.out.1 JK Rn ph;have hv:=fv.out.1.2.apps.lt;have JM:=bB ph.only fv.out.1.1.box (by rintro(t|t);omega;have:=(hv _ t).1;omega);have c8:=Lib.cell_of_heap JM 0;have f8:=Go.Joins.unfrozen_of_block JM 0
     have lH:gQ Z W2 (w5.setCell ⟨w.heap.size+1,0,none⟩ (.slice JL A.1.length Eo)):=(gQ.only ph.only (fun j hj=>⟨(fv.out.2 j hj).1,by rintro(t|t);exact(fv.out.2 j hj).2.1 t;exact(fv.out.2 j hj).2.2.2 t⟩)).trans ⟨by simp,fun j hj=>Below.heap_setCell _ _ _ _ (fv.out.2 j hj).2.2.1⟩;have xM:=Lib.hid lH;obtain⟨W5,j7⟩:∃W5,w5.setCell ⟨w.heap.size+1,0,none⟩ (.slice JL A.1.length Eo)=W5:=⟨_,rfl⟩;rw[j7]at hS xM
     have HZ:Hid (∀j,Z j→j<W5.heap.size∧j≠W0.heap.size∧j≠w.heap.size+1∧(Value.slice JL A.1.length Eo).ownBlock≠some j):=Lib.hid (fun j hj=>by
      obtain⟨z1,z2,z3,z4⟩:=fv.out.2 j hj;refine⟨Nat.lt_of_lt_of_le z1 xM.out.1,z2,z3,fun e=>?_⟩;rcases ph.at_ with t|t
      ·rw[←t]at e;exact z4 e
      ·have:=t j e;omega)
     have c4:=hS.1.gb;obtain⟨ev,e0,e1,e2,_,da⟩:=hS.1.re.cells;have x8:=hS.1.cell;have n_:=x8.1;have oa:=x8.2;have lI:=Lib.hid hS;clear JK Rn ph hS hv JM lH x8;rcases da with⟨fo,rfl⟩|⟨fo,bf,rfl⟩
     ·have HQ:=Lib.hid (show gQ Z W2 W5∧(bif A.2.bad then((false,[],A.2):Bool×List aS×ai)else(true,A.1,A.2)).1=true∧tJ W0 Wv vv D w Z (bif A.2.bad then((false,[],A.2):Bool×List aS×ai)else(true,A.1,A.2)).2.1 (bif A.2.bad then((false,[],A.2):Bool×List aS×ai)else(true,A.1,A.2)).2.2 W5 from by rw[fo];exact⟨xM.out,rfl,_,lI.out,HZ.out⟩);clear fo;gi_wp2;exact HQ.out
     ·have qI:j9 W0 Wv vv D w none A.2 (.slice none 0 0) [] (W5.setCell ⟨w.heap.size+1,0,none⟩ (.slice none 0 0)):=⟨lI.out.1.none_,fu.nil⟩
      have HQ:=Lib.hid (show gQ Z W2 (W5.setCell ⟨w.heap.size+1,0,none⟩ (.slice none 0 0))∧(bif A.2.bad then((false,[],A.2):Bool×List aS×ai)else(true,A.1,A.2)).1=false∧tJ W0 Wv vv D w Z [] (bif A.2.bad then((false,[],A.2):Bool×List aS×ai)else(true,A.1,A.2)).2.2 (W5.setCell ⟨w.heap.size+1,0,none⟩ (.slice none 0 0))from by rw[fo];exact⟨xM.out.trans ⟨by simp,fun j hj=>Below.heap_setCell _ _ _ _ (fv.out.2 j hj).2.2.1⟩,rfl,_,qI,fun j hj=>by have:=HZ.out j hj;exact⟨by simpa using this.1,this.2.1,this.2.2.1,nofun⟩⟩)
      clear fo qI;gi_wp2;exact HQ.out
    rotate_left
    ·intro m Z W hm kO hJ hd;obtain⟨vb,⟨hg,hf⟩,_⟩:=hJ;have hS:=show j9 W0 Wv vv D w (some m) R.2.2 vb [] W from⟨hg.marked (by omega) hd,hf⟩;have eG:=HA.out;unfold AG at eG;rw[kO,cond_false]at eG;have aq:=aO.out;rw[eG]at aq;subst aq;obtain⟨ao6,ak5,uZ,_⟩:=aM hf.apps;subst uZ;have x8:=hS.1.cell;obtain⟨W',hw,hc,iw,hp⟩:=hS.1.tI (.inr hS.2);have n_:=x8.1;have oa:=x8.2;have HP:=Lib.hid (And.intro hw (And.intro iw hp));clear hg hf hm kO hd eG hS x8 hw iw hp;refine wpIn_wide.2 ?_;go_wp2
     exact j8 (some m) rfl HP.out.2.1 HP.out.1 (by simp[results,Tryz.results99,go_sem,hc]) HP.out.2.2
    intro m Z W hm kO hJ hd;obtain⟨vb,⟨hg,hf⟩,_⟩:=hJ;have HS:=Lib.hid (show j9 W0 Wv vv D w (some m) R.2.2 vb R.2.1 W from⟨hg.marked (by omega) hd,hf⟩);have eG:=HA.out;unfold AG at eG;rw[kO,cond_true]at eG;obtain⟨l2,e2⟩:∃l2,R.2.1=l2:=⟨_,rfl⟩;obtain⟨s2,e3⟩:∃s2,R.2.2=s2:=⟨_,rfl⟩;rw[e2,e3]at eG HS;have HL:=Lib.hid eG;have c4:=HS.out.1.gb;clear hg hf hm kO hd eG e2 e3;go_wp2_with fail)
 all_goals
  (
   obtain⟨vF,xN⟩:∃vF,dV s.js s.aa s2 id Im=vF:=⟨_,rfl⟩;have iH:=ME.out s2 Im _ HS.out.1.re;rw[xN]at iH;refine iH.mono ?_;rintro e w6⟨rfl,cG⟩;have HS:=Lib.hid (j9.call HS.out (bG.of HS.out.1.re cG));have c4:=HS.out.1.gb;have JO:=Lib.hid xN;clear cG iH xN;cases vF
   case' none=>obtain⟨l3,fN⟩:∃l3,l2=l3:=⟨_,rfl⟩;obtain⟨s3,iT⟩:∃s3,s2=s3:=⟨_,rfl⟩;have xO:Hid (mm s.js s.aa s2 id l2=(l3,s3)):=Lib.hid (by unfold mm;rw[JO.out,fN,iT]);rw[fN,iT]at HS;have oc:=HS;clear fN iT;unfold ez
   case' some k2=>
    have xI:=TX.out s2 k2 _ HS.out.1.re;have tz:=TZ.out s2 k2;obtain⟨tx,dy⟩:∃tx,bD s.js s2 k2=tx:=⟨_,rfl⟩;rw[dy]at xI tz;have xI:=Lib.hid xI;have jJ:=Lib.hid dy;clear dy;unfold ez;go_wp2_with fail;refine xI.out.mono ?_;rintro e w7⟨rfl,Ep⟩;have HS:=Lib.hid (j9.call HS.out Ep);have c4:=HS.out.1.gb;have x8:=HS.out.1.cell;have n_:=x8.1;have oa:=x8.2;obtain⟨ev,e0,e1,e2,_,da⟩:=HS.out.1.re.cells;clear Ep x8;rcases da with⟨fo,rfl⟩|⟨fo,bf,rfl⟩
    case' inr=>obtain⟨l3,fN⟩:∃l3,l2=l3:=⟨_,rfl⟩;obtain⟨s3,iT⟩:∃s3,tx.2=s3:=⟨_,rfl⟩;have xO:Hid (mm s.js s.aa s2 id l2=(l3,s3)):=Lib.hid (by unfold mm;rw[JO.out];dsimp only;rw[jJ.out,if_pos fo,fN,iT]);rw[fN,iT]at HS;have oc:=HS;have Av:Hid (s3.bad=false→False):=Lib.hid (fun e=>by rw[iT,e]at fo;cases fo);clear fN iT e0 e1 e2 n_ oa fo
    case' inl=>
     have AK:=HS.out.2.apps;have lG:=AP.out tx.2 k2 tx.1 l2 _ w7 HS.out.1.re tz AK (by have:=adP En.out HL.out;omega) (ak HS.out.1.box);obtain⟨A,hA⟩:∃A,ey tx.2 tx.1 l2=A:=⟨_,rfl⟩;rw[hA]at lG;have lG:=Lib.hid lG;obtain⟨ao7,ak7,mi,_⟩:=aM AK;(first|subst mi|clear mi);have xO:Hid (mm s.js s.aa s2 id l2=(A.1,A.2)):=Lib.hid (by unfold mm;rw[JO.out];dsimp only;rw[jJ.out,if_neg (by rw[fo];decide),hA]);clear AK hA fo;go_wp2_with fail;refine lG.out.mono ?_
     rintro e w8⟨v8,rfl,JP,tK,gw⟩;obtain⟨vG,mj,rfl,_⟩:=aM JP;have hS:=j9.app HS.out JP tK gw;have hv:=HS.out.2.apps.lt;have JQ:=bB gw.only HS.out.1.box (by rintro(t|t);omega;have:=(hv _ t).1;omega);have n_:=Lib.cell_of_heap JQ 0;have oa:=Go.Joins.unfrozen_of_block JQ 0;obtain⟨W8,kM⟩:∃W8,w8.setCell ⟨w.heap.size+1,0,none⟩ (.slice vG A.1.length mj)=W8:=⟨_,rfl⟩;rw[kM]at hS;obtain⟨l3,fN⟩:∃l3,A.1=l3:=⟨_,rfl⟩;obtain⟨s3,iT⟩:∃s3,A.2=s3:=⟨_,rfl⟩;rw[fN,iT]at xO
     rw[fN,iT]at hS;rw[fN]at kM⊢;have oc:=Lib.hid hS;clear JP tK gw hS hv JQ e0 e1 e2 fN iT)
 all_goals
  (
   obtain⟨ao9,ak9,Ro,_⟩:=aM oc.out.2.apps;(first|subst Ro|clear Ro);have k4:=oc.out.1.gb;have k8:=oc.out.1.cell;have k8c:=k8.1;have k8f:=k8.2;obtain⟨ev,k0,k1,k2,_,da⟩:=oc.out.1.re.cells;have qJ:=aO.out;rw[HL.out]at qJ;dsimp only at qJ;rw[xO.out]at qJ;dsimp only at qJ;have WRc:=Lib.hid (vo hV s3 id 30 _ oc.out.1.re);clear k8;rcases da with⟨fo,rfl⟩|⟨fo,bf,rfl⟩
   ·first
     |(exact(Av.out fo).elim)
     |
      (
       by_cases h3:l3=[]
       ·have t3:((l3.length:Int)==0)=true:=by rw[h3];rfl
        have t4:(l3.length=0)=True:=eq_true (by rw[h3];rfl);have qE:Hid (RR=(l3,s3.fail)):=Lib.hid (by rw[←qJ,h3];simp[ai.fail]);have H3:=Lib.hid h3;clear qJ fo h3;go_wp2_with fail;refine WRc.out.mono ?_;rintro e w9⟨rfl,mD⟩;have Er:=j9.call oc.out mD;obtain⟨W',hw,hc,hm,bX⟩:=Er.1.end_ (.inr Er.2);obtain⟨vq,bX,hc⟩:∃vq,gg W0 Wv vv w D 2 (RR.1.flatMap nO) RR.2 (.returned vq) W'∧W'.cell? ⟨w.heap.size+1,0,none⟩=some vq:=⟨_,by rw[qE.out];exact bX,hc⟩;have y8:=Er.1.cell
        have y8c:=y8.1;have y8f:=y8.2;have HP:=Lib.hid (And.intro hm (And.intro hw bX));clear mD Er hw hm bX y8 k8c k8f t3 t4;go_wp2;first
         |exact j8 none rfl HP.out.1 HP.out.2.1 (by simp[results,Tryz.results99,go_sem,hc]) HP.out.2.2
         |exact j8 (some _) rfl HP.out.1 HP.out.2.1 (by simp[results,Tryz.results99,go_sem,hc]) HP.out.2.2
       ·have h5:l3.length≠0:=fun e=>h3 (List.eq_nil_of_length_eq_zero e);have t3:((l3.length:Int)==0)=false:=by simpa using h3
        have t4:(l3.length=0)=False:=eq_false h5;have t5:(l3=[])=False:=eq_false h3
        have qE:Hid (RR=(l3,s3)):=Lib.hid (by
         rw[←qJ,fo]
         have:l3.isEmpty=false:=by
          cases l3 with
          |nil=>exact absurd rfl h3
          |cons _ _=>rfl
         rw[this];cases s3;cases fo;rfl)
        obtain⟨W',hw,hc,hm,bX⟩:=oc.out.1.end_ (.inr oc.out.2);obtain⟨vq,bX,hc⟩:∃vq,gg W0 Wv vv w D 2 (RR.1.flatMap nO) RR.2 (.returned vq) W'∧W'.cell? ⟨w.heap.size+1,0,none⟩=some vq:=⟨_,by rw[qE.out];exact bX,hc⟩;have HP:=Lib.hid (And.intro hm (And.intro hw bX));clear qJ fo h3 h5 hw hm bX;go_wp2
        first
         |exact j8 none rfl HP.out.1 HP.out.2.1 (by simp[results,Tryz.results99,go_sem,hc]) HP.out.2.2
         |exact j8 (some _) rfl HP.out.1 HP.out.2.1 (by simp[results,Tryz.results99,go_sem,hc]) HP.out.2.2)
   ·have qE:Hid (RR=(l3,s3)):=Lib.hid (by rw[←qJ,fo];cases s3;cases fo;rfl);obtain⟨W',hw,hc,hm,bX⟩:=oc.out.1.end_ (.inr oc.out.2);obtain⟨vq,bX,hc⟩:∃vq,gg W0 Wv vv w D 2 (RR.1.flatMap nO) RR.2 (.returned vq) W'∧W'.cell? ⟨w.heap.size+1,0,none⟩=some vq:=⟨_,by rw[qE.out];exact bX,hc⟩;have HP:=Lib.hid (And.intro hm (And.intro hw bX));clear qJ fo hw hm bX;go_wp2
    first
     |exact j8 none rfl HP.out.1 HP.out.2.1 (by simp[results,Tryz.results99,go_sem,hc]) HP.out.2.2
     |exact j8 (some _) rfl HP.out.1 HP.out.2.1 (by simp[results,Tryz.results99,go_sem,hc]) HP.out.2.2)
end
end Go.Proofs.YtcaiibkgajhohaaGreatDoor
