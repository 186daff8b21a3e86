/- waybill: lemmas and walks, printed from longer texts. -/
import Derived.Test.YtcaiibkgajhohaaGreatDoorM32
set_option maxRecDepth 100000
set_option maxHeartbeats 16000000
namespace Go.Proofs.YtcaiibkgajhohaaGreatDoor
open Go.RowKit
attribute[local go_sem]Oper.semAt_some
theorem aev:iq Tryz.prog 25 103 2 40 (.agg #[.string ⟨#[]⟩,.slice none 0 0]):=⟨Tryz.underlying25,by kernel_rfl,rfl,by decide⟩
theorem aew:iq Tryz.prog 96 9 1 16 (.string ⟨#[]⟩):=⟨Tryz.underlying96,by kernel_rfl,rfl,by decide⟩
section
variable{W0 Wv:World}{vv:Value}{base D T:Nat}{s:PS}{nodes:Int}{tv:Value}{ns:List aW}
def ED(W0:World)(js:List JN)(aa:List Nat)(w4:World)(D:Nat)(ms:List Nat)(R:ai)(marks:List Nat)(k:Value)(wr:World):Prop:=∃(j:Nat)(s1:ai)(Wv:World)(vv:Value),k=.int .i64 j∧j≤ms.length∧s1.vars.length≤j∧aC W0 Wv vv wr D s1∧ag (fun b=>b=W0.heap.size) w4 wr∧(∀g,vv.ownBlock=some g→w4.heap.size≤g)∧tN w4 marks wr∧ql cg js aa (ms.drop j) s1=R
theorem ED.next{W6 W w4 wr w9:World}{vj v2 v:Value}{D N M j:Nat}{key:ByteArray}{tl:List ByteArray}{b:Bool}{vs:List cW}{marks:List Nat}{js:List JN}{aa ms:List Nat}{R:ai}{cells:List Value}(hv:gi W0 Wv vj D W6 N key ⟨b,vs⟩ v tl W)(hm:tN w4 (M::marks) W)(ho:ag (fun b=>b=W0.heap.size) w4 wr)(hb:Below wr.heap.size wr W6)(hN:wr.heap.size≤N)(h4:W0.heap.size<w4.heap.size)(xX:∀g,vj.ownBlock=some g→w4.heap.size≤g)(h1:W.ownsRow (W0.heap.size+1) 103 2 vj vs.length cells)(ik:aC W0 w9 v2 w9 D ⟨b,vs++[⟨key,tl⟩]⟩)(A7:ag (fun b=>b=W0.heap.size∨vj.ownBlock=some b) W w9)(cf:vj.ownBlock=v2.ownBlock∨v2.ownBlock=some (W.heap.size+1))(hj:j<ms.length)(hl:vs.length≤j)(hr:ql cg js aa (ms.drop (j+1)) ⟨b,vs++[⟨key,tl⟩]⟩=R):ED W0 js aa w4 D ms R (M::marks) (.int .i64 ((j:Int)+1)) w9:=by
 have z1:=ho.size;have z2:=hb.size;have z3:=hv.only.size;refine⟨j+1,_,_,_,by simp,hj,by simp;omega,ik,((((hv.o4 ho hb hN).wide (T':=fun b=>b=W0.heap.size∨vj.ownBlock=some b) (fun _ _ e=>.inl e)).trans A7).wide (fun b hb e=>?_)),fun g hg=>?_,hm.keep A7 (fun k hk e=>?_),hr⟩
 ·rcases e with e|e
  ·exact e
  ·have:=xX b e;omega
 ·rcases cf with e|e
  ·exact xX g (e.trans hg)
  ·rw[e]at hg;cases hg;omega
 ·have h1':=hm.1 k hk;rcases e with e|e
  ·omega
  ·exact Sb h1 e h1'.2 rfl
theorem aey(hV:dA W0 base D T s nodes tv ns)(hS:ij W0)(hT:∀id,(iD s.js id).size≤1100000)(hK:∀k,(bh s.js k).size≤1100000)(st:ai)(id:Nat)(w:World)(h:aC W0 Wv (.slice none 0 0) w D st)(xW:st.vars=[]):Calls Tryz.prog 30 #[an W0.heap.size,.int .i64 id] w (rX W0 w D (nL cg s.js s.aa st id)):=by
 refine callsIn_wide.1 (callsIn_of_wp_marks (n:=3) Tryz.func30 rfl trivial ?_ rfl);simp only[Tryz.ntmps30,List.size_toArray,List.length_cons,List.length_nil,Nat.reduceAdd,Nat.reduceSub,Array.replicate_succ,Array.replicate_zero,List.push_toArray,List.append_toArray,List.nil_append,List.cons_append];refine wpIn_wide.2 ?_;obtain⟨RR,aq⟩:∃RR,nL cg s.js s.aa st id=RR:=⟨_,rfl⟩;rw[aq];unfold nL at aq;have JX:=h.lt;have ME:=Lib.hid (qw hV st id lx w h);obtain⟨me,gT⟩:∃me,dV s.js s.aa st id lx=me:=⟨_,rfl⟩
 rw[gT]at ME aq;have H:=Lib.hid h
 cases me with
 |none=>unfold ez at ME;have aO:=Lib.hid (show RR=st from aq.symm);clear gT aq h;go_wp2_with fail;refine ME.out.mono ?_;rintro e w2⟨rfl,ah⟩;have HP:=Lib.hid (show rX W0 w D RR (.returned (.tuple #[])) w2 by rw[aO.out];exact⟨rfl,⟨_,_,H.out.ext ah⟩,ag.of ah⟩);clear ah;go_wp2;exact(EC [] rfl .nil (fun _ h=>by cases h) (results_none rfl _ _ _) HP.out).1
 |some k=>
  unfold ez at ME;dsimp only at aq;have IS:=Lib.hid (fun W(hR:aC W0 Wv (.slice none 0 0) W D st)=>qt hV st k 6 W hR);obtain⟨r,hr⟩:∃r,ba s.js st k 6=r:=⟨_,rfl⟩;have hI:(ba s.js st k 6).1=true→du s.js k=6:=fun h=>by unfold ba at h;simp at h;exact h.2
  have xY:r.2.vars=[]:=by rw[←hr];exact xW
  rw[hr]at IS aq hI
  cases bj:r.1 with
  |false=>
   rw[bj]at IS aq;have aO:=Lib.hid (show RR=r.2 from aq.symm);clear gT aq h hr bj hI;go_wp2_with fail;refine ME.out.mono ?_;rintro e w2⟨rfl,ah⟩;have J3:=Lib.hid (IS.out w2 (H.out.ext ah));have B2:=Lib.hid ah;clear ah;go_wp2_with fail;refine J3.out.mono ?_;rintro e w3⟨rfl,hp⟩;have HP:=Lib.hid (show rX W0 w D RR (.returned (.tuple #[])) w3 by rw[aO.out];exact⟨rfl,⟨_,_,hp.re⟩,(ag.of B2.out).trans hp.only⟩);clear hp;go_wp2;exact(EC [] rfl .nil (fun _ h=>by cases h) (results_none rfl _ _ _) HP.out).1
  |true=>
   rw[bj,if_pos rfl]at aq;rw[bj]at IS;have hk:=hI bj;have hc:=(qv s.js k 6 (by decide)).2 (.inl hk);have MS:=Lib.hid (fun W(hR:aC W0 Wv (.slice none 0 0) W D r.2)=>IK (hR.view hV) k);rw[Int.toNat_natCast]at MS;have il:=hV.Jq k;obtain⟨ms,tH⟩:∃ms,et s.js (kids s.aa k)=ms:=⟨_,rfl⟩;rw[tH]at MS il aq;have WR:=Lib.hid (fun W(hR:aC W0 Wv (.slice none 0 0) W D r.2)=>vo hV r.2 k 15 W hR);have HC:=Lib.hid hc;have HVS:=Lib.hid xY;have aO:=Lib.hid aq;clear gT aq h hr bj hI hk hc tH xY xW
   go_wp2_with fail;refine ME.out.mono ?_;rintro e w2⟨rfl,ah⟩;have J3:=Lib.hid (IS.out w2 (H.out.ext ah));have B2:=Lib.hid ah;clear ah;go_wp2_with fail;refine J3.out.mono ?_;rintro e w3⟨rfl,hp⟩;have H3:=Lib.hid hp.re;have O3:=Lib.hid ((ag.of (T:=fun b=>b=W0.heap.size) B2.out).trans hp.only);obtain⟨ev,c0,c1,c2,_,_⟩:=hp.re.cells;have Js:=Lib.hid (MS.out w3 hp.re);clear hp;go_wp2_with fail;refine Js.out.mono ?_;intro e w4 hp;obtain⟨v,u,rfl,he,hg,_,aY⟩:=hp;obtain rfl:=he.none HC.out;have hl:=hg HC.out
   obtain⟨ao,c,rfl,_,_,dg⟩:=hl.oT;have H4:=Lib.hid (H3.out.ext aY);have O4:=Lib.hid (O3.out.trans (ag.of aY));have CL:Hid (∀(j m:Nat),ms[j]?=some m→∃b o,ao=some ⟨b,o,none⟩∧b≠W0.heap.size∧b<w4.heap.size∧w4.cell? ⟨b,o+j,none⟩=some (.int .i64 m)):=Lib.hid (fun j m hm=>by obtain⟨hj,rfl⟩:=List.getElem?_eq_some_iff.1 hm;obtain⟨b,o,h1,h2,h3⟩:=dg (by omega);have:=H3.out.lt;exact⟨b,o,h1,by have:=h2.1;omega,h2.2,h3 j hj⟩)
   obtain⟨n,hn⟩:∃n,ms.length=n:=⟨_,rfl⟩;have HN:=Lib.hid hn;have WR4:=Lib.hid (WR.out w4 H4.out);have aq:=aO.out;rw[hn]at il⊢aq;clear aY he hg hl dg hn c0 c1 c2;obtain⟨s5,im⟩:∃s5:ai,⟨r.2.bad||decide (64<n),r.2.vars⟩=s5:=⟨_,rfl⟩;rw[im]at aq;rw[IZ]at im;have Sd:s5.vars=[]:=by rw[←im,←HVS.out];split<;>rfl
   have tM:=Lib.hid aq;have mh:=Lib.hid Sd;clear Sd aq;by_cases EE:64<n;case' pos=>have t1:decide ((64:Int)<(n:Int))=true:=decide_eq_true (by omega);have aT:decide (64<n)=true:=decide_eq_true EE;rw[aT,if_pos rfl]at im;go_wp2_with fail;refine WR4.out.mono ?_;rintro e w5⟨rfl,hp⟩;rw[im]at hp;have H5:=Lib.hid hp.re;have O5:=Lib.hid hp.only;clear hp im EE;go_wp2_with fail
   case' neg=>have t1:decide ((64:Int)<(n:Int))=false:=decide_eq_false (by omega);have aT:decide (64<n)=false:=decide_eq_false EE;rw[aT,if_neg (by decide)]at im;have H5:=Lib.hid (im▸H4.out);have O5:=Lib.hid (ag.refl (fun b=>b=W0.heap.size) w4);clear im EE;go_wp2_with fail
   all_goals
    (
     refine wp_loop (fun a w7=>∃(marks:List Nat)(u1 u2 u3 u4 u5 u6 u7 u8 u9 u10 u11 u12 u13 u14 u15 u16 u17 u18 u19 u20 u21 u22 u23 u24 u25 u26 u27 u28 u29 u30 u31 u32 u33 u34 u35 u36 u37 u38 u39 u40 u41 u42 u45 u46 u47 u48 u49 u50 u51 u52 u53 u54 u55 u56 u57 u58 u59 u60 u61 u62 u63 u64 u65 u66 u67 u68 u69 u70 u71 u72 u73 u74 u75 u76 u77 u78 u79 u80 u81 u82 u83 u84 u85 u86 u87 u88:Value),ED W0 s.js s.aa w4 D ms RR marks u45 w7∧a={tmps:=#[an W0.heap.size,u1,u2,u3,u4,u5,u6,u7,u8,u9,u10,u11,u12,u13,u14,u15,u16,u17,u18,u19,u20,u21,u22,u23,u24,u25,u26,u27,u28,u29,u30,u31,u32,u33,u34,u35,u36,u37,u38,u39,u40,u41,u42,.slice ao n c,.int .i64 n,u45,u46,u47,u48,u49,u50,u51,u52,u53,u54,u55,u56,u57,u58,u59,u60,u61,u62,u63,u64,u65,u66,u67,u68,u69,u70,u71,u72,u73,u74,u75,u76,u77,u78,u79,u80,u81,u82,u83,u84,u85,u86,u87,u88],defers:=J1 marks}) (fun a _=>n-(intOf (a.tmps.getD 45 undef)).toNat) ?_ ?_
     ·refine⟨[],?_⟩;(repeat apply Exists.intro);exact⟨⟨0,s5,Wv,_,rfl,Nat.zero_le _,by rw[mh.out];exact Nat.zero_le _,H5.out,O5.out,(fun g h=>by cases h),⟨(fun m h=>by cases h),.nil⟩,by rw[List.drop_zero];exact tM.out⟩,rfl⟩
     intro a wr hinv;obtain⟨marks,h⟩:=hinv;obtain⟨u1,h⟩:=h;obtain⟨u2,h⟩:=h;obtain⟨u3,h⟩:=h;obtain⟨u4,h⟩:=h;obtain⟨u5,h⟩:=h;obtain⟨u6,h⟩:=h;obtain⟨u7,h⟩:=h;obtain⟨u8,h⟩:=h;obtain⟨u9,h⟩:=h;obtain⟨u10,h⟩:=h;obtain⟨u11,h⟩:=h;obtain⟨u12,h⟩:=h;obtain⟨u13,h⟩:=h;obtain⟨u14,h⟩:=h;obtain⟨u15,h⟩:=h;obtain⟨u16,h⟩:=h;obtain⟨u17,h⟩:=h;obtain⟨u18,h⟩:=h;obtain⟨u19,h⟩:=h;obtain⟨u20,h⟩:=h;obtain⟨u21,h⟩:=h;obtain⟨u22,h⟩:=h;obtain⟨u23,h⟩:=h
     obtain⟨u24,h⟩:=h;obtain⟨u25,h⟩:=h;obtain⟨u26,h⟩:=h;obtain⟨u27,h⟩:=h;obtain⟨u28,h⟩:=h;obtain⟨u29,h⟩:=h;obtain⟨u30,h⟩:=h;obtain⟨u31,h⟩:=h;obtain⟨u32,h⟩:=h;obtain⟨u33,h⟩:=h;obtain⟨u34,h⟩:=h;obtain⟨u35,h⟩:=h;obtain⟨u36,h⟩:=h;obtain⟨u37,h⟩:=h;obtain⟨u38,h⟩:=h;obtain⟨u39,h⟩:=h;obtain⟨u40,h⟩:=h;obtain⟨u41,h⟩:=h;obtain⟨u42,h⟩:=h;obtain⟨u45,h⟩:=h;obtain⟨u46,h⟩:=h;obtain⟨u47,h⟩:=h;obtain⟨u48,h⟩:=h;obtain⟨u49,h⟩:=h;obtain⟨u50,h⟩:=h
     obtain⟨u51,h⟩:=h;obtain⟨u52,h⟩:=h;obtain⟨u53,h⟩:=h;obtain⟨u54,h⟩:=h;obtain⟨u55,h⟩:=h;obtain⟨u56,h⟩:=h;obtain⟨u57,h⟩:=h;obtain⟨u58,h⟩:=h;obtain⟨u59,h⟩:=h;obtain⟨u60,h⟩:=h;obtain⟨u61,h⟩:=h;obtain⟨u62,h⟩:=h;obtain⟨u63,h⟩:=h;obtain⟨u64,h⟩:=h;obtain⟨u65,h⟩:=h;obtain⟨u66,h⟩:=h;obtain⟨u67,h⟩:=h;obtain⟨u68,h⟩:=h;obtain⟨u69,h⟩:=h;obtain⟨u70,h⟩:=h;obtain⟨u71,h⟩:=h;obtain⟨u72,h⟩:=h;obtain⟨u73,h⟩:=h;obtain⟨u74,h⟩:=h;obtain⟨u75,h⟩:=h
     obtain⟨u76,h⟩:=h;obtain⟨u77,h⟩:=h;obtain⟨u78,h⟩:=h;obtain⟨u79,h⟩:=h;obtain⟨u80,h⟩:=h;obtain⟨u81,h⟩:=h;obtain⟨u82,h⟩:=h;obtain⟨u83,h⟩:=h;obtain⟨u84,h⟩:=h;obtain⟨u85,h⟩:=h;obtain⟨u86,h⟩:=h;obtain⟨u87,h⟩:=h;obtain⟨u88,h⟩:=h;obtain⟨hrel,ha⟩:=h;subst ha;try dsimp only
     obtain⟨j,s1,Wj,vj,rfl,hj,EF,ik,ho,xX,dP,hr⟩:=hrel;rw[HN.out]at hj;by_cases hlt:j<n
     ·have t1:decide ((j:Int)<(n:Int))=true:=decide_eq_true (by omega);have aT:decide (j<n)=true:=decide_eq_true hlt;have q1:IntKind.i64.wrap ((j:Int)+1)=(j:Int)+1:=IntWalk.i64_in _ (by omega);obtain⟨m,hm⟩:=bN ms j (by rw[HN.out];exact hlt);rw[Aw hm,ql]at hr;obtain⟨bb,o,rfl,h1,h2,h3⟩:=CL.out j m hm;have e0:=(ho.xE h2 h1 (o+j)).trans h3;have KY:=Lib.hid (IP (vv:=vj) hV s1 m wr ik);obtain⟨key,jH⟩:∃key,bh s.js m=key:=⟨_,rfl⟩;rw[jH]at KY hr
      have Se:key.size≤1100000:=by rw[←jH];exact hK m
      have EG:=Lib.hid ik;have HO:=Lib.hid ho;have AN:=Lib.hid hr;have A8:=Lib.hid dP;have HVB:=Lib.hid xX;have HVJ:=Lib.hid EF;have xM:=Lib.hid Se;clear jH hr ik ho dP xX hm h1 h2 h3 EF Se;go_wp2_with fail;refine KY.out.mono ?_;rintro e wk⟨rfl,fR⟩;have X6:=heap_alloc_new wk (.cells #[.string key,.slice none 0 0] 103);have B6:=aj fR (.cells #[.string key,.slice none 0 0] 103);obtain⟨W6,mz⟩:∃W6,wk.alloc (.cells #[.string key,.slice none 0 0] 103)=W6:=⟨_,rfl⟩;obtain⟨N,hN⟩:∃N,wk.heap.size=N:=⟨_,rfl⟩
      rw[mz]at X6 B6;rw[hN]at X6;have J6:=Lib.hid (show wr.heap.size≤N by have:=fR.size;omega);have pn:Wj.heap.size≤N:=by have:=EG.out.only.size;have:=fR.size;omega
      have V6:=Lib.hid (show gi W0 Wj vj D W6 N key s1 (.slice none 0 0) [] W6 from⟨EG.out.ext B6,ag.refl _ _,X6,fu.nil,pn,ak X6⟩);have oe:=Lib.hid B6;have EH:=Lib.hid mz;have Sf:=Lib.hid hN;clear X6 B6 fR mz hN pn;go_wp2_with fail;rw[EH.out];simp only[Sf.out];refine(Jv W0.heap.size m W6).mono ?_;rintro e w7⟨rfl,rfl⟩;have BT:=vu W6 #[an W0.heap.size] #[.int .i64 m] 67 3;obtain⟨W7,vK⟩:∃W7,((W6.alloc (.cells #[an W0.heap.size] 67)).alloc (.cells #[.int .i64 m] 3))=W7:=⟨_,rfl⟩;rw[vK]at BT
      obtain⟨qb,vE⟩:∃qb,W6.heap.size=qb:=⟨_,rfl⟩;obtain⟨gC,AH⟩:∃gC,qb+1=gC:=⟨_,rfl⟩;have H0:=Lib.hid (show qK W0 Wj vj D W6 N key (fun j=>j=qb∨j=gC) [] s1 W7 from by refine⟨_,V6.out.ext BT.2.2,fun j hj=>?_⟩;have z1:=ak BT.2.1;have z2:=V6.out.hi;have z3:=V6.out.w0;refine⟨by omega,by omega,by omega,nofun⟩);rw[vE,AH]at BT;have TT:=Lib.hid (Ju (vv:=vj) (Wv:=Wj) (n:=2) List.length A6 hV hT (fun b _ _ _=>by simp[A6]) [] s1 m qb gC W7 BT.1 BT.2.1)
      obtain⟨tl,wF⟩:∃tl,(iE s.js s.aa s1 m).1=tl:=⟨_,rfl⟩;obtain⟨s2,xL⟩:∃s2,(iE s.js s.aa s1 m).2=s2:=⟨_,rfl⟩;have Sg:=Lib.hid (show(∀t∈tl,t.size≤1100000)∧tl.length≤100000 by rw[←wF];exact aep hT (fun k=>hV.xD k) s1 m);have hR:=aeo s.js s.aa s1 m;have Sh:=Lib.hid (show s2.vars.length≤j by rw[←xL,(Ph s.js s.aa s1 m).vars];exact HVJ.out);have bj:=AN.out;rw[wF,xL]at hR bj;rw[hR]at TT;have Si:=Lib.hid bj;have h4:W6.heap.size≤W7.heap.size:=BT.2.2.size;clear BT hR wF xL bj
      go_wp2_with fail;refine(wpIn_wide (n:=3)).1 ?_
      refine IW (W0:=W0) (Wv:=Wj) (vv:=vj) (D:=D) (gf:=95) (lb:=#[.pointer (some ⟨qb,0,none⟩),.pointer (some ⟨gC,0,none⟩)]) (own:=fun j=>j=qb∨j=gC) (cnt:=List.length) (step:=A6) (b0:=[]) (lD:=s1) (R:=(true,tl,s2)) (J:=qK W0 Wj vj D W6 N key) (Jx:=fun _ _ _ _=>False) (Z0:=fun j=>j=qb∨j=gC) rfl rfl (enters_of Tryz.func95 (by kernel_rfl) rfl) rfl TT.out qK.tells (fun Z b st W l o h hz hl=>qK.put o h hz (by omega)) (fun Z b st W l o h hz hl=>h) (fun _ h=>h) H0.out ?_ ?_ ?_
      ·intro lr k2 t W;gi_wp2;refine⟨trivial,fun Z b st W2 hJ hb ht qu=>?_⟩;obtain⟨vb,A9,hz⟩:=hJ;obtain⟨cells,o1,o2⟩:=A9.row;obtain⟨AI,AJ,rfl,_⟩:=aM o1;have c1:=Lib.cell_of_heap A9.box 1;have lJ:=Lib.hid (And.intro o1 o2);have fv:=Lib.hid (And.intro A9 hz);have b9:b.length<100000:=by simpa using qu
       have hsz:W6.heap.size≤W2.heap.size:=A9.only.size;clear A9 hz o1 o2 hb ht qu;gi_wp2_with(gi_at_builtin;refine Rq W2 #[.string t] 9 rfl _ _ 96 rfl W6.heap.size aew _ _ _ rfl lJ.out.1 rfl rfl ?_ ?_ ?_ ?_ ?_)
       ·rfl
       ·unfold maxLen;omega
       ·omega
       ·exact vE▸hsz
       ·intro v8 w8 tL rW AS;rw[←vE]at tL;obtain⟨vG,mj,rfl,_⟩:=aM tL;obtain⟨jm,cX,fX⟩:=fv.out.1.push lJ.out.1 lJ.out.2 tL rW;have fK:ag (fun j=>False∨(Value.slice AI b.length AJ).ownBlock=some j) W2 w8:=(ag.refl (fun _=>False) W2).push lJ.out.1 rW;obtain⟨W8,kM⟩:∃W8,w8.setCell ⟨N,1,none⟩ (.slice vG (b.length+1) mj)=W8:=⟨_,rfl⟩
        have lH:gQ Z W2 W8:=by rw[←kM];exact(gQ.only fK (fun j hj=>⟨(fv.out.2 j hj).1,by rintro(t|t);exact t;exact(fv.out.2 j hj).2.2.2 t⟩)).trans ⟨by simp,fun j hj=>Below.heap_setCell _ _ _ _ (fv.out.2 j hj).2.2.1⟩
        rw[kM]at jm
        have AU:∀j,Z j→j<W8.heap.size∧j≠W0.heap.size∧j≠N∧(Value.slice vG (b.length+1) mj).ownBlock≠some j:=fun j hj=>by
         obtain⟨z1,z2,z3,z4⟩:=fv.out.2 j hj;refine⟨Nat.lt_of_lt_of_le z1 lH.1,z2,z3,fun e=>?_⟩;rcases AS with t|t
         ·rw[←t]at e;exact z4 e
         ·rw[t]at e;cases e;omega
        have HQ:=Lib.hid (And.intro lH (show qK W0 Wj vj D W6 N key Z (b++[t]) st W8 from⟨_,jm,AU⟩));clear tL rW AS jm fK lH AU;gi_wp2;refine⟨HQ.out.1,rfl,?_⟩;exact HQ.out.2
      ·intro M Z W hM _ hJ hd;obtain⟨vt,hv,_⟩:=hJ;have HV:=Lib.hid hv;have HM:=Lib.hid (hv.aet HO.out oe.out J6.out H4.out.lt A8.out (Nat.le_trans h4 hM) hd);obtain⟨ev,c0,c1,c2,_,da⟩:=hv.re.cells;clear hv hd hM;rcases da with⟨hb,rfl⟩|⟨hb,bE,rfl⟩
       ·have iu:=Si.out;rw[hb,if_neg (by decide),Bool.false_or]at iu;have rz:s2=⟨false,s2.vars⟩:=by cases s2;cases hb;rfl
        obtain⟨q,hq⟩:∃q,DU ⟨key,tl⟩=q:=⟨_,rfl⟩;rw[show cg.Iq ⟨key,tl⟩=q from hq]at iu;obtain⟨EI,EJ,hvt,_⟩:=aM HV.out.row.choose_spec.1;have CK:=Lib.hid (aek ⟨key,tl⟩ vt W (hS.ext HV.out.re.below) (HV.out.row.pj.rd.wide (fun b h=>h.2)) xM.out Sg.out.1 (Nat.le_trans Sg.out.2 (by decide)));rw[hq]at CK;subst hvt;have b0:=Lib.cell_of_heap HV.out.box 0;have b1:=Lib.cell_of_heap HV.out.box 1
        have cM:=Lib.hid (show(q=true→(⟨!q,s2.vars⟩:ai)=s2)∧(q=false→(⟨!q,s2.vars⟩:ai)=s2.fail)from⟨fun e=>by rw[e];exact rz.symm,fun e=>by rw[e];rfl⟩);have FL:=Lib.hid (fun W x(hR:aC W0 Wj vj W D s2)=>zY hV s2 m 85 x W hR);have aeE:=Lib.hid iu;clear hb rz hq iu;go_wp2_with fail;refine CK.out.mono ?_;rintro e w5⟨c5,⟨bg,u,rfl,he⟩,e_⟩;have mh:=Lib.hid (HV.out.ext bg);have J7:=Lib.hid (HM.out.keep (ag.of (T:=fun _=>False) bg) (fun _ _ h=>h))
        obtain⟨rfl,rfl⟩|⟨hc,pE,rfl⟩:=lE he;case' inl=>have rY:=Lib.hid (show gi W0 Wj vj D W6 N key ⟨!q,s2.vars⟩ (.slice EI tl.length EJ) tl w5 by rw[cM.out.1 (e_.1 rfl)];exact mh.out);have Sj:=Lib.hid J7.out;clear bg he e_ c0 c1 c2 b0 b1;go_wp2_with fail
        case' inr=>
         have hq:q=false:=by
          cases q with
          |false=>rfl
          |true=>exact absurd (e_.2 rfl) hc
         have J8:=Lib.hid (wG 11 0 _ c5 w5 he);have dx:=Lib.hid (aj (Below.refl _ w5) (.cells #[.int .i64 11,.int .i64 0,.iface 85 (.pointer (some pE))] 89));have Jo:=Lib.hid (FL.out _ (.pointer (some ⟨w5.heap.size,0,none⟩)) (mh.out.re.ext dx.out));have HQ:=Lib.hid hq;clear bg he e_ hc c0 c1 c2 b0 b1 hq;go_wp2_with fail;refine J8.out.mono ?_;rintro e w6⟨rfl,rfl⟩;go_wp2_with fail;refine Jo.out.mono ?_;rintro e w7'⟨rfl,hp⟩
         have rY:=Lib.hid (show gi W0 Wj vj D W6 N key ⟨!q,s2.vars⟩ (.slice EI tl.length EJ) tl w7' by rw[cM.out.2 HQ.out];exact(mh.out.ext dx.out).call hp);have Sj:=Lib.hid ((J7.out.keep (ag.of (T:=fun _=>False) dx.out) (fun _ _ h=>h)).keep hp.only (fun k hk e=>by have:=(J7.out.1 k hk).1;have:=H4.out.lt;omega));clear hp;go_wp2_with fail
        all_goals
         (
          have A_:=Lib.hid (rY.out.ext (Below.drew (Below.refl _ _)));have HMD:=Lib.hid (Sj.out.keep (ag.of (T:=fun _=>False) (Below.drew (Below.refl _ _))) (fun _ _ h=>h));have tP:=Lib.hid (A_.out.re.vars.row.turn A_.out.re.only (fun b e=>by omega));obtain⟨i0,dw,bT,bW,bA⟩:=info_parts aev.hi;obtain⟨aoj,aeI,EF,_⟩:=aM (kN tP.out);obtain⟨ev,r0,r1,r2,_,_⟩:=rY.out.re.cells;have b0:=Lib.cell_of_heap rY.out.box 0;have b1:=Lib.cell_of_heap rY.out.box 1;have zR:=rY.out.re.lt;have zN:=ak rY.out.box
          have ef:s2.vars.length+1≤100001:=by have:=Sh.out;omega
          subst EF;go_wp2_with fail;refine wp_region_noPanic ?_
          go_region_law(
           (
            refine step_append_lies _ (by rfl) _ _ _ (by rfl) (W0.heap.size+1) 103 i0 _ 2 40 Tryz.underlying25 dw bT bW bA rfl (by omega) (.slice aoj s2.vars.length aeI) s2.vars.length _ (by rfl) ((kN tP.out).alloc _) ⟨_,0,none⟩ 1 1 [.string key,.slice EI tl.length EJ] (by rfl) (by rfl) (World.news_of_block (cs:=#[.string key,.slice EI tl.length EJ]) (t:=103) (fr:=(0,0)) (heap_alloc_new _ _)) (by simp[Value.oneCell']) (by omega) (by unfold maxLen;omega) (by omega) (by have:=A_.out.re.lt;simp;omega) _ rfl ?_)
           intro g' cap' w9 AY AZ A0 JY;obtain⟨Sk,A7,cX,fX,aeJ⟩:=A_.out.aeu (kN tP.out) tP.out.choose_spec.2 AY AZ (A0.imp (fun h=>h) (fun h=>by show some g'=_;rw[h];simp));have aeK:=Lib.hid Sk;have pw:=Lib.hid A7;have HAT:=Lib.hid aeJ;clear AY AZ A0 JY Sk A7)
          all_goals(refine NoPanic.normal ?_;have RL:=Lib.hid (ED.next (R:=RR) (js:=s.js) (aa:=s.aa) (ms:=ms) (j:=j) A_.out HMD.out HO.out oe.out J6.out H4.out.lt HVB.out (kN tP.out) aeK.out pw.out HAT.out (by rw[HN.out];exact hlt) Sh.out aeE.out);go_wp2;refine⟨⟨M::marks,?_⟩,by simp[intOf];omega⟩;have R:=RL.out;(repeat apply Exists.intro);exact⟨R,rfl⟩))
       ·have iu:=Si.out;rw[hb,if_pos rfl]at iu;have HP:=Lib.hid (show rX W0 w D RR (.returned (.tuple #[])) (od (M::marks) W)by rw[←iu];exact rX.of HV.out.re O4.out (HV.out.o4 HO.out oe.out J6.out) HM.out JX);clear iu;go_wp2;exact(EC (M::marks) rfl HM.out.2 (fun m h=>(HM.out.1 m h).2) (results_none rfl _ _ _) HP.out).1
      ·intro M Z W _ kO;cases kO
     ·have t1:decide ((j:Int)<(n:Int))=false:=decide_eq_false (by omega);have aT:decide (j<n)=false:=decide_eq_false hlt;rw[List.drop_eq_nil_of_le (by rw[HN.out];omega),ql]at hr;have HP:=Lib.hid (show rX W0 w D RR (.returned (.tuple #[])) (od marks wr)by rw[←hr];exact rX.of ik O4.out ho dP JX);have A8:=Lib.hid dP;clear ik ho hr dP xX hlt;go_wp2;exact(EC marks rfl A8.out.2 (fun m h=>(A8.out.1 m h).2) (results_none rfl _ _ _) HP.out).2)
end
end Go.Proofs.YtcaiibkgajhohaaGreatDoor
