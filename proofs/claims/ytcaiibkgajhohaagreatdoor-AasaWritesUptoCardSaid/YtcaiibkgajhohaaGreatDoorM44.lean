/- waybill: lemmas and walks, printed from longer texts. -/
import Derived.Test.YtcaiibkgajhohaaGreatDoorM43
set_option maxRecDepth 100000
set_option maxHeartbeats 16000000
namespace Go.Proofs.YtcaiibkgajhohaaGreatDoor
open Go.RowKit
theorem UX{w:World}{B g n c:Nat}{l:List ByteArray}(h:w.ownsRow B 9 1 (.slice (some ⟨g,0,none⟩) n c) n (bo l))(hn:l.length=n){i:Nat}{x:ByteArray}(hx:l[i]?=some x):w.cell? ⟨g,i,none⟩=some (.string x):=by have hj:=(List.getElem?_eq_some_iff.1 hx).1;rw[World.ownsRow.cellAt h i (by omega)];simp[bo,hx]
theorem agK{w:World}{B g n c:Nat}{l:List Nat}(h:w.ownsRow B 3 1 (.slice (some ⟨g,0,none⟩) n c) n (se l))(hn:l.length=n){i x:Nat}(hx:l[i]?=some x):w.cell? ⟨g,i,none⟩=some (.int .i64 x):=by have hj:=(List.getElem?_eq_some_iff.1 hx).1;rw[World.ownsRow.cellAt h i (by omega)];simp[se,hx]
structure jw(w0 w2:World)(X:Nat)(f:Fl)(W:World):Prop where
 bq:dX w0 W X f
 only:ag (fun b=>b=X) w2 W
theorem jw.drew{w0 w2:World}{X:Nat}{f:Fl}{W:World}(h:jw w0 w2 X f W):jw w0 w2 X f W.drew:=⟨h.bq.ext (Below.refl _ W).drew,h.only.trans (ag.of (Below.refl _ W).drew)⟩
theorem jw.drewN{w0 w2:World}{X:Nat}{f:Fl}{W:World}(h:jw w0 w2 X f W)(k:Nat):jw w0 w2 X f (W.drewN k):=⟨h.bq.ext (eW k (Below.refl _ W)),h.only.trans (ag.of (eW k (Below.refl _ W)))⟩
theorem jw.twice{w0 w2:World}{X:Nat}{f:Fl}{W:World}(h:jw w0 w2 X f W){a b:Bool}(hb:b=(f.twice||a)):jw w0 w2 X (f.add false a) (W.setCell ⟨X,1,none⟩ (.bool b)):=by subst hb;exact⟨h.bq.twice a,h.only.set (p:=⟨X,1,none⟩) (fun _=>rfl) _⟩
theorem jw.text{w0 w2:World}{X:Nat}{f:Fl}{W:World}(h:jw w0 w2 X f W)(s:ByteArray)(hs:s.size≤1048576):Calls Tryz.prog 80 #[.pointer (some ⟨X,0,none⟩),.string s] W fun e w'=>e=.returned (.string (aG s))∧jw w0 w2 X (f.add (!aN s) false) w':=(KQ w0 W X f s h.bq hs).mono (fun _e _w'⟨h1,h2,h3⟩=>⟨h1,h2,h.only.trans h3⟩)
def KZ(w0 w2:World)(X:Nat)(f:Fl)(s:List KV)(o k:Value)(wr:World):Prop:=∃j:Nat,k=.int .i64 j∧j≤s.length∧o=.string (⟨#[123]⟩++J ((s.map eA).take j))∧jw w0 w2 X (f.add (cH ((s.map (·.1)).take j)) (kP (s.map (·.1)) j)) wr
theorem yd(w0 w:World)(X:Nat)(f:Fl)(v1 v2:Value)(keys vals:List ByteArray)(h:dX w0 w X f)(h1:w.ownsRow (X+1) 9 1 v1 keys.length (bo keys))(h2:w.ownsRow (X+1) 9 1 v2 vals.length (bo vals))(hl:vals.length=keys.length)(hk:∀p∈keys,p.size≤1048576)(hz:cj (keys.zip vals)≤100000000000000)(hm:keys.length≤1100000):Calls Tryz.prog 45 #[an X,v1,v2] w fun e w'=>∃T,e=.returned (.string T)∧Tx (cj (keys.zip vals)) (!db keys) (dW (keys.zip vals)) T∧dX w0 w' X (f.add (cH keys) (db keys))∧ag (fun b=>b=X) w w':=by
 obtain⟨a1,c1,rfl,pW⟩:=aM h1;obtain⟨a2,c2,rfl,sW⟩:=aM h2;have OR:=agq w _ keys (Fc h1) hm;have H:=Lib.hid h;have H1:=Lib.hid h1;have H2:=Lib.hid h2;have HK:=Lib.hid hk;have HZ:=Lib.hid hz;have K0:=Lib.hid pW;have K3:=Lib.hid sW;have HL:=Lib.hid hl;obtain⟨n,hn⟩:∃n,keys.length=n:=⟨_,rfl⟩;have HN:=Lib.hid hn;rw[hl,hn]at H2;rw[hl,hn];rw[hn]at H1 OR hm;have OR:=Lib.hid OR;clear h h1 h2 hk hz pW sW hl hn;unfold an;go_enter Tryz.func45,Tryz.ntmps45;go_wp2_with fail;go_at_call 43;refine OR.out.mono ?_
 rintro _ w2⟨u,ol,rfl,hO,BE,az,ah⟩;rw[BE]at az;obtain⟨au,cu,rfl,UY⟩:=aM az;obtain⟨s,hs⟩:∃s,sd keys vals ol=s:=⟨_,rfl⟩;have qQ:s.Perm (keys.zip vals):=by rw[←hs];exact agi hO (by rw[BE,HN.out]) HL.out
 have BD:s.Pairwise fun a b=>gj a b=true:=by rw[←hs];exact agj hO
 have oK:s.length=n:=by rw[←hs];unfold sd;rw[List.length_map,BE]
 have hsz:(J (s.map eA)).size+2≤cj (keys.zip vals):=by have:=TJ s;unfold E1 at this;rw[ByteArray.size_append,ByteArray.size_append,E2 qQ]at this;have e1:(⟨#[123]⟩:ByteArray).size=1:=rfl;have e2:(⟨#[125]⟩:ByteArray).size=1:=rfl;omega
 have x9:=HZ.out;have HJ:=Lib.hid (show(J (s.map eA)).size≤100000000000000 by omega);have P2:=H.out.ext ah;have R0:KZ w0 w2 X f s (.string ⟨#[123]⟩) (.int .i64 0) w2:=⟨0,rfl,Nat.zero_le _,by rw[List.take_zero,Km];rfl,by simpa[cH,kP,Fl.dO]using P2,ag.refl _ _⟩;have eF:=Lib.hid R0;have W1:w2.ownsRow (X+1) 9 1 (.slice a1 n c1) n (bo keys):=bu H1.out (fun g hg=>ah.block g (H1.out.lt g hg).2) (Nat.le_refl _)
 have W2:w2.ownsRow (X+1) 9 1 (.slice a2 n c2) n (bo vals):=bu H2.out (fun g hg=>ah.block g (H2.out.lt g hg).2) (Nat.le_refl _);have HXw:X<w.heap.size:=H.out.lt;have mc:=Lib.hid W1;have sb:=Lib.hid W2;have HO:=Lib.hid hO;have Fm:=Lib.hid BE;have HWU:=Lib.hid az;have HFU:=Lib.hid UY;have aP:=Lib.hid ah;have pC:=Lib.hid qQ;have cM:=Lib.hid BD;have k7:=Lib.hid oK;have UZ:=Lib.hid hs;clear R0 W1 W2 hO BE az UY ah qQ BD oK hs P2 OR hsz x9;go_wp2_with fail;go_loopw[8,9](KZ w0 w2 X f s)(fun _ i _=>n-(intOf i).toNat)
 case atStart=>exact eF.out
 case round=>
  obtain⟨j,rfl,hj,rfl,hP⟩:=hrel;rw[k7.out]at hj;have U0:=Uy (s.map eA) j;have ix:=HJ.out;have Fh:(⟨#[123]⟩++J ((s.map eA).take j):ByteArray).size≤100000000000002:=by rw[ByteArray.size_append];have:(⟨#[123]⟩:ByteArray).size=1:=rfl;omega
  by_cases hlt:j<n
  ·have t1:decide ((j:Int)<(n:Int))=true:=decide_eq_true (by omega);have aT:decide (j<n)=true:=decide_eq_true hlt;have q1:IntKind.i64.wrap ((j:Int)+1)=(j:Int)+1:=IntWalk.i64_in _ (by omega);obtain⟨x,hx⟩:=bN ol j (by rw[Fm.out];exact hlt);have Bx:x<n:=by rw[←HN.out];exact HO.out.lt x (List.mem_of_getElem? hx)
   obtain⟨ky,fW⟩:=bN keys x (by rw[HN.out];exact Bx);obtain⟨va,K7⟩:=bN vals x (by rw[HL.out,HN.out];exact Bx)
   obtain⟨g1,rfl,hg1,bW⟩:∃g,a1=some ⟨g,0,none⟩∧X+1≤g∧g<w.heap.size:=by
    rcases K0.out with⟨h0,_⟩|h
    ·have:=HN.out;omega
    ·exact h
   obtain⟨g2,rfl,aL,bA⟩:∃g,a2=some ⟨g,0,none⟩∧X+1≤g∧g<w.heap.size:=by
    rcases K3.out with⟨h0,_⟩|h
    ·have:=HN.out;have:=HL.out;omega
    ·exact h
   obtain⟨gu,rfl,hgu,U1⟩:∃g,au=some ⟨g,0,none⟩∧w.heap.size≤g∧g<w2.heap.size:=by
    rcases HFU.out with⟨h0,_⟩|h
    ·have:=HN.out;have:=Fm.out;omega
    ·exact h
   have AL:=aP.out.size;have CE:=Lib.hid (fun W(hW:ag (fun b=>b=X) w2 W)(g o:Nat)(hg:g<w2.heap.size)(KT:g≠X)=>(show W.cell? ⟨g,o,none⟩=w2.cell? ⟨g,o,none⟩from by unfold World.cell?;rw[hW.block g hg KT]));have K1:=Lib.hid (fun W(hW:ag (fun b=>b=X) w2 W)(i:Nat)(q:ByteArray)(hq:keys[i]?=some q)=>(show W.cell? ⟨g1,i,none⟩=some (.string q)from(CE.out W hW g1 i (by omega) (by omega)).trans (UX mc.out HN.out hq)))
   have K2:=Lib.hid (fun W(hW:ag (fun b=>b=X) w2 W)(i:Nat)(q:ByteArray)(hq:vals[i]?=some q)=>(show W.cell? ⟨g2,i,none⟩=some (.string q)from(CE.out W hW g2 i (by omega) (by omega)).trans (UX sb.out (HL.out.trans HN.out) hq)));have KU:=Lib.hid (fun W(hW:ag (fun b=>b=X) w2 W)(i q:Nat)(hq:ol[i]?=some q)=>(show W.cell? ⟨gu,i,none⟩=some (.int .i64 q)from(CE.out W hW gu i U1 (by omega)).trans (agK HWU.out Fm.out hq)))
   have lM:s[j]?=some (ky,va):=by rw[←UZ.out];unfold sd;rw[List.getElem?_map,hx];show some (bF keys x,bF vals x)=_;rw[show bF keys x=ky by unfold bF;rw[fW];rfl,show bF vals x=va by unfold bF;rw[K7];rfl]
   have K8:(s.map eA)[j]?=some (eA (ky,va)):=by rw[List.getElem?_map,lM];rfl
   have hst:=Ts K8 ⟨#[123]⟩;have Fo:(eA (ky,va)).size≤100000000000000:=Nat.le_trans (Ux (List.mem_of_getElem? K8)) ix;have amf:(aG ky).size+1+va.size≤100000000000000:=by unfold eA at Fo;rw[ByteArray.size_append,ByteArray.size_append]at Fo;exact Fo
   have Fk:=HK.out ky (List.mem_of_getElem? fW);obtain⟨a,pD⟩:∃a:Bool,a=decide (0<j∧bF (s.map (·.1)) (j-1)=bF (s.map (·.1)) j):=⟨_,rfl⟩;have FS:=Lib.hid (US f s lM a pD);obtain⟨cur,qx⟩:∃cur,f.add (cH ((s.map (·.1)).take j)) (kP (s.map (·.1)) j)=cur:=⟨_,rfl⟩;rw[qx]at FS hP;have HP:=Lib.hid hP;have c0:=KU.out wr hP.only j x hx;obtain⟨u,hu⟩:∃u,(⟨#[123]⟩++J ((s.map eA).take j):ByteArray)=u:=⟨_,rfl⟩;rw[hu]at Fh hst⊢
   obtain⟨u2,ye⟩:∃u2,(if 0<j then u++⟨#[44]⟩else u)=u2:=⟨_,rfl⟩;rw[ye]at hst
   have amg:u2.size≤100000000000003:=by
    rw[←ye];by_cases h0:0<j
    ·rw[if_pos h0,ByteArray.size_append];have:(⟨#[44]⟩:ByteArray).size=1:=rfl;omega
    ·rw[if_neg h0];omega
   have ways:(j=0∧a=false)∨(∃m y q,j=m+1∧ol[m]?=some y∧keys[y]?=some q∧cur.twice=true)∨(∃(m y:Nat)(q:ByteArray),j=m+1∧ol[m]?=some y∧keys[y]?=some q∧cur.twice=false∧(q.toList==ky.toList)=a):=by
    by_cases h0:j=0
    ·exact .inl ⟨h0,by rw[pD];exact decide_eq_false (by omega)⟩
    ·obtain⟨y,hy⟩:=bN ol (j-1) (by rw[Fm.out];omega);have U2:y<n:=by rw[←HN.out];exact HO.out.lt y (List.mem_of_getElem? hy)
     obtain⟨q,hq⟩:=bN keys y (by rw[HN.out];exact U2)
     cases ht:cur.twice with
     |true=>exact .inr (.inl ⟨j-1,y,q,by omega,hy,hq,rfl⟩)
     |false=>
      refine .inr (.inr ⟨j-1,y,q,by omega,hy,hq,rfl,?_⟩);have rE:∃z,s[j-1]?=some (q,z):=⟨bF vals y,by rw[←UZ.out];unfold sd;rw[List.getElem?_map,hy];show some (bF keys y,bF vals y)=_;rw[show bF keys y=q by unfold bF;rw[hq];rfl]⟩;obtain⟨z,rE⟩:=rE;rw[pD,Kr rE,Kr lM];by_cases e:q=ky
      ·rw[iL e];exact(decide_eq_true ⟨by omega,e⟩).symm
      ·rw[mX e];exact(decide_eq_false (fun h=>e h.2)).symm
   have KF:∀W,jw w0 w2 X ((cur.add false a).add (!aN ky) false) W→KZ w0 w2 X f s (.string (u2++(aG ky++⟨#[58]⟩++va))) (.int .i64 ((j:Int)+1)) W:=fun W hW=>⟨j+1,by go_num,by rw[k7.out];exact hlt,by rw[←hst];rfl,by rw[←FS.out];exact hW⟩;have rF:=Lib.hid KF;have TX:=Lib.hid (fun W(hW:jw w0 w2 X (cur.add false a) W)=>hW.text ky Fk);have BF:=Lib.hid (fun W(hW:ag (fun b=>b=X) w2 W)=>And.intro (K1.out W hW x ky fW) (K2.out W hW x va K7))
   clear hst Fo K8 lM pD qx hu KF fW K7 hx U0 ix hP bW bA U1;rcases ways with⟨h0,ha⟩|⟨m,y,q,K9,hy,hq,wg⟩|⟨m,y,q,K9,hy,hq,wg,hqa⟩
   case' inl=>have t2:decide ((0:Int)<(j:Int))=false:=decide_eq_false (by omega);have dM:decide (0<j)=false:=decide_eq_false (by omega);(have e2:u=u2:=by rw[←ye,if_neg (by omega)]);have ki:=Lib.hid (show jw w0 w2 X (cur.add false a) wr from by rw[ha,Fl.dO];exact HP.out);clear h0 ha ye;have yf:=Lib.hid (BF.out wr ki.out.only);go_wp2_with fail;generalize wr=W9 at ki yf⊢
   case' inr.inl=>
    have t2:decide ((0:Int)<(j:Int))=true:=decide_eq_true (by omega);have dM:decide (0<j)=true:=decide_eq_true (by omega);have e2:u++⟨#[44]⟩=u2:=by rw[←ye,if_pos (by omega)]
    have x0:=Lib.cell_of_heap HP.out.bq.dJ 1;have x1:=Go.Joins.unfrozen_of_block HP.out.bq.dJ 1;have x0':wr.cell? ⟨X,1,none⟩=some (.bool true):=by rw[←wg];exact x0
    have ki:=Lib.hid (show jw w0 w2 X (cur.add false a) (wr.setCell ⟨X,1,none⟩ (.bool true)).drew from(HP.out.twice (by rw[wg];rfl)).drew);have yf:=Lib.hid (BF.out _ ki.out.only);clear x0 K9 wg hy hq;go_wp2_with fail;go_region;generalize(wr.setCell ⟨X,1,none⟩ (.bool true)).drew=W9 at ki yf⊢;go_wp2_with fail
   case' inr.inr=>
    have t2:decide ((0:Int)<(j:Int))=true:=decide_eq_true (by omega);have dM:decide (0<j)=true:=decide_eq_true (by omega);have e2:u++⟨#[44]⟩=u2:=by rw[←ye,if_pos (by omega)]
    have x0:=Lib.cell_of_heap HP.out.bq.dJ 1;have x1:=Go.Joins.unfrozen_of_block HP.out.bq.dJ 1;have x0':wr.cell? ⟨X,1,none⟩=some (.bool false):=by rw[←wg];exact x0
    have d0:=KU.out wr HP.out.only m y hy;have d1:=K1.out wr HP.out.only y q hq;have d2:=(BF.out wr HP.out.only).1;have U2:y<n:=by rw[←HN.out];exact(List.getElem?_eq_some_iff.1 hq).1
    have By:m<n:=by omega
    have e1:(j:Int)-1=(m:Int):=by omega
    have q3:IntKind.i64.wrap (m:Int)=(m:Int):=IntWalk.i64_in _ (by omega);have ki:=Lib.hid (show jw w0 w2 X (cur.add false a) (wr.setCell ⟨X,1,none⟩ (.bool a)).drew from(HP.out.twice (by rw[wg];rfl)).drew);have yf:=Lib.hid (BF.out _ ki.out.only);clear x0 K9 wg hy hq;go_wp2_with fail;go_region;generalize(wr.setCell ⟨X,1,none⟩ (.bool a)).drew=W9 at ki yf⊢;go_wp2_with fail
   all_goals
    refine wp_region_noPanic ?_;refine wp_region_held_drew (S:=fun W=>W.cell? ⟨g1,x,none⟩=some (.string ky)∧W.cell? ⟨g2,x,none⟩=some (.string va)) (by kernel_rfl) yf.out (fun aB=>?_);refine wpAnyH_take (i:=0) (oi:=_) (v:=.string u2) rfl (by kernel_rfl) (by kernel_rfl) (by kernel_rfl) (fun _ _ _ h=>h) (Or.inl ⟨by rfl,?_⟩) aB ?_
    ·intro w al;obtain⟨y0,y1⟩:=al;go_simp
    try simp only[Act.put,List.setIfInBounds_toArray,List.set_cons_zero,List.set_cons_succ,List.getElem_toArray,List.getElem_cons_zero]
    refine wpAnyH_take (i:=1) (oi:=_) (v:=.pointer (some ⟨X,0,none⟩)) rfl (by kernel_rfl) (by kernel_rfl) (by kernel_rfl) (fun _ _ _ h=>h) (Or.inl ⟨by rfl,?_⟩) aB ?_
    ·intro w al;obtain⟨y0,y1⟩:=al;go_simp
    try simp only[Act.put,List.setIfInBounds_toArray,List.set_cons_zero,List.set_cons_succ,List.getElem_toArray,List.getElem_cons_zero,List.getElem_cons_succ]
    refine wpAnyH_take (i:=2) (oi:=_) (v:=.slice (some ⟨g1,0,none⟩) n c1) rfl (by kernel_rfl) (by kernel_rfl) (by kernel_rfl) (fun _ _ _ h=>h) (Or.inl ⟨by rfl,?_⟩) aB ?_
    ·intro w al;obtain⟨y0,y1⟩:=al;go_simp
    try simp only[Act.put,List.setIfInBounds_toArray,List.set_cons_zero,List.set_cons_succ,List.getElem_toArray,List.getElem_cons_zero,List.getElem_cons_succ]
    refine wpAnyH_take (i:=3) (oi:=_) (v:=.int .i64 x) rfl (by kernel_rfl) (by kernel_rfl) (by kernel_rfl) (fun _ _ _ h=>h) (Or.inl ⟨by rfl,?_⟩) aB ?_
    ·intro w al;obtain⟨y0,y1⟩:=al;go_simp
    try simp only[Act.put,List.setIfInBounds_toArray,List.set_cons_zero,List.set_cons_succ,List.getElem_toArray,List.getElem_cons_zero,List.getElem_cons_succ]
    refine wpAnyH_take (i:=4) (oi:=_) (v:=.pointer (some ⟨g1,x,none⟩)) rfl (by kernel_rfl) (by kernel_rfl) (by kernel_rfl) (fun _ _ _ h=>h) (Or.inl ⟨by rfl,?_⟩) aB ?_
    ·intro w al;obtain⟨y0,y1⟩:=al;go_simp
    try simp only[Act.put,List.setIfInBounds_toArray,List.set_cons_zero,List.set_cons_succ,List.getElem_toArray,List.getElem_cons_zero,List.getElem_cons_succ]
    refine wpAnyH_take (i:=5) (oi:=_) (v:=.string ky) rfl (by kernel_rfl) (by kernel_rfl) (by kernel_rfl) (fun _ _ _ h=>h) (Or.inl ⟨by rfl,?_⟩) aB ?_
    ·intro w al;obtain⟨y0,y1⟩:=al;go_simp
    try simp only[Act.put,List.setIfInBounds_toArray,List.set_cons_zero,List.set_cons_succ,List.getElem_toArray,List.getElem_cons_zero,List.getElem_cons_succ]
    refine wpAnyH_take (i:=8) (oi:=_) (v:=.slice (some ⟨g2,0,none⟩) n c2) rfl (by kernel_rfl) (by kernel_rfl) (by kernel_rfl) (fun _ _ _ h=>h) (Or.inl ⟨by rfl,?_⟩) aB ?_
    ·intro w al;obtain⟨y0,y1⟩:=al;go_simp
    try simp only[Act.put,List.setIfInBounds_toArray,List.set_cons_zero,List.set_cons_succ,List.getElem_toArray,List.getElem_cons_zero,List.getElem_cons_succ]
    refine wpAnyH_take (i:=9) (oi:=_) (v:=.int .i64 x) rfl (by kernel_rfl) (by kernel_rfl) (by kernel_rfl) (fun _ _ _ h=>h) (Or.inl ⟨by rfl,?_⟩) aB ?_
    ·intro w al;obtain⟨y0,y1⟩:=al;go_simp
    try simp only[Act.put,List.setIfInBounds_toArray,List.set_cons_zero,List.set_cons_succ,List.getElem_toArray,List.getElem_cons_zero,List.getElem_cons_succ]
    refine wpAnyH_take (i:=10) (oi:=_) (v:=.pointer (some ⟨g2,x,none⟩)) rfl (by kernel_rfl) (by kernel_rfl) (by kernel_rfl) (fun _ _ _ h=>h) (Or.inl ⟨by rfl,?_⟩) aB ?_
    ·intro w al;obtain⟨y0,y1⟩:=al;go_simp
    try simp only[Act.put,List.setIfInBounds_toArray,List.set_cons_zero,List.set_cons_succ,List.getElem_toArray,List.getElem_cons_zero,List.getElem_cons_succ]
    refine wpAnyH_take (i:=11) (oi:=_) (v:=.string va) rfl (by kernel_rfl) (by kernel_rfl) (by kernel_rfl) (fun _ _ _ h=>h) (Or.inl ⟨by rfl,?_⟩) aB ?_
    ·intro w al;obtain⟨y0,y1⟩:=al;go_simp
    try simp only[Act.put,List.setIfInBounds_toArray,List.set_cons_zero,List.set_cons_succ,List.getElem_toArray,List.getElem_cons_zero,List.getElem_cons_succ]
    refine wpAnyH_ready (rs:=[6]) (by kernel_rfl) (by simp) ?_;refine(AllReadyH.cons (o:=_) rfl (fun K hK=>?_) AllReadyH.nil);go_simp;refine(TX.out _ ki.out.drew).mono ?_;rintro e w5⟨rfl,ue⟩;have kV:=Lib.hid ue;clear ue;go_wp2_with fail;refine hK.out _ _ (BF.out w5 kV.out.only) (fun aB=>?_);clear hK K;try simp only[Act.put,List.setIfInBounds_toArray,List.set_cons_zero,List.set_cons_succ,List.getElem_toArray,List.getElem_cons_zero,List.getElem_cons_succ]
    refine wpAnyH_take (i:=7) (oi:=_) (v:=.string (aG ky++⟨#[58]⟩)) rfl (by kernel_rfl) (by kernel_rfl) (by kernel_rfl) (fun _ _ _ h=>h) (Or.inl ⟨by rfl,?_⟩) aB ?_
    ·intro w al;obtain⟨y0,y1⟩:=al;go_simp;omega
    try simp only[Act.put,List.setIfInBounds_toArray,List.set_cons_zero,List.set_cons_succ,List.getElem_toArray,List.getElem_cons_zero,List.getElem_cons_succ]
    refine wpAnyH_take (i:=12) (oi:=_) (v:=.string (aG ky++⟨#[58]⟩++va)) rfl (by kernel_rfl) (by kernel_rfl) (by kernel_rfl) (fun _ _ _ h=>h) (Or.inl ⟨by rfl,?_⟩) aB ?_
    ·intro w al;obtain⟨y0,y1⟩:=al;go_simp;omega
    try simp only[Act.put,List.setIfInBounds_toArray,List.set_cons_zero,List.set_cons_succ,List.getElem_toArray,List.getElem_cons_zero,List.getElem_cons_succ]
    refine wpAnyH_take (i:=13) (oi:=_) (v:=.string (u2++(aG ky++⟨#[58]⟩++va))) rfl (by kernel_rfl) (by kernel_rfl) (by kernel_rfl) (fun _ _ _ h=>h) (Or.inl ⟨by rfl,?_⟩) aB ?_
    ·intro w al;obtain⟨y0,y1⟩:=al;go_simp;omega
    try simp only[Act.put,List.setIfInBounds_toArray,List.set_cons_zero,List.set_cons_succ,List.getElem_toArray,List.getElem_cons_zero,List.getElem_cons_succ]
    refine wpAnyH_take (i:=14) (oi:=_) (v:=.string (u2++(aG ky++⟨#[58]⟩++va))) rfl (by kernel_rfl) (by kernel_rfl) (by kernel_rfl) (fun _ _ _ h=>h) (Or.inl ⟨by rfl,?_⟩) aB ?_
    ·intro w al;obtain⟨y0,y1⟩:=al;go_simp
    try simp only[Act.put,List.setIfInBounds_toArray,List.set_cons_zero,List.set_cons_succ,List.getElem_toArray,List.getElem_cons_zero,List.getElem_cons_succ]
    refine wpAnyH_done (by kernel_rfl) ?_ _;refine NoPanic.normal ?_;have R:=rF.out w5 kV.out;have br:=Lib.hid R;clear R;go_wp2;refine⟨?_,by simp[intOf];omega⟩;first|exact br.out|((repeat apply Exists.intro);exact⟨br.out,rfl⟩)
  ·have kh:j=n:=by omega
   have t1:decide ((j:Int)<(n:Int))=false:=decide_eq_false (by omega);have aT:decide (j<n)=false:=decide_eq_false hlt;have e1:(s.map eA).take j=s.map eA:=List.take_of_length_le (by rw[List.length_map,k7.out];omega);have e2:(s.map (·.1)).take j=s.map (·.1):=List.take_of_length_le (by rw[List.length_map,k7.out];omega);have e3:kP (s.map (·.1)) j=db (s.map (·.1)):=by have h1:=TH (TN cM.out);rw[List.length_map,k7.out,←kh]at h1;exact h1
   have e4:(s.map (·.1)).Perm keys:=by have h1:=pC.out.map (·.1);rw[List.map_fst_zip (by rw[HL.out];exact Nat.le_refl _)]at h1;exact h1
   rw[e1]at Fh⊢;rw[e2,e3,Ks e4,Kq e4]at hP;have HP:=Lib.hid hP;have TT:Tx (cj (keys.zip vals)) (!db keys) (dW (keys.zip vals)) (⟨#[123]⟩++J (s.map eA)++⟨#[125]⟩):=by refine⟨by rw[←E2 pC.out];exact TJ s,fun hd=>?_⟩;(have h1:db ((keys.zip vals).map (·.1))=false:=by rw[List.map_fst_zip (by rw[HL.out];exact Nat.le_refl _)];simpa using hd);exact TM pC.out cM.out h1
   have HT:=Lib.hid TT;generalize(⟨#[123]⟩++J (s.map eA):ByteArray)=u at*;clear TT e1 e2 e3 e4 hP kh U0 ix;go_wp2;go_ret;exact⟨_,rfl,HT.out,HP.out.bq,(ag.of aP.out).trans HP.out.only⟩
end Go.Proofs.YtcaiibkgajhohaaGreatDoor
