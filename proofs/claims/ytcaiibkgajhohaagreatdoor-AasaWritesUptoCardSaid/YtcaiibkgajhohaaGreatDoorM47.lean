/- waybill: lemmas and walks, printed from longer texts. -/
import Derived.Test.YtcaiibkgajhohaaGreatDoorM46
set_option maxRecDepth 100000
set_option maxHeartbeats 32000000
namespace Go.Proofs.YtcaiibkgajhohaaGreatDoor
open Go.RowKit
def LA(w W2:World)(X:Nat)(f:Fl)(l:List dr)(v k:Value)(wr:World):Prop:=∃(j:Nat)(ts:List ByteArray),k=.int .i64 j∧j≤l.length∧dX w wr X (f.add ((l.take j).any gV) ((l.take j).any jr))∧ag (fun b=>b=X) W2 wr∧wr.ownsRow W2.heap.size 9 1 v j (bo ts)∧eM fw (fun x=>!gV x&&!jr x) qO (l.take j) ts
def VT(w Wj:World)(X:Nat)(F:Fl)(v8:Value)(apps:List aS)(v k:Value)(wr:World):Prop:=∃i:Nat,k=.int .i64 i∧i≤apps.length∧Tw w Wj X F v v8 i 0 ((apps.map cw).take i) [] wr
def VU(w Wj:World)(X:Nat)(F:Fl)(v7:Value)(na:Nat)(apps:List aS)(rules:List aZ)(v k:Value)(wr:World):Prop:=∃(i:Nat)(ts:List ByteArray),k=.int .i64 i∧i≤rules.length∧Tw w Wj X (F.add ((rules.take i).any gD) ((rules.take i).any di)) v7 v na i (apps.map cw) ts wr∧eM fQ (fun x=>!gD x&&!di x) px (rules.take i) ts
theorem VV(w:World){B:Nat}(hB:B≤w.heap.size)(a b:ByteArray):(w.alloc (.cells #[.string a,.string b] 9)).ownsRow B 9 1 (.slice (some ⟨w.heap.size,0,none⟩) 2 2) 2 (bo [a,b]):=World.ownsRow_lit (e:=9) (size:=1) w #[.string a,.string b] 2 hB (by decide) rfl
theorem FC(w:World){B:Nat}(hB:B≤w.heap.size)(a:ByteArray):(w.alloc (.cells #[.string a] 9)).ownsRow B 9 1 (.slice (some ⟨w.heap.size,0,none⟩) 1 1) 1 (bo [a]):=World.ownsRow_lit (e:=9) (size:=1) w #[.string a] 1 hB (by decide) rfl
theorem Tx.of_le{n:Nat}{b:Bool}{T:ByteArray}(h:T.size≤n):Tx n b T T:=⟨h,fun _=>rfl⟩
theorem VW(l:List ByteArray):(cC (l.map aG)).size≤(l.map fun s=>aJ s+1).sum+2:=by have h1:=Kt (l.map aG);rw[List.map_map]at h1;have h2:(l.map ((fun t=>t.size+1)∘aG)).sum≤(l.map fun s=>aJ s+1).sum:=qN _ (fun s _=>by show(aG s).size+1≤_;have:=tY s;omega);omega
theorem ahP(l:List cW):cj (l.map py)≤kQ l∧(l.map (·.name)).zip (l.map fun v=>cC (v.values.map aG))=l.map py:=by
 constructor
 ·unfold cj kQ;rw[List.map_map];have h:=qN (g:=(fun p:KV=>aJ p.1+p.2.size+2)∘py) (h:=fun v:cW=>aJ v.name+(v.values.map fun t=>aJ t+1).sum+4) l (fun v _=>by show aJ v.name+(cC (v.values.map aG)).size+2≤_;have:=VW v.values;omega);omega
 ·unfold py
  induction l with
  |nil=>rfl
  |cons p l ih=>simp only[List.map_cons,List.zip_cons_cons,ih]
theorem ahQ(l:List cW)(F:Fl):(F.add (l.any jy) false).add (cH (l.map (·.name))) (db (l.map (·.name)))=F.add (om l) (mM l):=by rw[Fl.add_add,Lq,Bool.or_comm,Bool.false_or];rfl
def VY(w q_:World)(X:Nat)(F:Fl)(vars:List cW)(v7 v8 k:Value)(wr:World):Prop:=∃m:Nat,k=.int .i64 m∧m≤vars.length∧Tw w q_ X (F.add ((vars.take m).any jy) false) v7 v8 m m ((vars.map (·.name)).take m) ((vars.map fun v=>cC (v.values.map aG)).take m) wr
def VZ(w:World)(a:ie)(e:Ending)(w':World):Prop:=Below w.heap.size w w'∧e=.returned (.tuple #[.string (if(Fl.mk (gE a) (gl a)).code=0 then Fa a else⟨#[]⟩),.int .i64 (Fl.mk (gE a) (gl a)).code])
theorem ahR(w:World)(a:ie)(va vv:Value)(hA:∀X,w.heap.size≤X→qY X w va a.df)(hV:∀X,w.heap.size≤X→qZ X w vv a.vars)(hz:Ca a):Calls Tryz.prog 23 #[.agg #[va,vv]] w (VZ w a):=by
 obtain⟨aD,cD,rfl,_⟩:=hA _ (Nat.le_refl _);obtain⟨aV,cV,rfl,_⟩:=hV _ (Nat.le_refl _);obtain⟨nd,jf⟩:∃n,a.df.length=n:=⟨_,rfl⟩;obtain⟨nv,lS⟩:∃n,a.vars.length=n:=⟨_,rfl⟩;have jg:=Lib.hid jf;have eP:=Lib.hid lS;have jn:=hz.Lw;have Cb:=hz.var;rw[jf]at hA jn⊢;rw[lS]at hV Cb⊢;have HZ:=Lib.hid hz;have X1:=heap_alloc_new w (.cells #[.slice aD nd cD,.slice aV nv cV] 27);have B1:=aj (Below.refl _ w) (.cells #[.slice aD nd cD,.slice aV nv cV] 27)
 obtain⟨W1,aH⟩:∃W,w.alloc (.cells #[.slice aD nd cD,.slice aV nv cV] 27)=W:=⟨_,rfl⟩;rw[aH]at X1 B1;have X2:=heap_alloc_new W1 (.cells #[.bool false,.bool false] 110);have B2:=aj (Below.refl _ W1) (.cells #[.bool false,.bool false] 110);obtain⟨W2,dq⟩:∃W,W1.alloc (.cells #[.bool false,.bool false] 110)=W:=⟨_,rfl⟩;rw[dq]at X2 B2;obtain⟨A,kW⟩:∃A,w.heap.size=A:=⟨_,rfl⟩;obtain⟨X,hX⟩:∃X,W1.heap.size=X:=⟨_,rfl⟩;have bW:W1.heap.size=w.heap.size+1:=by rw[←aH];simp
 have bA:W2.heap.size=X+1:=by rw[←dq,←hX];simp
 have hAX:A<X:=by omega
 rw[hX]at X2;rw[kW]at X1;have Y1:=Lib.hid ((B2.block _ (ak X1)).trans X1);have sn:w.heap.size≤X:=by omega
 have pI:=aF B1 B2;obtain⟨f0,kY⟩:∃f,Fl.mk false false=f:=⟨_,rfl⟩;have zt:=Lib.hid kY;have P2:=Lib.hid (show dX w W2 X f0 from⟨pI,sn,by rw[←kY];exact X2⟩);have RD:=Lib.hid ((hA X sn).turn (ag.of pI));have RV:=Lib.hid ((hV X sn).turn (ag.of pI));have E3:=aj (Below.refl _ W2) (.cells #[] 9);have O3:=World.ownsRow_made (e:=9) (size:=1) W2 #[] 0 (Nat.le_refl _) (Nat.zero_le _) (by simp);obtain⟨W3,bY⟩:∃W,W2.alloc (.cells #[] 9)=W:=⟨_,rfl⟩;rw[bY]at E3 O3
 have R0:LA w W2 X f0 a.df (.slice (some ⟨X+1,0,none⟩) 0 0) (.int .i64 0) W3:=⟨0,[],rfl,Nat.zero_le _,by simpa[Fl.dO]using P2.out.ext E3,ag.of E3,by rw[bA]at O3⊢;simpa[bo]using O3,eM.nil⟩;have eF:=Lib.hid R0;have c0:W3.cell? ⟨A,0,none⟩=some (.slice aD nd cD):=Lib.cell_of_heap ((E3.block A (by omega)).trans Y1.out) 0
 have wh:=Lib.hid (show((w.alloc (.cells #[.slice aD nd cD,.slice aV nv cV] 27)).alloc (.cells #[.bool false,.bool false] 110)).alloc (.cells #[] 9)=W3 by rw[aH,dq,bY]);have so:=Lib.hid kW;have qC:=Lib.hid (show w.heap.size+1=X by omega);have ahG:=Lib.hid pI;have HZ2:=Lib.hid bA;clear hA hV hz jf lS X1 B1 aH X2 B2 dq kW hX bW sn pI kY bA E3 O3 bY R0;go_enter Tryz.func23,Tryz.ntmps23;go_upto_region 2 with(fail);rw[wh.out,qC.out,so.out];go_wp2_with fail;clear c0
 go_loopw[5,6](LA w W2 X f0 a.df)(fun _ i _=>nd-(intOf i).toNat);case atStart=>exact eF.out
 case' round=>
  obtain⟨j,ts,rfl,hj,hp,ho,az,dy⟩:=hrel;rw[jg.out]at hj;obtain⟨ay,cy,rfl,_⟩:=aM az;have HP:=Lib.hid hp;have HO:=Lib.hid ho;have HW:=Lib.hid az;have HT:=Lib.hid dy;have c0:wr.cell? ⟨A,0,none⟩=some (.slice aD nd cD):=Lib.cell_of_heap ((ho.block A (ak Y1.out) (by omega)).trans Y1.out) 0;clear hp ho az dy;have yb:X<W2.heap.size:=P2.out.lt;generalize Ce:wr=Wj at*;clear Ce;by_cases hlt:j<nd
  case pos=>
   have t1:decide ((j:Int)<(nd:Int))=true:=decide_eq_true (by omega);have aT:decide (j<nd)=true:=decide_eq_true hlt;have q1:IntKind.i64.wrap ((j:Int)+1)=(j:Int)+1:=IntWalk.i64_in _ (by omega);obtain⟨d,hd⟩:=bN a.df j (by rw[jg.out];exact hlt);obtain⟨b,o,ua,ur,rfl,LB,b9,d0,d1,iJ,fy⟩:=(RD.out.turn HO.out).cell j d hd;obtain⟨a1,c1,rfl,_⟩:=id iJ;obtain⟨a2,c2,rfl,_⟩:=id fy;obtain⟨na,i_⟩:∃n,d.apps.length=n:=⟨_,rfl⟩
   obtain⟨nr,ow⟩:∃n,d.rules.length=n:=⟨_,rfl⟩;have HJ:=Lib.hid hd;have nV:=List.mem_of_getElem? hd;have uv:fw d≤100000000000000:=by have h1:fw d+1≤(a.df.map fun d=>fw d+1).sum:=vX (f:=fun d=>fw d+1) nV;have h2:=HZ.out.all;unfold oq at h2;omega
   have FD:=HZ.out.lens d nV;rw[i_,ow]at FD;rw[i_]at d0 iJ;rw[ow]at d1 fy;have um:=FD.1;have Dl:=FD.2;have jR:=Lib.hid i_;have lR:=Lib.hid ow;have LD:=Lib.hid nV;have LF:=Lib.hid uv;have LH:=Lib.hid iJ;have B0:=Lib.hid fy;have hbZ:=ak Y1.out;have ahT:=HO.out.size
   have CC:=Lib.hid (fun W(hW:ag (fun b=>b=X) Wj W)=>And.intro (show W.cell? ⟨A,0,none⟩=some (.slice (some ⟨b,o,none⟩) nd cD)from by unfold World.cell?;rw[hW.block A (by omega) (by omega)];exact c0) (And.intro (show W.cell? ⟨b,o+j*2,none⟩=some (.slice a1 na c1)from by unfold World.cell?;rw[hW.block b b9 LB];exact d0) (show W.cell? ⟨b,o+j*2+1,none⟩=some (.slice a2 nr c2)from by unfold World.cell?;rw[hW.block b b9 LB];exact d1)))
   obtain⟨FJ,LI⟩:∃F,f0.add ((a.df.take j).any gV) ((a.df.take j).any jr)=F:=⟨_,rfl⟩;rw[LI]at HP;have HFJ:=Lib.hid LI;clear LI;have T0:=Lib.hid (Fs HP.out);have zC:=(CC.out _ T0.out.only).1;have hc6:=(CC.out _ T0.out.only).2.1;clear hd nV uv FD i_ ow iJ fy d0 d1 LB b9 ahT hbZ;go_wp2_with fail;clear zC hc6 c0;go_loopw[7,9](VT w Wj X FJ (.slice (some ⟨Wj.heap.size+1,0,none⟩) 0 0) d.apps)(fun _ i _=>na-(intOf i).toNat);case atStart=>exact⟨0,rfl,Nat.zero_le _,by simpa using T0.out⟩
   case' round=>
    obtain⟨i,rfl,hi,hT⟩:=hrel;rw[jR.out]at hi;obtain⟨a7,c7,rfl,_⟩:=aM hT.dj;have T1:=Lib.hid hT;have c0:=(CC.out _ hT.only).1;have d0:=(CC.out _ hT.only).2.1;clear hT;by_cases bP:i<na
    case pos=>
     have t2:decide ((i:Int)<(na:Int))=true:=decide_eq_true (by omega);have dM:decide (i<na)=true:=decide_eq_true bP;have q2:IntKind.i64.wrap ((i:Int)+1)=(i:Int)+1:=IntWalk.i64_in _ (by omega);obtain⟨ap,FE⟩:=bN d.apps i (by rw[jR.out];exact bP);obtain⟨b2,o2,rfl,_,_,e0,e1⟩:=(LH.out.turn T1.out.only).cell i ap FE;have LJ:=Lib.hid FE;have hsz:=HZ.out.apps d LD.out ap (List.mem_of_getElem? FE)
     have AL:ap.bZ.size+1+ap.b7.size≤1048576:=by unfold cw at hsz;rw[ByteArray.size_append,ByteArray.size_append]at hsz;exact hsz
     have Cd:=Lib.hid (And.intro c0 (And.intro d0 (And.intro e0 e1)));clear FE hsz;go_wp2_with fail;refine wp_region_noPanic ?_;refine wp_region_held_drew (S:=fun W=>W.cell? ⟨A,0,none⟩=some (.slice (some ⟨b,o,none⟩) nd cD)∧W.cell? ⟨b,o+j*2,none⟩=some (.slice (some ⟨b2,o2,none⟩) na c1)∧W.cell? ⟨b2,o2+i*2,none⟩=some (.string ap.bZ)∧W.cell? ⟨b2,o2+i*2+1,none⟩=some (.string ap.b7)) (by kernel_rfl) Cd.out (fun aB=>?_)
     refine wpAnyH_take (i:=0) (oi:=_) (v:=.slice a7 i c7) rfl (by kernel_rfl) (by kernel_rfl) (by kernel_rfl) (fun _ _ _ h=>h) (Or.inl ⟨by rfl,?_⟩) aB ?_
     ·intro w al;obtain⟨y0,y1,y2,y3⟩:=al;go_simp
     try simp only[Act.put,List.setIfInBounds_toArray,List.set_cons_zero,List.set_cons_succ,List.getElem_toArray,List.getElem_cons_zero]
     refine wpAnyH_take (i:=1) (oi:=_) (v:=.pointer (some ⟨A,0,none⟩)) rfl (by kernel_rfl) (by kernel_rfl) (by kernel_rfl) (fun _ _ _ h=>h) (Or.inl ⟨by rfl,?_⟩) aB ?_
     ·intro w al;obtain⟨y0,y1,y2,y3⟩:=al;go_simp
     try simp only[Act.put,List.setIfInBounds_toArray,List.set_cons_zero,List.set_cons_succ,List.getElem_toArray,List.getElem_cons_zero,List.getElem_cons_succ]
     refine wpAnyH_take (i:=2) (oi:=_) (v:=.slice (some ⟨b,o,none⟩) nd cD) rfl (by kernel_rfl) (by kernel_rfl) (by kernel_rfl) (fun _ _ _ h=>h) (Or.inl ⟨by rfl,?_⟩) aB ?_
     ·intro w al;obtain⟨y0,y1,y2,y3⟩:=al;go_simp
     try simp only[Act.put,List.setIfInBounds_toArray,List.set_cons_zero,List.set_cons_succ,List.getElem_toArray,List.getElem_cons_zero,List.getElem_cons_succ]
     refine wpAnyH_take (i:=3) (oi:=_) (v:=.int .i64 j) rfl (by kernel_rfl) (by kernel_rfl) (by kernel_rfl) (fun _ _ _ h=>h) (Or.inl ⟨by rfl,?_⟩) aB ?_
     ·intro w al;obtain⟨y0,y1,y2,y3⟩:=al;go_simp
     try simp only[Act.put,List.setIfInBounds_toArray,List.set_cons_zero,List.set_cons_succ,List.getElem_toArray,List.getElem_cons_zero,List.getElem_cons_succ]
     refine wpAnyH_take (i:=4) (oi:=_) (v:=.pointer (some ⟨b,o+j*2,none⟩)) rfl (by kernel_rfl) (by kernel_rfl) (by kernel_rfl) (fun _ _ _ h=>h) (Or.inl ⟨by rfl,?_⟩) aB ?_
     ·intro w al;obtain⟨y0,y1,y2,y3⟩:=al;go_simp
     try simp only[Act.put,List.setIfInBounds_toArray,List.set_cons_zero,List.set_cons_succ,List.getElem_toArray,List.getElem_cons_zero,List.getElem_cons_succ]
     refine wpAnyH_take (i:=5) (oi:=_) (v:=.pointer (some ⟨b,o+j*2,none⟩)) rfl (by kernel_rfl) (by kernel_rfl) (by kernel_rfl) (fun _ _ _ h=>h) (Or.inl ⟨by rfl,?_⟩) aB ?_
     ·intro w al;obtain⟨y0,y1,y2,y3⟩:=al;go_simp
     try simp only[Act.put,List.setIfInBounds_toArray,List.set_cons_zero,List.set_cons_succ,List.getElem_toArray,List.getElem_cons_zero,List.getElem_cons_succ]
     refine wpAnyH_take (i:=6) (oi:=_) (v:=.slice (some ⟨b2,o2,none⟩) na c1) rfl (by kernel_rfl) (by kernel_rfl) (by kernel_rfl) (fun _ _ _ h=>h) (Or.inl ⟨by rfl,?_⟩) aB ?_
     ·intro w al;obtain⟨y0,y1,y2,y3⟩:=al;go_simp
     try simp only[Act.put,List.setIfInBounds_toArray,List.set_cons_zero,List.set_cons_succ,List.getElem_toArray,List.getElem_cons_zero,List.getElem_cons_succ]
     refine wpAnyH_take (i:=7) (oi:=_) (v:=.int .i64 i) rfl (by kernel_rfl) (by kernel_rfl) (by kernel_rfl) (fun _ _ _ h=>h) (Or.inl ⟨by rfl,?_⟩) aB ?_
     ·intro w al;obtain⟨y0,y1,y2,y3⟩:=al;go_simp
     try simp only[Act.put,List.setIfInBounds_toArray,List.set_cons_zero,List.set_cons_succ,List.getElem_toArray,List.getElem_cons_zero,List.getElem_cons_succ]
     refine wpAnyH_take (i:=8) (oi:=_) (v:=.pointer (some ⟨b2,o2+i*2,none⟩)) rfl (by kernel_rfl) (by kernel_rfl) (by kernel_rfl) (fun _ _ _ h=>h) (Or.inl ⟨by rfl,?_⟩) aB ?_
     ·intro w al;obtain⟨y0,y1,y2,y3⟩:=al;go_simp
     try simp only[Act.put,List.setIfInBounds_toArray,List.set_cons_zero,List.set_cons_succ,List.getElem_toArray,List.getElem_cons_zero,List.getElem_cons_succ]
     refine wpAnyH_take (i:=9) (oi:=_) (v:=.pointer (some ⟨b2,o2+i*2,none⟩)) rfl (by kernel_rfl) (by kernel_rfl) (by kernel_rfl) (fun _ _ _ h=>h) (Or.inl ⟨by rfl,?_⟩) aB ?_
     ·intro w al;obtain⟨y0,y1,y2,y3⟩:=al;go_simp
     try simp only[Act.put,List.setIfInBounds_toArray,List.set_cons_zero,List.set_cons_succ,List.getElem_toArray,List.getElem_cons_zero,List.getElem_cons_succ]
     refine wpAnyH_take (i:=10) (oi:=_) (v:=.string ap.bZ) rfl (by kernel_rfl) (by kernel_rfl) (by kernel_rfl) (fun _ _ _ h=>h) (Or.inl ⟨by rfl,?_⟩) aB ?_
     ·intro w al;obtain⟨y0,y1,y2,y3⟩:=al;go_simp
     try simp only[Act.put,List.setIfInBounds_toArray,List.set_cons_zero,List.set_cons_succ,List.getElem_toArray,List.getElem_cons_zero,List.getElem_cons_succ]
     refine wpAnyH_take (i:=11) (oi:=_) (v:=.string (ap.bZ++⟨#[46]⟩)) rfl (by kernel_rfl) (by kernel_rfl) (by kernel_rfl) (fun _ _ _ h=>h) (Or.inl ⟨by rfl,?_⟩) aB ?_
     ·intro w al;obtain⟨y0,y1,y2,y3⟩:=al;go_simp;omega
     try simp only[Act.put,List.setIfInBounds_toArray,List.set_cons_zero,List.set_cons_succ,List.getElem_toArray,List.getElem_cons_zero,List.getElem_cons_succ]
     refine wpAnyH_take (i:=12) (oi:=_) (v:=.pointer (some ⟨A,0,none⟩)) rfl (by kernel_rfl) (by kernel_rfl) (by kernel_rfl) (fun _ _ _ h=>h) (Or.inl ⟨by rfl,?_⟩) aB ?_
     ·intro w al;obtain⟨y0,y1,y2,y3⟩:=al;go_simp
     try simp only[Act.put,List.setIfInBounds_toArray,List.set_cons_zero,List.set_cons_succ,List.getElem_toArray,List.getElem_cons_zero,List.getElem_cons_succ]
     refine wpAnyH_take (i:=13) (oi:=_) (v:=.slice (some ⟨b,o,none⟩) nd cD) rfl (by kernel_rfl) (by kernel_rfl) (by kernel_rfl) (fun _ _ _ h=>h) (Or.inl ⟨by rfl,?_⟩) aB ?_
     ·intro w al;obtain⟨y0,y1,y2,y3⟩:=al;go_simp
     try simp only[Act.put,List.setIfInBounds_toArray,List.set_cons_zero,List.set_cons_succ,List.getElem_toArray,List.getElem_cons_zero,List.getElem_cons_succ]
     refine wpAnyH_take (i:=14) (oi:=_) (v:=.int .i64 j) rfl (by kernel_rfl) (by kernel_rfl) (by kernel_rfl) (fun _ _ _ h=>h) (Or.inl ⟨by rfl,?_⟩) aB ?_
     ·intro w al;obtain⟨y0,y1,y2,y3⟩:=al;go_simp
     try simp only[Act.put,List.setIfInBounds_toArray,List.set_cons_zero,List.set_cons_succ,List.getElem_toArray,List.getElem_cons_zero,List.getElem_cons_succ]
     refine wpAnyH_take (i:=15) (oi:=_) (v:=.pointer (some ⟨b,o+j*2,none⟩)) rfl (by kernel_rfl) (by kernel_rfl) (by kernel_rfl) (fun _ _ _ h=>h) (Or.inl ⟨by rfl,?_⟩) aB ?_
     ·intro w al;obtain⟨y0,y1,y2,y3⟩:=al;go_simp
     try simp only[Act.put,List.setIfInBounds_toArray,List.set_cons_zero,List.set_cons_succ,List.getElem_toArray,List.getElem_cons_zero,List.getElem_cons_succ]
     refine wpAnyH_take (i:=16) (oi:=_) (v:=.pointer (some ⟨b,o+j*2,none⟩)) rfl (by kernel_rfl) (by kernel_rfl) (by kernel_rfl) (fun _ _ _ h=>h) (Or.inl ⟨by rfl,?_⟩) aB ?_
     ·intro w al;obtain⟨y0,y1,y2,y3⟩:=al;go_simp
     try simp only[Act.put,List.setIfInBounds_toArray,List.set_cons_zero,List.set_cons_succ,List.getElem_toArray,List.getElem_cons_zero,List.getElem_cons_succ]
     refine wpAnyH_take (i:=17) (oi:=_) (v:=.slice (some ⟨b2,o2,none⟩) na c1) rfl (by kernel_rfl) (by kernel_rfl) (by kernel_rfl) (fun _ _ _ h=>h) (Or.inl ⟨by rfl,?_⟩) aB ?_
     ·intro w al;obtain⟨y0,y1,y2,y3⟩:=al;go_simp
     try simp only[Act.put,List.setIfInBounds_toArray,List.set_cons_zero,List.set_cons_succ,List.getElem_toArray,List.getElem_cons_zero,List.getElem_cons_succ]
     refine wpAnyH_take (i:=18) (oi:=_) (v:=.int .i64 i) rfl (by kernel_rfl) (by kernel_rfl) (by kernel_rfl) (fun _ _ _ h=>h) (Or.inl ⟨by rfl,?_⟩) aB ?_
     ·intro w al;obtain⟨y0,y1,y2,y3⟩:=al;go_simp
     try simp only[Act.put,List.setIfInBounds_toArray,List.set_cons_zero,List.set_cons_succ,List.getElem_toArray,List.getElem_cons_zero,List.getElem_cons_succ]
     refine wpAnyH_take (i:=19) (oi:=_) (v:=.pointer (some ⟨b2,o2+i*2,none⟩)) rfl (by kernel_rfl) (by kernel_rfl) (by kernel_rfl) (fun _ _ _ h=>h) (Or.inl ⟨by rfl,?_⟩) aB ?_
     ·intro w al;obtain⟨y0,y1,y2,y3⟩:=al;go_simp
     try simp only[Act.put,List.setIfInBounds_toArray,List.set_cons_zero,List.set_cons_succ,List.getElem_toArray,List.getElem_cons_zero,List.getElem_cons_succ]
     refine wpAnyH_take (i:=20) (oi:=_) (v:=.pointer (some ⟨b2,o2+i*2+1,none⟩)) rfl (by kernel_rfl) (by kernel_rfl) (by kernel_rfl) (fun _ _ _ h=>h) (Or.inl ⟨by rfl,?_⟩) aB ?_
     ·intro w al;obtain⟨y0,y1,y2,y3⟩:=al;go_simp
     try simp only[Act.put,List.setIfInBounds_toArray,List.set_cons_zero,List.set_cons_succ,List.getElem_toArray,List.getElem_cons_zero,List.getElem_cons_succ]
     refine wpAnyH_take (i:=21) (oi:=_) (v:=.string ap.b7) rfl (by kernel_rfl) (by kernel_rfl) (by kernel_rfl) (fun _ _ _ h=>h) (Or.inl ⟨by rfl,?_⟩) aB ?_
     ·intro w al;obtain⟨y0,y1,y2,y3⟩:=al;go_simp
     try simp only[Act.put,List.setIfInBounds_toArray,List.set_cons_zero,List.set_cons_succ,List.getElem_toArray,List.getElem_cons_zero,List.getElem_cons_succ]
     refine wpAnyH_take (i:=22) (oi:=_) (v:=.string (ap.bZ++⟨#[46]⟩++ap.b7)) rfl (by kernel_rfl) (by kernel_rfl) (by kernel_rfl) (fun _ _ _ h=>h) (Or.inl ⟨by rfl,?_⟩) aB ?_
     ·intro w al;obtain⟨y0,y1,y2,y3⟩:=al;go_simp;omega
     try simp only[Act.put,List.setIfInBounds_toArray,List.set_cons_zero,List.set_cons_succ,List.getElem_toArray,List.getElem_cons_zero,List.getElem_cons_succ]
     refine wpAnyH_ready (rs:=[23]) (by kernel_rfl) (by simp) ?_;refine AllReadyH.cons (o:=_) rfl (fun K hK=>?_) AllReadyH.nil;go_simp;have T3:=Lib.hid (T1.out.ext (Below.refl _ wr).drew);have LK:=CC.out _ (T3.out.only.trans (ag.of (aj (Below.refl _ wr.drew) (.cells #[.string (ap.bZ++⟨#[46]⟩++ap.b7)] 9))));have hA3:=(LH.out.turn (T3.out.only.trans (ag.of (aj (Below.refl _ wr.drew) (.cells #[.string (ap.bZ++⟨#[46]⟩++ap.b7)] 9))))).cell i ap LJ.out;obtain⟨b3,o3,h3,_,_,g0,g1⟩:=hA3
     cases h3;refine hK.out _ _ ⟨LK.1,LK.2.1,g0,g1⟩ (fun aB=>?_);clear hK K LK g0 g1;try simp only[Act.put,List.setIfInBounds_toArray,List.set_cons_zero,List.set_cons_succ,List.getElem_toArray,List.getElem_cons_zero,List.getElem_cons_succ]
     obtain⟨i0,dw,bT,bW,bA⟩:=info_parts eK.hi;refine wpAnyH_ready (rs:=[24]) (by kernel_rfl) (by simp) ?_;refine AllReadyH.cons (o:=_) rfl (fun K hK=>?_) AllReadyH.nil
     refine step_append_lies _ (by rfl) _ _ _ (by rfl) Wj.heap.size 9 i0 _ 1 16 Tryz.underlying96 dw bT bW bA rfl (by omega) (.slice a7 i c7) i _ (by rfl) (T3.out.dj.alloc _) ⟨wr.drew.heap.size,0,none⟩ 1 1 [.string (ap.bZ++⟨#[46]⟩++ap.b7)] (by rfl) (by rfl) (World.news_of_block (cs:=#[.string (ap.bZ++⟨#[46]⟩++ap.b7)]) (t:=9) (fr:=(0,0)) (heap_alloc_new wr.drew _)) (by simp[Value.oneCell']) (by omega) (by unfold maxLen;omega) (by omega) (by have h1:=T3.out.only.size;have h2:wr.drew.heap.size=wr.heap.size:=rfl;simp;omega) (wr.drew.heap.size+1) (by simp) ?_
     intro g' cap' w6 lq cZ cf we;have T4:=T3.out.name (v2:=.slice (some ⟨g',0,none⟩) (i+1) cap') (ap.bZ++⟨#[46]⟩++ap.b7) lq cZ (cf.elim (fun h=>.inl h) (fun h=>.inr (by rw[h];rfl))) HP.out.below.size;have LL:=CC.out _ T4.only;obtain⟨b4,o4,h4,_,_,g0,g1⟩:=(LH.out.turn T4.only).cell i ap LJ.out;cases h4
     have R:VT w Wj X FJ (.slice (some ⟨Wj.heap.size+1,0,none⟩) 0 0) d.apps (.slice (some ⟨g',0,none⟩) (i+1) cap') (.int .i64 ((i:Int)+1)) w6:=by refine⟨i+1,by go_num,by rw[jR.out];exact bP,?_⟩;(have e:(d.apps.map cw).take (i+1)=(d.apps.map cw).take i++[ap.bZ++⟨#[46]⟩++ap.b7]:=by rw[List.take_add_one,List.getElem?_map,LJ.out];rfl);rw[e];exact T4
     have br:=Lib.hid R;refine hK.out _ _ ⟨LL.1,LL.2.1,g0,g1⟩ (fun aB=>?_);clear hK K R T4 LL g0 g1 lq cZ cf we;try simp only[Act.put,List.setIfInBounds_toArray,List.set_cons_zero,List.set_cons_succ,List.getElem_toArray,List.getElem_cons_zero,List.getElem_cons_succ]
     refine wpAnyH_take (i:=25) (oi:=_) (v:=.slice (some ⟨g',0,none⟩) (i+1) cap') rfl (by kernel_rfl) (by kernel_rfl) (by kernel_rfl) (fun _ _ _ h=>h) (Or.inl ⟨by rfl,?_⟩) aB ?_
     ·intro w al;obtain⟨y0,y1,y2,y3⟩:=al;go_simp
     try simp only[Act.put,List.setIfInBounds_toArray,List.set_cons_zero,List.set_cons_succ,List.getElem_toArray,List.getElem_cons_zero,List.getElem_cons_succ]
     refine wpAnyH_done (by kernel_rfl) ?_ _;refine NoPanic.normal ?_;go_wp2;refine⟨?_,by simp[intOf];omega⟩;first|exact br.out|((repeat apply Exists.intro);exact⟨br.out,rfl⟩)
    case' neg=>
     have t2:decide ((i:Int)<(na:Int))=false:=decide_eq_false (by omega);have dM:decide (i<na)=false:=decide_eq_false bP;have T2:=Lib.hid (show Tw w Wj X FJ (.slice a7 i c7) (.slice (some ⟨Wj.heap.size+1,0,none⟩) 0 0) i 0 (d.apps.map cw) [] wr from by have h:=T1.out;rw[kg (l:=d.apps.map cw) (by rw[List.length_map,jR.out];exact hi) (by rw[List.length_map,jR.out];exact bP)]at h;exact h);have H_:i=na:=by omega
     subst H_;have d1:=(CC.out _ T2.out.only).2.2;clear T1 bP hi;go_wp2_with fail;clear c0 d0 d1;generalize LM:wr=Wk at*;clear LM;go_loopw[8,10](VU w Wj X FJ (.slice a7 i c7) i d.apps d.rules)(fun _ k _=>nr-(intOf k).toNat);case atStart=>exact⟨0,[],rfl,Nat.zero_le _,by simpa[Fl.dO]using T2.out,eM.nil⟩
     case' round=>
      obtain⟨m,ym,rfl,hm,hT,dy⟩:=hrel;rw[lR.out]at hm;obtain⟨a8,c8,rfl,_⟩:=aM hT.dD;have T3:=Lib.hid hT;have jJ:=Lib.hid dy;have c0:=(CC.out _ hT.only).1;have d1:=(CC.out _ hT.only).2.2;clear hT dy;by_cases Cf:m<nr
      case pos=>
       have t3:decide ((m:Int)<(nr:Int))=true:=decide_eq_true (by omega);have gS:decide (m<nr)=true:=decide_eq_true Cf;have q3:IntKind.i64.wrap ((m:Int)+1)=(m:Int)+1:=IntWalk.i64_in _ (by omega);obtain⟨x,hx⟩:=bN d.rules m (by rw[lR.out];exact Cf);obtain⟨b2,o2,vI,rfl,_,_,hcs,qX⟩:=(B0.out.turn T3.out.only).cell m x hx;obtain⟨aI,cI,rfl,_⟩:=id qX;have f0:wr.cell? ⟨b2,o2+m*10,none⟩=some (.string x.path):=hcs 0 (by decide)
       have f1:wr.cell? ⟨b2,o2+m*10+1,none⟩=some (.string x.query):=hcs 1 (by decide);have f2:wr.cell? ⟨b2,o2+m*10+2,none⟩=some (.string x.bw):=hcs 2 (by decide);have f3:wr.cell? ⟨b2,o2+m*10+3,none⟩=some (.bool x.bz):=hcs 3 (by decide);have f4:wr.cell? ⟨b2,o2+m*10+4,none⟩=some (.bool x.cS):=hcs 4 (by decide);have f5:wr.cell? ⟨b2,o2+m*10+5,none⟩=some (.bool x.bM):=hcs 5 (by decide)
       have f6:wr.cell? ⟨b2,o2+m*10+6,none⟩=some (.slice aI x.items.length cI):=hcs 6 (by decide);have f7:wr.cell? ⟨b2,o2+m*10+7,none⟩=some (.bool x.cU):=hcs 7 (by decide);have f8:wr.cell? ⟨b2,o2+m*10+8,none⟩=some (.bool x.fold):=hcs 8 (by decide);have f9:wr.cell? ⟨b2,o2+m*10+9,none⟩=some (.bool x.dG):=hcs 9 (by decide);have LP:=Lib.hid hx;have wu:=List.mem_of_getElem? hx;have fy:=HZ.out.rules d LD.out x wu
       have B8:fQ x≤100000000000000:=by have h1:fQ x+1≤(d.rules.map fun x=>fQ x+1).sum:=vX (f:=fun x=>fQ x+1) wu;have h2:=LF.out;unfold fw at h2;omega
       have RU:=ahb w wr X _ x (.slice aI x.items.length cI) T3.out.bq qX fy.1 fy.2.1 B8 fy.2.2;unfold an at RU;simp only[aX]at RU;have RU:=Lib.hid RU;clear hx hcs qX wu fy B8;go_wp2_with fail;refine RU.out.mono ?_;intro e w5 sg;obtain⟨T,rfl,sj,uo,uq⟩:=sg;have SA:=Lib.hid (T3.out.call uo uq);have pA:=Lib.hid sj;clear sj uo uq f0 f1 f2 f3 f4 f5 f6 f7 f8 f9 c0 d1;go_wp2_with(at_builtin;refine ga _ #[.string T] 9 rfl _ _ 96 rfl Wj.heap.size eK _ _ _ rfl SA.out.dD rfl rfl ?c1 ?c2 ?c3 ?c4 ?_)
       case c1=>first|rfl|(intro u hu;simp at hu;subst hu;rfl)
       case c2=>unfold maxLen;omega
       case c3=>omega
       case c4=>exact SA.out.only.size
       intro v2 w2 aE aL bI;have hS:=SA.out.val T aE aL bI HP.out.below.size;obtain⟨a9,c9,rfl,_⟩:=aM aE;have SC:=Lib.hid hS;clear hS aE aL bI;have R:VU w Wj X FJ (.slice a7 i c7) i d.apps d.rules (.slice a9 (m+1) c9) (.int .i64 ((m:Int)+1)) w2:=by refine⟨m+1,ym++[T],by go_num,by rw[lR.out];exact Cf,?_,jJ.out.snoc LP.out pA.out⟩;have h1:=SC.out;rw[Fl.add_add]at h1;rw[kf _ _ LP.out,kf _ _ LP.out];exact h1
       have br:=Lib.hid R;clear R;go_wp2;refine⟨?_,by simp[intOf];omega⟩;first|exact br.out|((repeat apply Exists.intro);exact⟨br.out,rfl⟩)
      case' neg=>
       have t3:decide ((m:Int)<(nr:Int))=false:=decide_eq_false (by omega);have gS:decide (m<nr)=false:=decide_eq_false Cf;have hE:d.rules.take m=d.rules:=kg (by rw[lR.out];exact hm) (by rw[lR.out];exact Cf);have oy:=T3.out;have Ei:=jJ.out;rw[hE]at oy Ei;have T4:=Lib.hid oy;have TL:=Lib.hid Ei.list;have hlen:ym.length=m:=oy.uk;have LQ:(d.apps.map cw).length=i:=oy.qW;have E8:=aj (Below.refl _ wr) (.cells #[.string iC,.string iR] 9)
       obtain⟨W8,kM⟩:∃W,wr.alloc (.cells #[.string iC,.string iR] 9)=W:=⟨_,rfl⟩;have LS:=VV (B:=X+1) wr (show X+1≤wr.heap.size from oy.bq.lt) iC iR;rw[kM]at E8 LS;have T8:=oy.ext E8;have FG:X<Wj.heap.size:=oy.x;have uv:=LF.out;unfold fw at uv
       have TS:=UC w W8 X _ (.slice a7 i c7) (d.apps.map cw) T8.bq (by have h:=Vt (l:=d.apps.map cw) (X:=X) (B:=Wj.heap.size) (w:=W8) (v:=.slice a7 i c7) (by rw[LQ];exact T8.dj) FG;exact h) (fun s hs=>by obtain⟨y,h1,rfl⟩:=List.mem_map.1 hs;exact HZ.out.apps d LD.out y h1) (by rw[List.map_map];have e:((d.apps.map ((fun s=>aJ s+1)∘cw)).sum)=(d.apps.map fun a=>aJ (cw a)+1).sum:=rfl;rw[e];omega) (by rw[LQ];exact um);unfold an at TS
       obtain⟨T1,kB⟩:∃T,cC ((d.apps.map cw).map aG)=T:=⟨_,rfl⟩;have H1:=Lib.hid (show Tx (((d.apps.map cw).map fun s=>aJ s+1).sum+2) (!((d.apps.map cw).any fun s=>!aN s)) (cC ((d.apps.map cw).map aG)) T1 by rw[←kB];exact Tx.of_le (VW _));rw[kB]at TS
       have AR:=Lib.hid (fun W(hW:Tw w Wj X ((FJ.add (d.rules.any gD) (d.rules.any di)).add ((d.apps.map cw).any fun s=>!aN s) false) (.slice a7 i c7) (.slice a8 m c8) i m (d.apps.map cw) ym W)=>(show Calls Tryz.prog 47 #[.slice a8 m c8] W fun e w'=>e=.returned (.string (cC ym))∧W=w' from KO W (.slice a8 m c8) ym (Fc (base:=Wj.heap.size) (by rw[hlen];exact hW.dD)) (by rw[hlen];omega) (Nat.le_trans TL.out.size (by omega))));have TS:=Lib.hid TS;have T8:=Lib.hid T8;have LU:=Lib.hid LS
       have HE8:=Lib.hid E8;have HW8:=Lib.hid (show wr.alloc (.cells #[.string ⟨#[97,112,112,73,68,115]⟩,.string ⟨#[99,111,109,112,111,110,101,110,116,115]⟩] 9)=W8 from kM);have HXW:=Lib.hid (show X<wr.heap.size from oy.bq.lt);clear hE oy Ei kM LS E8 uv hlen LQ kB;go_wp2_with fail;rw[HW8.out];refine TS.out.mono ?_;rintro e w9⟨rfl,V0,LV⟩;have T9:=Lib.hid (T8.out.call V0 LV);have pw:=Lib.hid LV;clear V0 LV;go_wp2_with fail;refine(AR.out w9 T9.out).mono ?_;rintro e Lx⟨rfl,rfl⟩
       have DF:=Lib.hid (Vv d H1.out TL.out);obtain⟨FH,B_⟩:∃T,cC ym=T:=⟨_,rfl⟩;rw[B_]at DF⊢;have Cg:=aj (Below.refl _ w9) (.cells #[.string T1,.string FH] 9);have h2:=VV (B:=X+1) w9 (show X+1≤w9.heap.size from T9.out.bq.lt) T1 FH;obtain⟨V1,LW⟩:∃W,w9.alloc (.cells #[.string T1,.string FH] 9)=W:=⟨_,rfl⟩;rw[LW]at Cg h2;have V2:=pw.out.trans (ag.of (T:=fun b=>b=X) Cg)
       have h1:V1.ownsRow (X+1) 9 1 (.slice (some ⟨wr.heap.size,0,none⟩) 2 2) 2 (bo [iC,iR]):=bu LU.out (fun g hg=>V2.block g (LU.out.lt g hg).2 (fun e=>by have:=(LU.out.lt g hg).1;omega)) (Nat.le_refl _)
       have OB:=yd w V1 X _ (.slice (some ⟨wr.heap.size,0,none⟩) 2 2) (.slice (some ⟨w9.heap.size,0,none⟩) 2 2) [iC,iR] [T1,FH] (T9.out.bq.ext Cg) h1 h2 rfl (fun p hp=>by
        simp only[List.mem_cons,List.not_mem_nil,or_false]at hp;rcases hp with rfl|rfl
        ·exact(by decide:iC.size≤1048576)
        ·exact(by decide:iR.size≤1048576)) (Nat.le_trans DF.out.size LF.out) (by decide)
       have e1:cH [iC,iR]=false:=DF.out.bad;rw[e1,Vu,Fl.dO]at OB;unfold an at OB;have OB:=Lib.hid OB;have ahZ:=Lib.hid (((T3.out.only.trans (ag.of HE8.out)).trans pw.out).trans (ag.of (T:=fun b=>b=X) Cg));have ah0:=Lib.hid LW;clear B_ Cg h2 LW V2 h1 e1 H1 c0 d1;go_wp2_with fail;rw[ah0.out];refine OB.out.mono ?_;rintro e wB⟨T,rfl,hT,hP,hO⟩
       have pA:=Lib.hid (show Tx (fw d) (!gV d&&!jr d) (qO d) T from⟨Nat.le_trans hT.size DF.out.size,fun ho=>by rw[hT.eq rfl];rw[Bool.and_eq_true]at ho;exact DF.out.eq (by simpa using ho.1) (by simpa using ho.2)⟩)
       have vC:=Lib.hid (show dX w wB X (FJ.add (gV d) (jr d))by(have e1:(FJ.add (d.rules.any gD) (d.rules.any di)).add ((d.apps.map cw).any fun s=>!aN s) false=FJ.add (gV d) (jr d):=by rw[Fl.add_add,Bool.or_false];(have e1:(d.rules.any gD||(d.apps.map cw).any fun s=>!aN s)=gV d:=by unfold gV;rw[Bool.or_comm,List.any_map];rfl);rw[e1];rfl);rw[←e1];exact hP);have mF:=Lib.hid (ahZ.out.trans hO)
       have iK:=Lib.hid (show wB.ownsRow W2.heap.size 9 1 (.slice ay j cy) j (bo ts)from bu HW.out (fun g hg=>mF.out.block g (HW.out.lt g hg).2 (fun e=>by have:=(HW.out.lt g hg).1;omega)) (Nat.le_refl _));clear hT hP hO;go_wp2_with(at_builtin;refine iY wB #[.string T] 9 rfl _ _ 96 rfl W2.heap.size eK _ _ _ rfl iK.out rfl rfl ?c1 ?c2 ?c3 ?c4 ?_);case c1=>first|rfl|(intro u hu;simp at hu;subst hu;rfl)
       case c2=>unfold maxLen;omega
       case c3=>omega
       case c4=>exact Nat.le_trans HO.out.size mF.out.size
       intro v2 w6 dz jQ;have uu:ag (fun b=>b=X) W2 w6:=(((HO.out.trans mF.out).alloc _).grown jQ (fun k hk bP=>by have:=(iK.out.lt k hk).1;omega))
       have pH:=(vC.out.ext (aj (Below.refl _ wB) (.cells #[.string T] 9))).turn (T:=fun b=>Value.ownBlock (.slice ay j cy)=some b) ((ag.refl (fun b=>Value.ownBlock (.slice ay j cy)=some b) (wB.alloc (.cells #[.string T] 9))).grown jQ (fun k hk _=>hk)) (fun k hk=>by have h1:=(iK.out.lt k hk).1;have h2:=P2.out.below.size;exact⟨by omega,by omega⟩)
       have R:LA w W2 X f0 a.df v2 (.int .i64 ((j:Int)+1)) w6:=by
        refine⟨j+1,ts++[T],by go_num,by rw[jg.out];exact hlt,?_,uu,?_,HT.out.snoc HJ.out pA.out⟩
        ·rw[kf _ _ HJ.out,kf _ _ HJ.out];rw[←HFJ.out,Fl.add_add]at pH;exact pH
        ·have e2:bo (ts++[T])=bo ts++(#[Value.string T]:Array Value).toList:=by simp[bo]
         rw[e2];exact dz
       obtain⟨a9,c9,rfl,_⟩:=aM dz;have br:=Lib.hid R;clear R dz jQ uu pH;go_wp2;refine⟨?_,by simp[intOf];omega⟩;first|exact br.out|((repeat apply Exists.intro);exact⟨br.out,rfl⟩)
  case' neg=>
   have t1:decide ((j:Int)<(nd:Int))=false:=decide_eq_false (by omega);have aT:decide (j<nd)=false:=decide_eq_false hlt;have hE:a.df.take j=a.df:=kg (by rw[jg.out];exact hj) (by rw[jg.out];exact hlt);have hT:=HT.out;have hP:=HP.out;rw[hE]at hT hP;have hlen:ts.length=j:=by rw[hT.len,jg.out];omega
   have TL:=Lib.hid hT.list;have lh:=HZ.out.all;unfold oq at lh;obtain⟨Fd,LX⟩:∃F,f0.add (a.df.any gV) (a.df.any jr)=F:=⟨_,rfl⟩;rw[LX]at hP;have HFd:=Lib.hid LX;have yn:=aj (Below.refl _ Wj) (.cells #[.string eJ] 9);have FI:=FC (B:=Wj.heap.size) Wj (Nat.le_refl _) eJ;have V3:(Wj.alloc (.cells #[.string eJ] 9)).heap.size=Wj.heap.size+1:=Array.size_push _;obtain⟨ux,LY⟩:∃W,Wj.alloc (.cells #[.string eJ] 9)=W:=⟨_,rfl⟩;rw[LY]at yn FI V3;obtain⟨Td,V4⟩:∃T,cC ts=T:=⟨_,rfl⟩
   have AR:=KO ux (.slice ay j cy) ts (Fc (base:=W2.heap.size) (by rw[hlen];exact bu HW.out (fun g hg=>yn.block g (HW.out.lt g hg).2) (Nat.le_refl _))) (by rw[hlen];omega) (Nat.le_trans TL.out.size (by omega));rw[V4]at AR TL;have yo:=aj (Below.refl _ ux) (.cells #[.string Td] 9);have LZ:=FC (B:=Wj.heap.size) ux (by omega) Td;obtain⟨q_,L0⟩:∃W,ux.alloc (.cells #[.string Td] 9)=W:=⟨_,rfl⟩;rw[L0]at yo LZ
   have sr:=Lib.hid (show Tw w Wj X Fd (.slice (some ⟨Wj.heap.size,0,none⟩) 1 1) (.slice (some ⟨ux.heap.size,0,none⟩) 1 1) 1 1 ([((eJ,Td):KV)].map (·.1)) ([((eJ,Td):KV)].map (·.2)) q_ from⟨hP.ext (aF yn yo),ag.of (aF yn yo),bu FI (fun g hg=>yo.block g (FI.lt g hg).2) (Nat.le_refl _),LZ,fun g h1 h2=>by have h3:=Option.some.inj (show some Wj.heap.size=some g from h1);have h4:=Option.some.inj (show some ux.heap.size=some g from h2);omega,hP.lt,rfl,rfl⟩)
   have L1:=Lib.hid (HO.out.trans (ag.of (T:=fun b=>b=X) (aF yn yo)));have CV:=Lib.hid (fun W(hW:ag (fun b=>b=X) q_ W)=>(show W.cell? ⟨A,1,none⟩=some (.slice aV nv cV)from Lib.cell_of_heap (((L1.out.trans hW).block A (ak Y1.out) (by omega)).trans Y1.out) 1));have AR:=Lib.hid AR;have ah2:=Lib.hid (show Wj.alloc (.cells #[.string ⟨#[100,101,116,97,105,108,115]⟩] 9)=ux from LY);have ah3:=Lib.hid L0;clear hE hT hP hlen lh LX yn FI V3 LY V4 yo LZ L0;go_wp2_with fail;rw[ah2.out]
   refine AR.out.mono ?_;rintro e Lx⟨rfl,rfl⟩;clear c0;go_upto_region 16 with(fail);rw[ah3.out];have c1:=CV.out q_ (ag.refl _ _);go_upto_if 109 with(fail);go_cut[11,12](fun s11 s12 wx=>∃n vs,n≤2∧Lr a.vars vs∧Tw w Wj X (Fd.add (om a.vars) (mM a.vars)) s11 s12 n n ((((eJ,Td):KV)::vs).map (·.1)) ((((eJ,Td):KV)::vs).map (·.2)) wx)
   case first=>
    rcases Nat.eq_zero_or_pos nv with jx|jx
    ·have t3:decide ((0:Int)<(nv:Int))=false:=decide_eq_false (by omega);have gS:decide (0<nv)=false:=decide_eq_false (by omega);have uw:a.vars=[]:=List.eq_nil_of_length_eq_zero (by rw[eP.out];exact jx);have HQ:=Lib.hid (show Lr a.vars []from .inl ⟨uw,rfl⟩)
     have HS:=Lib.hid (show Tw w Wj X (Fd.add (om a.vars) (mM a.vars)) (.slice (some ⟨Wj.heap.size,0,none⟩) 1 1) (.slice (some ⟨ux.heap.size,0,none⟩) 1 1) 1 1 ((((eJ,Td):KV)::([]:List KV)).map (·.1)) ((((eJ,Td):KV)::([]:List KV)).map (·.2)) q_ by(have e1:om a.vars=false:=by unfold om;rw[uw];rfl);(have e2:mM a.vars=false:=by unfold mM;rw[uw];simp[db]);rw[e1,e2,Fl.dO];exact sr.out);clear uw jx c1;simp only[gS];go_wp2;go_meet
     exact⟨1,[],by decide,HQ.out,HS.out⟩
    ·have t3:decide ((0:Int)<(nv:Int))=true:=decide_eq_true (by omega);have gS:decide (0<nv)=true:=decide_eq_true (by omega);have Le:=Lib.hid (Fs sr.out.bq);have Lf:=Lib.hid jx;simp only[gS];go_wp2_with fail;clear c1;go_loopw[13,14,15](VY w q_ X Fd a.vars)(fun _ _ i _=>nv-(intOf i).toNat);case atStart=>exact⟨0,rfl,Nat.zero_le _,by simpa[Fl.dO]using Le.out⟩
     case' round=>
      obtain⟨m,rfl,hm,hT⟩:=hrel;rw[eP.out]at hm;obtain⟨a7,c7,rfl,_⟩:=aM hT.dj;obtain⟨a8,c8,rfl,_⟩:=aM hT.dD;have T0:=Lib.hid hT;have c1:=CV.out _ hT.only;clear hT;by_cases bP:m<nv
      case pos=>
       have t2:decide ((m:Int)<(nv:Int))=true:=decide_eq_true (by omega);have dM:decide (m<nv)=true:=decide_eq_true bP;have q1:IntKind.i64.wrap ((m:Int)+1)=(m:Int)+1:=IntWalk.i64_in _ (by omega);obtain⟨vr,ox⟩:=bN a.vars m (by rw[eP.out];exact bP);obtain⟨b,o,us,rfl,_,_,d0,d1,_⟩:=(RV.out.turn (L1.out.trans T0.out.only)).cell m vr ox;have HJ:=Lib.hid ox;have hsz:=HZ.out.vars vr (List.mem_of_getElem? ox)
       have Cc:(vr.values.map fun t=>aJ t+1).sum+2≤100000000000000:=by have h1:aJ vr.name+(vr.values.map fun t=>aJ t+1).sum+4≤(a.vars.map fun v=>aJ v.name+(v.values.map fun t=>aJ t+1).sum+4).sum:=vX (f:=fun v:cW=>aJ v.name+(v.values.map fun t=>aJ t+1).sum+4) (List.mem_of_getElem? ox);have h2:=HZ.out.all;unfold oq kQ at h2;omega
       clear ox d1;go_wp2_with(at_builtin;refine ga _ #[.string vr.name] 9 rfl _ _ 96 rfl q_.heap.size eK _ _ _ rfl T0.out.dj rfl rfl ?c1 ?c2 ?c3 ?c4 ?_);case c1=>first|rfl|(intro u hu;simp at hu;subst hu;rfl)
       case c2=>unfold maxLen;omega
       case c3=>omega
       case c4=>exact T0.out.only.size
       intro v2 w2 aE aL bI;have hS:=T0.out.name vr.name aE aL bI sr.out.bq.below.size;obtain⟨a5,c5,rfl,_⟩:=aM aE;have SA:=Lib.hid hS;clear hS aE aL bI;obtain⟨b2,o2,us2,h2,_,_,d0,d1,hst⟩:=(RV.out.turn (L1.out.trans SA.out.only)).cell m vr HJ.out;cases h2;obtain⟨av,cv,rfl,_⟩:=id hst;clear c1;have c1:=CV.out _ SA.out.only;have TX:=UC w w2 X _ (.slice av vr.values.length cv) vr.values SA.out.bq hst hsz.2.1 Cc hsz.2.2;unfold an at TX;obtain⟨Tv,L2⟩:∃T,cC (vr.values.map aG)=T:=⟨_,rfl⟩;rw[L2]at TX
       have TX:=Lib.hid TX;have HTV:=Lib.hid L2;clear d0 hst hsz Cc L2;go_wp2_with fail;refine TX.out.mono ?_;rintro e w3⟨rfl,jP,jO⟩;have SB:=Lib.hid (SA.out.call jP jO);clear jP jO c1 d1;go_wp2_with(at_builtin;refine ga _ #[.string Tv] 9 rfl _ _ 96 rfl q_.heap.size eK _ _ _ rfl SB.out.dD rfl rfl ?c1 ?c2 ?c3 ?c4 ?_);case c1=>first|rfl|(intro u hu;simp at hu;subst hu;rfl)
       case c2=>unfold maxLen;omega
       case c3=>omega
       case c4=>exact SB.out.only.size
       intro v2 w2 aE aL bI;have hS:=SB.out.val Tv aE aL bI sr.out.bq.below.size;obtain⟨a9,c9,rfl,_⟩:=aM aE;have SC:=Lib.hid hS;clear hS aE aL bI;have R':VY w q_ X Fd a.vars (.slice a5 (m+1) c5) (.slice a9 (m+1) c9) (.int .i64 ((m:Int)+1)) w2:=by refine⟨m+1,by go_num,by rw[eP.out];exact bP,?_⟩;have h1:=SC.out;rw[Fl.add_add,←HTV.out]at h1;rw[kf _ _ HJ.out,List.take_add_one,List.take_add_one,List.getElem?_map,List.getElem?_map,HJ.out];simpa[jy]using h1
       have br:=Lib.hid R';clear R';go_wp2;refine⟨?_,by simp[intOf];omega⟩;first|exact br.out|((repeat apply Exists.intro);exact⟨br.out,rfl⟩)
      case' neg=>
       have t2:decide ((m:Int)<(nv:Int))=false:=decide_eq_false (by omega);have dM:decide (m<nv)=false:=decide_eq_false bP;have hE:a.vars.take m=a.vars:=kg (by rw[eP.out];exact hm) (by rw[eP.out];exact bP);have SN:=Lib.hid (sr.out.call T0.out.bq T0.out.only);go_wp2_with(at_builtin;refine ga _ #[.string lx] 9 rfl _ _ 96 rfl Wj.heap.size eK _ _ _ rfl SN.out.dj rfl rfl ?c1 ?c2 ?c3 ?c4 ?_);case c1=>first|rfl|(intro u hu;simp at hu;subst hu;rfl)
       case c2=>unfold maxLen;omega
       case c3=>omega
       case c4=>exact SN.out.only.size
       intro v2 w2 aE aL bI;have hS:=SN.out.name lx aE aL bI HP.out.below.size;have wj:ag (fun b=>Value.ownBlock (.slice (some ⟨Wj.heap.size,0,none⟩) 1 1)=some b) wr w2:=((ag.refl _ wr).alloc _).grown aL (fun k e _=>e);have RH:X<Wj.heap.size:=sr.out.x;have lh:=sr.out.only.size
       have h7:w2.ownsRow (X+1) 9 1 (.slice a7 m c7) m (bo ((a.vars.map (·.name)).take m)):=bu T0.out.dj (fun g hg=>wj.block g (T0.out.dj.lt g hg).2 (fun e=>by have h1:=(T0.out.dj.lt g hg).1;have h2:=(sr.out.dj.lt g e).2;omega)) (by omega)
       have h8:w2.ownsRow (X+1) 9 1 (.slice a8 m c8) m (bo ((a.vars.map fun v=>cC (v.values.map aG)).take m)):=bu T0.out.dD (fun g hg=>wj.block g (T0.out.dD.lt g hg).2 (fun e=>by have h1:=(T0.out.dD.lt g hg).1;have h2:=(sr.out.dj.lt g e).2;omega)) (by omega);rw[show(a.vars.map (·.name)).take m=a.vars.map (·.name)from List.take_of_length_le (by rw[List.length_map,eP.out];omega)]at h7
       rw[show(a.vars.map fun v=>cC (v.values.map aG)).take m=a.vars.map (fun v=>cC (v.values.map aG))from List.take_of_length_le (by rw[List.length_map,eP.out];omega)]at h8;have l7:(a.vars.map (·.name)).length=m:=by rw[List.length_map,eP.out];omega
       have l8:(a.vars.map fun v=>cC (v.values.map aG)).length=m:=by rw[List.length_map,eP.out];omega
       have wm:=hS.bq;rw[hE]at wm;have VF:=ahP a.vars;have V5:cj (a.vars.map py)≤100000000000000:=by have h1:=HZ.out.all;unfold oq at h1;have h2:=VF.1;omega
       have OB:=yd w w2 X _ (.slice a7 m c7) (.slice a8 m c8) (a.vars.map (·.name)) (a.vars.map fun v=>cC (v.values.map aG)) wm (by rw[l7];exact h7) (by rw[l8];exact h8) (by rw[l7,l8]) (fun p hp=>by obtain⟨v,h2,h3⟩:=List.mem_map.1 hp;rw[←h3];exact(HZ.out.vars v h2).1) (by rw[VF.2];exact V5) (by rw[l7];omega);rw[VF.2,ahQ a.vars]at OB;unfold an at OB;obtain⟨a9,c9,rfl,_⟩:=aM aE;have SA:=Lib.hid hS;have OB:=Lib.hid OB;have rY:=Lib.hid VF
       clear hS aE aL bI wj h7 h8 l7 l8 wm hE VF V5 c1;go_wp2_with fail;refine OB.out.mono ?_;rintro e w3⟨T,rfl,sj,jP,jO⟩;have SB:=Lib.hid (SA.out.call jP jO);have jJ:=Lib.hid (show Tx (kQ a.vars) (!om a.vars&&!mM a.vars) (dW (a.vars.map py)) T from⟨Nat.le_trans sj.size rY.out.1,fun ho=>sj.eq (by rw[Bool.and_eq_true]at ho;exact ho.2)⟩);clear sj jP jO;go_wp2_with(at_builtin;refine ga _ #[.string T] 9 rfl _ _ 96 rfl Wj.heap.size eK _ _ _ rfl SB.out.dD rfl rfl ?c1 ?c2 ?c3 ?c4 ?_)
       case c1=>first|rfl|(intro u hu;simp at hu;subst hu;rfl)
       case c2=>unfold maxLen;omega
       case c3=>omega
       case c4=>exact SB.out.only.size
       intro v2 w2 aE aL bI;have hS:=SB.out.val T aE aL bI HP.out.below.size;obtain⟨a9,c9,rfl,_⟩:=aM aE;have SC:=Lib.hid hS;clear hS aE aL bI;go_wp2;go_meet;exact⟨1+1,[(lx,T)],by decide,.inr ⟨fun e=>by have h1:=eP.out;have h2:=Lf.out;rw[e]at h1;simp at h1;omega,T,rfl,jJ.out⟩,by simpa using SC.out⟩
   case rest=>
    clear c1;obtain⟨n,vs,hn,hV,hS⟩:=hcut;have DF:=Lv a TL.out hV;obtain⟨L,hL⟩:∃l:List KV,(((eJ,Td):KV)::vs)=l:=⟨_,rfl⟩;rw[hL]at hS DF;obtain⟨a5,c5,rfl,_⟩:=aM hS.dj;obtain⟨a6,c6,rfl,_⟩:=aM hS.dD;have pb:Fd.add (om a.vars) (mM a.vars)=Fl.mk (gE a) (gl a):=by rw[←HFd.out,Fl.add_add,←zt.out];unfold Fl.add gE gl;simp
    have V7:cH (L.map (·.1))=false:=DF.bad;have V8:db (L.map (·.1))=false:=DF.dup;rw[pb]at hS;have mJ:=aj (Below.refl _ wc) (.cells #[.string fM] 9);have BY:=FC (B:=X+1) wc (show X+1≤wc.heap.size from hS.bq.lt) fM;obtain⟨V9,L3⟩:∃W,wc.alloc (.cells #[.string fM] 9)=W:=⟨_,rfl⟩;rw[L3]at mJ BY;have ra:=hS.ext mJ;have FG:X+1≤Wj.heap.size:=hS.x;have lh:=HZ.out.all;have hsz:=DF.size
    have OB:=yd w V9 X _ (.slice a5 n c5) (.slice a6 n c6) (L.map (·.1)) (L.map (·.2)) ra.bq (by rw[ra.qW];exact bu ra.dj (fun _ _=>rfl) FG) (by rw[ra.uk];exact bu ra.dD (fun _ _=>rfl) FG) (by rw[ra.qW,ra.uk]) (fun p hp=>by obtain⟨q,h1,h2⟩:=List.mem_map.1 hp;rw[←h2];exact DF.keys q h1) (by rw[BV];omega) (by rw[ra.qW];omega);rw[BV,V7,V8,Fl.dO]at OB;unfold an at OB;have OB:=Lib.hid OB;have pJ:=Lib.hid DF;have L4:=Lib.hid BY
    have ah6:=Lib.hid (show wc.alloc (.cells #[.string ⟨#[97,112,112,108,105,110,107,115]⟩] 9)=V9 from L3);have amz:=Lib.hid ra.only;clear pb V7 V8 mJ BY L3 ra hsz hS DF hL hV;go_wp2_with fail;rw[ah6.out];refine OB.out.mono ?_;rintro e Ch⟨T3,rfl,wA,L5,V_⟩;have lk:=wA.size;have hsz:=pJ.out.size;have FK:=aj (Below.refl _ Ch) (.cells #[.string T3] 9);have L6:=FC (B:=X+1) Ch (show X+1≤Ch.heap.size from L5.lt) T3;obtain⟨Wb,L7⟩:∃W,Ch.alloc (.cells #[.string T3] 9)=W:=⟨_,rfl⟩;rw[L7]at FK L6
    have Wc:=V_.trans (ag.of (T:=fun b=>b=X) FK);have h1:Wb.ownsRow (X+1) 9 1 (.slice (some ⟨wc.heap.size,0,none⟩) 1 1) 1 (bo [fM]):=bu L4.out (fun g hg=>Wc.block g (L4.out.lt g hg).2 (fun e=>by have:=(L4.out.lt g hg).1;omega)) (Nat.le_refl _)
    have pK:=yd w Wb X _ (.slice (some ⟨wc.heap.size,0,none⟩) 1 1) (.slice (some ⟨Ch.heap.size,0,none⟩) 1 1) [fM] [T3] (L5.ext FK) h1 L6 rfl (fun p hp=>by rw[List.mem_singleton.1 hp];exact(by decide:fM.size≤1048576)) (by show cj [(fM,T3)]≤_;unfold cj;simp only[List.map_cons,List.map_nil,List.sum_cons,List.sum_nil];have:aJ fM=50:=rfl;omega) (by decide);have e1:cH [fM]=false:=by simp[cH,Lt.2.2]
    rw[e1,Lu.2.2,Fl.dO]at pK;unfold an at pK;have pK:=Lib.hid pK;have ah7:=Lib.hid L7;have gL:=Lib.hid wA;clear lk hsz FK L6 L7 Wc h1 e1 wA L5 V_;go_wp2_with fail;rw[ah7.out];refine pK.out.mono ?_;rintro e Ci⟨T,rfl,hT,hP,hO⟩;have x0:=Lib.cell_of_heap hP.dJ 0;have x1:=Lib.cell_of_heap hP.dJ 1;have HB:=Lib.hid hP.below;have HD:=Lib.hid (show gE a=false→gl a=false→T=Fa a from fun hb hd=>by rw[hT.eq rfl];show dW [(fM,T3)]=_;rw[gL.out.eq rfl,pJ.out.eq hb hd];rfl);clear hT hP hO
    cases hb:gE a with
    |true=>(have y0:Ci.cell? ⟨X,0,none⟩=some (.bool true):=by rw[←hb];exact x0);have Cj:=Lib.hid hb;clear x0 x1 hb;go_wp2;go_ret2;exact⟨HB.out,by rw[Cj.out,show(Fl.mk true (gl a)).code=12 from rfl,if_neg (by decide)];rfl⟩
    |false=>
     cases hd:gl a with
     |true=>(have y0:Ci.cell? ⟨X,0,none⟩=some (.bool false):=by rw[←hb];exact x0);(have y1:Ci.cell? ⟨X,1,none⟩=some (.bool true):=by rw[←hd];exact x1);have Cj:=Lib.hid hb;have L8:=Lib.hid hd;clear x0 x1 hb hd;go_wp2;go_ret2;exact⟨HB.out,by rw[Cj.out,L8.out,show(Fl.mk false true).code=31 from rfl,if_neg (by decide)];rfl⟩
     |false=>(have y0:Ci.cell? ⟨X,0,none⟩=some (.bool false):=by rw[←hb];exact x0);(have y1:Ci.cell? ⟨X,1,none⟩=some (.bool false):=by rw[←hd];exact x1);have HTD:=Lib.hid (HD.out hb hd);have Cj:=Lib.hid hb;have L8:=Lib.hid hd;clear x0 x1 hb hd;go_wp2;go_ret2;exact⟨HB.out,by rw[HTD.out,Cj.out,L8.out,show(Fl.mk false false).code=0 from rfl,if_pos rfl];rfl⟩
end Go.Proofs.YtcaiibkgajhohaaGreatDoor
