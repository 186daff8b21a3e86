/- waybill: lemmas and walks, printed from longer texts. -/
import Derived.Test.YtcaiibkgajhohaaGreatDoorM23
set_option maxRecDepth 100000
set_option maxHeartbeats 8000000
namespace Go.Proofs.YtcaiibkgajhohaaGreatDoor
open Go.RowKit
theorem bB{T:Nat→Prop}{w w':World}{b:Nat}{o:Obj}(h:ag T w w')(hx:w.heap[b]?=some o)(hT:¬T b):w'.heap[b]?=some o:=(h.block b (ak hx) hT).trans hx
theorem aC.set{W0 Wv w:World}{vv:Value}{D:Nat}{st:ai}(h:aC W0 Wv vv w D st){b:Nat}(hb:Wv.heap.size≤b)(i:Nat)(v:Value):aC W0 Wv vv (w.setCell ⟨b,i,none⟩ v) D st:=h.turn (T:=fun k=>k=b) ((ag.refl (fun k=>k=b) w).set (p:=⟨b,i,none⟩) (fun _=>rfl) v) (fun k hk=>by omega)
theorem bG.set{W0 Wv w w':World}{vv:Value}{D:Nat}{st:ai}(h:bG W0 Wv vv w D st w'){b:Nat}(hv:Wv.heap.size≤w.heap.size)(hb:w.heap.size≤b)(i:Nat)(v:Value):bG W0 Wv vv w D st (w'.setCell ⟨b,i,none⟩ v):=⟨h.re.set (by omega) i v,h.only.set (p:=⟨b,i,none⟩) (fun h=>by simp at h;omega) v⟩
theorem I3(w:World)(a b c d:Value)(T U:TypeId):((w.alloc (.cells #[a,b] T)).alloc (.cells #[c,d] U)).heap[w.heap.size]?=some (.cells #[a,b] T (0,0))∧((w.alloc (.cells #[a,b] T)).alloc (.cells #[c,d] U)).heap[w.heap.size+1]?=some (.cells #[c,d] U (0,0))∧Below w.heap.size w ((w.alloc (.cells #[a,b] T)).alloc (.cells #[c,d] U)):=by have h1:=heap_alloc_new w (.cells #[a,b] T);have h2:=heap_alloc_new (w.alloc (.cells #[a,b] T)) (.cells #[c,d] U);refine⟨?_,by simpa using h2,aj (aj (Below.refl _ _) _) _⟩;exact((aj (Below.refl _ _) (Obj.cells #[c,d] U)).block _ (ak h1)).trans h1
section
variable{W0 Wv:World}{vv:Value}{base D T:Nat}{s:PS}{nodes:Int}{tv:Value}{ns:List aW}
theorem P7(hV:dA W0 base D T s nodes tv ns)(st:ai)(id:Nat)(a b:Bool)(w:World)(h:aC W0 Wv vv w D st):Calls Tryz.prog 54 #[an W0.heap.size,.int .i64 id,.agg #[.bool a,.bool b]] w fun e w'=>e=.returned (.agg #[.bool (rH s.js s.aa st id a b ew fe).1.1,.bool (rH s.js s.aa st id a b ew fe).1.2])∧bG W0 Wv vv w D (rH s.js s.aa st id a b ew fe).2 w':=by
 have F1:=Lib.hid (fun W(hR:aC W0 Wv vv W D st)=>I1 hV st id ew a W hR);unfold rH;dsimp only;obtain⟨x,hx⟩:∃x,nK s.js s.aa st id ew a=x:=⟨_,rfl⟩;rw[hx]at F1⊢;have F2:=Lib.hid (fun W(hR:aC W0 Wv vv W D x.2)=>I1 hV x.2 id fe b W hR);obtain⟨y,hy⟩:∃y,nK s.js s.aa x.2 id fe b=y:=⟨_,rfl⟩;rw[hy]at F2⊢;have ef:=h.only.size;have z8:=h.vars.lt;have H:=Lib.hid h;have BX:=Lib.hid (I3 w (.bool a) (.bool b) (.bool false) (.bool false) 75 75);have tD:W0.heap.size≠w.heap.size:=by omega
 have nQ:W0.heap.size≠w.heap.size+1:=by omega
 clear h hx hy;go_enter Tryz.func54,Tryz.ntmps54;go_wp2_with fail;obtain⟨Wa,bU⟩:∃Wa,((w.alloc (Obj.cells #[Value.bool a,Value.bool b] 75)).alloc (Obj.cells #[Value.bool false,Value.bool false] 75))=Wa:=⟨_,rfl⟩;rw[bU]at BX⊢;have BA:=Lib.hid BX.out.2.2;have RA:=Lib.hid (H.out.ext BA.out);refine(F1.out Wa RA.out).mono ?_;rintro e w1⟨rfl,hp⟩;have X5:=bB hp.only BX.out.1 (Ne.symm tD);have X6:=bB hp.only BX.out.2.1 (Ne.symm nQ);have rM:=Lib.cell_of_heap X5 0;have c51:=Lib.cell_of_heap X5 1
 have g5:=fun i=>Go.Joins.unfrozen_of_block X5 i;have X5:=Lib.hid X5;have X6:=Lib.hid X6;have P1:=Lib.hid hp;have R1:=Lib.hid (hp.re.set (b:=w.heap.size) ef 0 (.bool x.1));clear hp bU;go_wp2_with fail;refine(F2.out _ R1.out).mono ?_;rintro e w2⟨rfl,hp⟩;have Y5:=bB hp.only (Go.Joins.block_setCell X5.out (i:=0) (.bool x.1)) (Ne.symm tD);have Y6:=bB hp.only ((Below.heap_setCell w1 ⟨w.heap.size,0,none⟩ (.bool x.1) (w.heap.size+1) (by simp)).trans X6.out) (Ne.symm nQ);simp at Y5;have d50:=Lib.cell_of_heap Y5 0
 have d51:=Lib.cell_of_heap Y5 1;have d60:=Lib.cell_of_heap Y6 0;have d61:=Lib.cell_of_heap Y6 1;have f5:=fun i=>Go.Joins.unfrozen_of_block Y5 i;have f6:=fun i=>Go.Joins.unfrozen_of_block Y6 i;have Y5:=Lib.hid Y5;have Y6:=Lib.hid Y6;have P2:=Lib.hid hp;clear hp rM c51 g5;have HP:=Lib.hid (((((((bG.of H.out BA.out).trans P1.out).set ef (Nat.le_refl _) 0 (.bool x.1)).trans P2.out).set ef (Nat.le_refl _) 1 (.bool y.1)).set ef (Nat.le_succ _) 0 (.bool x.1)).set ef (Nat.le_succ _) 1 (.bool y.1));go_wp2
 refine bodyPost_ret (v:=.agg #[.bool x.1,.bool y.1]) (by simp[results,Tryz.results54,go_sem,d60,d61]) rfl ⟨rfl,HP.out⟩
theorem P8(hV:dA W0 base D T s nodes tv ns)(st:ai)(id:Nat)(a b:Bool)(w:World)(h:aC W0 Wv vv w D st):Calls Tryz.prog 29 #[an W0.heap.size,.int .i64 id,.agg #[.bool a,.bool b]] w fun e w'=>e=.returned (.agg #[.bool (ly s.js s.aa st id a b).1.1,.bool (ly s.js s.aa st id a b).1.2])∧bG W0 Wv vv w D (ly s.js s.aa st id a b).2 w':=by
 have ME:=Lib.hid (fun W(hR:aC W0 Wv vv W D st)=>qw hV st id Ik W hR);unfold ly;have ef:=h.only.size;have H:=Lib.hid h;have BX:=Lib.hid (I3 w (.bool a) (.bool b) (.bool false) (.bool false) 75 75);have z8:=h.vars.lt;have tD:W0.heap.size≠w.heap.size:=by omega
 have nQ:W0.heap.size≠w.heap.size+1:=by omega
 cases hm:dV s.js s.aa st id Ik with
 |none=>
  rw[hm]at ME;unfold ez at ME;clear hm h hV;go_enter Tryz.func29,Tryz.ntmps29;go_wp2_with fail;obtain⟨Wa,bU⟩:∃Wa,((w.alloc (Obj.cells #[Value.bool a,Value.bool b] 75)).alloc (Obj.cells #[Value.bool false,Value.bool false] 75))=Wa:=⟨_,rfl⟩;rw[bU]at BX⊢;have BA:=Lib.hid BX.out.2.2;refine(ME.out Wa (H.out.ext BA.out)).mono ?_;rintro e w1⟨rfl,ar⟩;have X5:=(ar.block _ (ak BX.out.1)).trans BX.out.1;have X6:=(ar.block _ (ak BX.out.2.1)).trans BX.out.2.1;have rM:=Lib.cell_of_heap X5 0
  have c51:=Lib.cell_of_heap X5 1;have mr:=Lib.cell_of_heap X6 0;have mu:=Lib.cell_of_heap X6 1;have g6:=fun i=>Go.Joins.unfrozen_of_block X6 i;have HP:=Lib.hid ((((bG.of H.out BA.out).more ar).set ef (Nat.le_succ _) 0 (.bool a)).set ef (Nat.le_succ _) 1 (.bool b));clear X5 X6 ar bU;go_wp2;refine bodyPost_ret (v:=.agg #[.bool a,.bool b]) (by simp[results,Tryz.results29,go_sem,mr,mu]) rfl ⟨rfl,HP.out⟩
 |some k=>
  rw[hm]at ME;unfold ez at ME;dsimp only at ME⊢;have IS:=Lib.hid (fun W(hR:aC W0 Wv vv W D st)=>qt hV st k 6 W hR);obtain⟨r,hr⟩:∃r,ba s.js st k 6=r:=⟨_,rfl⟩;rw[hr]at IS⊢
  cases bj:r.1 with
  |false=>
   rw[bj]at IS;rw[if_neg (by decide)];clear hm hr bj h hV;go_enter Tryz.func29,Tryz.ntmps29;go_wp2_with fail;obtain⟨Wa,bU⟩:∃Wa,((w.alloc (Obj.cells #[Value.bool a,Value.bool b] 75)).alloc (Obj.cells #[Value.bool false,Value.bool false] 75))=Wa:=⟨_,rfl⟩;rw[bU]at BX⊢;have BA:=Lib.hid BX.out.2.2;refine(ME.out Wa (H.out.ext BA.out)).mono ?_;rintro e w1⟨rfl,ar⟩;have X5:=Lib.hid ((ar.block _ (ak BX.out.1)).trans BX.out.1);have X6:=Lib.hid ((ar.block _ (ak BX.out.2.1)).trans BX.out.2.1)
   have P1:=Lib.hid ((bG.of H.out BA.out).more ar);clear ar bU;go_wp2_with fail;refine(IS.out w1 P1.out.re).mono ?_;rintro e w2⟨rfl,hp⟩;have Y5:=bB hp.only X5.out (Ne.symm tD);have Y6:=bB hp.only X6.out (Ne.symm nQ);have rM:=Lib.cell_of_heap Y5 0;have c51:=Lib.cell_of_heap Y5 1;have mr:=Lib.cell_of_heap Y6 0;have mu:=Lib.cell_of_heap Y6 1;have g6:=fun i=>Go.Joins.unfrozen_of_block Y6 i;have HP:=Lib.hid (((P1.out.trans hp).set ef (Nat.le_succ _) 0 (.bool a)).set ef (Nat.le_succ _) 1 (.bool b));clear Y5 Y6 hp;go_wp2
   refine bodyPost_ret (v:=.agg #[.bool a,.bool b]) (by simp[results,Tryz.results29,go_sem,mr,mu]) rfl ⟨rfl,HP.out⟩
  |true=>
   rw[bj]at IS;rw[if_pos rfl];have FL:=Lib.hid (fun W(hR:aC W0 Wv vv W D r.2)=>P7 hV r.2 k a b W hR);obtain⟨y,hy⟩:∃y,rH s.js s.aa r.2 k a b ew fe=y:=⟨_,rfl⟩;rw[hy]at FL⊢;clear hm hr bj h hV hy;go_enter Tryz.func29,Tryz.ntmps29;go_wp2_with fail;obtain⟨Wa,bU⟩:∃Wa,((w.alloc (Obj.cells #[Value.bool a,Value.bool b] 75)).alloc (Obj.cells #[Value.bool false,Value.bool false] 75))=Wa:=⟨_,rfl⟩;rw[bU]at BX⊢;have BA:=Lib.hid BX.out.2.2;refine(ME.out Wa (H.out.ext BA.out)).mono ?_
   rintro e w1⟨rfl,ar⟩;have X5:=Lib.hid ((ar.block _ (ak BX.out.1)).trans BX.out.1);have X6:=Lib.hid ((ar.block _ (ak BX.out.2.1)).trans BX.out.2.1);have P1:=Lib.hid ((bG.of H.out BA.out).more ar);clear ar bU;go_wp2_with fail;refine(IS.out w1 P1.out.re).mono ?_;rintro e w2⟨rfl,hp⟩;have Y5:=bB hp.only X5.out (Ne.symm tD);have Y6:=Lib.hid (bB hp.only X6.out (Ne.symm nQ));have rM:=Lib.cell_of_heap Y5 0;have c51:=Lib.cell_of_heap Y5 1;have P2:=Lib.hid (P1.out.trans hp);clear Y5 hp;go_wp2_with fail
   refine(FL.out w2 P2.out.re).mono ?_;rintro e w3⟨rfl,hp⟩;have Z6:=bB hp.only Y6.out (Ne.symm nQ);have mr:=Lib.cell_of_heap Z6 0;have mu:=Lib.cell_of_heap Z6 1;have g6:=fun i=>Go.Joins.unfrozen_of_block Z6 i;have HP:=Lib.hid (((P2.out.trans hp).set ef (Nat.le_succ _) 0 (.bool y.1.1)).set ef (Nat.le_succ _) 1 (.bool y.1.2));clear Z6 hp rM c51;go_wp2;refine bodyPost_ret (v:=.agg #[.bool y.1.1,.bool y.1.2]) (by simp[results,Tryz.results29,go_sem,mr,mu]) rfl ⟨rfl,HP.out⟩
end
def nZ(p:Pc):List Value:=[.string p.text,.bool p.var,.int .i64 p.at_]
theorem Ec:iq Tryz.prog 294 298 3 32 (.agg #[.string ⟨#[]⟩,.bool false,.int .i64 0]):=⟨Tryz.underlying294,by kernel_rfl,rfl,by decide⟩
theorem ade{s:ByteArray}{i m:Nat}(h:jL s i=(m:Nat))(hi:i≤s.size):i+m+2≤s.size:=by have h1:=Go.Lib.index_room (s.extract i s.size).data.toList [36,40] (by unfold jL at h;omega);unfold jL at h;rw[h]at h1;(have h2:(s.extract i s.size).data.toList.length=s.size-i:=by show(s.extract i s.size).size=_;rw[ByteArray.size_extract];omega);rw[h2]at h1;simp only[List.length_cons,List.length_nil]at h1;omega
theorem adf{s:ByteArray}{i:Nat}(h:(qn s i).2.2=true)(hi:i≤s.size):i+(qn s i).1.length+1≤s.size:=by
 unfold qn Go.Lib.cut at h⊢;split at h
 ·rename_i h0;have h1:=Go.Lib.index_room (s.extract i s.size).data.toList [41] h0;have h2:(s.extract i s.size).data.toList.length=s.size-i:=by show(s.extract i s.size).size=_;rw[ByteArray.size_extract];omega
  rw[if_pos h0,List.length_take];rw[h2]at h1;simp only[List.length_cons,List.length_nil]at h1;omega
 ·cases h
def Ed(s:ByteArray)(R:List Pc×Int)(w:World)(v k:Value)(wr:World):Prop:=∃(i f:Nat)(acc:List Pc),k=.int .i64 i∧i≤s.size∧acc.length≤i∧wr.ownsRow w.heap.size 298 3 v acc.length (acc.flatMap nZ)∧Below w.heap.size w wr∧s.size<i+f∧DV f s i acc=R
def adg(w:World)(R:List Pc×Int)(e:Ending)(w':World):Prop:=∃v,e=.returned (.tuple #[v,.int .i64 R.2])∧w'.ownsRow w.heap.size 298 3 v R.1.length (R.1.flatMap nZ)∧Below w.heap.size w w'∧R.1.length≤1100000
theorem Ee{w:World}{base:Nat}{e:TypeId}{v:Value}{acc':List Pc}{xs:List Value}{n:Nat}(h:w.ownsRow base e 3 v n xs)(hn:n=acc'.length)(hx:xs=acc'.flatMap nZ):w.ownsRow base e 3 v acc'.length (acc'.flatMap nZ):=by rw[←hn,←hx];exact h
theorem adh(s:ByteArray)(w:World)(hM:tG w)(hs:s.size≤1100000):Calls Tryz.prog 192 #[.string s] w (adg w (vm s)):=by
 obtain⟨R,hR⟩:∃R,vm s=R:=⟨_,rfl⟩;have IX:=Lib.hid (fun(i:Nat)(x:ByteArray)(hx:s.extract i s.size=x)(W:World)(hW:tG W)=>by obtain⟨_,m,hm⟩:=hW;(have h0:x.size≤s.size:=by rw[←hx,ByteArray.size_extract];omega);have h:=Tryz.strings_Index x ⟨#[36,40]⟩ m W (by omega) hm;rw[←hx]at h;exact(show Calls Tryz.prog 195 #[.string x,.string ⟨#[36,40]⟩] W fun e w'=>e=.returned (.int .i64 (jL s i))∧w'=W from by rw[←hx];exact h))
 have CU:=Lib.hid (fun(i:Nat)(x:ByteArray)(hx:s.extract i s.size=x)(W:World)(hW:tG W)=>by obtain⟨_,m,hm⟩:=hW;(have h0:x.size≤s.size:=by rw[←hx,ByteArray.size_extract];omega);have h:=Tryz.strings_Cut x ⟨#[41]⟩ m W (by omega) hm;rw[←hx]at h;exact(show Calls Tryz.prog 196 #[.string x,.string ⟨#[41]⟩] W fun e w'=>e=.returned (.tuple #[.string ⟨(qn s i).1.toArray⟩,.string ⟨(qn s i).2.1.toArray⟩,.bool (qn s i).2.2])∧∃n,w'=W.drewN n from by rw[←hx];exact h))
 have H:=Lib.hid hM;have R0:Ed s R w (.slice none 0 0) (.int .i64 0) w:=⟨0,s.size+1,[],rfl,Nat.zero_le _,Nat.zero_le _,⟨by simp,.inl ⟨rfl,rfl⟩⟩,Below.refl _ _,by omega,hR⟩;have eF:=Lib.hid R0;rw[hR];have S1:=Lib.hid (fun(i:Nat)(h:i≤s.size)(x:ByteArray)(hx:s.extract i s.size=x)=>ada s i h x hx);have S2:=Lib.hid (fun(i j:Nat)(h:i≤j)(hj:j≤s.size)(x:ByteArray)(hx:s.extract i j=x)=>ac_ s i j h hj x hx);clear hM R0 hR;go_enter Tryz.func192,Tryz.ntmps192;go_wp2_with fail
 go_loopw[2,4](Ed s R w)(fun _ k _=>s.size-(intOf k).toNat);case atStart=>exact eF.out
 case round=>
  obtain⟨i,f,acc,rfl,hi,fh,ho,hb,hf,hr⟩:=hrel;obtain⟨ao,cap,rfl,_⟩:=aM ho;have HO:=Lib.hid ho;have HB:=Lib.hid hb
  cases f with
  |zero=>exact absurd hf (by omega)
  |succ f=>
   rw[DV]at hr;by_cases hlt:i<s.size
   ·rw[if_neg (by omega)]at hr;have t1:decide ((i:Int)<(s.size:Int))=true:=decide_eq_true (by omega);have aT:decide (i<s.size)=true:=decide_eq_true hlt;obtain⟨x,hx⟩:∃x,s.extract i s.size=x:=⟨_,rfl⟩;have s1:=S1.out i hi x hx;have Ap:=Lib.hid (IX.out i x hx wr (H.out.ext hb));by_cases Aq:jL s i<0
    ·rw[if_pos Aq]at hr;obtain⟨q,hq⟩:∃q,jL s i=q:=⟨_,rfl⟩;rw[hq]at Ap Aq;have t2:decide (q<0)=true:=decide_eq_true Aq;have HR:=Lib.hid hr;have HX:=Lib.hid hx;clear ho hb hr hx hq Aq IX CU S1 S2 eF;go_wp2_with fail;refine Ap.out.mono ?_;rintro e w1⟨rfl,rfl⟩;go_wp2_with(at_builtin;refine iY w1 #[.string x,.bool false,.int .i64 (i:Int)] 298 rfl _ _ 294 rfl w.heap.size Ec _ _ _ rfl HO.out rfl rfl ?c1 ?c2 ?c3 ?c4 ?_);case c1=>exact⟨rfl,rfl,rfl⟩
     case c2=>unfold maxLen;omega
     case c3=>omega
     case c4=>exact HB.out.size
     intro v2 w2 aE aL;have ah:Below w.heap.size w w2:=(aj HB.out _).grown aL (aj HB.out _).size (fun k hk=>(HO.out.lt k hk).1);have d_:=Ee (acc':=acc++[⟨x,false,i⟩]) aE (by simp) (by simp[nZ]);have g_:=Lib.hid d_;have cF:=Lib.hid ah;have iN:acc.length+1≤1100000:=by omega
     clear aE aL ah d_;go_wp2;go_ret2;rw[←HR.out,HX.out];exact⟨_,rfl,g_.out,cF.out,by simpa using iN⟩
    ·rw[if_neg Aq]at hr;obtain⟨m,hm⟩:∃m:Nat,jL s i=(m:Nat):=⟨(jL s i).toNat,by omega⟩;have hroom:=ade hm hi;rw[hm]at hr Ap;rw[Int.toNat_natCast]at hr;have t2:decide ((m:Int)<0)=false:=decide_eq_false (by omega);have dM:¬(m:Int)<0:=by omega
     obtain⟨p,hp⟩:∃p,i+m=p:=⟨_,rfl⟩;rw[hp]at hr hroom;obtain⟨p2,fO⟩:∃p2,p+2=p2:=⟨_,rfl⟩;rw[fO]at hr hroom;obtain⟨y,hy⟩:∃y,s.extract p2 s.size=y:=⟨_,rfl⟩;have s2:=S1.out p2 hroom y hy;obtain⟨cc,hcc⟩:∃cc,qn s p2=cc:=⟨_,rfl⟩;have Ar:=Lib.hid (CU.out p2 y hy);have pg:=fun h=>adf (s:=s) (i:=p2) h hroom;rw[hcc]at Ar pg hr;have q1:IntKind.i64.wrap ((i:Int)+(m:Int))=(p:Int):=by rw[IntWalk.i64_in _ (by omega)];omega
     have q2:IntKind.i64.wrap ((p:Int)+2)=(p2:Int):=by rw[IntWalk.i64_in _ (by omega)];omega
     by_cases xA:0<m
     ·obtain⟨z,hz⟩:∃z,s.extract i p=z:=⟨_,rfl⟩;have s3:=S2.out i p (by omega) (by omega) z hz;have t3:decide ((0:Int)<(m:Int))=true:=decide_eq_true (by omega);have gS:decide (0<m)=true:=decide_eq_true xA;have e0:xm s i (m:Int) acc=acc++[⟨z,false,i⟩]:=by unfold xm;rw[if_pos (by omega),Int.toNat_natCast,hp,hz]
      rw[e0]at hr;obtain⟨bc,fJ⟩:∃bc,acc++[(⟨z,false,i⟩:Pc)]=bc:=⟨_,rfl⟩;have b9:bc.length=acc.length+1:=by rw[←fJ];simp
      have iz:=Lib.hid fJ;have Hv:=Lib.hid b9;have akW:bc.length≤acc.length+1:=by omega
      rw[fJ]at hr;have HR:=Lib.hid hr;clear ho hb hr hx hm hy hcc hz e0 fJ b9 IX CU S1 S2 eF;go_wp2_with fail;refine Ap.out.mono ?_;rintro e w1⟨rfl,rfl⟩;go_wp2_with(at_builtin;refine iY w1 #[.string z,.bool false,.int .i64 (i:Int)] 298 rfl _ _ 294 rfl w.heap.size Ec _ _ _ rfl HO.out rfl rfl ?c1 ?c2 ?c3 ?c4 ?_);case c1=>exact⟨rfl,rfl,rfl⟩
      case c2=>unfold maxLen;omega
      case c3=>omega
      case c4=>exact HB.out.size
      intro v2 w2 aE aL;have ah:Below w.heap.size w w2:=(aj HB.out _).grown aL (aj HB.out _).size (fun k hk=>(HO.out.lt k hk).1);have d_:=Ee (acc':=bc) aE Hv.out.symm (by rw[←iz.out];simp[nZ]);obtain⟨a2,p_,rfl,_⟩:=aM d_;have g_:=Lib.hid d_;have cF:=Lib.hid ah;have Ji:=Lib.hid (Ar.out w2 (H.out.ext ah));clear aE aL ah d_ Ar;go_wp2_with fail;refine Ji.out.mono ?_;rintro e w4⟨rfl,dn,rfl⟩;obtain⟨nm,rest,Jj⟩:=cc
      cases Jj with
      |false=>have HQ:=HR.out;rw[if_pos rfl]at HQ;have HQ:=Lib.hid HQ;(have iN:bc.length≤1100000:=by omega);clear HR pg;go_wp2;go_ret2;rw[←HQ.out];exact⟨_,rfl,bu (w':=w2.drewN dn) g_.out (fun g hg=>rfl) (Nat.le_refl _),eW _ cF.out,iN⟩
      |true=>
       have HQ:=HR.out;rw[if_neg (fun h=>by cases h)]at HQ;have pg:=pg rfl;dsimp only at HQ pg;obtain⟨N,hN⟩:∃N:ByteArray,(⟨nm.toArray⟩:ByteArray)=N:=⟨_,rfl⟩;have rR:nm.length=N.size:=by rw[←hN];exact(List.size_toArray).symm
       rw[hN,rR]at HQ;rw[rR]at pg;have HQ:=Lib.hid HQ;obtain⟨a2,oQ⟩:∃a2,2+N.size=a2:=⟨_,rfl⟩;obtain⟨a3,ha3⟩:∃a3,a2+1=a3:=⟨_,rfl⟩;obtain⟨n5,Jk⟩:∃n5,p+N.size+3=n5:=⟨_,rfl⟩;have HQ:=HQ.out;rw[Jk]at HQ;have HQ:=Lib.hid HQ;have q3:IntKind.i64.wrap (2+(N.size:Int))=(a2:Int):=by rw[IntWalk.i64_in _ (by omega)];omega
       have q4:IntKind.i64.wrap ((a2:Int)+1)=(a3:Int):=by rw[IntWalk.i64_in _ (by omega)];omega
       have q5:IntKind.i64.wrap ((p:Int)+(a3:Int))=(n5:Int):=by rw[IntWalk.i64_in _ (by omega)];omega
       have nG:=Lib.hid (bu (w':=w2.drewN dn) g_.out (fun g hg=>rfl) (Nat.le_refl _));have dx:=Lib.hid (eW dn cF.out);obtain⟨W5,j7⟩:∃W5,w2.drewN dn=W5:=⟨_,rfl⟩;rw[j7]at nG dx;simp only[hN];rw[j7];clear j7 g_ cF HR hN rR;go_wp2_with(at_builtin;refine iY W5 #[.string N,.bool true,.int .i64 (p:Int)] 298 rfl _ _ 294 rfl w.heap.size Ec _ _ _ rfl nG.out rfl rfl ?c1 ?c2 ?c3 ?c4 ?_);case c1=>exact⟨rfl,rfl,rfl⟩
       case c2=>unfold maxLen;omega
       case c3=>omega
       case c4=>exact dx.out.size
       intro v5 w5 As ph;have bg:Below w.heap.size w w5:=(aj dx.out _).grown ph (aj dx.out _).size (fun k hk=>(nG.out.lt k hk).1);have dz:=Ee (acc':=bc++[⟨N,true,p⟩]) As (by simp) (by simp[nZ]);have RL:Ed s R w v5 (.int .i64 (n5:Int)) w5:=⟨n5,f,_,rfl,by omega,by simp;omega,dz,bg,by omega,HQ.out⟩;have br:=Lib.hid RL;have p6:s.size-n5<s.size-i:=by omega
       clear RL As ph bg dz;go_wp2;refine⟨?_,by simp[intOf];omega⟩;have R:=br.out;first|exact R|((repeat apply Exists.intro);exact⟨R,rfl⟩)
     ·have adj:m=0:=by omega
      subst adj;have kF:p=i:=by omega
      subst kF;have t3:decide ((0:Int)<((0:Nat):Int))=false:=rfl;have e0:xm s p ((0:Nat):Int) acc=acc:=by unfold xm;rw[if_neg (by decide)]
      rw[e0]at hr;have b9:acc.length≤acc.length+1:=by omega
      have HR:=Lib.hid hr;clear ho hb hr hx hm hy hcc e0 IX CU S1 S2 eF;go_wp2_with fail;refine Ap.out.mono ?_;rintro e w1⟨rfl,rfl⟩;have g_:=HO;have cF:=HB;have Ji:=Lib.hid (Ar.out w1 (H.out.ext HB.out));clear Ar;go_wp2_with fail;refine Ji.out.mono ?_;rintro e w4⟨rfl,dn,rfl⟩;obtain⟨nm,rest,Jj⟩:=cc
      cases Jj with
      |false=>have HQ:=HR.out;rw[if_pos rfl]at HQ;have HQ:=Lib.hid HQ;(have iN:acc.length≤1100000:=by omega);clear HR pg;go_wp2;go_ret2;rw[←HQ.out];exact⟨_,rfl,bu (w':=w1.drewN dn) g_.out (fun g hg=>rfl) (Nat.le_refl _),eW _ cF.out,iN⟩
      |true=>
       have HQ:=HR.out;rw[if_neg (fun h=>by cases h)]at HQ;have pg:=pg rfl;dsimp only at HQ pg;obtain⟨N,hN⟩:∃N:ByteArray,(⟨nm.toArray⟩:ByteArray)=N:=⟨_,rfl⟩;have rR:nm.length=N.size:=by rw[←hN];exact(List.size_toArray).symm
       rw[hN,rR]at HQ;rw[rR]at pg;have HQ:=Lib.hid HQ;obtain⟨a2,oQ⟩:∃a2,2+N.size=a2:=⟨_,rfl⟩;obtain⟨a3,ha3⟩:∃a3,a2+1=a3:=⟨_,rfl⟩;obtain⟨n5,Jk⟩:∃n5,p+N.size+3=n5:=⟨_,rfl⟩;have HQ:=HQ.out;rw[Jk]at HQ;have HQ:=Lib.hid HQ;have q3:IntKind.i64.wrap (2+(N.size:Int))=(a2:Int):=by rw[IntWalk.i64_in _ (by omega)];omega
       have q4:IntKind.i64.wrap ((a2:Int)+1)=(a3:Int):=by rw[IntWalk.i64_in _ (by omega)];omega
       have q5:IntKind.i64.wrap ((p:Int)+(a3:Int))=(n5:Int):=by rw[IntWalk.i64_in _ (by omega)];omega
       have nG:=Lib.hid (bu (w':=w1.drewN dn) g_.out (fun g hg=>rfl) (Nat.le_refl _));have dx:=Lib.hid (eW dn cF.out);obtain⟨W5,j7⟩:∃W5,w1.drewN dn=W5:=⟨_,rfl⟩;rw[j7]at nG dx;simp only[hN];rw[j7];clear j7 g_ cF HR hN rR;go_wp2_with(at_builtin;refine iY W5 #[.string N,.bool true,.int .i64 (p:Int)] 298 rfl _ _ 294 rfl w.heap.size Ec _ _ _ rfl nG.out rfl rfl ?c1 ?c2 ?c3 ?c4 ?_);case c1=>exact⟨rfl,rfl,rfl⟩
       case c2=>unfold maxLen;omega
       case c3=>omega
       case c4=>exact dx.out.size
       intro v5 w5 As ph;have bg:Below w.heap.size w w5:=(aj dx.out _).grown ph (aj dx.out _).size (fun k hk=>(nG.out.lt k hk).1);have dz:=Ee (acc':=acc++[⟨N,true,p⟩]) As (by simp) (by simp[nZ]);have RL:Ed s R w v5 (.int .i64 (n5:Int)) w5:=⟨n5,f,_,rfl,by omega,by simp;omega,dz,bg,by omega,HQ.out⟩;have br:=Lib.hid RL;have p6:s.size-n5<s.size-p:=by omega
       clear RL As ph bg dz;go_wp2;refine⟨?_,by simp[intOf];omega⟩;have R:=br.out;first|exact R|((repeat apply Exists.intro);exact⟨R,rfl⟩)
   ·rw[if_pos (by omega)]at hr;have t1:decide ((i:Int)<(s.size:Int))=false:=decide_eq_false (by omega);have aT:decide (i<s.size)=false:=decide_eq_false hlt;have HR:=Lib.hid hr;have iN:acc.length≤1100000:=by omega
    clear ho hb hr;go_wp2;go_ret2;rw[←HR.out];exact⟨_,rfl,HO.out,HB.out,iN⟩
structure ij(w:World):Prop where
 ut:nu w
 mx:tG w
 cl:mw w
theorem ij.ext{w w':World}(h:ij w)(hb:Below w.heap.size w w'):ij w':=⟨h.ut.ext hb,h.mx.ext hb,h.cl.ext hb⟩
def QL(w:World)(ok:Bool)(e:Ending)(w':World):Prop:=∃c,ID w c e w'∧(c=[]↔ok=true)
def xC(vars:List cW)(p:Pc):Bool:=!p.var||o6 p.text||vars.any fun v=>decide (v.name=p.text)
def Ef(vars:List cW)(ps:List Pc)(R:Bool)(w:World)(k:Value)(wr:World):Prop:=∃j:Nat,k=.int .i64 j∧j≤ps.length∧Below w.heap.size w wr∧(ps.drop j).all (xC vars)=R
theorem lE{w:World}{u:Value}{c:List (Int×Int)}(h:iS w u c):c=[]∧u=.nilIface∨c≠[]∧∃p,u=.iface 85 (.pointer (some p)):=by
 cases c with
 |nil=>exact .inl ⟨rfl,by unfold iS at h;simp only[cz]at h;exact h.pO⟩
 |cons x c=>obtain⟨k,a⟩:=x;unfold iS at h;simp only[cz]at h;obtain⟨u2,rfl,h2⟩:=h.Cp;obtain⟨b,off,rfl,_⟩:=h2.Cq;exact .inr ⟨by simp,_,rfl⟩
theorem adk{w:World}{base g n cap:Nat}{ps:List Pc}(ho:w.ownsRow base 298 3 (.slice (some ⟨g,0,none⟩) n cap) n (ps.flatMap nZ)){j:Nat}{p:Pc}(hp:ps[j]?=some p):w.cell? ⟨g,j*3,none⟩=some (.string p.text)∧w.cell? ⟨g,j*3+1,none⟩=some (.bool p.var)∧w.cell? ⟨g,j*3+2,none⟩=some (.int .i64 p.at_):=⟨pY (enc:=nZ) (k:=3) (j:=0) (fun _=>rfl) ho hp (by decide),pY (enc:=nZ) (k:=3) (fun _=>rfl) ho hp (by decide),pY (enc:=nZ) (k:=3) (fun _=>rfl) ho hp (by decide)⟩
theorem adl(s:ByteArray)(vars:List cW)(vv:Value)(w:World)(hE:ij w)(hV:xu w vv vars)(hs:s.size≤1100000):Calls Tryz.prog 190 #[.string s,vv] w (QL w (vn s vars)):=by
 have GC:=Lib.hid (IE s w hE.ut hs);by_cases hg:jK s=[]
 ·have e_:vn s vars=((vm s).1.all (xC vars)&&decide ((vm s).2<0)):=by unfold vn o5;rw[hg];rfl
  rw[e_];rw[hg]at GC;have PC:=Lib.hid (fun W(hW:Below w.heap.size w W)=>adh s W (hE.mx.ext hW) hs);obtain⟨R,hR⟩:∃R,vm s=R:=⟨_,rfl⟩;rw[hR]at PC⊢;obtain⟨A,hA⟩:∃A,R.1.all (xC vars)=A:=⟨_,rfl⟩;rw[hA];have HE:=Lib.hid hE;have HV:=Lib.hid hV;clear hE hV hg e_ hR;go_enter Tryz.func190,Tryz.ntmps190;go_wp2_with fail;refine GC.out.mono ?_;rintro e w1⟨ar,u,rfl,he⟩;obtain⟨_,rfl⟩|⟨h,_⟩:=lE he
  ·have B1:=Lib.hid ar;clear he ar;go_wp2_with fail;refine(PC.out w1 B1.out).mono ?_;rintro e w2⟨v,rfl,ho,ah,hl⟩;obtain⟨ao,cap,rfl,uD⟩:=aM ho;have B2:=Lib.hid (aF B1.out ah);have HO:=Lib.hid ho;obtain⟨n,hn⟩:∃n,R.1.length=n:=⟨_,rfl⟩;have HN:=Lib.hid hn;rw[hn]at hl uD HO⊢;clear ho ah;go_wp2_with fail;go_loopw[24](Ef vars R.1 A w2)(fun k _=>n-(intOf k).toNat);case atStart=>exact⟨0,rfl,Nat.zero_le _,Below.refl _ _,by rw[List.drop_zero];exact hA⟩
   case round=>
    obtain⟨j,rfl,hj,hb,hr⟩:=hrel;rw[HN.out]at hj;by_cases hlt:j<n
    ·have t1:decide ((j:Int)<(n:Int))=true:=decide_eq_true (by omega);have aT:decide (j<n)=true:=decide_eq_true hlt;have q1:IntKind.i64.wrap ((j:Int)+1)=(j:Int)+1:=IntWalk.i64_in _ (by omega);obtain⟨p,hp⟩:=bN R.1 j (by rw[HN.out];exact hlt);have QM:R.1.drop j=p::R.1.drop (j+1):=by rw[List.drop_eq_getElem_cons (by rw[HN.out];exact hlt)];congr 1;exact(List.getElem?_eq_some_iff.1 hp).2
     rw[QM,List.all_cons]at hr;rcases uD with⟨h0,_⟩|⟨g,rfl,hg1,aL⟩
     ·omega
     ·obtain⟨d0,d1,d2⟩:=adk HO.out hp;have e0:=(aK hb aL (j*3)).trans d0;have e1:=(aK hb aL (j*3+1)).trans d1;have e2:=(aK hb aL (j*3+2)).trans d2;obtain⟨pt,pv,pa⟩:=p;dsimp only at e0 e1 e2;have HB:=Lib.hid hb;have HR:=Lib.hid hr;have HP:=Lib.hid hp;have hwr:=hb.size;have hX:=heap_alloc_new wr (.cells #[.string pt,.bool pv,.int .i64 pa] 298);have BX:=Lib.hid (aj (Below.refl _ wr) (.cells #[.string pt,.bool pv,.int .i64 pa] 298))
      have EX:=Lib.hid ((HE.out.ext (aF B2.out hb)).ext BX.out);have VX:=Lib.hid ((HV.out.ext (aF B2.out hb)).ext BX.out);have HX:=Lib.hid hX;clear hb hr hp QM d0 d1 d2 hX
      cases pv with
      |false=>have RL:Ef vars R.1 A w2 (.int .i64 ((j:Int)+1)) (wr.alloc (.cells #[.string pt,.bool false,.int .i64 pa] 298)):=⟨j+1,by go_num,by rw[HN.out];omega,aF HB.out BX.out,by have h:=HR.out;simpa[xC]using h⟩;have br:=Lib.hid RL;clear RL;go_wp2;refine⟨?_,by simp[intOf];omega⟩;have R:=br.out;first|exact R|((repeat apply Exists.intro);exact⟨R,rfl⟩)
      |true=>
       have OW:=Lib.hid (P_ pt _ EX.out.cl);have VA:=Lib.hid (fun W(hW:Below (wr.alloc (.cells #[.string pt,.bool true,.int .i64 pa] 298)).heap.size (wr.alloc (.cells #[.string pt,.bool true,.int .i64 pa] 298)) W)=>ach vars vv pt W (VX.out.ext hW));obtain⟨Wx,Jl⟩:∃Wx,(wr.alloc (.cells #[.string pt,.bool true,.int .i64 pa] 298))=Wx:=⟨_,rfl⟩;rw[Jl]at BX EX VX HX OW VA;obtain⟨q,hq⟩:∃q,o6 pt=q:=⟨_,rfl⟩
       obtain⟨q2,rS⟩:∃q2,(vars.any fun v=>decide (v.name=pt))=q2:=⟨_,rfl⟩;have hr:=HR.out;rw[show xC vars ⟨pt,true,pa⟩=(q||q2)by unfold xC;dsimp only;rw[hq,rS];rfl]at hr;rw[hq]at OW;rw[rS]at VA;have HR:=Lib.hid hr;have HW:=Lib.hid Jl;clear hq rS hr Jl;go_wp2_with fail;rw[HW.out];refine OW.out.mono ?_;rintro e w3⟨rfl,aw⟩;have B3:=Lib.hid (aF BX.out aw);have Y9:=(aw.block _ (ak HX.out)).trans HX.out;have f0:=Lib.cell_of_heap Y9 0;have f1:=Lib.cell_of_heap Y9 1;have f2:=Lib.cell_of_heap Y9 2
       have VA3:=Lib.hid (VA.out w3 aw);have Y9:=Lib.hid Y9;clear aw VA
       cases q with
       |true=>have RL:Ef vars R.1 A w2 (.int .i64 ((j:Int)+1)) w3:=⟨j+1,by go_num,by rw[HN.out];omega,aF HB.out B3.out,by have h:=HR.out;simpa using h⟩;have br:=Lib.hid RL;clear RL;go_wp2;refine⟨?_,by simp[intOf];omega⟩;have R:=br.out;first|exact R|((repeat apply Exists.intro);exact⟨R,rfl⟩)
       |false=>
        go_wp2_with fail;refine VA3.out.mono ?_;rintro e w4⟨⟨u4,rfl⟩,aY⟩;have B4:=Lib.hid (aF B3.out aY);have Z9:=(aY.block _ (ak Y9.out)).trans Y9.out;have g0:=Lib.cell_of_heap Z9 0;have g1:=Lib.cell_of_heap Z9 1;have g2:=Lib.cell_of_heap Z9 2;clear Z9 aY f0 f1 f2
        cases q2 with
        |true=>have RL:Ef vars R.1 A w2 (.int .i64 ((j:Int)+1)) w4:=⟨j+1,by go_num,by rw[HN.out];omega,aF HB.out B4.out,by have h:=HR.out;simpa using h⟩;have br:=Lib.hid RL;clear RL;go_wp2;refine⟨?_,by simp[intOf];omega⟩;have R:=br.out;first|exact R|((repeat apply Exists.intro);exact⟨R,rfl⟩)
        |false=>(have Jm:A=false:=by have h:=HR.out;simpa using h.symm);subst Jm;have BB:=Lib.hid (aF B2.out (aF HB.out B4.out));go_wp2_with fail;go_at_call 42;refine(ri _ _ _).mono ?_;rintro e w5⟨rfl,rfl⟩;have HF:=Lib.hid (Rd.failed 30 pa w4);have Au:=Lib.hid (aj BB.out (.cells #[.int .i64 30,.int .i64 pa,.nilIface] 89));go_wp2;go_ret;exact⟨_,⟨Au.out,_,rfl,HF.out⟩,by simp⟩
    ·have t1:decide ((j:Int)<(n:Int))=false:=decide_eq_false (by omega);have aT:decide (j<n)=false:=decide_eq_false hlt;have Jm:A=true:=by rw[List.drop_eq_nil_of_le (by rw[HN.out];omega)]at hr;exact hr.symm
     subst Jm;have BB:=Lib.hid (aF B2.out hb);clear hb hr;by_cases fE:R.2<0
     ·have Av:=Lib.hid fE;have t2:decide ((0:Int)≤R.2)=false:=decide_eq_false (by omega);clear fE;go_wp2;go_ret;exact⟨[],⟨BB.out,_,rfl,iS.nil⟩,by simp[Av.out]⟩
     ·have Av:=Lib.hid fE;have t2:decide ((0:Int)≤R.2)=true:=decide_eq_true (by omega);clear fE;go_wp2_with fail;go_at_call 42;refine(ri _ _ _).mono ?_;rintro e w5⟨rfl,rfl⟩;have HF:=Lib.hid (Rd.failed 10 R.2 wr);have Au:=Lib.hid (aj BB.out (.cells #[.int .i64 10,.int .i64 R.2,.nilIface] 89));go_wp2;go_ret;exact⟨_,⟨Au.out,_,rfl,HF.out⟩,by have h:=Av.out;simp;omega⟩
  ·exact absurd rfl h
 ·have e_:vn s vars=false:=by
   unfold vn o5
   cases h:jK s with
   |nil=>exact absurd h hg
   |cons x c=>rfl
  rw[e_];obtain⟨c,hc⟩:∃c,jK s=c:=⟨_,rfl⟩;rw[hc]at GC hg;clear hE hV e_ hc;go_enter Tryz.func190,Tryz.ntmps190;go_wp2_with fail;refine GC.out.mono ?_;rintro e w1⟨ar,u,rfl,he⟩;obtain⟨h,_⟩|⟨_,p,rfl⟩:=lE he
  ·exact absurd h hg
  ·have HE:=Lib.hid he;have HB:=Lib.hid ar;have HG:=Lib.hid hg;clear he ar hg;go_wp2;go_ret;exact⟨c,⟨HB.out,_,rfl,HE.out⟩,by simp[HG.out]⟩
end Go.Proofs.YtcaiibkgajhohaaGreatDoor
