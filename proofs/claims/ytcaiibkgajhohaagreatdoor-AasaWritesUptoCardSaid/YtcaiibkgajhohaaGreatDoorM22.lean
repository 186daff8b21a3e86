/- waybill: lemmas and walks, printed from longer texts. -/
import Derived.Test.YtcaiibkgajhohaaGreatDoorM21
set_option maxRecDepth 100000
set_option maxHeartbeats 4000000
namespace Go.Proofs.YtcaiibkgajhohaaGreatDoor
open Go.RowKit
def o8(w:World)(qo:Int×Int)(de:Value→World→Prop)(bad:Value)(e:Ending)(w':World):Prop:=(qo.1=0∧∃v,e=.returned (.tuple #[v,.nilIface])∧de v w'∧Below w.heap.size w w')∨(qo.1≠0∧∃p,e=.returned (.tuple #[bad,.iface 85 (.pointer (some p))])∧Rd (Own w') w' (.iface 85 (.pointer (some p))) (cz 85 [qo])∧Below w.heap.size w w')
theorem abB{js:List JN}{i:Nat}{x:JN}{kind:Int}{ks:List Int}(hx:js[i]?=some x)(hk:x.kind∈ks↔(x.kind=kind∨kind=2∧x.kind=1)):dI js i kind=if x.kind∈ks then(0,0)else(32,x.at_):=by
 rw[IG hx kind];by_cases h:x.kind∈ks
 ·rw[if_pos h,if_pos (hk.1 h)]
 ·rw[if_neg h,if_neg (fun h2=>h (hk.2 h2))]
theorem zT{w w':World}{js:List JN}{id:Int}{ks:List Int}{kind:Int}{e:Ending}(hk:∀k:Int,k∈ks↔(k=kind∨kind=2∧k=1))(h:OK w js id ks e w'):(∃(i:Nat)(x:JN),id=i∧js[i]?=some x∧dI js id kind=(0,0)∧(x.kind=kind∨kind=2∧x.kind=1)∧e=.returned (.tuple #[.agg #[.int .i64 x.kind,.string x.key,.string x.text,.int .i64 x.at_],.nilIface])∧Below w.heap.size w w')∨((dI js id kind).1≠0∧∃p,e=.returned (.tuple #[.agg #[.int .i64 0,.string ⟨#[]⟩,.string ⟨#[]⟩,.int .i64 0],.iface 85 (.pointer (some p))])∧Rd (Own w') w' (.iface 85 (.pointer (some p))) (cz 85 [dI js id kind])∧Below w.heap.size w w'):=by
 rcases h with⟨i,x,rfl,hx,h⟩|⟨hn,u,rfl,hf⟩
 ·have hc:=abB (ks:=ks) hx (hk x.kind);rcases h with⟨hm,rfl,hb⟩|⟨hm,u,rfl,hf⟩
  ·rw[if_pos hm]at hc;exact .inl ⟨i,x,rfl,hx,hc,(hk _).1 hm,rfl,hb⟩
  ·rw[if_neg hm]at hc;refine .inr ⟨by rw[hc];show(32:Int)≠0;decide,u,rfl,?_,hf.2⟩;rw[hc];exact hf.1.wide (fun b hb=>hb.2)
 ·have hc:=IH hn kind;refine .inr ⟨by rw[hc];show(30:Int)≠0;decide,u,rfl,?_,hf.2⟩;rw[hc];exact hf.1.wide (fun b hb=>hb.2)
theorem DX(w:World)(k:Int):Rd (Own (w.alloc (.cells #[.int .i64 k] 3))) (w.alloc (.cells #[.int .i64 k] 3)) (.slice (some ⟨w.heap.size,0,none⟩) 1 1) (.list 1 (([k]:List Int).map (.int .i64))):=by
 have ho:=World.ownsRow_lit (base:=w.heap.size) (e:=3) (size:=1) w #[.int .i64 k] 1 (Nat.le_refl _) (by decide) rfl;refine mY ho ⟨rfl,fun j u d hu hd=>?_⟩ (fun g hg=>(ho.lt g hg).2)
 cases j with
 |zero=>simp at hu hd;subst hu;subst hd;exact .int _ _
 |succ j=>simp at hu
theorem ks2(w:World)(k l:Int):Rd (Own (w.alloc (.cells #[.int .i64 k,.int .i64 l] 3))) (w.alloc (.cells #[.int .i64 k,.int .i64 l] 3)) (.slice (some ⟨w.heap.size,0,none⟩) 2 2) (.list 1 (([k,l]:List Int).map (.int .i64))):=by
 have ho:=World.ownsRow_lit (base:=w.heap.size) (e:=3) (size:=1) w #[.int .i64 k,.int .i64 l] 2 (Nat.le_refl _) (by decide) rfl;refine mY ho ⟨rfl,fun j u d hu hd=>?_⟩ (fun g hg=>(ho.lt g hg).2)
 cases j with
 |zero=>simp at hu hd;subst hu;subst hd;exact .int _ _
 |succ j=>
  cases j with
  |zero=>simp at hu hd;subst hu;subst hd;exact .int _ _
  |succ j=>simp at hu
theorem abD(w:World)(base D T:Nat)(s:PS)(nodes:Int)(tv:Value)(ns:List aW)(id:Int)(h:gx w base D s nodes T tv ns)(hj:s.js.length≤100000):Calls Tryz.prog 59 #[an D,.int .i64 id] w (o8 w (dI s.js id 5) (fun v w'=>Rd (dY w w') w' v (oO (kids s.aa id.toNat))) (.slice none 0 0)):=by
 have hl:=h.len;have s8:=h.de.len;have cD:=h.cD;have oX:=ak h.doc;have OF:=Lib.hid (fun ob(kv:Value)(hk:Rd (Own (w.alloc ob)) (w.alloc ob) kv (.list 1 (([5]:List Int).map (.int .i64))))=>vg (w.alloc ob) base D T s nodes tv ns id kv [5] (h.below (aj (Below.refl _ _) ob)) (by omega) hk (by decide));have K5:=Lib.hid (DX w 5);have ar:=Lib.hid (fun ob:Obj=>aj (Below.refl _ w) ob);have H:=Lib.hid h;clear h;go_enter Tryz.func59,Tryz.ntmps59;go_wp2_with fail;refine(OF.out _ _ K5.out).mono ?_
 intro e w2 hp;rcases zT (kind:=5) (fun k=>by simp) hp with⟨i,x,rfl,hx,hc,_,rfl,ah⟩|⟨hc,p,rfl,hr,ah⟩
 ·have HC:=Lib.hid hc;have aP:=Lib.hid (fun ob=>aj (aF (ar.out _) ah) ob);have tn:∀ob,(w2.alloc ob).cell? ⟨D,0,none⟩=some (an T):=fun ob=>(aK (aP.out ob) oX 0).trans cD;have jZ:=(List.getElem?_eq_some_iff.1 hx).1;have KD:=Lib.hid (fun ob=>G1 T tv ns s.aa nodes i (w2.alloc ob) ((H.out.below (aP.out ob)).tree) H.out.de (by omega) (by omega));clear hp ah hx hc;go_wp2_with fail;refine(KD.out _).mono ?_;rintro e w3⟨v3,rfl,iu,aw⟩;have HF:=Lib.hid (aF (aP.out _) aw)
  have HR:=Lib.hid (iu.wide (S':=dY w w3) (fun b hb=>⟨Nat.le_trans (aP.out _).size hb.1,hb.2⟩));clear iu aw;go_wp2;go_ret2;exact .inl ⟨by rw[HC.out],_,rfl,by rw[Int.toNat_natCast];exact HR.out,HF.out⟩
 ·have HF:=Lib.hid (fun W(hW:Below w2.heap.size w2 W)=>show o8 w (dI s.js id 5) (fun v w'=>Rd (dY w w') w' v (oO (kids s.aa id.toNat))) (.slice none 0 0) (.returned (.tuple #[.slice none 0 0,.iface 85 (.pointer (some p))])) W from .inr ⟨hc,p,rfl,hr.ext hW,aF (aF (ar.out _) ah) hW⟩);clear hp hc hr ah;go_wp2;go_ret2;exact HF.out _ (by first|exact Below.refl _ _|exact aj (Below.refl _ _) _)
theorem abE(w:World)(base D T:Nat)(s:PS)(nodes:Int)(tv:Value)(ns:List aW)(id:Int)(h:gx w base D s nodes T tv ns)(hj:s.js.length≤100000):Calls Tryz.prog 127 #[an D,.int .i64 id] w (o8 w (dI s.js id 4) (fun v _=>v=.string (gz s.js id.toNat).text) (.string ⟨#[]⟩)):=by
 have oX:=ak h.doc;have OF:=Lib.hid (fun W(hW:Below w.heap.size w W)(kv:Value)(hk:Rd (Own W) W kv (.list 1 (([4]:List Int).map (.int .i64))))=>vg W base D T s nodes tv ns id kv [4] (h.below hW) (by omega) hk (by decide));have K4:=Lib.hid (fun W=>DX W 4);have ar:=Lib.hid (fun ob:Obj=>aj (Below.refl _ w) ob);have ah:=Lib.hid (fun ob o2:Obj=>aj (aj (Below.refl _ w) ob) o2);clear h;go_enter Tryz.func127,Tryz.ntmps127;go_wp2_with fail
 refine(OF.out _ (by first|exact ar.out _|exact ah.out _ _) _ (K4.out _)).mono ?_;intro e w2 hp;rcases zT (kind:=4) (fun k=>by simp) hp with⟨i,x,rfl,hx,hc,_,rfl,gA⟩|⟨hc,p,rfl,hr,gA⟩
 ·have HC:=Lib.hid hc;have aP:=Lib.hid (aF (by first|exact ar.out _|exact ah.out _ _) gA);have jJ:=Lib.hid (show(gz s.js i).text=x.text by unfold gz;rw[hx];rfl);clear hp gA hx hc;go_wp2;go_ret2;exact .inl ⟨by rw[HC.out],_,rfl,by rw[Int.toNat_natCast,jJ.out];rfl,(by first|exact aP.out|exact aj aP.out _)⟩
 ·have HF:=Lib.hid (fun W(hW:Below w2.heap.size w2 W)=>show o8 w (dI s.js id 4) (fun v _=>v=.string (gz s.js id.toNat).text) (.string ⟨#[]⟩) (.returned (.tuple #[.string ⟨#[]⟩,.iface 85 (.pointer (some p))])) W from .inr ⟨hc,p,rfl,hr.ext hW,aF (aF (by first|exact ar.out _|exact ah.out _ _) gA) hW⟩);clear hp hc hr gA;go_wp2;go_ret2;exact HF.out _ (by first|exact Below.refl _ _|exact aj (Below.refl _ _) _)
theorem abF(w:World)(base D T:Nat)(s:PS)(nodes:Int)(tv:Value)(ns:List aW)(id:Int)(h:gx w base D s nodes T tv ns)(hj:s.js.length≤100000):Calls Tryz.prog 126 #[an D,.int .i64 id] w (o8 w (dI s.js id 2) (fun v _=>v=.bool ((gz s.js id.toNat).kind==2)) (.bool false)):=by
 have oX:=ak h.doc;have OF:=Lib.hid (fun W(hW:Below w.heap.size w W)(kv:Value)(hk:Rd (Own W) W kv (.list 1 (([2,1]:List Int).map (.int .i64))))=>vg W base D T s nodes tv ns id kv [2,1] (h.below hW) (by omega) hk (by decide));have K4:=Lib.hid (fun W=>ks2 W 2 1);have ar:=Lib.hid (fun ob:Obj=>aj (Below.refl _ w) ob);have ah:=Lib.hid (fun ob o2:Obj=>aj (aj (Below.refl _ w) ob) o2);clear h;go_enter Tryz.func126,Tryz.ntmps126;go_wp2_with fail
 refine(OF.out _ (by first|exact ar.out _|exact ah.out _ _) _ (K4.out _)).mono ?_;intro e w2 hp;rcases zT (kind:=2) (fun k=>by simp) hp with⟨i,x,rfl,hx,hc,_,rfl,gA⟩|⟨hc,p,rfl,hr,gA⟩
 ·have HC:=Lib.hid hc;have aP:=Lib.hid (aF (by first|exact ar.out _|exact ah.out _ _) gA);have jJ:=Lib.hid (show(gz s.js i).kind=x.kind by unfold gz;rw[hx];rfl);clear hp gA hx hc;go_wp2;go_ret2;exact .inl ⟨by rw[HC.out],_,rfl,by rw[Int.toNat_natCast,jJ.out];rfl,(by first|exact aP.out|exact aj aP.out _)⟩
 ·have HF:=Lib.hid (fun W(hW:Below w2.heap.size w2 W)=>show o8 w (dI s.js id 2) (fun v _=>v=.bool ((gz s.js id.toNat).kind==2)) (.bool false) (.returned (.tuple #[.bool false,.iface 85 (.pointer (some p))])) W from .inr ⟨hc,p,rfl,hr.ext hW,aF (aF (by first|exact ar.out _|exact ah.out _ _) gA) hW⟩);clear hp hc hr gA;go_wp2;go_ret2;exact HF.out _ (by first|exact Below.refl _ _|exact aj (Below.refl _ _) _)
theorem abG(w:World)(base D T:Nat)(s:PS)(nodes:Int)(tv:Value)(ns:List aW)(id:Int)(h:gx w base D s nodes T tv ns)(hj:s.js.length≤100000)(hc:(dI s.js id 6).1≠0):Calls Tryz.prog 55 #[an D,.int .i64 id] w (o8 w (dI s.js id 6) (fun _ _=>False) (.slice none 0 0)):=by
 have oX:=ak h.doc;have OF:=Lib.hid (fun W(hW:Below w.heap.size w W)(kv:Value)(hk:Rd (Own W) W kv (.list 1 (([6]:List Int).map (.int .i64))))=>vg W base D T s nodes tv ns id kv [6] (h.below hW) (by omega) hk (by decide));have K4:=Lib.hid (fun W=>DX W 6);have ar:=Lib.hid (fun ob:Obj=>aj (Below.refl _ w) ob);have ah:=Lib.hid (fun ob o2:Obj=>aj (aj (Below.refl _ w) ob) o2);have HC:=Lib.hid hc;clear h hc;go_enter Tryz.func55,Tryz.ntmps55;go_wp2_with fail
 refine(OF.out _ (by first|exact ar.out _|exact ah.out _ _) _ (K4.out _)).mono ?_;intro e w2 hp;rcases zT (kind:=6) (fun k=>by simp) hp with⟨i,x,rfl,hx,hc,_,rfl,gA⟩|⟨hc,p,rfl,hr,gA⟩
 ·exact absurd (by rw[hc]) HC.out
 ·have HF:=Lib.hid (fun W(hW:Below w2.heap.size w2 W)=>show o8 w (dI s.js id 6) (fun _ _=>False) (.slice none 0 0) (.returned (.tuple #[.slice none 0 0,.iface 85 (.pointer (some p))])) W from .inr ⟨hc,p,rfl,hr.ext hW,aF (aF (by first|exact ar.out _|exact ah.out _ _) gA) hW⟩);clear hp hc hr gA;go_wp2;go_ret2;exact HF.out _ (by first|exact Below.refl _ _|exact aj (Below.refl _ _) _)
theorem abH(w:World)(base D T:Nat)(s:PS)(nodes:Int)(tv:Value)(ns:List aW)(id:Int)(key:ByteArray)(h:gx w base D s nodes T tv ns)(hj:s.js.length≤100000)(hc:(dI s.js id 6).1≠0):Calls Tryz.prog 52 #[an D,.int .i64 id,.string key] w (o8 w (dI s.js id 6) (fun _ _=>False) (.int .i64 0)):=by
 have oX:=ak h.doc;have OF:=Lib.hid (fun W(hW:Below w.heap.size w W)(kv:Value)(hk:Rd (Own W) W kv (.list 1 (([6]:List Int).map (.int .i64))))=>vg W base D T s nodes tv ns id kv [6] (h.below hW) (by omega) hk (by decide));have K4:=Lib.hid (fun W=>DX W 6);have ar:=Lib.hid (fun ob:Obj=>aj (Below.refl _ w) ob);have ah:=Lib.hid (fun ob o2:Obj=>aj (aj (Below.refl _ w) ob) o2);have HC:=Lib.hid hc;clear h hc;go_enter Tryz.func52,Tryz.ntmps52;go_wp2_with fail
 refine(OF.out _ (by first|exact ar.out _|exact ah.out _ _) _ (K4.out _)).mono ?_;intro e w2 hp;rcases zT (kind:=6) (fun k=>by simp) hp with⟨i,x,rfl,hx,hc,_,rfl,gA⟩|⟨hc,p,rfl,hr,gA⟩
 ·exact absurd (by rw[hc]) HC.out
 ·have HF:=Lib.hid (fun W(hW:Below w2.heap.size w2 W)=>show o8 w (dI s.js id 6) (fun _ _=>False) (.int .i64 0) (.returned (.tuple #[.int .i64 0,.iface 85 (.pointer (some p))])) W from .inr ⟨hc,p,rfl,hr.ext hW,aF (aF (by first|exact ar.out _|exact ah.out _ _) gA) hW⟩);clear hp hc hr gA;go_wp2;go_ret2;exact HF.out _ (by first|exact Below.refl _ _|exact aj (Below.refl _ _) _)
def qp(w:World)(u:Value)(p:Int×Int):Prop:=(p.1=0∧u=.nilIface)∨(p.1≠0∧Rd (Own w) w u (cz 85 [p]))
theorem qp.ext{w w':World}{u:Value}{p:Int×Int}(h:qp w u p)(hb:Below w.heap.size w w'):qp w' u p:=by
 rcases h with h|⟨h1,h2⟩
 ·exact .inl h
 ·exact .inr ⟨h1,h2.ext hb⟩
def ji(js:List JN)(id:Int):JN:=if 0≤id then(js[id.toNat]?).getD jz else jz
theorem zU{js:List JN}{i:Nat}{x:JN}(h:js[i]?=some x):ji js i=x:=by unfold ji;rw[if_pos (by omega),Int.toNat_natCast,h];rfl
theorem PG{js:List JN}{id:Int}(h:¬(0≤id∧id<js.length)):ji js id=jz:=by
 unfold ji;by_cases h0:0≤id
 ·rw[if_pos h0,List.getElem?_eq_none (by omega)];rfl
 ·rw[if_neg h0]
theorem DY{js:List JN}{id kind:Int}(h:(dI js id kind).1=0):∃(i:Nat)(x:JN),id=i∧js[i]?=some x∧(x.kind=kind∨kind=2∧x.kind=1)∧i<js.length:=by
 by_cases hid:0≤id∧id<js.length
 ·obtain⟨i,rfl⟩:∃i:Nat,id=i:=⟨id.toNat,by omega⟩;obtain⟨x,hx⟩:=bN js i (by omega);rw[IG hx]at h;by_cases hk:x.kind=kind∨kind=2∧x.kind=1
  ·exact⟨i,x,rfl,hx,hk,by omega⟩
  ·rw[if_neg hk]at h;exact absurd h (by show¬(32:Int)=0;decide)
 ·rw[IH hid]at h;exact absurd h (by show¬(30:Int)=0;decide)
def zV(w:World)(qo:Int×Int)(de:Value→World→Prop)(bad:Value)(e:Ending)(w':World):Prop:=∃v u,e=.returned (.tuple #[v,u])∧qp w' u qo∧(qo.1=0→de v w')∧(qo.1≠0→v=bad)∧Below w.heap.size w w'
theorem DZ{w w':World}{qo:Int×Int}{de:Value→World→Prop}{bad:Value}{e:Ending}(h:o8 w qo de bad e w'):zV w qo de bad e w':=by
 rcases h with⟨h0,v,rfl,hg,hb⟩|⟨h0,p,rfl,hr,hb⟩
 ·exact⟨v,_,rfl,.inl ⟨h0,rfl⟩,fun _=>hg,fun h=>absurd h0 h,hb⟩
 ·exact⟨bad,_,rfl,.inr ⟨h0,hr⟩,fun h=>absurd h h0,fun _=>rfl,hb⟩
def PH(w:World)(s:PS)(id:Int)(key:ByteArray)(e:Ending)(w':World):Prop:=∃(one:Int)(u:Value),e=.returned (.tuple #[.int .i64 one,u])∧Below w.heap.size w w'∧((dI s.js id 6).1≠0→one=0∧qp w' u (dI s.js id 6))∧((dI s.js id 6).1=0→one=ic s.js (kids s.aa id.toNat) key∧qp w' u (if jh s.js (kids s.aa id.toNat) key=true then(0,0)else(30,(ji s.js id).at_)))
theorem PJ{js:List JN}{l:List Nat}{key:ByteArray}(h:jh js l key=false):ic js l key=0:=by unfold ic;refine DW l 0 (fun k hk e=>?_);rw[Bool.eq_false_iff]at h;exact h (List.any_eq_true.2 ⟨k,hk,decide_eq_true e⟩)
structure dA(w:World)(base D T:Nat)(s:PS)(nodes:Int)(tv:Value)(ns:List aW):Prop where
 d:gx w base D s nodes T tv ns
 jl:s.js.length≤100000
 ks:∀k,(bh s.js k).size≤maxLen
theorem dA.below{w w':World}{base D T:Nat}{s:PS}{nodes:Int}{tv:Value}{ns:List aW}(h:dA w base D T s nodes tv ns)(hb:Below w.heap.size w w'):dA w' base D T s nodes tv ns:=⟨h.d.below hb,h.jl,h.ks⟩
section
variable{w:World}{base D T:Nat}{s:PS}{nodes:Int}{tv:Value}{ns:List aW}
theorem II(h:dA w base D T s nodes tv ns)(id:Int):Calls Tryz.prog 90 #[an D,.int .i64 id] w fun e w'=>e=.returned (.tuple #[.agg #[.int .i64 (ji s.js id).kind,.string (ji s.js id).key,.string (ji s.js id).text,.int .i64 (ji s.js id).at_],.bool (decide (0≤id∧id<s.js.length))])∧Below w.heap.size w w':=(aaJ w base D T s nodes tv ns id h.d (by have:=h.jl;omega)).mono (fun e w' hp=>by
 rcases hp with⟨i,x,rfl,hx,rfl,hb⟩|⟨hn,rfl,hb⟩
 ·have:=(List.getElem?_eq_some_iff.1 hx).1;rw[zU hx,decide_eq_true (by omega:0≤(i:Int)∧(i:Int)<s.js.length)];exact⟨rfl,hb⟩
 ·rw[PG hn,decide_eq_false hn];exact⟨rfl,hb⟩)
theorem IJ(h:dA w base D T s nodes tv ns)(id:Int):Calls Tryz.prog 59 #[an D,.int .i64 id] w (zV w (dI s.js id 5) (fun v w'=>Rd (dY w w') w' v (oO (kids s.aa id.toNat))) (.slice none 0 0)):=(abD w base D T s nodes tv ns id h.d h.jl).mono (fun e w' hp=>by have:=DZ hp;obtain⟨v,u,h1,h2,h3,h4,h5⟩:=this;exact⟨v,u,h1,h2,h3,h4,h5⟩)
theorem abI(h:dA w base D T s nodes tv ns)(id:Int):Calls Tryz.prog 127 #[an D,.int .i64 id] w (zV w (dI s.js id 4) (fun v _=>v=.string (ji s.js id).text) (.string ⟨#[]⟩)):=(abE w base D T s nodes tv ns id h.d h.jl).mono (fun e w' hp=>by obtain⟨v,u,h1,h2,h3,h4,h5⟩:=DZ hp;refine⟨v,u,h1,h2,fun h0=>?_,h4,h5⟩;obtain⟨i,x,rfl,hx,_,_⟩:=DY h0;rw[h3 h0,zU hx];unfold gz;rw[Int.toNat_natCast,hx];rfl)
theorem abJ(h:dA w base D T s nodes tv ns)(id:Int):Calls Tryz.prog 126 #[an D,.int .i64 id] w (zV w (dI s.js id 2) (fun v _=>v=.bool ((ji s.js id).kind==2)) (.bool false)):=(abF w base D T s nodes tv ns id h.d h.jl).mono (fun e w' hp=>by obtain⟨v,u,h1,h2,h3,h4,h5⟩:=DZ hp;refine⟨v,u,h1,h2,fun h0=>?_,h4,h5⟩;obtain⟨i,x,rfl,hx,_,_⟩:=DY h0;rw[h3 h0,zU hx];unfold gz;rw[Int.toNat_natCast,hx];rfl)
theorem IK(h:dA w base D T s nodes tv ns)(id:Int):Calls Tryz.prog 55 #[an D,.int .i64 id] w (zV w (dI s.js id 6) (fun v w'=>Rd (dY w w') w' v (oO (et s.js (kids s.aa id.toNat)))) (.slice none 0 0)):=by
 by_cases h0:(dI s.js id 6).1=0
 ·obtain⟨i,x,rfl,hx,hk,_⟩:=DY h0
  have h6:x.kind=6:=by
   rcases hk with hk|⟨hk,_⟩
   ·exact hk
   ·cases hk
  refine(aaT w base D T s nodes tv ns i x h.d h.jl hx h6 h.ks).mono (fun e w' hp=>?_);obtain⟨v,rfl,hr,hb⟩:=hp;exact⟨v,_,rfl,.inl ⟨h0,rfl⟩,fun _=>by rw[Int.toNat_natCast];exact hr,fun h=>absurd h0 h,hb⟩
 ·refine(abG w base D T s nodes tv ns id h.d h.jl h0).mono (fun e w' hp=>?_);obtain⟨v,u,h1,h2,h3,h4,h5⟩:=DZ hp;exact⟨v,u,h1,h2,fun h=>absurd h h0,h4,h5⟩
theorem abK(h:dA w base D T s nodes tv ns)(id:Int)(key:ByteArray):Calls Tryz.prog 52 #[an D,.int .i64 id,.string key] w (PH w s id key):=by
 by_cases h0:(dI s.js id 6).1=0
 ·obtain⟨i,x,rfl,hx,hk,_⟩:=DY h0
  have h6:x.kind=6:=by
   rcases hk with hk|⟨hk,_⟩
   ·exact hk
   ·cases hk
  refine(aa0 w base D T s nodes tv ns i x key h.d h.jl hx h6).mono (fun e w' hp=>?_);rcases hp with⟨ha,rfl,hb⟩|⟨ha,u,rfl,hf⟩
  ·refine⟨_,_,rfl,hb,fun h=>absurd h0 h,fun _=>?_⟩;rw[Int.toNat_natCast,ha,if_pos rfl];exact⟨rfl,.inl ⟨rfl,rfl⟩⟩
  ·refine⟨_,_,rfl,hf.2,fun h=>absurd h0 h,fun _=>?_⟩;rw[Int.toNat_natCast,ha,if_neg (by decide),zU hx,PJ ha];exact⟨rfl,.inr ⟨by show(30:Int)≠0;decide,hf.1.wide (fun b hb=>hb.2)⟩⟩
 ·refine(abH w base D T s nodes tv ns id key h.d h.jl h0).mono (fun e w' hp=>?_);rcases hp with⟨h1,_⟩|⟨_,p,rfl,hr,hb⟩
  ·exact absurd h1 h0
  ·exact⟨0,_,rfl,hb,fun _=>⟨rfl,.inr ⟨h0,hr⟩⟩,fun h=>absurd h h0⟩
end
def PL(bad:Bool)(u:Value):Prop:=(bad=false∧u=.nilIface)∨(bad=true∧∃b:Nat,u=.iface 85 (.pointer (some ⟨b,0,none⟩)))
structure abM(W0 Wv:World)(vv:Value)(vars:List cW):Prop where
 below:Below W0.heap.size W0 Wv
 lt:W0.heap.size<Wv.heap.size
 row:dN (W0.heap.size+1) 103 2 Wv vv vars.length (vars.flatMap o7)
structure aC(W0 Wv:World)(vv:Value)(w:World)(D:Nat)(st:ai):Prop where
 vars:abM W0 Wv vv st.vars
 only:ag (fun b=>b=W0.heap.size) Wv w
 dJ:∃ev,w.heap[W0.heap.size]?=some (.cells #[an D,vv,ev] 69 (0,0))∧PL st.bad ev
theorem aC.below{W0 Wv w:World}{vv:Value}{D:Nat}{st:ai}(h:aC W0 Wv vv w D st):Below W0.heap.size W0 w:=Below.trans h.vars.below (h.only.below (B:=W0.heap.size) (Nat.le_of_lt h.vars.lt) (fun k hk=>by omega))
theorem aC.lt{W0 Wv w:World}{vv:Value}{D:Nat}{st:ai}(h:aC W0 Wv vv w D st):W0.heap.size<w.heap.size:=Nat.lt_of_lt_of_le h.vars.lt h.only.size
theorem aC.turn{W0 Wv w w':World}{vv:Value}{D:Nat}{st:ai}(h:aC W0 Wv vv w D st){T:Nat→Prop}(ho:ag T w w')(hT:∀k,T k→Wv.heap.size≤k):aC W0 Wv vv w' D st:=by obtain⟨ev,hx,he⟩:=h.dJ;refine⟨h.vars,⟨ho.os.trans h.only.os,ho.tape.trans h.only.tape,ho.output.trans h.only.output,Nat.le_trans h.only.size ho.size,fun k hk hn=>?_⟩,ev,(ho.block _ h.lt (fun ht=>by have:=hT _ ht;have:=h.vars.lt;omega)).trans hx,he⟩;exact(ho.block k (Nat.lt_of_lt_of_le hk h.only.size) (fun ht=>by have:=hT _ ht;omega)).trans (h.only.block k hk hn)
theorem aC.ext{W0 Wv w w':World}{vv:Value}{D:Nat}{st:ai}(h:aC W0 Wv vv w D st)(hb:Below w.heap.size w w'):aC W0 Wv vv w' D st:=h.turn (T:=fun _=>False) (ag.of hb) (fun _ h=>h.elim)
structure bG(W0 Wv:World)(vv:Value)(w:World)(D:Nat)(st:ai)(w':World):Prop where
 re:aC W0 Wv vv w' D st
 only:ag (fun b=>b=W0.heap.size) w w'
theorem bG.of{W0 Wv w w':World}{vv:Value}{D:Nat}{st:ai}(h:aC W0 Wv vv w D st)(hb:Below w.heap.size w w'):bG W0 Wv vv w D st w':=⟨h.ext hb,ag.of hb⟩
theorem bG.trans{W0 Wv a b c:World}{vv:Value}{D:Nat}{s t:ai}(h:bG W0 Wv vv a D s b)(k:bG W0 Wv vv b D t c):bG W0 Wv vv a D t c:=⟨k.re,h.only.trans k.only⟩
theorem bG.more{W0 Wv a b c:World}{vv:Value}{D:Nat}{s:ai}(h:bG W0 Wv vv a D s b)(k:Below b.heap.size b c):bG W0 Wv vv a D s c:=h.trans (bG.of h.re k)
theorem aC.cells{W0 Wv w:World}{vv:Value}{D:Nat}{st:ai}(h:aC W0 Wv vv w D st):∃ev,w.cell? ⟨W0.heap.size,0,none⟩=some (an D)∧w.cell? ⟨W0.heap.size,1,none⟩=some vv∧w.cell? ⟨W0.heap.size,2,none⟩=some ev∧w.frozen? ⟨W0.heap.size,2,none⟩=false∧PL st.bad ev:=by obtain⟨ev,hx,he⟩:=h.dJ;exact⟨ev,Lib.cell_of_heap hx 0,Lib.cell_of_heap hx 1,Lib.cell_of_heap hx 2,Go.Joins.unfrozen_of_block hx 2,he⟩
theorem aC.fault{W0 Wv w:World}{vv:Value}{D:Nat}{st:ai}(h:aC W0 Wv vv w D st)(b:Nat):bG W0 Wv vv w D st.fail (w.setCell ⟨W0.heap.size,2,none⟩ (.iface 85 (.pointer (some ⟨b,0,none⟩)))):=by obtain⟨ev,hx,he⟩:=h.dJ;exact⟨⟨h.vars,h.only.set (p:=⟨W0.heap.size,2,none⟩) (fun _=>rfl) _,_,Go.Joins.block_setCell hx (i:=2) _,.inr ⟨rfl,b,rfl⟩⟩,(ag.refl (fun k=>k=W0.heap.size) w).set (p:=⟨W0.heap.size,2,none⟩) (fun _=>rfl) _⟩
theorem PM{st:ai}(h:st.bad=true):st.fail=st:=by cases st;cases h;rfl
section
variable{W0 Wv:World}{vv:Value}{base D T:Nat}{s:PS}{nodes:Int}{tv:Value}{ns:List aW}
theorem aC.view(hV:dA W0 base D T s nodes tv ns){w:World}{st:ai}(h:aC W0 Wv vv w D st):dA w base D T s nodes tv ns:=hV.below h.below
theorem zY(hV:dA W0 base D T s nodes tv ns)(st:ai)(id:Int)(U:TypeId)(x:Value)(w:World)(h:aC W0 Wv vv w D st):Calls Tryz.prog 53 #[an W0.heap.size,.int .i64 id,.iface U x] w fun e w'=>e=.returned (.tuple #[])∧bG W0 Wv vv w D st.fail w':=by
 obtain⟨ev,c0,c1,c2,f2,da⟩:=h.cells;rcases da with⟨hb,rfl⟩|⟨hb,b,rfl⟩
 ·obtain⟨W1,aH⟩:∃W1,True∧W1=w:=⟨w,trivial,rfl⟩;have ND:=Lib.hid (II (h.view hV) id);have H:=Lib.hid h;have hl:=h.lt;obtain⟨n,hn⟩:∃n,ji s.js id=n:=⟨_,rfl⟩;rw[hn]at ND;clear hb hn aH h;go_enter Tryz.func53,Tryz.ntmps53;go_wp2_with fail;refine ND.out.mono ?_;rintro e w2⟨rfl,ah⟩;have H2:=Lib.hid (H.out.ext ah);have k2:=(aK ah hl 2).trans c2;have g2:w2.frozen? ⟨W0.heap.size,2,none⟩=false:=by obtain⟨_,_,_,_,g,_⟩:=H2.out.cells;exact g
  have eG:=H2.out.lt;have HF:=Lib.hid (fun k:Nat=>(bG.of H.out ah).trans ((H2.out.fault k).more (aj (aj (Below.refl _ _) (.cells #[.int .i64 n.kind,.string n.key,.string n.text,.int .i64 n.at_] 117)) (.cells #[.int .i64 33,.int .i64 n.at_,.iface U x] 89))));clear ah;go_wp2;go_end0;exact⟨rfl,HF.out (w2.heap.size+1)⟩
 ·have hf:=PM hb;have HP:Hid (bG W0 Wv vv w D st.fail w):=Lib.hid (by rw[hf];exact bG.of h (Below.refl _ _));clear hf hb h hV;go_enter Tryz.func53,Tryz.ntmps53;go_wp2;go_end0;exact⟨rfl,HP.out⟩
theorem vo(hV:dA W0 base D T s nodes tv ns)(st:ai)(id k:Int)(w:World)(h:aC W0 Wv vv w D st):Calls Tryz.prog 28 #[an W0.heap.size,.int .i64 id,.int .i64 k] w fun e w'=>e=.returned (.tuple #[])∧bG W0 Wv vv w D st.fail w':=by have FL:=Lib.hid (zY hV st id 51 (.int .i64 k) w h);clear hV h;go_enter Tryz.func28,Tryz.ntmps28;go_wp2_with fail;refine FL.out.mono ?_;rintro e w2⟨rfl,hp⟩;have HP:=Lib.hid hp;clear hp;go_wp2;go_end0;exact⟨rfl,HP.out⟩
theorem D0(js:List JN)(id:Nat):(ji js (id:Int)).kind=du js id∧(ji js (id:Int)).key=bh js id∧(ji js (id:Int)).text=iD js id:=by
 cases hx:js[id]? with
 |some x=>rw[zU hx];unfold du bh iD;rw[hx];exact⟨rfl,rfl,rfl⟩
 |none=>have hl:=List.getElem?_eq_none_iff.1 hx;rw[PG (by omega)];unfold du bh iD;rw[hx];exact⟨rfl,rfl,rfl⟩
theorem IN(hV:dA W0 base D T s nodes tv ns)(st:ai)(id:Nat)(w:World)(h:aC W0 Wv vv w D st):Calls Tryz.prog 51 #[an W0.heap.size,.int .i64 id] w fun e w'=>e=.returned (.int .i64 (du s.js id))∧Below w.heap.size w w':=by obtain⟨ev,c0,c1,c2,f2,da⟩:=h.cells;have ND:=Lib.hid (II (h.view hV) id);have hk:=(D0 s.js id).1;obtain⟨n,hn⟩:∃n,ji s.js (id:Int)=n:=⟨_,rfl⟩;rw[hn]at ND hk;rw[←hk];clear da hk hn h hV;go_enter Tryz.func51,Tryz.ntmps51;go_wp2_with fail;refine ND.out.mono ?_;rintro e w2⟨rfl,ah⟩;have HB:=Lib.hid (aj ah (.cells #[.int .i64 n.kind,.string n.key,.string n.text,.int .i64 n.at_] 117));clear ah;go_wp2;go_ret;exact⟨rfl,HB.out⟩
theorem IP(hV:dA W0 base D T s nodes tv ns)(st:ai)(id:Nat)(w:World)(h:aC W0 Wv vv w D st):Calls Tryz.prog 56 #[an W0.heap.size,.int .i64 id] w fun e w'=>e=.returned (.string (bh s.js id))∧Below w.heap.size w w':=by obtain⟨ev,c0,c1,c2,f2,da⟩:=h.cells;have ND:=Lib.hid (II (h.view hV) id);have hk:=(D0 s.js id).2.1;obtain⟨n,hn⟩:∃n,ji s.js (id:Int)=n:=⟨_,rfl⟩;rw[hn]at ND hk;rw[←hk];clear da hk hn h hV;go_enter Tryz.func56,Tryz.ntmps56;go_wp2_with fail;refine ND.out.mono ?_;rintro e w2⟨rfl,ah⟩;have HB:=Lib.hid (aj ah (.cells #[.int .i64 n.kind,.string n.key,.string n.text,.int .i64 n.at_] 117));clear ah;go_wp2;go_ret;exact⟨rfl,HB.out⟩
theorem abN{js:List JN}{st:ai}{id:Nat}{k:Int}(h:st.bad=true):ba js st id k=(false,st):=by cases st;cases h;rfl
theorem PN{js:List JN}{st:ai}{id:Nat}{k:Int}(h:st.bad=false)(hk:du js id=k):ba js st id k=(true,st):=by cases st;cases h;unfold ba;dsimp only;rw[decide_eq_false (fun e=>e hk)];rfl
theorem abO{js:List JN}{st:ai}{id:Nat}{k:Int}(h:st.bad=false)(hk:du js id≠k):ba js st id k=(false,st.fail):=by cases st;cases h;unfold ba;dsimp only;rw[decide_eq_true hk];rfl
theorem qt(hV:dA W0 base D T s nodes tv ns)(st:ai)(id:Nat)(k:Int)(w:World)(h:aC W0 Wv vv w D st):Calls Tryz.prog 26 #[an W0.heap.size,.int .i64 id,.int .i64 k] w fun e w'=>e=.returned (.bool (ba s.js st id k).1)∧bG W0 Wv vv w D (ba s.js st id k).2 w':=by
 have H:=Lib.hid h;obtain⟨ev,c0,c1,c2,f2,da⟩:=h.cells;have hl:=h.lt;rcases da with⟨hb,rfl⟩|⟨hb,b,rfl⟩
 ·have KD:=Lib.hid (IN hV st id w h);by_cases hk:du s.js id=k
  ·rw[PN hb hk];rw[hk]at KD;have t1:(k==k)=true:=by simp
   clear hk hb h hV;go_enter Tryz.func26,Tryz.ntmps26;go_wp2_with fail;refine KD.out.mono ?_;rintro e w2⟨rfl,ah⟩;have HP:=Lib.hid (bG.of H.out ah);have k2:=(aK ah hl 2).trans c2;clear ah c2;go_wp2;go_ret;exact⟨rfl,HP.out⟩
  ·rw[abO hb hk];have WR:=Lib.hid (fun W(ah:Below w.heap.size w W)=>vo hV st id 32 W (h.ext ah));obtain⟨k',jY⟩:∃k',du s.js id=k':=⟨_,rfl⟩;rw[jY]at KD hk;have t1:(k'==k)=false:=beq_eq_false_iff_ne.2 hk;have aT:(k'=k)=False:=eq_false hk;clear hk jY hb h hV;go_enter Tryz.func26,Tryz.ntmps26;go_wp2_with fail;refine KD.out.mono ?_;rintro e w2⟨rfl,ah⟩;have WR2:=Lib.hid (WR.out w2 ah);have aP:=Lib.hid ah;have k2:=(aK ah hl 2).trans c2;clear ah c2;go_wp2_with fail;refine WR2.out.mono ?_;rintro e w3⟨rfl,hp⟩
   have HP:=Lib.hid ((bG.of H.out aP.out).trans hp);obtain⟨ev3,d0,d1,d2,g2,IQ⟩:=hp.re.cells;rcases IQ with⟨aw,_⟩|⟨_,b3,rfl⟩
   ·cases aw
   ·clear hp k2;go_wp2;go_ret;exact⟨rfl,HP.out⟩
 ·rw[abN hb];have HP:=Lib.hid (bG.of h (Below.refl _ _));clear hb h hV;go_enter Tryz.func26,Tryz.ntmps26;go_wp2;go_ret;exact⟨rfl,HP.out⟩
end
end Go.Proofs.YtcaiibkgajhohaaGreatDoor
