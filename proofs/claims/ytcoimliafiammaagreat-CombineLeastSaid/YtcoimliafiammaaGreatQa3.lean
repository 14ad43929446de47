/- Part 3 of the proof. -/
import Derived.Test.YtcoimliafiammaaGreatQa2
import Derived.Deep.RegionHeld3
import Derived.BigQuiet
import Derived.Deep.DeepCutAuto
import Derived.Deep.CutBlock
import Derived.Laws.Concat
set_option linter.unusedVariables false
set_option linter.unusedSimpArgs false
set_option maxRecDepth 100000
set_option maxHeartbeats 16000000
namespace Go.Proofs.YtcoimliafiammaaGreat
open Go.RowKit
def bE (p q:List Nat):List Nat:=List.zipWith (fun a b=>a*(p.length+1)+b) p q
theorem lD {p q:List Nat}(h:q.length=p.length):(bE p q).length=p.length:=by simp[bE,h]
theorem qOC {p q:List Nat}:nats (bE p q)=ints (kC p q):=by
 rw[pM];congr 1;simp only[bE,kC,List.map_zipWith];congr 1
theorem qTE {p q:List Nat}(h:q.length=p.length){k:Nat}(hk:k<p.length):(bE p q).getD k 0=p.getD k 0*(p.length+1)+q.getD k 0:=by
 rw[zG (by rw[lD h];exact hk),zG hk,zG (by omega)];simp[bE]
theorem qTF {p q:List Nat}(hp:∀c∈p,c<4194305)(hq:∀c∈q,c<4194305)(hl:p.length<=4194304):∀x∈kC p q,Mid x:=by
 intro x hx;obtain⟨i,hi,rfl⟩:=List.getElem_of_mem hx;simp only[kC,List.getElem_zipWith,qED];have h1:=hp _ (List.getElem_mem (l:=p) (n:=i) (by simp[kC]at hi;omega));have h2:=hq _ (List.getElem_mem (l:=q) (n:=i) (by simp[kC]at hi;omega))
 generalize p[i]'(by simp[kC]at hi;omega)=a at h1⊢
 generalize q[i]'(by simp[kC]at hi;omega)=b at h2⊢
 have:a*(p.length+1)<=4194304*4194305:=Nat.mul_le_mul (by omega) (by omega);have e:(a:Int)*((p.length:Int)+1)+b=((a*(p.length+1)+b:Nat):Int):=by push_cast;rfl
 rw[e];constructor<;>omega
theorem qOM {a m X b:Nat}(hX:X=a*(m+1))(a9:X<=17592190238720)(hb:b<4194305):wrap64 (wrap64 ((a:Int)*((m:Int)+1))+(b:Int))=((X+b:Nat):Int):=by
 have h0:(a:Int)*((m:Int)+1)=(X:Int):=by rw[hX];push_cast;rfl
 clear hX;rw[h0];have h9:wrap64 (X:Int)=(X:Int):=IntWalk.wrap64_in _ (by omega);rw[h9,<-Int.natCast_add];exact IntWalk.wrap64_in _ (by omega)
theorem qXW (B C:Nat)(w:World)(va vb:Value)(p q:List Nat)(hB:B<=w.heap.size)(hC:C<=w.heap.size)(ha:Row B w va (nats p))(hb:Row C w vb (nats q))(hl:q.length=p.length)(h0:0<p.length)(hp:∀c∈p,c<4194305)(hq:∀c∈q,c<4194305)(a9:p.length<=4194304):Calls Tryz.prog 104 #[va,vb] w (xAY w (qCM p q)):=by
 obtain⟨pb,po,pc,rfl,c0,H1,H0,H9⟩:=ha.some_ (by rw[zV];exact h0);obtain⟨qb,qo,qc,rfl,b8,h5,h9,H8⟩:=hb.some_ (by rw[zV];omega);rw[zV]at H1 h5⊢;rw[zV,hl];rw[hl]at h5;have b3:pc<=9223372036854775807:=by unfold maxLen at H0;omega
 have b0:qc<=9223372036854775807:=by unfold maxLen at h9;omega
 obtain⟨RA,RB,HL,HP,HQ⟩:=K5 H9 H8 hl hp hq;have H4:=Kh (qTF hp hq a9);clear H9 H8 hl hp hq ha hb;go_enter Tryz.func104,Tryz.ntmps104;go_wp2_with (first|(at_make;refine kW rfl _ _ _ rfl yP rfl .i64 .i64 _ _ p.length rfl rfl rfl rfl ?b1 ?b2 ?_)|fail)
 case b1=>omega
 case b2=>unfold maxLen;omega
 intro w2 h2 a2 H2;have H7:=Kh h2;have a7:=Kh a2;clear h2 a2;obtain⟨g,hg⟩:=Nm w.heap.size;have H6:=Kh hg;rw[<-hg]at H7 H2 hB hC⊢;clear hg;go_wp2
 go_loopg [6,12] p.length (fun gh a6 i wr=>∃k:Nat,gh+k=p.length/\i=.int .i64 k/\Arr wr g 3 (nats (uT (bE p q) k))/\w.grownBy wr none)
 case atStart=>exact⟨0,rfl,rfl,by rw[nM,lD HL.out,xJ];exact H7.out,a7.out⟩
 clear H7 a7;obtain⟨k,hg,rfl,h2,h4⟩:=hrel;obtain⟨HG,HA,H5⟩:=K3 hg h2 h4;have H3:(bE p q).length=p.length:=lD HL.out;clear hg;by_cases hk:k<p.length
 ·have c1:(k:Int)<p.length:=by omega
  have ca:=(RA.out.kept h4 (by simp)).nat k hk;have cb:=(RB.out.kept h4 (by simp)).nat k (by rw[HL.out];exact hk);have h3:=lU (l:=bE p q) (k:=k) (by omega);rw[qTE HL.out hk]at h3;have a8:=qM (i:=k) HP.out (by omega);have a0:=qM (i:=k) HQ.out (by omega);have cgk:=h2.nat k (by rw[xZ (by omega)];omega);have fgk:=h2.frozen k;obtain⟨a,ha⟩:=Nm (p.getD k 0);obtain⟨b,hb⟩:=Nm (q.getD k 0);rw[<-ha]at ca h3 a8;rw[<-hb]at cb h3 a0;obtain⟨X,hX⟩:=Nm (a*(p.length+1))
  have b4:X<=17592190238720:=by
   have h8:a*(p.length+1)<=4194304*4194305:=Nat.mul_le_mul (by omega) (by omega);omega
  rw[<-hX]at h3;have hw:=qOM hX b4 a0;have HW:=Kh hw;have HS:=Kh h3;have ca':wr.drew.cell? ⟨pb,po+k,none⟩=some (.int .i64 (a:Int)):=ca;have cb':wr.drew.cell? ⟨qb,qo+k,none⟩=some (.int .i64 (b:Int)):=cb;have b9:pb≠g:=(by omega);have b7:qb≠g:=by omega
  have a5:Hid (∀u,((wr.setCell ⟨g,k,none⟩ u).drew.cell? ⟨pb,po+k,none⟩=some (.int .i64 (a:Int)))):=Kh (fun u=>by
   show (wr.setCell ⟨g,k,none⟩ u).cell? ⟨pb,po+k,none⟩=_
   rw[World.cell?_of_block ((zD wr ⟨g,k,none⟩ u).block pb (by have:=h4.size;have:=H6.out;omega) (by simp;omega))];exact ca)
  have a4:Hid (∀u,((wr.setCell ⟨g,k,none⟩ u).drew.cell? ⟨qb,qo+k,none⟩=some (.int .i64 (b:Int)))):=Kh (fun u=>by
   show (wr.setCell ⟨g,k,none⟩ u).cell? ⟨qb,qo+k,none⟩=_
   rw[World.cell?_of_block ((zD wr ⟨g,k,none⟩ u).block qb (by have:=h4.size;have:=H6.out;omega) (by simp;omega))];exact cb)
  clear ha hb h3 h4 h2 hX hw;go_upto_region 5 with fail
  go_region_held3 (fun w'=>w'.cell? ⟨pb,po+k,none⟩=some (.int .i64 (a:Int))/\w'.cell? ⟨qb,qo+k,none⟩=some (.int .i64 (b:Int))) (first|exact⟨ca',cb'⟩|exact⟨a5.out _,a4.out _⟩|go_keep|fail) (fail)
  all_goals
   clear ca ca' cb cb' a5 a4 cgk fgk;go_wp2;go_roundg (p.length-(k+1))
   case measure=>have:=HG.out;omega
   refine⟨k+1,by omega,by go_num,?_,?_⟩
   ·rw[<-HS.out]
    have h1:=HA.out.nat_set k (by rw[xZ (by omega)];omega) (X+b);rw[HW.out];exact h1.of_heap rfl
   exact wS (zA H5.out (zD wr ⟨g,k,none⟩ _) (fun q e=>by have h7:g=q:=Oj e;have:=H6.out;omega)) rfl rfl rfl rfl
 have a1:k=p.length:=by have:=HG.out;omega
 have HE:Hid (uT (bE p q) k=bE p q):=Kh (by rw[a1,<-H3];exact lV _);clear a1 h2;go_wp2_with fail;rw[HE.out]at HA
 have HN:=Kh (aY (g+1) wr (.slice (some ⟨g,0,none⟩) p.length p.length) (kC p q) HA.out.lt (by
  rw[<-qOC]
  exact .inr ⟨g,0,p.length,by rw[zV,H3],by omega,by rw[zV,H3];exact Nat.le_refl _,by unfold maxLen;omega,HA.out.row⟩) H4.out (by rw[pV HL.out];exact a9))
 go_wp2_with fail;refine HN.out.mono ?_;rintro e w5 ⟨g5,rfl,c2,a3,h6⟩;have c3:numb (kC p q)=qCM p q:=rfl;have b6:=Kh a3;have b5:=Kh h6;clear a3 h6;go_wp2;go_ret;refine⟨g5,rfl,?_,b6.out,zC H5.out b5.out⟩;have:=H5.out.size;omega
theorem kG {xs:List Int}{k:Nat}(h:k<xs.length):xs.take (k+1)=xs.take k++[xs.getD k 0]:=by
 rw[List.take_add_one];simp[List.getD,h]
theorem qLY (B C:Nat)(w:World)(va vb:Value)(xs ys:List Int)(ha:Row B w va (ints xs))(hb:Row C w vb (ints ys)):Calls Tryz.prog 105 #[va,vb] w fun e w'=>e=.returned (.bool (decide (xs=ys)))/\∃m,w'=w.drewN m:=by
 have h2:=ha.len_le;rw[yF]at h2;unfold maxLen at h2;have h1:=hb.len_le;rw[yF]at h1;unfold maxLen at h1;obtain⟨aa,ac,rfl⟩:=ha.shape;obtain⟨ba,bc,rfl⟩:=hb.shape;rw[yF]at ha hb⊢;rw[yF];by_cases hl:xs.length=ys.length
 ·by_cases h0:xs.length=0
  ·have hx:xs=[]:=List.eq_nil_of_length_eq_zero h0
   have hy:ys=[]:=List.eq_nil_of_length_eq_zero (by omega);subst hx;subst hy;clear ha hb;go_enter Tryz.func105,Tryz.ntmps105;go_wp2
   go_loopg [13] 0 (fun g i wr=>i=.int .i64 0/\wr=w)
   case atStart=>exact⟨rfl,rfl⟩
   obtain⟨rfl,rfl⟩:=hrel;go_wp2;go_ret;exact⟨zW rfl,0,rfl⟩
  obtain⟨ab,ao,ac',e,_,_,_,h4⟩:=ha.some_ (by rw[yF];omega);simp only[Value.slice.injEq]at e;obtain⟨rfl,-,-⟩:=e;obtain⟨bb,bo,bc',e,_,_,_,h3⟩:=hb.some_ (by rw[yF];omega);simp only[Value.slice.injEq]at e;obtain⟨rfl,-,-⟩:=e;obtain⟨RA,RB,HL⟩:=K3 h4 h3 hl;clear ha hb h4 h3;rw[<-hl];clear hl;go_enter Tryz.func105,Tryz.ntmps105;go_wp2
  go_loopg [13] xs.length (fun g i wr=>∃k:Nat,g+k=xs.length/\i=.int .i64 k/\xs.take k=ys.take k/\∃m,wr=w.drewN m)
  case atStart=>exact⟨0,rfl,rfl,rfl,0,rfl⟩
  obtain⟨k,hg,rfl,h5,m,rfl⟩:=hrel;have HG:=Kh hg;have OK:=Kh h5;clear hg h5;by_cases hk:k<xs.length
  ·have h7:(k:Int)<xs.length:=by omega
   have ca:=RA.out.int k hk;have cb:=RB.out.int k (by have:=HL.out;omega);obtain⟨z,hz⟩:=Nm (xs.getD k 0);obtain⟨u,hu⟩:=Nm (ys.getD k 0);rw[<-hz]at ca;rw[<-hu]at cb;have HZ:=Kh hz;have HU:=Kh hu;clear hz hu;by_cases hzu:z=u
   ·have HN:Hid (xs.take (k+1)=ys.take (k+1)):=Kh (by rw[kG hk,kG (by have:=HL.out;omega),OK.out,<-HZ.out,<-HU.out,hzu])
    subst hzu;go_wp2
    go_quiet (fail)
    go_wp2;go_roundg (xs.length-(k+1))
    case measure=>have:=HG.out;omega
    exact⟨k+1,by omega,by go_num,HN.out,_,rfl⟩
   have e1:(z != u)=true:=by rw[bne_iff_ne];exact hzu
   have HN:Hid (decide (xs=ys)=false):=Kh (by rw[decide_eq_false_iff_not];rintro rfl;exact hzu (by rw[HZ.out,HU.out]));go_wp2
   go_quiet (fail)
   go_wp2;go_ret;exact⟨zW HN.out.symm,_,by rw[World.drewN_drewN]⟩
  have HY:Hid (decide (xs=ys)=true):=by
   have h6:k=xs.length:=by have:=HG.out;omega
   have:=OK.out;rw[List.take_of_length_le (by omega),List.take_of_length_le (by have:=HL.out;omega)]at this;exact Kh (by rw[decide_eq_true_eq];exact this)
  go_wp2;go_ret;exact⟨zW HY.out.symm,m,rfl⟩
 have e1:((xs.length:Int) != (ys.length:Int))=true:=by rw[bne_iff_ne];omega
 have HN:Hid (decide (xs=ys)=false):=Kh (by rw[decide_eq_false_iff_not];rintro rfl;exact hl rfl);clear ha hb;go_enter Tryz.func105,Tryz.ntmps105;go_wp2;go_ret;exact⟨zW HN.out.symm,0,rfl⟩
theorem qXU {l m:List Nat}:((l.map fun(x:Nat)=>(x:Int)) == (m.map fun(x:Nat)=>(x:Int)))=decide (l=m):=by
 rw[Bool.eq_iff_iff,beq_iff_eq,decide_eq_true_eq];constructor
 ·intro h
  have:=congrArg (List.map Int.toNat) h;simpa [List.map_map,Function.comp_def] using this
 rintro rfl;rfl
theorem qXV {l m:List Nat}:decide ((l.map fun(x:Nat)=>(x:Int))=m.map fun(x:Nat)=>(x:Int))=decide (l=m):=by
 rw[<-qXU (l:=l) (m:=m),Bool.eq_iff_iff,decide_eq_true_eq,beq_iff_eq]
structure DAt (B:Nat)(w:World)(d:DfaV)(n k fb fo fc b off cap:Nat)(RB RO RC:Nat->Nat):Prop where
 ok:VD d n k
 flt:fb<B
 frow:uQ w fb fo (bls d.final)
 fcap:n<=fc/\fc<=maxLen
 blt:b<B
 bltw:b<w.heap.size
 cap:n<=cap/\cap<=maxLen
 hd:∀q,q<n->w.cell? ⟨b,off+q,none⟩=some (.slice (some ⟨RB q,RO q,none⟩) k (RC q))
 el:∀q a,q<n->a<k->w.cell? ⟨RB q,RO q+a,none⟩=some (.int .i64 ((nx d q a:Nat):Int))
 rlt:∀q,q<n->RB q<B/\RB q<w.heap.size
 rcap:∀q,q<n->k<=RC q/\RC q<=maxLen
theorem DAt.kept {B:Nat}{w w':World}{d:DfaV}{n k fb fo fc b off cap:Nat}{RB RO RC:Nat->Nat}{row:Option Nat}(h:DAt B w d n k fb fo fc b off cap RB RO RC)(hg:w.grownBy w' row)(hr:∀k,row=some k->B<=k):DAt B w' d n k fb fo fc b off cap RB RO RC where
 ok:=h.ok
 flt:=h.flt
 frow:=h.frow.kept hg (fun e=>by have:=hr _ e;have:=h.flt;omega)
 fcap:=h.fcap
 blt:=h.blt
 bltw:=Nat.lt_of_lt_of_le h.bltw hg.size
 cap:=h.cap
 hd:=fun q hq=>(World.cell?_of_block (hg.block b h.bltw (fun e=>by have:=hr b e.symm;have:=h.blt;omega))).trans (h.hd q hq)
 el:=fun q a hq ha=>(World.cell?_of_block (hg.block (RB q) (h.rlt q hq).2 (fun e=>by have:=hr _ e.symm;have:=(h.rlt q hq).1;omega))).trans (h.el q a hq ha)
 rlt:=fun q hq=>⟨(h.rlt q hq).1,Nat.lt_of_lt_of_le (h.rlt q hq).2 hg.size⟩
 rcap:=h.rcap
theorem DAt.fin {B:Nat}{w:World}{d:DfaV}{n k fb fo fc b off cap:Nat}{RB RO RC:Nat->Nat}(h:DAt B w d n k fb fo fc b off cap RB RO RC){q:Nat}(hq:q<n):w.cell? ⟨fb,fo+q,none⟩=some (.bool (d.final.getD q false)):=by
 have hl:=h.ok.hn;have:=uQ.map h.frow q (by omega);rw[this,zG (by omega)]
def dAgg (k st fb fo fc b off cap n:Nat):Value:=.agg #[.int .i64 (k:Int),.int .i64 (st:Int),.slice (some ⟨fb,fo,none⟩) n fc,.slice (some ⟨b,off,none⟩) n cap]
theorem tM.at {B:Nat}{w:World}{v:Value}{d:DfaV}{n k:Nat}(h:tM B w v d)(hd:VD d n k):∃fb fo fc b off cap RB RO RC,v=dAgg k (st0 d) fb fo fc b off cap n/\DAt B w d n k fb fo fc b off cap RB RO RC:=by
 obtain⟨fv,nv,rfl,hf,hn⟩:=h;obtain⟨fb,fo,fc,rfl,h1,h2,h3,h4⟩:=hf.some_ (by rw[yV,hd.hn];exact hd.n1);obtain⟨b,off,cap,A,C,rfl,k1,k2,k3⟩:=hn.some_ (by rw[hd.nl];exact hd.n1)
 have hr:∀q,∃rb ro,q<n->A q=some ⟨rb,ro,none⟩/\rb<B/\k<=C q/\C q<=maxLen/\uQ w rb ro (ints (d.next.getD q [])):=by
  intro q;by_cases hq:q<n
  ·have hl:=hd.row q hq
   obtain⟨rb,ro,c,e,h4,h5,h6,h7⟩:=(k3.row q (by rw[hd.nl];exact hq)).some_ (by rw[yF,hl];exact hd.k1);simp only[Value.slice.injEq]at e;rw[yF,hl]at h5;exact⟨rb,ro,fun _=>⟨e.1,h4,by rw[e.2.2];exact h5,by rw[e.2.2];exact h6,h7⟩⟩
  exact⟨0,0,fun h=>absurd h hq⟩
 obtain⟨RB,h8⟩:=Classical.axiomOfChoice hr;obtain⟨RO,h0⟩:=Classical.axiomOfChoice h8;rw[yV,hd.hn]at h2;rw[hd.nl]at k1;refine⟨fb,fo,fc,b,off,cap,RB,RO,C,?_,hd,h1,h4,⟨h2,h3⟩,k3.lt,k3.ltw,⟨k1,k2⟩,fun q hq=>?_,fun q a hq ha=>?_,fun q hq=>?_,fun q hq=>?_⟩
 ·rw[dAgg,qAX hd,hd.hk,yV,hd.hn,hd.nl]
 ·rw[k3.hd q (by rw[hd.nl];exact hq),(h0 q hq).1,hd.row q hq]
 ·rw[(h0 q hq).2.2.2.2.int a (by rw[hd.row q hq];exact ha),qQW hd hq ha]
  rfl
 ·have:=h0 q hq
  exact⟨this.2.1,this.2.2.2.2.1⟩
 have:=h0 q hq;exact⟨this.2.2.1,this.2.2.2.1⟩
theorem zE {w:World}{p:Nat}{x0 x1 x2 x3:Value}{e:Nat}(h:w.heap[p]?=some (.cells #[x0,x1,x2,x3] e (0,0))):w.cell? ⟨p,0,none⟩=some x0/\w.cell? ⟨p,1,none⟩=some x1/\w.cell? ⟨p,2,none⟩=some x2/\w.cell? ⟨p,3,none⟩=some x3:=by
 have c0:=zJ h 0;have c1:=zJ h 1;have c2:=zJ h 2;have c3:=zJ h 3;simp only[sPd,sPe,sPf]at c0 c1 c2 c3;exact⟨c0,c1,c2,c3⟩
theorem jQ {w:World}{g n:Nat}{l:List Nat}(h:uQ w g 0 (nats l))(hl:l.length=n)(hn:n<=9223372036854775807):Row (g+1) w (.slice (some ⟨g,0,none⟩) n n) (nats l) :=
 .inr ⟨g,0,n,by rw[zV,hl],by omega,by rw[zV,hl];exact Nat.le_refl _,by unfold maxLen;omega,h⟩
theorem qNS {d:DfaV}{p:List Nat}{a q:Nat}(hq:q<p.length):(lB d p a).take (q+1)=(lB d p a).take q++[p.getD (nx d q a) 0]:=by
 rw[zT (d:=0) (by rw[rW];exact hq),cV hq]
theorem qXL {d:DfaV}{p:List Nat}{n a:Nat}(h:∀c∈p,c<n)(hn:0<n):∀c∈lB d p a,c<n:=by
 intro c hc;obtain⟨q,hq,rfl⟩:=List.mem_map.1 hc;exact qM h hn
def finN (d:DfaV):List Nat:=d.final.map fun b=>if b then 1 else 0
theorem qSH (d:DfaV):nats (finN d)=ints (d.final.map finB):=by
 rw[pM];congr 1;simp only[finN,List.map_map];congr 1;funext b;cases b<;>rfl
theorem cE (d:DfaV):(finN d).length=d.final.length:=by simp[finN]
theorem qXB {d:DfaV}{q:Nat}(hq:q<d.final.length):(finN d).getD q 0=if d.final.getD q false then 1 else 0:=by
 rw[finN,tU (x:=false) hq]
theorem qXC (d:DfaV):∀x∈d.final.map finB,Mid x:=by
 intro x hx;obtain⟨b,_,rfl⟩:=List.mem_map.1 hx;cases b<;>constructor<;>simp[finB]
theorem qHX {l:List Nat}{k:Nat}(h:k<l.length)(h0:l.getD k 0=0):uT l (k+1)=uT l k:=by
 unfold uT;rw[zT (d:=0) h,h0,show l.length-k=(l.length-(k+1))+1 by omega,List.replicate_succ,List.append_assoc];rfl
def qTS (w:World)(l:List Nat)(e:Ending)(w':World):Prop :=
 ∃g,e=.returned (.slice (some ⟨g,0,none⟩) l.length l.length)/\w.heap.size<=g/\uQ w' g 0 (nats l)/\w.grownBy w' none
theorem qUW {d:DfaV}{p:List Nat}(hp:Norm p)(m:Nat):∀c∈uZ d p m,c<p.length:=by
 have:=mQ (lK (d:=d) hp m)
 rwa [xD]at this
theorem qII (B:Nat)(w:World)(v:Value)(d:DfaV)(n k:Nat)(hB:B<=w.heap.size)(h:tM B w v d)(hd:VD d n k):Calls Tryz.prog 90 #[v] w (qTS w (yX d k)):=by
 obtain⟨fb,fo,fc,b,off,cap,RB,RO,RC,rfl,a0⟩:=h.at hd;have hn:=hd.hn;have k0:=hd.n1;have d8:=hd.nbig;have k4:=hd.k6;have k5:=hd.k1;have k8:=a0.fcap.1;have a5:=a0.fcap.2;have k9:=a0.cap.1;have a7:=a0.cap.2;have g4:fc<=9223372036854775807:=by unfold maxLen at a5;omega
 have g2:cap<=9223372036854775807:=by unfold maxLen at a7;omega
 obtain⟨wA,a8⟩:=Nm (w.alloc (.cells #[.int .i64 (k:Int),.int .i64 (st0 d:Int),.slice (some ⟨fb,fo,none⟩) n fc,.slice (some ⟨b,off,none⟩) n cap] 30));have h9:wA.heap[w.heap.size]?=some (.cells #[.int .i64 (k:Int),.int .i64 (st0 d:Int),.slice (some ⟨fb,fo,none⟩) n fc,.slice (some ⟨b,off,none⟩) n cap] 30 (0,0)):=by rw[a8];exact heap_alloc_new w _
 have b9:w.grownBy wA none:=by rw[a8];exact Ga w _ none
 have f8:wA.heap.size=w.heap.size+1:=by rw[a8,zL]
 obtain⟨c0,c1,c2,c3⟩:=zE h9;obtain⟨P,hP⟩:=Nm w.heap.size;have f2:=Kh hP;rw[<-hP]at h9 c0 c1 c2 c3 f8 hB;obtain⟨c9,j1,i5⟩:=K3 h9 b9 a8;have f7:=Kh (a0.kept b9 (by simp));have HN:=Kh hn;have HD:=Kh hd;unfold dAgg;clear h9 b9 a8 a0 hn hd h a5 a7;go_enter Tryz.func90,Tryz.ntmps90;go_upto_region 1 with fail;rw[<-i5.out,<-f2.out];clear hP;go_wp2_with (first|(at_make;refine kW rfl _ _ _ rfl yP rfl .i64 .i64 _ _ n rfl rfl rfl rfl ?b1 ?b2 ?_)|fail)
 case b1=>omega
 case b2=>unfold maxLen;omega
 intro w2 h0 e4 g8;have d4:=Kh h0;have f5:=Kh e4;clear h0 e4;obtain⟨g,hg⟩:=Nm (P+1);have l2:=Kh hg;rw[<-hg]at d4⊢;have e2:P<g:=by omega
 clear hg;go_wp2
 go_loopg [4,15] n (fun gh a6 i wr=>∃q:Nat,gh+q=n/\i=.int .i64 q/\Arr wr g 3 (nats (uT (finN d) q))/\wA.grownBy wr none)
 case atStart=>exact⟨0,rfl,rfl,by rw[nM,cE,HN.out,xJ];exact d4.out,f5.out⟩
 clear d4 f5;obtain⟨q,hg,rfl,h0,h3⟩:=hrel;obtain⟨HG,HA,H1⟩:=K3 hg h0 h3;have e6:(finN d).length=n:=by rw[cE,HN.out]
 have j6:=h3.size;obtain⟨d0,d1,d2,d3⟩:=zE (zB c9.out h3);clear hg c0 c1 c2 c3;by_cases hq:q<n
 ·have g0:(q:Int)<n:=by omega
  have cf:=(f7.out.kept h3 (by simp)).fin hq;have cgk:=h0.nat q (by rw[xZ (by omega)];omega);have fgk:=h0.frozen q;have e5:=qXB (d:=d) (q:=q) (by rw[HN.out];exact hq);have b8:=Kh e5;clear e5 h0 h3;cases hb:d.final.getD q false with
  | false =>
   rw[hb]at cf b8;go_wp2;go_roundg (n-(q+1))
   case measure=>have:=HG.out;omega
   exact⟨q+1,by omega,by go_num,by rw[qHX (by omega) b8.out];exact HA.out,H1.out⟩
  | true =>
   rw[hb]at cf b8;have HS:Hid ((uT (finN d) q).set q 1=uT (finN d) (q+1)):=Kh (by have:=lU (l:=finN d) (k:=q) (by omega);rw[b8.out]at this;exact this);go_wp2;go_roundg (n-(q+1))
   case measure=>have:=HG.out;omega
   refine⟨q+1,by omega,by go_num,?_,zA H1.out (zD wr ⟨g,q,none⟩ _) (fun q e=>by have h7:g=q:=Oj e;omega)⟩;rw[<-HS.out];exact HA.out.nat_set q (by rw[xZ (by omega)];omega) 1
 have H5:q=n:=by have:=HG.out;omega
 have HE:Hid (uT (finN d) q=finN d):=Kh (by rw[H5,<-e6];exact lV _);rw[HE.out]at HA;have j9:Hid (q=n):=Kh H5
 have a9:=Kh (aY (g+1) wr (.slice (some ⟨g,0,none⟩) n n) (d.final.map finB) HA.out.lt (by
  rw[<-qSH]
  exact jQ HA.out.row e6 (by omega)) (qXC d) (by rw[List.length_map,HN.out];omega))
 clear H5 h0 h3 d0 d1 d2 d3;go_wp2_with fail;refine a9.out.mono ?_;rintro e w3 ⟨g3,rfl,i4,c6,a3⟩;have d6:numb (d.final.map finB)=jX d:=rfl;rw[d6]at c6⊢;have H2:(jX d).length=n:=by rw[mM,HN.out]
 rw[H2];have f0:=Kh c6.row;have f4:=Kh (zC H1.out a3);have a4:P<g3:=(by omega);clear c6 a3 a9 d6 H2 i4;go_wp2
 go_loopg [3] n (fun gh v3 wr=>∃(m g:Nat),gh+m=n/\m<cls (yY d k m)/\v3=.slice (some ⟨g,0,none⟩) n n/\P<g/\uQ wr g 0 (nats (yY d k m))/\wA.grownBy wr none)
 case atStart=>exact⟨0,g3,rfl,qCJ (by rw[yZ,HN.out];omega),rfl,a4,f0.out,f4.out⟩
 clear f0 f4 a4 HA H1 HG;obtain⟨m,g,hg,d9,rfl,e2,b5,h3⟩:=hrel;have HG:=Kh hg;have i9:=Kh d9;have H2:=yZ d k m;rw[HN.out]at H2;have b6:=tJ d k m;obtain⟨p,hp⟩:=Nm (yY d k m);have HP:=Kh hp;rw[<-hp]at H2 b6 b5;have H6:=mQ b6;rw[H2]at H6;obtain⟨wo,rfl⟩:=Nm (wr:World);obtain⟨b7,H1,f1,h5,c7⟩:=K5 b5 h3 b6 H2 H6;have i3:=b5.1;clear hg d9 hp b5 h3 b6 H2 H6;go_wp2
 go_loopg [5,6] k (fun gh v5 i wr=>∃(a g5:Nat),gh+a=k/\i=.int .i64 a/\v5=.slice (some ⟨g5,0,none⟩) n n/\P<g5/\uQ wr g5 0 (nats (uZ d p a))/\wo.grownBy wr none)
 case atStart=>exact⟨0,g,rfl,rfl,rfl,e2,b7.out,zH _ _⟩
 obtain⟨a,g5,hg,rfl,rfl,c4,H4,h8⟩:=hrel;have b3:=Kh hg;obtain⟨wq,rfl⟩:=Nm (wr:World);have H0:=Kh H4;have h4:=Kh h8;have e1:=H4.1;have j8:=h8.size;obtain⟨d0,d1,d2,d3⟩:=zE (zB c9.out (zC H1.out h8));clear hg H4 h8;by_cases ha:a<k
 ·have l0:(a:Int)<k:=by omega
  go_wp2
  go_loopg [7,38] n (fun gh ov i wr=>∃(q:Nat) (sa:Option Addr) (sc:Nat),gh+q=n/\i=.int .i64 q/\ov=.slice sa q sc/\wr.ownsRow wq.heap.size 3 1 (.slice sa q sc) q (nats ((lB d p a).take q))/\wq.grownBy wr none)
  case atStart=>exact⟨0,none,0,rfl,rfl,rfl,by simpa [nats] using World.ownsRow_nil _ _ _ _,zH _ _⟩
  obtain⟨q,sa,sc,hg,rfl,rfl,a1,h3⟩:=hrel;obtain⟨f3,h6,H9⟩:=K3 hg a1 h3;clear hg a1 d0 d1 d2 d3;by_cases hq:q<n
  ·have g0:(q:Int)<n:=by omega
   have H7:=zC (zC H1.out h4.out) h3;obtain⟨d0,d1,d2,d3⟩:=zE (zB c9.out H7);have hA:=f7.out.kept H7 (by simp);have ch:=hA.hd q hq;have ce:=hA.el q a hq ha;have d5:=hA.rcap q hq;have d7:=mP HD.out hq ha;have cp:=(b7.out.kept (zC h4.out h3) (by simp)).nat (nx d q a) (by rw[h5.out];exact d7);rw[Nat.zero_add]at cp;have c8:Hid ((lB d p a).take (q+1)=(lB d p a).take q++[p.getD (nx d q a) 0]):=Kh (qNS (by rw[h5.out];exact hq));obtain⟨s,hs⟩:=Nm (nx d q a);rw[<-hs]at ce d7 cp c8;obtain⟨c,hc⟩:=Nm (p.getD s 0);rw[<-hc]at cp c8;have i2:=h3.size;have f9:=d5.1;have g1:(s:Int)<n:=(by omega);clear H7 hA hs hc h3 d5;go_wp2_with (first|(at_builtin;refine app1 rfl _ _ _ rfl yP wq.heap.size _ q (nats ((lB d p a).take q)) rfl h6.out _ rfl rfl ?c1 ?c2 ?c3 ?_)|fail)
   case c1=>unfold maxLen;omega
   case c2=>omega
   case c3=>exact i2
   intro sa' sc' w6 H3 e3 g6;have i8:=Kh H3;have j3:=Kh e3;clear H3 e3;go_wp2;go_roundg (n-(q+1))
   case measure=>have:=f3.out;omega
   refine⟨q+1,sa',sc',by omega,by go_num,rfl,?_,zA H9.out j3.out (fun q e=>(h6.out.lt q e).1)⟩;rw[c8.out,uE];exact i8.out
  have H5:q=n:=by have:=f3.out;omega
  have e7:(lB d p a).length=n:=by rw[rW,h5.out]
  have i6:Hid ((lB d p a).take q=lB d p a):=Kh (by rw[H5,<-e7];exact List.take_length);have l1:=Kh H5;rw[i6.out]at h6;obtain⟨kb,rfl,i1,i0,h0⟩:=yH h6.out (by omega);have k3:=(h6.out.lt kb rfl).1;have b4:=xD d p a
  have f6:=Kh (qXW (g5+1) wr.heap.size wr (.slice (some ⟨g5,0,none⟩) n n) (.slice (some ⟨kb,0,none⟩) q sc) (uZ d p a) (lB d p a) (by have:=h3.size;omega) (Nat.le_refl _)
   (jQ (H0.out.kept h3 (by simp)) (by rw[b4,h5.out]) (by omega)) (Row.of_owns h6.out) (by rw[e7,b4,h5.out]) (by rw[b4,h5.out];omega)
   (fun c hc=>by have:=qUW f1.out a c hc;rw[h5.out]at this;omega) (fun c hc=>by have:=qXL c7.out (by omega) c hc;omega) (by rw[b4,h5.out];omega))
  clear H5 h0;go_wp2_with fail;refine f6.out.mono ?_;rintro e w7 ⟨g7,rfl,k7,c5,a2⟩;have e8:qCM (uZ d p a) (lB d p a)=uZ d p (a+1):=rfl;rw[e8]at c5⊢;have e0:(uZ d p (a+1)).length=n:=by rw[xD,h5.out]
  rw[e0];have i7:=Kh c5.row;have j2:=Kh (zC (zC h4.out H9.out) a2);have j7:=H9.out.size;clear c5 a2 f6 e8 e0;go_wp2;go_roundg (k-(a+1))
  case measure=>have:=b3.out;omega
  exact⟨a+1,g7,by omega,by go_num,rfl,by omega,i7.out,j2.out⟩
 have e9:a=k:=by have:=b3.out;omega
 have j5:Hid (uZ d p a=uZ d p k):=Kh (by rw[e9]);rw[j5.out]at H0;have g9:(uZ d p k).length=n:=by rw[xD,h5.out]
 have H8:=qLY (g5+1) (g+1) wq (.slice (some ⟨g5,0,none⟩) n n) (.slice (some ⟨g,0,none⟩) n n) ((uZ d p k).map fun(x:Nat)=>(x:Int)) (p.map fun(x:Nat)=>(x:Int))
  (by rw[<-pM];exact jQ H0.out g9 (by omega)) (by rw[<-pM];exact jQ (b7.out.kept h4.out (by simp)) h5.out (by omega))
 rw[qXV]at H8;have H8:=Kh H8;clear e9;by_cases he:uZ d p k=p
 ·rw[decide_eq_true he]at H8
  have j4:Hid (yX d k=p):=Kh (by
   have h1:=HG.out;rw[HP.out];rw[HP.out]at he
   exact oC (by rw[HN.out];omega) he)
  clear he;go_wp2_with fail;refine H8.out.mono ?_;rintro e w8 ⟨rfl,m8,rfl⟩;go_wp2;go_ret;rw[qTS,j4.out];refine⟨g,by rw[h5.out];rfl,by have:=f2.out;omega,(b7.out.kept h4.out (by simp)).kept (zK _ _ none) (by simp),?_⟩;exact zC (zC j1.out (zC H1.out h4.out)) (zK _ _ _)
 rw[decide_eq_false he]at H8
 have b0:Hid (m+1<cls (yY d k (m+1))):=Kh (by
  have h1:=nC HD.out h5.out f1.out he;have h2:=i9.out;rw[<-HP.out]at h2;show m+1<cls (uZ d (yY d k m) k);rw[<-HP.out]
  omega)
 have j0:Hid (yY d k (m+1)=uZ d p k):=Kh (by rw[HP.out];rfl)
 have k2:m+1<n:=by
  have h1:=b0.out;have h2:=fE (yY d k (m+1));rw[yZ,HN.out]at h2;omega
 clear he;go_wp2_with fail;refine H8.out.mono ?_;rintro e w8 ⟨rfl,m8,rfl⟩;go_wp2;go_roundg (n-(m+1))
 case measure=>have:=HG.out;omega
 exact⟨m+1,g5,by omega,b0.out,rfl,c4,by rw[j0.out];exact H0.out.kept (zK _ _ none) (by simp),zC (zC H1.out h4.out) (zK _ _ _)⟩
theorem jB:ElemOk Tryz.prog 46 9 (.string ⟨#[]⟩) 16:=⟨Tryz.underlying46,by kernel_rfl,rfl⟩
def metL (n:Nat)(l:List Nat):List Bool:=(List.range n).map fun q=>decide (q∈l)
theorem qT (n:Nat)(l:List Nat):(metL n l).length=n:=by simp[metL]
theorem qWK {n:Nat}{l:List Nat}{q:Nat}(h:q<n):(metL n l).getD q false=decide (q∈l):=by
 rw[zG (by rw[qT];exact h)];simp[metL]
theorem qKE {n:Nat}{l:List Nat}{q:Nat}:(metL n l).set q true=metL n (l++[q]):=by
 refine List.ext_getElem (by simp[metL]) fun i h1 h2=>?_;rw[List.getElem_set];simp only[metL,List.getElem_map,List.getElem_range,List.mem_append,List.mem_singleton];by_cases e:q=i
 ·subst e;simp
 rw[if_neg e];congr 1;simp[Ne.symm e]
theorem qWJ (n:Nat):metL n []=List.replicate n false:=by
 refine List.ext_getElem (by simp[metL]) fun i h1 h2=>by simp[metL]
def bJ (ws:List ByteArray):Prop:=∀j,j<ws.length->(ws.getD j ⟨#[]⟩).size<=j
def strV (ws:List ByteArray):List Value:=ws.map Value.string
theorem bJ.snoc {ws:List ByteArray}{x:ByteArray}(h:bJ ws)(hx:x.size<=ws.length):bJ (ws++[x]):=by
 intro j hj;rw[List.length_append,List.length_singleton]at hj;by_cases h1:j<ws.length
 ·have:=h j h1
  simpa [List.getD,List.getElem?_append_left h1] using this
 have:j=ws.length:=by omega
 subst this;simpa [List.getD] using hx
theorem qPD (ws:List ByteArray)(x:ByteArray):strV (ws++[x])=strV ws++[.string x]:=by simp[strV]
def xDL (w:World)(l:List Nat)(e:Ending)(w':World):Prop :=
 ∃(sa:Option Addr) (sc:Nat) (v:Value),e=.returned (.tuple #[.slice sa l.length sc,v])/\w'.ownsRow w.heap.size 3 1 (.slice sa l.length sc) l.length (nats l)/\w.grownBy w' none
inductive acc13I (P sa sb sc sd s a1 i0:Nat)(m:List Nat)(ws:List ByteArray)(u X:ByteArray)(F:Nat->Prop)(w5:World)(a0:Act)(l:Array Bool)(a:Act)(w:World):Prop
 | mk (x55:Value) (x56:Value) (x65:Value) (x66:Value) (x67:Value) (x68:Value) (x69:Value) (x4:Value) (x5:Value) (vA:Value) (nA:Nat) (xA:List Value) (vB:Value) (nB:Nat) (xB:List Value) (ls:List (Nat×Obj)) (ha:a=wF a0 [(55,x55),(56,x56),(65,x65),(66,x66),(67,x67),(68,x68),(69,x69),(4,x4),(5,x5)]) (HR:∀j∈[0,1,4,5,6,7,8,9,10,11],l.getD j true=true) (H2:Hid (l.getD 2 true=true->∃g,x55=.slice (some ⟨g,0,none⟩) 1 1/\(g,Obj.cells #[Value.int .i64 (s:Int)] 3 (0,0))∈ls)) (H3n:Hid (l.getD 3 true=false->vA=.slice (some ⟨sa,0,none⟩) m.length sc/\m.length=nA/\xA=nats m)) (H3:Hid (l.getD 3 true=true->∃ra rc,vA=.slice ra (m.length+1) rc/\x56=.slice ra (m.length+1) rc/\nA=m.length+1/\xA=nats m++[Value.int .i64 (s:Int)])) (H12:Hid (l.getD 12 true=true->∃g,x65=.slice (some ⟨g,0,none⟩) 1 1/\(g,Obj.cells #[Value.int .u8 (97+(a1:Int))] 5 (0,0))∈ls)) (H13:Hid (l.getD 13 true=true->x66=.string X)) (H14:Hid (l.getD 14 true=true->x67=.string (u++X))) (H15:Hid (l.getD 15 true=true->∃g,x68=.slice (some ⟨g,0,none⟩) 1 1/\(g,Obj.cells #[Value.string (u++X)] 9 (0,0))∈ls)) (H16n:Hid (l.getD 16 true=false->vB=.slice (some ⟨sb,0,none⟩) m.length sd/\m.length=nB/\xB=strV ws)) (H16:Hid (l.getD 16 true=true->l.getD 3 true=true/\∃ra rc,vB=.slice ra (m.length+1) rc/\x69=.slice ra (m.length+1) rc/\nB=m.length+1/\xB=strV ws++[Value.string (u++X)])) (H17:Hid (l.getD 17 true=true->l.getD 3 true=true/\x4=x56)) (H18:Hid (l.getD 18 true=true->l.getD 16 true=true/\x5=x69)) (HM:(Many w5 F w [⟨P,3,vA,nA,xA,1⟩,⟨P,9,vB,nB,xB,1⟩] ls [(sb,9,strV ws)]))
theorem xAS {P sa sb sc sd s a1 i0:Nat}{m:List Nat}{ws:List ByteArray}{u X:ByteArray}{F:Nat->Prop}{w5:World}{a0:Act}{l:Array Bool}{a:Act}{w:World}(a9:∀W rs ls,Many w5 F W rs ls [(sb,9,strV ws)]->W.cell? ⟨sb,i0,none⟩=some (.string u))(h:acc13I P sa sb sc sd s a1 i0 m ws u X F w5 a0 l a w):vU 99 (fun W=>W.cell? ⟨sb,i0,none⟩=some (.string u)) (fun W=>W.cell? ⟨sb,i0,none⟩=some (.string u)) l w:=by
 obtain⟨x55,x56,x65,x66,x67,x68,x69,x4,x5,vA,nA,xA,vB,nB,xB,ls,ha,HR,H2,h1,H3,h8,h7,h6,h5,h0,h4,h3,h2,HM⟩:=h;exact⟨a9 w _ _ HM,fun _=>a9 w _ _ HM⟩
theorem oE {P sa sb sc sd s a1 i0:Nat}{m:List Nat}{ws:List ByteArray}{u X:ByteArray}{F:Nat->Prop}{w5:World}{a0:Act}{l:Array Bool}{a:Act}{w:World}(h:acc13I P sa sb sc sd s a1 i0 m ws u X F w5 a0 l a w):∀j∈[0,1,4,5,6,7,8,9,10,11],l.getD j true=true:=by
 obtain⟨x55,x56,x65,x66,x67,x68,x69,x4,x5,vA,nA,xA,vB,nB,xB,ls,ha,HR,H2,h1,H3,h8,h7,h6,h5,h0,h4,h3,h2,HM⟩:=h;exact HR
theorem qIV {P sa sb sc sd s a1 i0:Nat}{m:List Nat}{ws:List ByteArray}{u X:ByteArray}{F:Nat->Prop}{w5:World}{v0 v1 v2 v3 v4 v5 v6 v7 v8 v9 f3 f4 f5 f6 f7 f8 f9 e0 e1 e2 e3 e4 e5 e6 e7 e8 e9 d0 d1 d2 d3 d4 d5 d6 d7 d8 d9 c0 c1 c2 c3 c4 c5 c6 c7 c8 c9 b0 b1 b2 b3 b4 b5 b6 b7 b8 b9 a2 a3 a4 a5 a6:Value}{dd:_}{a0:Act}(a9:a0=⟨#[v0,v1,v2,v3,v4,v5,v6,v7,v8,v9,f3,f4,f5,f6,f7,f8,f9,e0,e1,e2,e3,e4,e5,e6,e7,e8,e9,d0,d1,d2,d3,d4,d5,d6,d7,d8,d9,c0,c1,c2,c3,c4,c5,c6,c7,c8,c9,b0,b1,b2,b3,b4,b5,.slice (some ⟨sa,0,none⟩) m.length sc,.int .i64 (s:Int),b6,b7,.slice (some ⟨sb,0,none⟩) m.length sd,.slice (some ⟨sb,0,none⟩) m.length sd,.int .i64 (i0:Int),.pointer (some ⟨sb,i0,none⟩),.string u,.int .i64 (a1:Int),.int .i64 (97+(a1:Int)),.int .u8 (97+(a1:Int)),b8,b9,a2,a3,a4,a5,a6],dd⟩)(f1:m.length<=4194304)(a8:P<=w5.heap.size)(f2:∀(W:World) (g:Nat),W.cell? ⟨g,0,none⟩=some (.int .u8 (97+(a1:Int)))->(convert 73 9 (.slice (some ⟨g,0,none⟩) 1 1)).run Tryz.prog W=.ok (.string X) W)(f0:∀W:World,(Op.stringOp .add u X).run Tryz.prog W=.ok (.string (u++X)) W)(a7:Array Oper)(Q7:Exit->Act->World->Prop):kM (qLI Tryz.prog .any a7 Q7 (acc13I P sa sb sc sd s a1 i0 m ws u X F w5 a0)) 0 (qDQ Tryz.f106 13).toList:=by
 refine⟨?s0,?s1,?s2,?s3,?s4,?s5,?s6,?s7,?s8,?s9,?s10,?s11,?s12,?s13,?s14,?s15,?s16,?s17,?s18,trivial⟩
 case s0 =>
  exact fun l a w h h3=>absurd (oE h 0 (by simp)) (by rw[h3];simp)
 case s1 =>
  exact fun l a w h h3=>absurd (oE h 1 (by simp)) (by rw[h3];simp)
 case s2 =>
  intro l a w h h3 h0 K hK;obtain⟨x55,x56,x65,x66,x67,x68,x69,x4,x5,vA,nA,xA,vB,nB,xB,ls,ha,HR,H2,h5,H3,H4,H1,H0,h9,h4,h8,h7,h6,HM⟩:=h;subst ha;rw[a9];simp only[wF,List.foldl_cons,List.foldl_nil,Act.put,sPa,sPb,sPc];go_simp;refine hK.out _ _ ?_;refine⟨(.slice (some ⟨w.heap.size,0,none⟩) 1 1),x56,x65,x66,x67,x68,x69,x4,x5,vA,nA,xA,vB,nB,xB,((w.heap.size,Obj.cells #[Value.int .i64 (s:Int)] 3 (0,0))::ls),?fa2,fun j hj=>zS (HR j hj),Kh (fun _=>⟨w.heap.size,rfl,List.Mem.head _⟩),(hs7N h5),(hs7P H3),Kh (fun h=>let ⟨g,h1,h2⟩:=H4.out (yS (by decide) h);⟨g,h1,List.Mem.tail _ h2⟩),(hs7P H1),(hs7P H0),Kh (fun h=>let ⟨g,h1,h2⟩:=h9.out (yS (by decide) h);⟨g,h1,List.Mem.tail _ h2⟩),(hs7N h4),(hs7Q h8),(hs7Q h7),(hs7Q h6),HM.alloc (.cells #[Value.int .i64 (s:Int)] 3)⟩
  case fa2=>rw[a9];simp only[wF,List.foldl_cons,List.foldl_nil,Act.put,sPa,sPb,sPc]
 case s3 =>
  intro l a w h h3 h0 K hK;obtain⟨x55,x56,x65,x66,x67,x68,x69,x4,x5,vA,nA,xA,vB,nB,xB,ls,ha,HR,H2,h5,H3,H4,H1,H0,h9,h4,h8,h7,h6,HM⟩:=h;have DH2:=H2.out (yI (h0 ⟨2,.data⟩ (by simp) rfl));obtain⟨g5,rfl,H5⟩:=DH2;obtain⟨rfl,rfl,rfl⟩:=h5.out h3;subst ha;rw[a9];simp only[wF,List.foldl_cons,List.foldl_nil,Act.put,sPa,sPb,sPc];refine lJ (by simp[Region.wanted]) (.tmp 53) (.tmp 55) 22 rfl yP 0 g5 1 rfl HM rfl rfl rfl rfl ?g13 ?g23 ?g33 H5 rfl ?_
  case g13=>show m.length+1<=maxLen;unfold maxLen;omega
  case g23=>show (m.length+1)*8<=140737488355328;omega
  case g33=>exact a8
  intro sa2 sc2 w6 H7 H8;refine hK.out _ _ ?_;refine⟨(.slice (some ⟨g5,0,none⟩) 1 1),(.slice sa2 (m.length+1) sc2),x65,x66,x67,x68,x69,x4,x5,(.slice sa2 (m.length+1) sc2),(m.length+1),(nats m++[Value.int .i64 (s:Int)]),vB,nB,xB,ls,?fa3,fun j hj=>zS (HR j hj),Kh (fun _=>⟨g5,rfl,H5⟩),Kh (fun h=>uK h),Kh (fun _=>⟨sa2,sc2,rfl,rfl,rfl,rfl⟩),(hs7P H4),(hs7P H1),(hs7P H0),(hs7P h9),(hs7N h4),(hs7A h8 h3),(hs7A h7 h3),(hs7Q h6),H7⟩
  case fa3=>rw[a9];simp only[wF,List.foldl_cons,List.foldl_nil,Act.put,sPa,sPb,sPc]
 case s4 =>
  exact fun l a w h h3=>absurd (oE h 4 (by simp)) (by rw[h3];simp)
 case s5 =>
  exact fun l a w h h3=>absurd (oE h 5 (by simp)) (by rw[h3];simp)
 case s6 =>
  exact fun l a w h h3=>absurd (oE h 6 (by simp)) (by rw[h3];simp)
 case s7 =>
  exact fun l a w h h3=>absurd (oE h 7 (by simp)) (by rw[h3];simp)
 case s8 =>
  exact fun l a w h h3=>absurd (oE h 8 (by simp)) (by rw[h3];simp)
 case s9 =>
  exact fun l a w h h3=>absurd (oE h 9 (by simp)) (by rw[h3];simp)
 case s10 =>
  exact fun l a w h h3=>absurd (oE h 10 (by simp)) (by rw[h3];simp)
 case s11 =>
  exact fun l a w h h3=>absurd (oE h 11 (by simp)) (by rw[h3];simp)
 case s12 =>
  intro l a w h h3 h0 K hK;obtain⟨x55,x56,x65,x66,x67,x68,x69,x4,x5,vA,nA,xA,vB,nB,xB,ls,ha,HR,H2,h5,H3,H4,H1,H0,h9,h4,h8,h7,h6,HM⟩:=h;subst ha;rw[a9];simp only[wF,List.foldl_cons,List.foldl_nil,Act.put,sPa,sPb,sPc];go_simp;refine hK.out _ _ ?_;refine⟨x55,x56,(.slice (some ⟨w.heap.size,0,none⟩) 1 1),x66,x67,x68,x69,x4,x5,vA,nA,xA,vB,nB,xB,((w.heap.size,Obj.cells #[Value.int .u8 (97+(a1:Int))] 5 (0,0))::ls),?fa12,fun j hj=>zS (HR j hj),Kh (fun h=>let ⟨g,h1,h2⟩:=H2.out (yS (by decide) h);⟨g,h1,List.Mem.tail _ h2⟩),(hs7N h5),(hs7P H3),Kh (fun _=>⟨w.heap.size,rfl,List.Mem.head _⟩),(hs7P H1),(hs7P H0),Kh (fun h=>let ⟨g,h1,h2⟩:=h9.out (yS (by decide) h);⟨g,h1,List.Mem.tail _ h2⟩),(hs7N h4),(hs7Q h8),(hs7Q h7),(hs7Q h6),HM.alloc (.cells #[Value.int .u8 (97+(a1:Int))] 5)⟩
  case fa12=>rw[a9];simp only[wF,List.foldl_cons,List.foldl_nil,Act.put,sPa,sPb,sPc]
 case s13 =>
  intro l a w h h3 h0 K hK;obtain⟨x55,x56,x65,x66,x67,x68,x69,x4,x5,vA,nA,xA,vB,nB,xB,ls,ha,HR,H2,h5,H3,H4,H1,H0,h9,h4,h8,h7,h6,HM⟩:=h;have DH12:=H4.out (yI (h0 ⟨12,.data⟩ (by simp) rfl));obtain⟨g5,rfl,H5⟩:=DH12;subst ha;rw[a9];simp only[wF,List.foldl_cons,List.foldl_nil,Act.put,sPa,sPb,sPc];have hq:=f2 w g5 (HM.litcell H5);go_simp;refine hK.out _ _ ?_;refine⟨x55,x56,(.slice (some ⟨g5,0,none⟩) 1 1),(.string X),x67,x68,x69,x4,x5,vA,nA,xA,vB,nB,xB,ls,?fa13,fun j hj=>zS (HR j hj),(hs7P H2),(hs7N h5),(hs7P H3),Kh (fun _=>⟨g5,rfl,H5⟩),Kh (fun _=>rfl),(hs7P H0),(hs7P h9),(hs7N h4),(hs7Q h8),(hs7Q h7),(hs7Q h6),HM⟩
  case fa13=>rw[a9];simp only[wF,List.foldl_cons,List.foldl_nil,Act.put,sPa,sPb,sPc]
 case s14 =>
  intro l a w h h3 h0 K hK;obtain⟨x55,x56,x65,x66,x67,x68,x69,x4,x5,vA,nA,xA,vB,nB,xB,ls,ha,HR,H2,h5,H3,H4,H1,H0,h9,h4,h8,h7,h6,HM⟩:=h;have DH13:=H1.out (yI (h0 ⟨13,.data⟩ (by simp) rfl));subst DH13;subst ha;rw[a9];simp only[wF,List.foldl_cons,List.foldl_nil,Act.put,sPa,sPb,sPc];go_simp;refine hK.out _ _ ?_;refine⟨x55,x56,x65,(.string X),(.string (u++X)),x68,x69,x4,x5,vA,nA,xA,vB,nB,xB,ls,?fa14,fun j hj=>zS (HR j hj),(hs7P H2),(hs7N h5),(hs7P H3),(hs7P H4),Kh (fun _=>rfl),Kh (fun _=>rfl),(hs7P h9),(hs7N h4),(hs7Q h8),(hs7Q h7),(hs7Q h6),HM⟩
  case fa14=>rw[a9];simp only[wF,List.foldl_cons,List.foldl_nil,Act.put,sPa,sPb,sPc]
 case s15 =>
  intro l a w h h3 h0 K hK;obtain⟨x55,x56,x65,x66,x67,x68,x69,x4,x5,vA,nA,xA,vB,nB,xB,ls,ha,HR,H2,h5,H3,H4,H1,H0,h9,h4,h8,h7,h6,HM⟩:=h;have DH14:=H0.out (yI (h0 ⟨14,.data⟩ (by simp) rfl));subst DH14;subst ha;rw[a9];simp only[wF,List.foldl_cons,List.foldl_nil,Act.put,sPa,sPb,sPc];go_simp;refine hK.out _ _ ?_;refine⟨x55,x56,x65,x66,(.string (u++X)),(.slice (some ⟨w.heap.size,0,none⟩) 1 1),x69,x4,x5,vA,nA,xA,vB,nB,xB,((w.heap.size,Obj.cells #[Value.string (u++X)] 9 (0,0))::ls),?fa15,fun j hj=>zS (HR j hj),Kh (fun h=>let ⟨g,h1,h2⟩:=H2.out (yS (by decide) h);⟨g,h1,List.Mem.tail _ h2⟩),(hs7N h5),(hs7P H3),Kh (fun h=>let ⟨g,h1,h2⟩:=H4.out (yS (by decide) h);⟨g,h1,List.Mem.tail _ h2⟩),(hs7P H1),Kh (fun _=>rfl),Kh (fun _=>⟨w.heap.size,rfl,List.Mem.head _⟩),(hs7N h4),(hs7Q h8),(hs7Q h7),(hs7Q h6),HM.alloc (.cells #[Value.string (u++X)] 9)⟩
  case fa15=>rw[a9];simp only[wF,List.foldl_cons,List.foldl_nil,Act.put,sPa,sPb,sPc]
 case s16 =>
  intro l a w h h3 h0 K hK;obtain⟨x55,x56,x65,x66,x67,x68,x69,x4,x5,vA,nA,xA,vB,nB,xB,ls,ha,HR,H2,h5,H3,H4,H1,H0,h9,h4,h8,h7,h6,HM⟩:=h;have DH15:=h9.out (yI (h0 ⟨15,.data⟩ (by simp) rfl));obtain⟨g5,rfl,H5⟩:=DH15;obtain⟨rfl,rfl,rfl⟩:=h4.out h3;have g0:=yI (h0 ⟨3,.chain⟩ (by simp) rfl);subst ha;rw[a9];simp only[wF,List.foldl_cons,List.foldl_nil,Act.put,sPa,sPb,sPc];refine lJ (by simp[Region.wanted]) (.tmp 57) (.tmp 68) 46 rfl jB 1 g5 1 rfl HM rfl rfl rfl rfl ?g116 ?g216 ?g316 H5 rfl ?_
  case g116=>show m.length+1<=maxLen;unfold maxLen;omega
  case g216=>show (m.length+1)*16<=140737488355328;omega
  case g316=>exact a8
  intro sa2 sc2 w6 H7 H8;refine hK.out _ _ ?_;refine⟨x55,x56,x65,x66,x67,(.slice (some ⟨g5,0,none⟩) 1 1),(.slice sa2 (m.length+1) sc2),x4,x5,vA,nA,xA,(.slice sa2 (m.length+1) sc2),(m.length+1),(strV ws++[Value.string (u++X)]),ls,?fa16,fun j hj=>zS (HR j hj),(hs7P H2),(hs7N h5),(hs7P H3),(hs7P H4),(hs7P H1),(hs7P H0),Kh (fun _=>⟨g5,rfl,H5⟩),Kh (fun h=>uK h),Kh (fun _=>⟨zS g0,sa2,sc2,rfl,rfl,rfl,rfl⟩),(hs7Q h7),(hs7A h6 h3),H7⟩
  case fa16=>rw[a9];simp only[wF,List.foldl_cons,List.foldl_nil,Act.put,sPa,sPb,sPc]
 case s17 =>
  intro l a w h h3 h0 K hK;obtain⟨x55,x56,x65,x66,x67,x68,x69,x4,x5,vA,nA,xA,vB,nB,xB,ls,ha,HR,H2,h5,H3,H4,H1,H0,h9,h4,h8,h7,h6,HM⟩:=h;have DH3:=H3.out (yI (h0 ⟨3,.data⟩ (by simp) rfl));obtain⟨ra,rc,rfl,rfl,rfl,rfl⟩:=DH3;have H6:=yI (h0 ⟨3,.data⟩ (by simp) rfl);subst ha;rw[a9];simp only[wF,List.foldl_cons,List.foldl_nil,Act.put,sPa,sPb,sPc];go_simp;refine hK.out _ _ ?_;refine⟨x55,(.slice ra (m.length+1) rc),x65,x66,x67,x68,x69,(.slice ra (m.length+1) rc),x5,(.slice ra (m.length+1) rc),(m.length+1),(nats m++[Value.int .i64 (s:Int)]),vB,nB,xB,ls,?fa17,fun j hj=>zS (HR j hj),(hs7P H2),Kh (fun h=>absurd (zS H6) (by rw[h];simp)),Kh (fun _=>⟨ra,rc,rfl,rfl,rfl,rfl⟩),(hs7P H4),(hs7P H1),(hs7P H0),(hs7P h9),(hs7N h4),(hs7Q h8),Kh (fun _=>⟨zS H6,rfl⟩),(hs7Q h6),HM⟩
  case fa17=>rw[a9];simp only[wF,List.foldl_cons,List.foldl_nil,Act.put,sPa,sPb,sPc]
 intro l a w h h3 h0 K hK;obtain⟨x55,x56,x65,x66,x67,x68,x69,x4,x5,vA,nA,xA,vB,nB,xB,ls,ha,HR,H2,h5,H3,H4,H1,H0,h9,h4,h8,h7,h6,HM⟩:=h;have DH16:=h8.out (yI (h0 ⟨16,.data⟩ (by simp) rfl));obtain⟨H9,ra,rc,rfl,rfl,rfl,rfl⟩:=DH16;have H6:=yI (h0 ⟨16,.data⟩ (by simp) rfl);subst ha;rw[a9];simp only[wF,List.foldl_cons,List.foldl_nil,Act.put,sPa,sPb,sPc];go_simp;refine hK.out _ _ ?_;refine⟨x55,x56,x65,x66,x67,x68,(.slice ra (m.length+1) rc),x4,(.slice ra (m.length+1) rc),vA,nA,xA,(.slice ra (m.length+1) rc),(m.length+1),(strV ws++[Value.string (u++X)]),ls,?fa18,fun j hj=>zS (HR j hj),(hs7P H2),(hs7N h5),(hs7P H3),(hs7P H4),(hs7P H1),(hs7P H0),(hs7P h9),Kh (fun h=>absurd (zS H6) (by rw[h];simp)),Kh (fun _=>⟨zS H9,ra,rc,rfl,rfl,rfl,rfl⟩),(hs7Q h7),Kh (fun _=>⟨zS H6,rfl⟩),HM⟩
 case fa18=>rw[a9];simp only[wF,List.foldl_cons,List.foldl_nil,Act.put,sPa,sPb,sPc]
theorem qOG (B:Nat)(w:World)(v:Value)(d:DfaV)(n k:Nat)(hB:B<=w.heap.size)(h:tM B w v d)(hd:VD d n k):Calls Tryz.prog 106 #[v] w (xDL w (yB d k)):=by
 obtain⟨fb,fo,fc,b,off,cap,RB,RO,RC,rfl,b6⟩:=h.at hd;have hn:=hd.hn;have n3:=hd.n1;have g2:=hd.nbig;have n7:=hd.k6;have n8:=hd.k1;have o3:=b6.fcap.1;have c9:=b6.fcap.2;have o4:=b6.cap.1;have d4:=b6.cap.2;have k4:fc<=9223372036854775807:=by unfold maxLen at c9;omega
 have k3:cap<=9223372036854775807:=by unfold maxLen at d4;omega
 obtain⟨S,hS⟩:=Nm (st0 d);have i0:S<n:=by rw[hS];exact oJ hd
 have i3:=Kh hS;rw[<-hS];obtain⟨wA,d5⟩:=Nm (w.alloc (.cells #[.int .i64 (k:Int),.int .i64 (S:Int),.slice (some ⟨fb,fo,none⟩) n fc,.slice (some ⟨b,off,none⟩) n cap] 30));have a1:wA.heap[w.heap.size]?=some (.cells #[.int .i64 (k:Int),.int .i64 (S:Int),.slice (some ⟨fb,fo,none⟩) n fc,.slice (some ⟨b,off,none⟩) n cap] 30 (0,0)):=by rw[d5];exact heap_alloc_new w _
 have e8:w.grownBy wA none:=by rw[d5];exact Ga w _ none
 have b5:wA.heap.size=w.heap.size+1:=by rw[d5,zL]
 obtain⟨c0,c1,c2,c3⟩:=zE a1;obtain⟨P,hP⟩:=Nm w.heap.size;have i4:=Kh hP;rw[<-hP]at a1 c0 c1 c2 c3 b5 hB;obtain⟨e5,l7,l3⟩:=K3 a1 e8 d5;have m0:=Kh (b6.kept e8 (by simp));have HN:=Kh hn;have HD:=Kh hd;unfold dAgg;clear a1 e8 d5 b6 hn hd h c9 d4 hS;go_enter Tryz.func106,Tryz.ntmps106;go_upto_region 1 with fail;rw[<-l3.out,<-i4.out];clear hP;obtain⟨wB,b7⟩:=Nm ((wA.alloc (.cells #[.int .i64 (S:Int)] 3)).alloc (.cells #[.string ⟨#[]⟩] 9))
 have a7:wB.ownsRow (P+1) 3 1 (.slice (some ⟨P+1,0,none⟩) 1 1) 1 (nats [S]):=by
  rw[b7];have:=yU (World.ownsRow_lit wA #[.int .i64 (S:Int)] 1 (e:=3) (size:=1) (Nat.le_refl _) (by unfold maxLen;omega) (by simp)) (Nat.le_of_eq b5.symm);rw[b5]at this;exact this.alloc _
 have a6:wB.ownsRow (P+1) 9 1 (.slice (some ⟨P+1+1,0,none⟩) 1 1) 1 (strV [⟨#[]⟩]):=by
  rw[b7];have:=yU (World.ownsRow_lit (wA.alloc (.cells #[.int .i64 (S:Int)] 3)) #[.string ⟨#[]⟩] 1 (e:=9) (size:=1) (Nat.le_refl _) (by unfold maxLen;omega) (by simp)) (base':=P+1) (by rw[zL,b5];omega);rw[zL,b5]at this;exact this
 have g3:wA.grownBy wB none:=by rw[b7];exact vC (Ga wA _ none) _
 obtain⟨l2,i6,i5,f8⟩:=K4 b7 a7 a6 g3;have j5:wB.heap.size=P+1+1+1:=by rw[b7,zL,zL,b5]
 clear b7 a7 a6 g3;go_upto_region 2 with fail;rw[<-l2.out];obtain⟨d0,d1,d2,d3⟩:=zE (zB e5.out f8.out);go_upto_region 3 with (first|(at_make;refine kW rfl _ _ _ rfl xL rfl .i64 .i64 _ _ n rfl rfl rfl rfl ?b1 ?b2 ?_;(case b1=>omega);(case b2=>(unfold maxLen;omega));intro w2 h0 e2 e7)|fail);clear d0 d1 d2 d3;obtain⟨d0,d1,d2,d3⟩:=zE (zB e5.out (zC f8.out e2));obtain⟨G,hG⟩:=Nm (P+1+1+1);have i1:wB.heap.size=G:=by omega
 rw[i1]at h0;rw[<-hG];have o8:P+2<G:=by omega
 clear hG j5 e7;rw[<-nQ,<-qWJ]at h0;have fS:=h0.frozen S;have cS:=h0.bool S (by rw[qT];exact i0);have e9:=h0.bool_set S (by rw[qT];exact i0) true;rw[qKE,List.nil_append]at e9;have e1:wB.grownBy (w2.setCell ⟨G,S,none⟩ (.bool true)) none:=zA e2 (zD w2 ⟨G,S,none⟩ _) (fun q e=>by have h7:G=q:=Oj e;have:=e2.size;omega);have k2:G≠P+1:=by omega
 have k0:G≠P+1+1:=by omega
 have d6:AccI d n k 0 [S]:=by have:=AccI.start HD.out;rw[<-i3.out]at this;exact this
 have c7:qA d k (n-0) 0 [S]=yB d k:=by rw[yB,HN.out,<-i3.out];rfl
 obtain⟨h6,d8,j1⟩:=K3 d6 c7 e9;have i9:=Kh (zC f8.out e1);have i7:=Kh (zX i6.out e1 (by simp));have i2:=Kh (zX i5.out e1 (by simp));have H1:Hid (bJ [⟨#[]⟩]):=Kh (fun j hj=>by simp at hj;subst hj;simp[List.getD];rfl);clear h0 e2 e9 e1 d6 c7 i1;have k9:(S:Int)<n:=by omega
 go_wp2;clear d0 d1 d2 d3 fS cS c0 c1 c2 c3
 go_loopg [4,5,7] n (fun gh v4 v5 i wr=>∃(i':Nat) (l:List Nat) (ws:List ByteArray) (sa sb:Nat) (sc sd:Nat),gh+i'=n/\i=.int .i64 i'/\v4=.slice (some ⟨sa,0,none⟩) l.length sc/\v5=.slice (some ⟨sb,0,none⟩) l.length sd /\
  wr.ownsRow (P+1) 3 1 (.slice (some ⟨sa,0,none⟩) l.length sc) l.length (nats l)/\wr.ownsRow (P+1) 9 1 (.slice (some ⟨sb,0,none⟩) l.length sd) l.length (strV ws)/\Arr wr G 4 (bls (metL n l))/\AccI d n k i' l/\qA d k (n-i') i' l=yB d k/\i'<=l.length/\bJ ws/\wA.grownBy wr none)
 case atStart=>exact⟨0,[S],[⟨#[]⟩],P+1,P+1+1,1,1,rfl,rfl,rfl,rfl,i7.out,i2.out,j1.out,h6.out,d8.out,by simp,H1.out,i9.out⟩
 clear i7 i2 j1 h6 d8 H1 i9 i6 i5;obtain⟨i',l,ws,sa,sb,sc,sd,hg,rfl,rfl,rfl,h2,h3,h0,a4,c7,o0,H9,H6⟩:=hrel;have n6:=lO a4.nd a4.lt;obtain⟨HG,HO,HW,HA,h6,d8⟩:=K6 hg h2 h3 h0 a4 c7;have H1:=Kh H9;have H8:=Kh H6;clear hg h2 h3 h0 a4 c7 H9 H6;by_cases hi:i'<l.length
 ·have o1:(i':Int)<l.length:=by omega
  have n9:i'<n:=(by omega);have a9:l.getD i' 0<n:=h6.out.lt _ (by rw[zG hi];exact List.getElem_mem _);obtain⟨q0,a8⟩:=Nm (l.getD i' 0);rw[<-a8]at a9;have f1:=Kh a8;clear a8;go_wp2
  go_loopg [4,5,8] k (fun gh v4 v5 i wr=>∃(a:Nat) (m:List Nat) (ws:List ByteArray) (sa sb:Nat) (sc sd:Nat),gh+a=k/\i=.int .i64 a/\m=vG d l i' a/\v4=.slice (some ⟨sa,0,none⟩) m.length sc/\v5=.slice (some ⟨sb,0,none⟩) m.length sd /\
   wr.ownsRow (P+1) 3 1 (.slice (some ⟨sa,0,none⟩) m.length sc) m.length (nats m)/\wr.ownsRow (P+1) 9 1 (.slice (some ⟨sb,0,none⟩) m.length sd) m.length (strV ws)/\Arr wr G 4 (bls (metL n m))/\bJ ws/\wA.grownBy wr none)
  case atStart=>exact⟨0,l,ws,sa,sb,sc,sd,rfl,rfl,rfl,rfl,rfl,HO.out,HW.out,HA.out,H1.out,H8.out⟩
  clear HO HW HA H1 H8;obtain⟨a,m,ws,sa,sb,sc,sd,hg,rfl,hm,rfl,rfl,h2,h3,h0,H9,H6⟩:=hrel;have b4:=Kh hg;have HM:=Kh hm;have H0:=tL d l i' a;rw[<-hm]at H0;have n5:=H0.length_le;clear hg hm;by_cases ha:a<k
  ·have o6:(a:Int)<k:=by omega
   have b0:m.Nodup:=by rw[HM.out];exact lG h6.out.nd i' a
   have b3:∀q∈m,q<n:=by
    intro q hq;rw[HM.out]at hq;rcases sI.1 hq with hq|⟨b,hb,rfl⟩
    ·exact h6.out.lt q hq
    rw[<-f1.out];exact mP HD.out a9 (by omega)
   have n4:=lO b0 b3;have H7:=m0.out.kept H6 (by simp);obtain⟨d0,d1,d2,d3⟩:=zE (zB e5.out H6);have cq:=(Arr.of_owns h2).nat i' (by omega);rw[qV H0 hi,<-f1.out]at cq;have ch:=H7.hd q0 a9;have ce:=H7.el q0 a a9 ha;have n2:=(H7.rcap q0 a9).1;have b9:=(H7.rcap q0 a9).2;have hs:=mP HD.out a9 ha;obtain⟨s,e6⟩:=Nm (nx d q0 a);rw[<-e6]at ce hs;have n0:(s:Int)<n:=(by omega);have j9:(q0:Int)<n:=(by omega);have j7:RC q0<=9223372036854775807:=by unfold maxLen at b9;omega
   have cm:=h0.bool s (by rw[qT];exact hs);rw[qWK hs]at cm;have d7:Hid (vG d l i' (a+1)=xV m s):=Kh (by rw[vG,<-f1.out,<-e6,<-HM.out]);clear e6 b9 H7;by_cases hin2:s∈m
   ·rw[decide_eq_true hin2]at cm
    have f4:Hid (m=vG d l i' (a+1)):=Kh (by rw[d7.out,tK hin2]);obtain⟨HO,HW,HA,H1,H8⟩:=K5 h2 h3 h0 H9 H6;clear hin2 h2 h3 h0 H9 H6 b0 b3 H0;go_wp2
    go_quiet (fail)
    go_wp2;go_roundg (k-(a+1))
    case measure=>have:=b4.out;omega
    have o2:=zK wr 1 none;exact⟨a+1,m,ws,sa,sb,sc,sd,by omega,by go_num,f4.out,rfl,rfl,zX HO.out (zK wr _ none) (by simp),zX HW.out (zK wr _ none) (by simp),HA.out.kept (zK wr _ none) (by simp),H1.out,zC H8.out (zK wr _ _)⟩
   rw[decide_eq_false hin2]at cm;have f4:Hid (m++[s]=vG d l i' (a+1)):=Kh (by rw[d7.out,vK hin2]);obtain⟨o9,H1,H8⟩:=K3 hin2 H9 H6;have fm:wr.frozen? ⟨G,s,none⟩=false:=h0.frozen s;obtain⟨H5,H4,h8⟩:=K3 h2 h3 h0;clear hin2 h2 h3 h0 H9 H6 b0 b3 H0;go_upto_region 10 with fail
   go_quiet (fail)
   go_upto_region 13 with fail;obtain⟨w5,e0⟩:=Nm (((wr.drewN nq).setCell ⟨G,s,none⟩ (.bool true)).drew);have l5:=Kh e0;have c8:wr.grownBy w5 (some G):=by rw[e0];exact wS (zD wr ⟨G,s,none⟩ (.bool true)) rfl rfl rfl rfl
   have e3:Arr w5 G 4 (bls (metL n (m++[s]))):=by
    have h1:=h8.out.bool_set s (by rw[qT];exact hs) true;rw[qKE]at h1;rw[e0];exact h1.of_heap rfl
   have c4:w5.ownsRow (P+1) 3 1 (.slice (some ⟨sa,0,none⟩) m.length sc) m.length (nats m):=H5.out.kept c8 (.inr (by obtain⟨cur,rest,hq,_⟩:=h8.out;exact zO H5.out hq (by decide)));have h9:w5.ownsRow (P+1) 9 1 (.slice (some ⟨sb,0,none⟩) m.length sd) m.length (strV ws):=H4.out.kept c8 (.inr (by obtain⟨cur,rest,hq,_⟩:=h8.out;exact zO H4.out hq (by decide)))
   have c5:∀q,(Value.slice (some ⟨sa,0,none⟩) m.length sc).ownBlock=some q->(Value.slice (some ⟨sb,0,none⟩) m.length sd).ownBlock≠some q:=by
    intro q hq e;have:q=sb:=by simpa [Value.ownBlock] using e.symm
    subst this;obtain⟨cur,rest,j8,_⟩:=Arr.of_owns h9;exact zO c4 j8 (by decide) hq
   have g1:ws.length=m.length:=by have:=h9.1;simpa [strV] using this
   obtain⟨u,hu⟩:=Nm (ws.getD i' ⟨#[]⟩);have m9:u.size<=i':=by rw[hu];exact H1.out i' (by omega)
   obtain⟨F,hF⟩:∃F:Nat->Prop,F=fun q=>(Value.slice (some ⟨sa,0,none⟩) m.length sc).ownBlock=some q\/(Value.slice (some ⟨sb,0,none⟩) m.length sd).ownBlock=some q:=⟨_,rfl⟩;have j0:=Kh hF
   have hM:Many w5 F w5 [⟨P+1,3,.slice (some ⟨sa,0,none⟩) m.length sc,m.length,nats m,1⟩,⟨P+1,9,.slice (some ⟨sb,0,none⟩) m.length sd,m.length,strV ws,1⟩] [] [(sb,9,strV ws)]:=by
    rw[hF];exact((Many.two (r:=⟨P+1,3,.slice (some ⟨sa,0,none⟩) m.length sc,m.length,nats m,1⟩) (s:=⟨P+1,9,.slice (some ⟨sb,0,none⟩) m.length sd,m.length,strV ws,1⟩) c4 h9 c5).see (j:=1) rfl rfl rfl)
   have a5:Hid (∀W rs ls,Many w5 F W rs ls [(sb,9,strV ws)]->W.cell? ⟨sb,i',none⟩=some (.string u)):=Kh (fun W rs ls h=>by
    have:=h.precell (List.Mem.head _) i' (by simp[strV];omega);rw[this,hu,zG (by omega)]
    simp[strV])
   have j6:P+1<=w5.heap.size:=by have:=c8.size;have:=H8.out.size;omega
   obtain⟨l9,m2,l0⟩:=K3 c8 e3 g1;have k8:IntKind.i64.wrap (97+(a:Int))=97+(a:Int):=IntWalk.i64_in _ (by omega);have o5:IntKind.u8.wrap (97+(a:Int))=97+(a:Int):=IntWalk.u8_in _ (by omega);obtain⟨X,hX⟩:=Nm (strOfNums [97+(a:Int)]);have o7:X.size=1:=by rw[hX];rfl
   have g5:∀(W:World) (g:Nat),W.cell? ⟨g,0,none⟩=some (.int .u8 (97+(a:Int)))->(convert 73 9 (.slice (some ⟨g,0,none⟩) 1 1)).run Tryz.prog W=.ok (.string X) W:=fun W g h=>by rw[hX];exact mI 73 5 Tryz.underlying73 Tryz.underlying5 9 Tryz.underlying9 h
   have g6:∀W:World,(Op.stringOp .add u X).run Tryz.prog W=.ok (.string (u++X)) W:=fun W=>run_string_add_sum W u X (by omega);have f3:Hid ((Value.slice (some ⟨sa,0,none⟩) m.length sc).ownBlock≠some G):=Kh (by obtain⟨cur,rest,hq,_⟩:=e3;exact zO c4 hq (by decide));have f2:Hid ((Value.slice (some ⟨sb,0,none⟩) m.length sd).ownBlock≠some G):=Kh (by obtain⟨cur,rest,hq,_⟩:=e3;exact zO h9 hq (by decide));have f6:Hid (∀q,(Value.slice (some ⟨sa,0,none⟩) m.length sc).ownBlock=some q->P+1<=q):=Kh (fun q hq=>(c4.lt q hq).1);have f5:Hid (∀q,(Value.slice (some ⟨sb,0,none⟩) m.length sd).ownBlock=some q->P+1<=q):=Kh (fun q hq=>(h9.lt q hq).1);clear hX;clear hF hu e0 c8 e3 c5 c4 h9 g1 cq ch ce cm fm d0 d1 d2 d3 H5 H4 h8;have k7:i'<m.length:=(by omega);have k5:(i':Int)<m.length:=(by omega);have p0:Hid (∀W rs ls,Many w5 F W rs ls [(sb,9,strV ws)]->W.cell? ⟨sb,i',none⟩=some (.string u)/\W.cell? ⟨sb,i',none⟩=some (.string u)):=Kh (fun W rs ls h=>⟨a5.out W rs ls h,a5.out W rs ls h⟩);refine wp_region_noPanic ?_;refine xE (G:=vU 99 (fun W=>W.cell? ⟨sb,i',none⟩=some (.string u)) (fun W=>W.cell? ⟨sb,i',none⟩=some (.string u))) (by kernel_rfl) ?_;rw[<-l5.out];have C:Hid (w5.cell? ⟨sb,i',none⟩=some (.string u)):=Kh (a5.out _ _ _ hM);refine wE 0 ⟨C.out,fun _=>C.out⟩ ?_;refine wE 1 ⟨C.out,fun _=>C.out⟩ ?_;refine wE 4 ⟨C.out,fun _=>C.out⟩ ?_;refine wE 5 ⟨C.out,fun _=>C.out⟩ ?_;refine wE 6 ⟨C.out,fun _=>C.out⟩ ?_;refine wE 7 ⟨C.out,fun _=>C.out⟩ ?_;refine wE 8 ⟨C.out,fun _=>C.out⟩ ?_;refine wE 9 ⟨C.out,fun _=>C.out⟩ ?_;refine wE 10 ⟨C.out,fun _=>C.out⟩ ?_;refine wE 11 ⟨C.out,fun _=>C.out⟩ ?_;refine gP (fun Wp hWp a0 ha0=>?_);subst hWp
   try simp only[Act.put,sPd,sPe,sPf,sPa,sPb,sPc]at ha0
   have m3:=Kh ha0;refine gO (I:=acc13I (P+1) sa sb sc sd s a i' m ws u X F w5 a0) (fun l a w h=>xAS a5.out h) (qIV ha0 (by omega) j6 g5 g6) (by kernel_rfl) ?hend (by decide +kernel) ?hinit
   case hinit =>
    clear ha0;refine⟨a0.tmps.getD 55 undef,a0.tmps.getD 56 undef,a0.tmps.getD 65 undef,a0.tmps.getD 66 undef,a0.tmps.getD 67 undef,a0.tmps.getD 68 undef,a0.tmps.getD 69 undef,a0.tmps.getD 4 undef,a0.tmps.getD 5 undef,.slice (some ⟨sa,0,none⟩) m.length sc,m.length,nats m,.slice (some ⟨sb,0,none⟩) m.length sd,m.length,strV ws,[],(mH (by simp)).symm,by decide +kernel,hs7C,Kh (fun _=>⟨rfl,rfl,rfl⟩),hs7C,hs7C,hs7C,hs7C,hs7C,Kh (fun _=>⟨rfl,rfl,rfl⟩),hs7C,hs7C,hs7C,hM⟩
   clear ha0;intro l1 a2 w6 h a3;obtain⟨x55,x56,x65,x66,x67,x68,x69,x4,x5,vA,nA,xA,vB,nB,xB,ls,ha,HR,H2,m4,H3,m8,m7,m6,m5,g0,j4,j3,j2,HM⟩:=h;obtain⟨r3,c3,rfl,rfl,rfl,rfl⟩:=H3.out (a3 3 (by decide));obtain⟨_,r16,c16,rfl,rfl,rfl,rfl⟩:=j4.out (a3 16 (by decide));obtain⟨_,rfl⟩:=j3.out (a3 17 (by decide));obtain⟨_,rfl⟩:=j2.out (a3 18 (by decide));clear H2 m4 H3 m8 m7 m6 m5 g0 j4 j3 j2 HR;subst ha;rw[m3.out];simp only[wF,List.foldl_cons,List.foldl_nil,Act.put,sPa,sPb,sPc];refine NoPanic.normal ?_
   have g7:∀q,F q->q≠G:=fun q hq=>by
    rw[j0.out]at hq;have h1:=HM.own;rintro rfl;rcases hq with hq|hq
    ·exact f3.out hq
    exact f2.out hq
   have h5:=HM.own 0 _ rfl;have h4:=HM.own 1 _ rfl
   have g4:wA.grownBy w6 none:=GrownBut.grown HM.but (zA H8.out l9.out (fun q e=>by have h7:G=q:=Oj e;omega)) (fun q hq=>by
    rw[j0.out]at hq;rcases hq with hq|hq
    ·exact .inr (by have:=f6.out q hq;omega)
    exact .inr (by have:=f5.out q hq;omega))
   have g9:Arr w6 G 4 (bls (metL n (m++[s]))):=by
    obtain⟨cur,rest,hq,hc⟩:=m2.out;exact⟨cur,rest,HM.but.heap hq (fun hf=>g7 G hf rfl),hc⟩
   have b8:bJ (ws++[u++X]):=H1.out.snoc (by rw[ByteArray.size_append];have:=l0.out;omega);simp only[]at h5 h4;rw[<-uE]at h5;rw[<-qPD]at h4;have c6:(m++[s]).length=m.length+1:=by simp
   obtain⟨ka,rfl,_,_,_⟩:=yH h5 (by omega);obtain⟨kb,rfl,_,_,_⟩:=yH h4 (by omega);obtain⟨l6,l4,l8,m1,f0,e4⟩:=K6 h5 h4 g4 g9 b8 c6;clear HM h5 h4 g4 g9 b8 g7 c6 g5 g6;go_wp2;go_roundg (k-(a+1))
   case measure=>have:=b4.out;omega
   exact⟨a+1,m++[s],ws++[u++X],ka,kb,_,_,by omega,by go_num,f4.out,by rw[e4.out],by rw[e4.out],by rw[e4.out];exact l6.out,by rw[e4.out];exact l4.out,m1.out,f0.out,l8.out⟩
  have g8:a=k:=by have:=b4.out;omega
  have i8:Hid (m=vG d l i' k):=Kh (by rw[HM.out,g8]);have d9:=Kh (h6.out.row HD.out hi)
  have f7:Hid (qA d k (n-(i'+1)) (i'+1) (vG d l i' k)=yB d k):=Kh (by
   have h1:=d8.out;rw[show n-i'=(n-(i'+1))+1 by omega,qA,if_pos hi]at h1
   exact h1)
  obtain⟨HO,HW,HA,H1,H8⟩:=K5 h2 h3 h0 H9 H6;clear g8 h2 h3 h0 H9 H6 H0;obtain⟨d0,d1,d2,d3⟩:=zE (zB e5.out H8.out);go_wp2;go_roundg (n-(i'+1))
  case measure=>have:=HG.out;omega
  exact⟨i'+1,m,ws,sa,sb,sc,sd,by omega,by go_num,rfl,rfl,HO.out,HW.out,HA.out,by rw[i8.out];exact d9.out,by rw[i8.out];exact f7.out,by omega,H1.out,H8.out⟩
 have f9:Hid (yB d k=l):=Kh (by rw[<-d8.out,bI hi]);go_wp2;refine bodyPost_ret (v:=.tuple #[.slice (some ⟨sa,0,none⟩) l.length sc,.slice (some ⟨sb,0,none⟩) l.length sd]) (by simp[results,Tryz.results106,go_sem]) rfl ?_;rw[f9.out];exact⟨_,_,_,rfl,yU HO.out (by have:=i4.out;omega),zC l7.out H8.out⟩
theorem RowT.shape {B:Nat}{e:TypeId}{w:World}{v:Value}{xs:List Value}(h:RowT B e w v xs):∃a cap,v=.slice a xs.length cap:=by
 rcases h with ⟨rfl,rfl⟩|⟨b,off,cap,cur,m,rfl,_⟩
 ·exact⟨none,0,rfl⟩
 exact⟨_,_,rfl⟩
theorem Mat.of_rows {w:World}{base e n:Nat}{v:Value}{hs:List Value}{t:List (List Int)}{B:Nat}(h:w.ownsRow base e 1 v n hs)(hr:wO B 3 ints w hs t)(hB:B<=w.heap.size):Mat w.heap.size w v t:=by
 have hl:hs.length=n:=by have:=h.1;omega
 have h3:=hr.1;rcases h.2 with ⟨rfl,rfl⟩|⟨g,cap,cur,rfl,hb,hg,hnc,hcm,hcs,htake⟩
 ·have:hs=[]:=List.eq_nil_of_length_eq_zero hl
  subst this;exact .inl ⟨_,_,rfl,List.eq_nil_of_length_eq_zero (by simpa using h3.symm)⟩
 have h0:∀x,∃a c,x<t.length->hs.getD x (.int .i64 0)=.slice a (t.getD x []).length c:=by
  intro x;by_cases hx:x<t.length
  ·have h1:=hr.2 x (by omega) hx
   obtain⟨a,c,e⟩:=h1.shape;refine⟨a,c,fun _=>?_⟩;rw[zG (by omega),e,yF,zG hx]
  exact⟨none,0,fun h=>absurd h hx⟩
 obtain⟨A,hA⟩:=Classical.axiomOfChoice h0;obtain⟨C,hC⟩:=Classical.axiomOfChoice hA;refine .inr ⟨g,0,cap,A,C,?_,by omega,hcm,zM hg,zM hg,fun x hx=>?_,fun x hx=>?_⟩
 ·rw[show n=t.length by omega]
 ·rw[Nat.zero_add,h.cellAt x (by omega),List.getElem?_eq_getElem (by omega),<-hC x hx,zG (show x<hs.length by omega)]
 have h1:=hr.2 x (by omega) hx;have h2:=hC x hx;rw[zG (show x<hs.length by omega)]at h2;rw[<-h2,zG hx];exact h1.row.mono hB
theorem RowT.keptF {B:Nat}{e:TypeId}{w w':World}{v:Value}{xs:List Value}{F:Nat->Prop}(h:RowT B e w v xs)(hg:GrownBut w w' F)(hr:∀k,F k->B<=k\/yC w e k):RowT B e w' v xs:=by
 rcases h with h|⟨b,off,cap,cur,m,h1,h2,h3,h4,h5,h6⟩
 ·exact .inl h
 refine .inr ⟨b,off,cap,cur,m,h1,h2,h3,h4,hg.heap h5 (fun hf=>?_),h6⟩;rcases hr b hf with hk|⟨cur',e',m',hk,hne⟩
 ·omega
 rw[h5]at hk;simp at hk;exact hne hk.2.1.symm
theorem wO.keptF {α:Type}{B:Nat}{e:TypeId}{f:α->List Value}{w w':World}{a9:List Value}{ps:List α}{F:Nat->Prop}(h:wO B e f w a9 ps)(hg:GrownBut w w' F)(hr:∀k,F k->B<=k\/yC w e k):wO B e f w' a9 ps :=
 ⟨h.1,fun i h1 h2=>(h.2 i h1 h2).keptF hg hr⟩
theorem vY {w:World}{p e:Nat}{x0 x1 x2 x3:Value}(h:w.heap[p]?=some (.cells #[x0,x1,x2,x3] e (0,0)))(y0 y1 y2 y3:Value):((((w.setCell ⟨p,0,none⟩ y0).setCell ⟨p,1,none⟩ y1).setCell ⟨p,2,none⟩ y2).setCell ⟨p,3,none⟩ y3).heap[p]?=some (.cells #[y0,y1,y2,y3] e (0,0))/\w.grownBy ((((w.setCell ⟨p,0,none⟩ y0).setCell ⟨p,1,none⟩ y1).setCell ⟨p,2,none⟩ y2).setCell ⟨p,3,none⟩ y3) (some p):=by
 have s0:=heap_setCell_same w p 0 _ _ y0 h;have s1:=heap_setCell_same _ p 1 _ _ y1 s0;have s2:=heap_setCell_same _ p 2 _ _ y2 s1;have s3:=heap_setCell_same _ p 3 _ _ y3 s2;refine⟨by rw[s3];simp,?_⟩;exact zC (zC (zC (zD w ⟨p,0,none⟩ y0) (zD (w.setCell ⟨p,0,none⟩ y0) ⟨p,1,none⟩ y1)) (zD ((w.setCell ⟨p,0,none⟩ y0).setCell ⟨p,1,none⟩ y1) ⟨p,2,none⟩ y2)) (zD (((w.setCell ⟨p,0,none⟩ y0).setCell ⟨p,1,none⟩ y1).setCell ⟨p,2,none⟩ y2) ⟨p,3,none⟩ y3)
structure Built (base:Nat)(W:World)(o:Nat)(L S:Int)(fs:List Bool)(t:List (List Int))(hs:List Value)(sf:Option Addr)(cf:Nat)(sn:Option Addr)(cn:Nat):Prop where
 box:W.heap[o]?=some (.cells #[.int .i64 L,.int .i64 S,.slice sf fs.length cf,.slice sn t.length cn] 30 (0,0))
 ownF:W.ownsRow base 4 1 (.slice sf fs.length cf) fs.length (bls fs)
 ownN:W.ownsRow base 22 1 (.slice sn t.length cn) t.length hs
 rows:wO W.heap.size 3 ints W hs t
 len:fs.length=t.length
section
variable {base o:Nat} {W W':World} {L S:Int} {fs:List Bool} {t:List (List Int)} {hs:List Value} {sf sn:Option Addr} {cf cn:Nat}
theorem Built.grow (h:Built base W o L S fs t hs sf cf sn cn)(hg:W.grownBy W' none):Built base W' o L S fs t hs sf cf sn cn where
 box:=zB h.box hg
 ownF:=zX h.ownF hg (by simp)
 ownN:=zX h.ownN hg (by simp)
 rows:=(h.rows.kept hg (by simp)).mono hg.size
 len:=h.len
theorem Built.dfa (h:Built base W o L S fs t hs sf cf sn cn):tM W.heap.size W (.agg #[.int .i64 L,.int .i64 S,.slice sf fs.length cf,.slice sn t.length cn]) ⟨L,S,fs,t⟩ :=
 ⟨_,_,rfl,Row.of_owns h.ownF,Mat.of_rows h.ownN h.rows (Nat.le_refl _)⟩
theorem Built.far {r:Nat}{cs:Array Value}{m:Nat×Nat}(h:Built base W o L S fs t hs sf cf sn cn)(hg:W.grownBy W' (some r))(hr:W.heap[r]?=some (.cells cs 30 m))(a9:r≠o):Built base W' o L S fs t hs sf cf sn cn where
 box:=zB h.box hg (fun e=>a9 (Oj e))
 ownF:=h.ownF.kept hg (.inr (zO h.ownF hr (by decide)))
 ownN:=h.ownN.kept hg (.inr (zO h.ownN hr (by decide)))
 rows:=(h.rows.kept hg (fun k hk=>.inr (by have:=Oj hk;subst this;exact⟨_,_,_,hr,by decide⟩))).mono hg.size
 len:=h.len
theorem Built.congr {a9:List Bool}{t':List (List Int)}(h:Built base W o L S fs t hs sf cf sn cn)(e1:a9=fs)(e2:t'=t):Built base W o L S a9 t' hs sf cf sn cn:=by rw[e1,e2];exact h
def rN (base:Nat)(n:Nat)(hs:List Value)(sn:Option Addr)(cn:Nat):RowS:=⟨base,22,.slice sn n cn,n,hs,1⟩
def rF (base:Nat)(fs:List Bool)(sf:Option Addr)(cf:Nat):RowS:=⟨base,4,.slice sf fs.length cf,fs.length,bls fs,1⟩
theorem Built.apart (h:Built base W o L S fs t hs sf cf sn cn):∀k,(Value.slice sn t.length cn).ownBlock=some k->(Value.slice sf fs.length cf).ownBlock≠some k:=by
 intro k hk e;rcases h.ownF.2 with ⟨hv,_⟩|⟨g,cap,cur,hv,_,hg,_⟩
 ·rw[hv]at e;simp[Value.ownBlock]at e
 rw[hv]at e;have:g=k:=by simpa [Value.ownBlock] using e
 subst this;exact zO h.ownN hg (by decide) hk
def FB (sf:Option Addr)(sn:Option Addr)(k:Nat):Prop:=(Value.slice sn 0 0).ownBlock=some k\/(Value.slice sf 0 0).ownBlock=some k
theorem zR (s:Option Addr)(n c:Nat):(Value.slice s n c).ownBlock=(Value.slice s 0 0).ownBlock:=by cases s<;>rfl
theorem Built.many (h:Built base W o L S fs t hs sf cf sn cn):Many W (FB sf sn) W [rN base t.length hs sn cn,rF base fs sf cf] [] []:=by
 have:=Many.two (w:=W) (r:=rN base t.length hs sn cn) (s:=rF base fs sf cf) h.ownN h.ownF h.apart
 have e:(fun k=>(rN base t.length hs sn cn).v.ownBlock=some k\/(rF base fs sf cf).v.ownBlock=some k)=FB sf sn:=by
  funext k;simp only[rN,rF,FB,zR sn t.length,zR sf fs.length]
 rwa [e]at this
theorem Built.other (h:Built base W o L S fs t hs sf cf sn cn):∀k,FB sf sn k->yC W 3 k:=by
 intro k hk;rcases hk with hk|hk
 ·rw[<-zR sn t.length cn]at hk;exact zZ h.ownN (by decide) k hk
 rw[<-zR sf fs.length cf]at hk;exact zZ h.ownF (by decide) k hk
theorem Built.notbox (h:Built base W o L S fs t hs sf cf sn cn):¬FB sf sn o:=by
 rintro (hk|hk)
 ·rw[<-zR sn t.length cn]at hk;exact zO h.ownN h.box (by decide) hk
 rw[<-zR sf fs.length cf]at hk;exact zO h.ownF h.box (by decide) hk
theorem Built.ge (h:Built base W o L S fs t hs sf cf sn cn):∀k,FB sf sn k->base<=k:=by
 rintro k (hk|hk)
 ·rw[<-zR sn t.length cn]at hk;exact(h.ownN.lt k hk).1
 rw[<-zR sf fs.length cf]at hk;exact(h.ownF.lt k hk).1
theorem Built.push {m:Nat}{b:Bool}{row:List Int}{rv:Value}{a7 a9:Option Addr}{a6 a8:Nat}{ls:List (Nat×Obj)}{ps:List (Nat×TypeId×List Value)}(h:Built base W o L S fs t hs sf cf sn cn)(hm:t.length=m)(hM:Many W (FB sf sn) W' [⟨base,22,.slice a9 (m+1) a8,m+1,hs++[rv],1⟩,⟨base,4,.slice a7 (m+1) a6,m+1,bls fs++[.bool b],1⟩] ls ps)(a5:RowT W.heap.size 3 W rv (ints row)){W2:World}(a4:W2=(W'.setCell ⟨o,3,none⟩ (.slice a9 (m+1) a8)).setCell ⟨o,2,none⟩ (.slice a7 (m+1) a6)):Built base W2 o L S (fs++[b]) (t++[row]) (hs++[rv]) a7 a6 a9 a8/\∀w0:World,w0.grownBy W (some o)->w0.heap.size<=base->w0.grownBy W2 (some o):=by
 have h2:fs.length=m:=h.len.trans hm;have hN:=hM.own 0 _ rfl;have hF:=hM.own 1 _ rfl;simp only[]at hN hF;have h0:=hM.but.heap h.box h.notbox;have h1:=(h.rows.snoc a5).keptF hM.but (fun k hk=>.inr (h.other k hk));have s1:=heap_setCell_same W' o 3 _ _ (.slice a9 (m+1) a8) h0;have s2:=heap_setCell_same _ o 2 _ _ (.slice a7 (m+1) a6) s1;have g1:W'.grownBy W2 (some o):=by rw[a4];exact zC (zD W' ⟨o,3,none⟩ _) (zD (W'.setCell ⟨o,3,none⟩ (.slice a9 (m+1) a8)) ⟨o,2,none⟩ _)
 have h3:yC W' 3 o:=⟨_,_,_,h0,by decide⟩;refine⟨⟨?_,?_,?_,?_,by simp[h.len]⟩,fun w0 hw0 hb=>?_⟩
 ·rw[a4,s2]
  simp[h2,hm]
 ·have:=hF.kept g1 (.inr (zO hF h0 (by decide)))
  rw[List.length_append,h2];simpa [bls] using this
 ·have:=hN.kept g1 (.inr (zO hN h0 (by decide)))
  rw[List.length_append,hm];exact this
 ·exact(h1.kept g1 (fun k hk=>.inr (by have:=Oj hk;subst this;exact h3))).mono (Nat.le_trans hM.but.size g1.size)
 exact zC (hM.but.grown hw0 (fun k hk=>.inr (Nat.le_trans hb (h.ge k hk)))) g1
def sZ (w w':World)(v:Value)(m:DfaV):Prop:=∃(o:Nat) (hs:List Value) (sf:Option Addr) (cf:Nat) (sn:Option Addr) (cn:Nat),
 v=.agg #[.int .i64 m.letters,.int .i64 m.start,.slice sf m.final.length cf,.slice sn m.next.length cn]/\w.heap.size<=o/\Built o w' o m.letters m.start m.final m.next hs sf cf sn cn
theorem sZ.dfa {w w':World}{v:Value}{m:DfaV}(h:sZ w w' v m):tM w'.heap.size w' v m:=by
 obtain⟨o,hs,sf,cf,sn,cn,rfl,_,hb⟩:=h;exact hb.dfa
theorem sZ.grow {w w' a9:World}{v:Value}{m:DfaV}(h:sZ w w' v m)(hg:w'.grownBy a9 none):sZ w a9 v m:=by
 obtain⟨o,hs,sf,cf,sn,cn,h1,h2,hb⟩:=h;exact⟨o,hs,sf,cf,sn,cn,h1,h2,hb.grow hg⟩
theorem sZ.old {w0 w w':World}{v:Value}{m:DfaV}(h:sZ w w' v m)(hg:w0.heap.size<=w.heap.size):sZ w0 w' v m:=by
 obtain⟨o,hs,sf,cf,sn,cn,h1,h2,hb⟩:=h;exact⟨o,hs,sf,cf,sn,cn,h1,Nat.le_trans hg h2,hb⟩
theorem sZ.far {w w' a9:World}{v:Value}{m:DfaV}{r:Nat}{cs:Array Value}{mm:Nat×Nat}(h:sZ w w' v m)(hg:w'.grownBy a9 (some r))(hr:w'.heap[r]?=some (.cells cs 30 mm))(a8:r<w.heap.size):sZ w a9 v m:=by
 obtain⟨o,hs,sf,cf,sn,cn,h1,h2,hb⟩:=h;exact⟨o,hs,sf,cf,sn,cn,h1,h2,hb.far hg hr (by omega)⟩
end
end Go.Proofs.YtcoimliafiammaaGreat
