/- Part 3 of the proof. -/
import Derived.Test.YtjfdomfendbhfaaQg2
import Derived.Deep.RegionHeld3
import Derived.BigQuiet
import Derived.Deep.DeepCutAuto
import Derived.Deep.CutBlock
import Derived.Laws.Concat
set_option linter.unusedVariables false
set_option linter.unusedSimpArgs false
set_option maxRecDepth 100000
set_option maxHeartbeats 16000000
namespace Go.Proofs.Ytjfdomfendbhfaa
open Go.RowKit
def eP (p q:List Nat):List Nat:=List.zipWith (fun a b=>a * (p.length+1)+b) p q
theorem mA {p q:List Nat}(h:q.length=p.length):(eP p q).length=p.length:=by simp[eP,h]
theorem bothN_ints {p q:List Nat}:nats (eP p q)=ints (mV p q):=by
 rw[qM];congr 1;simp only[eP,mV,List.map_zipWith];congr 1
theorem bothN_get {p q:List Nat}(h:q.length=p.length){k:Nat}(hk:k<p.length):(eP p q).getD k 0=p.getD k 0 * (p.length+1)+q.getD k 0:=by
 rw[zG (by rw[mA h];exact hk),zG hk,zG (by omega)];simp[eP]
theorem bothL_mid {p q:List Nat}(hp:∀ c∈p,c<4194305)(hq:∀ c∈q,c<4194305)(hl:p.length<=4194304):∀ x∈mV p q,Mid x:=by
 intro x hx;obtain⟨i,hi,rfl⟩:=List.getElem_of_mem hx;simp only[mV,List.getElem_zipWith,qAU];have h1:=hp _ (List.getElem_mem (l:=p) (n:=i) (by simp[mV]at hi;omega));have h2:=hq _ (List.getElem_mem (l:=q) (n:=i) (by simp[mV]at hi;omega))
 generalize p[i]'(by simp[mV]at hi;omega)=a at h1 ⊢
 generalize q[i]'(by simp[mV]at hi;omega)=b at h2 ⊢
 have:a * (p.length+1)<=4194304 * 4194305:=Nat.mul_le_mul (by omega) (by omega);have e:(a:Int) * ((p.length:Int)+1)+b=((a * (p.length+1)+b:Nat):Int):=by push_cast;rfl
 rw[e];constructor<;>omega
theorem wrap_both {a m X b:Nat}(hX:X=a * (m+1))(hXl:X<=17592190238720)(hb:b<4194305):wrap64 (wrap64 ((a:Int) * ((m:Int)+1))+(b:Int))=((X+b:Nat):Int):=by
 have h0:(a:Int) * ((m:Int)+1)=(X:Int):=by rw[hX];push_cast;rfl
 clear hX;rw[h0];have h9:wrap64 (X:Int)=(X:Int):=IntWalk.wrap64_in _ (by omega);rw[h9,<- Int.natCast_add];exact IntWalk.wrap64_in _ (by omega)
theorem both_any (B C:Nat)(w:World)(va vb:Value)(p q:List Nat)(hB:B<=w.heap.size)(hC:C<=w.heap.size)(ha:Row B w va (nats p))(hb:Row C w vb (nats q))(hl:q.length=p.length)(h0:0<p.length)(hp:∀ c∈p,c<4194305)(hq:∀ c∈q,c<4194305)(hle:p.length<=4194304):Calls Try.prog 103 #[va,vb] w (qII w (aT p q)):=by
 obtain⟨pb,po,pc,rfl,b9,H1,H0,H9⟩:=ha.some_ (by rw[zT];exact h0);obtain⟨qb,qo,qc,rfl,b7,h5,h9,H8⟩:=hb.some_ (by rw[zT];omega);rw[zT]at H1 h5 ⊢;rw[zT,hl];rw[hl]at h5;have b0:pc<=9223372036854775807:=by unfold maxLen at H0;omega
 have a9:qc<=9223372036854775807:=by unfold maxLen at h9;omega
 have RA:=Kh H9;have RB:=Kh H8;have HL:=Kh hl;have HP:=Kh hp;have HQ:=Kh hq;have H4:=Kh (bothL_mid hp hq hle);clear H9 H8 hl hp hq ha hb;go_enter Try.func103,Try.ntmps103;go_wp2_with (first|(at_make;refine lO rfl _ _ _ rfl yU rfl .i64 .i64 _ _ p.length rfl rfl rfl rfl ?b1 ?b2 ?_)|fail)
 case b1=>omega
 case b2=>unfold maxLen;omega
 intro w2 h2 a2 H2;have H7:=Kh h2;have a7:=Kh a2;clear h2 a2;obtain⟨g,hg⟩:∃ g,g=w.heap.size:=⟨_,rfl⟩;have H6:=Kh hg;rw[<- hg]at H7 H2 hB hC ⊢;clear hg;go_wp2
 go_loopg [6,12] p.length (fun gh a6 i wr=>∃ k:Nat,gh+k=p.length/\i=.int .i64 k/\Arr wr g 3 (nats (vX (eP p q) k))/\w.grownBy wr none)
 case atStart=>exact⟨0,rfl,rfl,by rw[oK,mA HL.out,xI];exact H7.out,a7.out⟩
 case round =>
  clear H7 a7;obtain⟨k,hg,rfl,h2,h4⟩:=hrel;have HG:=Kh hg;have HA:=Kh h2;have H5:=Kh h4;have H3:(eP p q).length=p.length:=mA HL.out;clear hg;by_cases hk:k<p.length
  ·have c0:(k:Int)<p.length:=by omega
   have ca:=(RA.out.kept h4 (by simp)).nat k hk;have cb:=(RB.out.kept h4 (by simp)).nat k (by rw[HL.out];exact hk);have h3:=mM (l:=eP p q) (k:=k) (by omega);rw[bothN_get HL.out hk]at h3;have a8:=rR (i:=k) HP.out (by omega);have a0:=rR (i:=k) HQ.out (by omega);have cgk:=h2.nat k (by rw[xU (by omega)];omega);have fgk:=h2.frozen k;obtain⟨a,ha⟩:∃ a,a=p.getD k 0:=⟨_,rfl⟩;obtain⟨b,hb⟩:∃ b,b=q.getD k 0:=⟨_,rfl⟩;rw[<- ha]at ca h3 a8;rw[<- hb]at cb h3 a0;obtain⟨X,hX⟩:∃ X,X=a * (p.length+1):=⟨_,rfl⟩
   have b3:X<=17592190238720:=by
    have h8:a * (p.length+1)<=4194304 * 4194305:=Nat.mul_le_mul (by omega) (by omega);omega
   rw[<- hX]at h3;have hw:=wrap_both hX b3 a0;have HW:=Kh hw;have HS:=Kh h3;have ca':wr.drew.cell? ⟨pb,po+k,none⟩=some (.int .i64 (a:Int)):=ca;have cb':wr.drew.cell? ⟨qb,qo+k,none⟩=some (.int .i64 (b:Int)):=cb;have b8:pb≠g:=(by omega);have b6:qb≠g:=by omega
   have a5:Hid (∀ u,((wr.setCell ⟨g,k,none⟩ u).drew.cell? ⟨pb,po+k,none⟩=some (.int .i64 (a:Int)))):=Kh (fun u=>by
    show (wr.setCell ⟨g,k,none⟩ u).cell? ⟨pb,po+k,none⟩=_
    rw[World.cell?_of_block ((zC wr ⟨g,k,none⟩ u).block pb (by have:=h4.size;have:=H6.out;omega) (by simp;omega))];exact ca)
   have a4:Hid (∀ u,((wr.setCell ⟨g,k,none⟩ u).drew.cell? ⟨qb,qo+k,none⟩=some (.int .i64 (b:Int)))):=Kh (fun u=>by
    show (wr.setCell ⟨g,k,none⟩ u).cell? ⟨qb,qo+k,none⟩=_
    rw[World.cell?_of_block ((zC wr ⟨g,k,none⟩ u).block qb (by have:=h4.size;have:=H6.out;omega) (by simp;omega))];exact cb)
   clear ha hb h3 h4 h2 hX hw;go_upto_region 5 with fail
   go_region_held3 (fun w'=>w'.cell? ⟨pb,po+k,none⟩=some (.int .i64 (a:Int))/\w'.cell? ⟨qb,qo+k,none⟩=some (.int .i64 (b:Int))) (first|exact⟨ca',cb'⟩|exact⟨a5.out _,a4.out _⟩|go_keep|fail) (fail)
   all_goals
    clear ca ca' cb cb' a5 a4 cgk fgk;go_wp2;go_roundg (p.length - (k+1))
    case measure=>have:=HG.out;omega
    case rel =>
     refine⟨k+1,by omega,by go_num,?_,?_⟩
     ·rw[<- HS.out]
      have h1:=HA.out.nat_set k (by rw[xU (by omega)];omega) (X+b);rw[HW.out];exact h1.of_heap rfl
     ·exact vC (zA H5.out (zC wr ⟨g,k,none⟩ _) (fun q e=>by have h7:g=q:=Oj e;have:=H6.out;omega)) rfl rfl rfl rfl
  ·have a1:k=p.length:=by have:=HG.out;omega
   have HE:Hid (vX (eP p q) k=eP p q):=Kh (by rw[a1,<- H3];exact mO _);clear a1 h2;go_wp2_with fail;rw[HE.out]at HA
   have HN:=Kh (cZ (g+1) wr (.slice (some ⟨g,0,none⟩) p.length p.length) (mV p q) HA.out.lt (by
    rw[<- bothN_ints]
    exact .inr ⟨g,0,p.length,by rw[zT,H3],by omega,by rw[zT,H3];exact Nat.le_refl _,by unfold maxLen;omega,HA.out.row⟩) H4.out (by rw[qV HL.out];exact hle))
   go_wp2_with fail;refine HN.out.mono ?_;rintro e w5 ⟨g5,rfl,c1,a3,h6⟩;have c2:numb (mV p q)=aT p q:=rfl;have b5:=Kh a3;have b4:=Kh h6;clear a3 h6;go_wp2;go_ret;refine⟨g5,rfl,?_,b5.out,zD H5.out b4.out⟩;have:=H5.out.size;omega
theorem mZ {xs:List Int}{k:Nat}(h:k<xs.length):xs.take (k+1)=xs.take k++[xs.getD k 0]:=by
 rw[List.take_add_one];simp[List.getD,h]
theorem same03_any (B C:Nat)(w:World)(va vb:Value)(xs ys:List Int)(ha:Row B w va (ints xs))(hb:Row C w vb (ints ys)):
  Calls Try.prog 104 #[va,vb] w fun e w'=>e=.returned (.bool (decide (xs=ys)))/\∃ m,w'=w.drewN m:=by
 have h2:=ha.len_le;rw[yE]at h2;unfold maxLen at h2;have h1:=hb.len_le;rw[yE]at h1;unfold maxLen at h1;obtain⟨aa,ac,rfl⟩:=ha.shape;obtain⟨ba,bc,rfl⟩:=hb.shape;rw[yE]at ha hb ⊢;rw[yE];by_cases hl:xs.length=ys.length
 ·by_cases h0:xs.length=0
  ·have hx:xs=[]:=List.eq_nil_of_length_eq_zero h0
   have hy:ys=[]:=List.eq_nil_of_length_eq_zero (by omega);subst hx;subst hy;clear ha hb;go_enter Try.func104,Try.ntmps104;go_wp2
   go_loopg [13] 0 (fun g i wr=>i=.int .i64 0/\wr=w)
   case atStart=>exact⟨rfl,rfl⟩
   case round =>
    obtain⟨rfl,rfl⟩:=hrel;go_wp2;go_ret;exact⟨yB rfl,0,rfl⟩
  ·obtain⟨ab,ao,ac',e,_,_,_,h4⟩:=ha.some_ (by rw[yE];omega)
   simp only[Value.slice.injEq]at e;obtain⟨rfl,-,-⟩:=e;obtain⟨bb,bo,bc',e,_,_,_,h3⟩:=hb.some_ (by rw[yE];omega);simp only[Value.slice.injEq]at e;obtain⟨rfl,-,-⟩:=e;have RA:=Kh h4;have RB:=Kh h3;have HL:=Kh hl;clear ha hb h4 h3;rw[<- hl];clear hl;go_enter Try.func104,Try.ntmps104;go_wp2
   go_loopg [13] xs.length (fun g i wr=>∃ k:Nat,g+k=xs.length/\i=.int .i64 k/\xs.take k=ys.take k/\∃ m,wr=w.drewN m)
   case atStart=>exact⟨0,rfl,rfl,rfl,0,rfl⟩
   case round =>
    obtain⟨k,hg,rfl,h5,m,rfl⟩:=hrel;have HG:=Kh hg;have OK:=Kh h5;clear hg h5;by_cases hk:k<xs.length
    ·have h7:(k:Int)<xs.length:=by omega
     have ca:=RA.out.int k hk;have cb:=RB.out.int k (by have:=HL.out;omega);obtain⟨z,hz⟩:∃ z,z=xs.getD k 0:=⟨_,rfl⟩;obtain⟨u,hu⟩:∃ u,u=ys.getD k 0:=⟨_,rfl⟩;rw[<- hz]at ca;rw[<- hu]at cb;have HZ:=Kh hz;have HU:=Kh hu;clear hz hu;by_cases hzu:z=u
     ·have HN:Hid (xs.take (k+1)=ys.take (k+1)):=Kh (by rw[mZ hk,mZ (by have:=HL.out;omega),OK.out,<- HZ.out,<- HU.out,hzu])
      subst hzu;go_wp2
      go_quiet (fail)
      go_wp2;go_roundg (xs.length - (k+1))
      case measure=>have:=HG.out;omega
      case rel=>exact⟨k+1,by omega,by go_num,HN.out,_,rfl⟩
     ·have e1:(z != u)=true:=by rw[bne_iff_ne];exact hzu
      have HN:Hid (decide (xs=ys)=false):=Kh (by rw[decide_eq_false_iff_not];rintro rfl;exact hzu (by rw[HZ.out,HU.out]));go_wp2
      go_quiet (fail)
      go_wp2;go_ret;exact⟨yB HN.out.symm,_,by rw[World.drewN_drewN]⟩
    ·have HY:Hid (decide (xs=ys)=true):=by
      have h6:k=xs.length:=by have:=HG.out;omega
      have:=OK.out;rw[List.take_of_length_le (by omega),List.take_of_length_le (by have:=HL.out;omega)]at this;exact Kh (by rw[decide_eq_true_eq];exact this)
     go_wp2;go_ret;exact⟨yB HY.out.symm,m,rfl⟩
 ·have e1:((xs.length:Int) != (ys.length:Int))=true:=by rw[bne_iff_ne];omega
  have HN:Hid (decide (xs=ys)=false):=Kh (by rw[decide_eq_false_iff_not];rintro rfl;exact hl rfl);clear ha hb;go_enter Try.func104,Try.ntmps104;go_wp2;go_ret;exact⟨yB HN.out.symm,0,rfl⟩
theorem cast_inj {l m:List Nat}:((l.map fun(x:Nat)=>(x:Int)) == (m.map fun(x:Nat)=>(x:Int)))=decide (l=m):=by
 rw[Bool.eq_iff_iff,beq_iff_eq,decide_eq_true_eq];constructor
 ·intro h
  have:=congrArg (List.map Int.toNat) h;simpa [List.map_map,Function.comp_def] using this
 ·rintro rfl;rfl
theorem cast_dec {l m:List Nat}:decide ((l.map fun(x:Nat)=>(x:Int))=m.map fun(x:Nat)=>(x:Int))=decide (l=m):=by
 rw[<- cast_inj (l:=l) (m:=m),Bool.eq_iff_iff,decide_eq_true_eq,beq_iff_eq]
structure DAt (B:Nat)(w:World)(d:DfaV)(n k fb fo fc b off cap:Nat)(RB RO RC:Nat->Nat):Prop where
 ok:VD d n k
 flt:fb<B
 frow:uV w fb fo (bls d.final)
 fcap:n<=fc/\fc<=maxLen
 blt:b<B
 bltw:b<w.heap.size
 cap:n<=cap/\cap<=maxLen
 hd:∀ q,q<n->w.cell? ⟨b,off+q,none⟩=some (.slice (some ⟨RB q,RO q,none⟩) k (RC q))
 el:∀ q a,q<n->a<k->w.cell? ⟨RB q,RO q+a,none⟩=some (.int .i64 ((nx d q a:Nat):Int))
 rlt:∀ q,q<n->RB q<B/\RB q<w.heap.size
 rcap:∀ q,q<n->k<=RC q/\RC q<=maxLen
theorem DAt.kept {B:Nat}{w w':World}{d:DfaV}{n k fb fo fc b off cap:Nat}{RB RO RC:Nat->Nat}{row:Option Nat}(h:DAt B w d n k fb fo fc b off cap RB RO RC)(hg:w.grownBy w' row)(hr:∀ k,row=some k->B<=k):DAt B w' d n k fb fo fc b off cap RB RO RC where
 ok:=h.ok
 flt:=h.flt
 frow:=h.frow.kept hg (fun e=>by have:=hr _ e;have:=h.flt;omega)
 fcap:=h.fcap
 blt:=h.blt
 bltw:=Nat.lt_of_lt_of_le h.bltw hg.size
 cap:=h.cap
 hd:=fun q hq=>(World.cell?_of_block (hg.block b h.bltw (fun e=>by have:=hr b e.symm;have:=h.blt;omega))).trans (h.hd q hq)
 el:=fun q a hq ha=>(World.cell?_of_block (hg.block (RB q) (h.rlt q hq).2 (fun e=>by have:=hr _ e.symm;have:=(h.rlt q hq).1;omega))).trans (h.el q a hq ha)
 rlt:=fun q hq=>⟨(h.rlt q hq).1,Nat.lt_of_lt_of_le (h.rlt q hq).2 hg.size⟩
 rcap:=h.rcap
theorem DAt.fin {B:Nat}{w:World}{d:DfaV}{n k fb fo fc b off cap:Nat}{RB RO RC:Nat->Nat}(h:DAt B w d n k fb fo fc b off cap RB RO RC){q:Nat}(hq:q<n):w.cell? ⟨fb,fo+q,none⟩=some (.bool (d.final.getD q false)):=by
 have hl:=h.ok.hn;have:=uV.map h.frow q (by omega);rw[this,zG (by omega)]
def dAgg (k st fb fo fc b off cap n:Nat):Value:=.agg #[.int .i64 (k:Int),.int .i64 (st:Int),.slice (some ⟨fb,fo,none⟩) n fc,.slice (some ⟨b,off,none⟩) n cap]
theorem uW.at {B:Nat}{w:World}{v:Value}{d:DfaV}{n k:Nat}(h:uW B w v d)(hd:VD d n k):∃ fb fo fc b off cap RB RO RC,v=dAgg k (st0 d) fb fo fc b off cap n/\DAt B w d n k fb fo fc b off cap RB RO RC:=by
 obtain⟨fv,nv,rfl,hf,hn⟩:=h;obtain⟨fb,fo,fc,rfl,h1,h2,h3,h4⟩:=hf.some_ (by rw[yL,hd.hn];exact hd.n1);obtain⟨b,off,cap,A,C,rfl,k1,k2,k3⟩:=hn.some_ (by rw[hd.nl];exact hd.n1)
 have hr:∀ q,∃ rb ro,q<n->A q=some ⟨rb,ro,none⟩/\rb<B/\k<=C q/\C q<=maxLen/\uV w rb ro (ints (d.next.getD q [])):=by
  intro q;by_cases hq:q<n
  ·have hl:=hd.row q hq
   obtain⟨rb,ro,c,e,h4,h5,h6,h7⟩:=(k3.row q (by rw[hd.nl];exact hq)).some_ (by rw[yE,hl];exact hd.k1);simp only[Value.slice.injEq]at e;rw[yE,hl]at h5;exact⟨rb,ro,fun _=>⟨e.1,h4,by rw[e.2.2];exact h5,by rw[e.2.2];exact h6,h7⟩⟩
  ·exact⟨0,0,fun h=>absurd h hq⟩
 obtain⟨RB,h8⟩:=Classical.axiomOfChoice hr;obtain⟨RO,h0⟩:=Classical.axiomOfChoice h8;rw[yL,hd.hn]at h2;rw[hd.nl]at k1;refine⟨fb,fo,fc,b,off,cap,RB,RO,C,?_,hd,h1,h4,⟨h2,h3⟩,k3.lt,k3.ltw,⟨k1,k2⟩,fun q hq=>?_,fun q a hq ha=>?_,fun q hq=>?_,fun q hq=>?_⟩
 ·rw[dAgg,bQ hd,hd.hk,yL,hd.hn,hd.nl]
 ·rw[k3.hd q (by rw[hd.nl];exact hq),(h0 q hq).1,hd.row q hq]
 ·rw[(h0 q hq).2.2.2.2.int a (by rw[hd.row q hq];exact ha),qFY hd hq ha]
  rfl
 ·have:=h0 q hq
  exact⟨this.2.1,this.2.2.2.2.1⟩
 ·have:=h0 q hq
  exact⟨this.2.2.1,this.2.2.2.1⟩
theorem zF {w:World}{p:Nat}{x0 x1 x2 x3:Value}{e:Nat}(h:w.heap[p]?=some (.cells #[x0,x1,x2,x3] e (0,0))):w.cell? ⟨p,0,none⟩=some x0/\w.cell? ⟨p,1,none⟩=some x1/\w.cell? ⟨p,2,none⟩=some x2/\w.cell? ⟨p,3,none⟩=some x3:=by
 have c0:=zH h 0 (by simp);have c1:=zH h 1 (by simp);have c2:=zH h 2 (by simp);have c3:=zH h 3 (by simp);simp only[List.getElem_toArray,List.getElem_cons_zero,List.getElem_cons_succ]at c0 c1 c2 c3;exact⟨c0,c1,c2,c3⟩
theorem kF {w:World}{g n:Nat}{l:List Nat}(h:uV w g 0 (nats l))(hl:l.length=n)(hn:n<=9223372036854775807):Row (g+1) w (.slice (some ⟨g,0,none⟩) n n) (nats l) :=
 .inr ⟨g,0,n,by rw[zT,hl],by omega,by rw[zT,hl];exact Nat.le_refl _,by unfold maxLen;omega,h⟩
theorem colTo_take {d:DfaV}{p:List Nat}{a q:Nat}(hq:q<p.length):(nX d p a).take (q+1)=(nX d p a).take q++[p.getD (nx d q a) 0]:=by
 rw[zR (d:=0) (by rw[rC];exact hq),eI hq]
theorem colTo_lt {d:DfaV}{p:List Nat}{n a:Nat}(h:∀ c∈p,c<n)(hn:0<n):∀ c∈nX d p a,c<n:=by
 intro c hc;obtain⟨q,hq,rfl⟩:=List.mem_map.1 hc;exact rR h hn
def finN (d:DfaV):List Nat:=d.final.map fun b=>if b then 1 else 0
theorem finN_ints (d:DfaV):nats (finN d)=ints (d.final.map finB):=by
 rw[qM];congr 1;simp only[finN,List.map_map];congr 1;funext b;cases b<;>rfl
theorem fV (d:DfaV):(finN d).length=d.final.length:=by simp[finN]
theorem finN_get {d:DfaV}{q:Nat}(hq:q<d.final.length):(finN d).getD q 0=if d.final.getD q false then 1 else 0:=by
 rw[finN,tB (x:=false) hq]
theorem finB_mid (d:DfaV):∀ x∈d.final.map finB,Mid x:=by
 intro x hx;obtain⟨b,_,rfl⟩:=List.mem_map.1 hx;cases b<;>constructor<;>simp[finB]
theorem fillTo_skip {l:List Nat}{k:Nat}(h:k<l.length)(h0:l.getD k 0=0):vX l (k+1)=vX l k:=by
 unfold vX;rw[zR (d:=0) h,h0,show l.length - k=(l.length - (k+1))+1 by omega,List.replicate_succ,List.append_assoc];rfl
def qGV (w:World)(l:List Nat)(e:Ending)(w':World):Prop :=
 ∃ g,e=.returned (.slice (some ⟨g,0,none⟩) l.length l.length)/\w.heap.size<=g/\uV w' g 0 (nats l)/\w.grownBy w' none
theorem refTo_lt {d:DfaV}{p:List Nat}(hp:Norm p)(m:Nat):∀ c∈uJ d p m,c<p.length:=by
 have:=nP (mE (d:=d) hp m)
 rwa [yV]at this
theorem classes_any (B:Nat)(w:World)(v:Value)(d:DfaV)(n k:Nat)(hB:B<=w.heap.size)(h:uW B w v d)(hd:VD d n k):Calls Try.prog 81 #[v] w (qGV w (yO d k)):=by
 obtain⟨fb,fo,fc,b,off,cap,RB,RO,RC,rfl,a0⟩:=h.at hd;have hn:=hd.hn;have k0:=hd.n1;have d8:=hd.nbig;have k4:=hd.k6;have k5:=hd.k1;have k8:=a0.fcap.1;have a5:=a0.fcap.2;have k9:=a0.cap.1;have a7:=a0.cap.2;have g4:fc<=9223372036854775807:=by unfold maxLen at a5;omega
 have g2:cap<=9223372036854775807:=by unfold maxLen at a7;omega
 obtain⟨wA,a8⟩:∃ wA,wA=w.alloc (.cells #[.int .i64 (k:Int),.int .i64 (st0 d:Int),.slice (some ⟨fb,fo,none⟩) n fc,.slice (some ⟨b,off,none⟩) n cap] 42):=⟨_,rfl⟩;have h9:wA.heap[w.heap.size]?=some (.cells #[.int .i64 (k:Int),.int .i64 (st0 d:Int),.slice (some ⟨fb,fo,none⟩) n fc,.slice (some ⟨b,off,none⟩) n cap] 42 (0,0)):=by rw[a8];exact heap_alloc_new w _
 have b9:w.grownBy wA none:=by rw[a8];exact Ga w _ none
 have f8:wA.heap.size=w.heap.size+1:=by rw[a8,zJ]
 obtain⟨c0,c1,c2,c3⟩:=zF h9;obtain⟨P,hP⟩:∃ P,P=w.heap.size:=⟨_,rfl⟩;have f2:=Kh hP;rw[<- hP]at h9 c0 c1 c2 c3 f8 hB;have c9:=Kh h9;have j1:=Kh b9;have i5:=Kh a8;have f7:=Kh (a0.kept b9 (by simp));have HN:=Kh hn;have HD:=Kh hd;unfold dAgg;clear h9 b9 a8 a0 hn hd h a5 a7;go_enter Try.func81,Try.ntmps81;go_upto_region 1 with fail;rw[<- i5.out,<- f2.out];clear hP;go_wp2_with (first|(at_make;refine lO rfl _ _ _ rfl yU rfl .i64 .i64 _ _ n rfl rfl rfl rfl ?b1 ?b2 ?_)|fail)
 case b1=>omega
 case b2=>unfold maxLen;omega
 intro w2 h0 e4 g8;have d4:=Kh h0;have f5:=Kh e4;clear h0 e4;obtain⟨g,hg⟩:∃ g,g=P+1:=⟨_,rfl⟩;have l2:=Kh hg;rw[<- hg]at d4 ⊢;have e2:P<g:=by omega
 clear hg;go_wp2
 go_loopg [4,15] n (fun gh a6 i wr=>∃ q:Nat,gh+q=n/\i=.int .i64 q/\Arr wr g 3 (nats (vX (finN d) q))/\wA.grownBy wr none)
 case atStart=>exact⟨0,rfl,rfl,by rw[oK,fV,HN.out,xI];exact d4.out,f5.out⟩
 case round =>
  clear d4 f5;obtain⟨q,hg,rfl,h0,h3⟩:=hrel;have HG:=Kh hg;have HA:=Kh h0;have H1:=Kh h3;have e6:(finN d).length=n:=by rw[fV,HN.out]
  have j6:=h3.size;obtain⟨d0,d1,d2,d3⟩:=zF (zB c9.out h3 (by simp));clear hg c0 c1 c2 c3;by_cases hq:q<n
  ·have g0:(q:Int)<n:=by omega
   have cf:=(f7.out.kept h3 (by simp)).fin hq;have cgk:=h0.nat q (by rw[xU (by omega)];omega);have fgk:=h0.frozen q;have e5:=finN_get (d:=d) (q:=q) (by rw[HN.out];exact hq);have b8:=Kh e5;clear e5 h0 h3;cases hb:d.final.getD q false with
   | false =>
    rw[hb]at cf b8;go_wp2;go_roundg (n - (q+1))
    case measure=>have:=HG.out;omega
    case rel=>exact⟨q+1,by omega,by go_num,by rw[fillTo_skip (by omega) b8.out];exact HA.out,H1.out⟩
   | true =>
    rw[hb]at cf b8;have HS:Hid ((vX (finN d) q).set q 1=vX (finN d) (q+1)):=Kh (by have:=mM (l:=finN d) (k:=q) (by omega);rw[b8.out]at this;exact this);go_wp2;go_roundg (n - (q+1))
    case measure=>have:=HG.out;omega
    case rel =>
     refine⟨q+1,by omega,by go_num,?_,zA H1.out (zC wr ⟨g,q,none⟩ _) (fun q e=>by have h7:g=q:=Oj e;omega)⟩;rw[<- HS.out];exact HA.out.nat_set q (by rw[xU (by omega)];omega) 1
  ·have H5:q=n:=by have:=HG.out;omega
   have HE:Hid (vX (finN d) q=finN d):=Kh (by rw[H5,<- e6];exact mO _);rw[HE.out]at HA;have j9:Hid (q=n):=Kh H5
   have a9:=Kh (cZ (g+1) wr (.slice (some ⟨g,0,none⟩) n n) (d.final.map finB) HA.out.lt (by
    rw[<- finN_ints]
    exact kF HA.out.row e6 (by omega)) (finB_mid d) (by rw[List.length_map,HN.out];omega))
   clear H5 h0 h3 d0 d1 d2 d3;go_wp2_with fail;refine a9.out.mono ?_;rintro e w3 ⟨g3,rfl,i4,c6,a3⟩;have d6:numb (d.final.map finB)=kM d:=rfl;rw[d6]at c6 ⊢;have H2:(kM d).length=n:=by rw[nM,HN.out]
   rw[H2];have f0:=Kh c6.row;have f4:=Kh (zD H1.out a3);have a4:P<g3:=(by omega);clear c6 a3 a9 d6 H2 i4;go_wp2
   go_loopg [3] n (fun gh v3 wr=>∃ (m g:Nat),gh+m=n/\m<cls (yP d k m)/\v3=.slice (some ⟨g,0,none⟩) n n/\P<g/\uV wr g 0 (nats (yP d k m))/\wA.grownBy wr none)
   case atStart=>exact⟨0,g3,rfl,aQ (by rw[yS,HN.out];omega),rfl,a4,f0.out,f4.out⟩
   case round =>
    clear f0 f4 a4 HA H1 HG;obtain⟨m,g,hg,d9,rfl,e2,b5,h3⟩:=hrel;have HG:=Kh hg;have i9:=Kh d9;have H2:=yS d k m;rw[HN.out]at H2;have b6:=uQ d k m;obtain⟨p,hp⟩:∃ p,p=yP d k m:=⟨_,rfl⟩;have HP:=Kh hp;rw[<- hp]at H2 b6 b5;have H6:=nP b6;rw[H2]at H6;obtain⟨wo,rfl⟩:∃ wo:World,wo=wr:=⟨_,rfl⟩;have b7:=Kh b5;have H1:=Kh h3;have f1:=Kh b6;have h5:=Kh H2;have c7:=Kh H6;have i3:=b5.1;clear hg d9 hp b5 h3 b6 H2 H6;go_wp2
    go_loopg [5,6] k (fun gh v5 i wr=>∃ (a g5:Nat),gh+a=k/\i=.int .i64 a/\v5=.slice (some ⟨g5,0,none⟩) n n/\P<g5/\uV wr g5 0 (nats (uJ d p a))/\wo.grownBy wr none)
    case atStart=>exact⟨0,g,rfl,rfl,rfl,e2,b7.out,zL _ _⟩
    case round =>
     obtain⟨a,g5,hg,rfl,rfl,c4,H4,h8⟩:=hrel;have b3:=Kh hg;obtain⟨wq,rfl⟩:∃ wq:World,wq=wr:=⟨_,rfl⟩;have H0:=Kh H4;have h4:=Kh h8;have e1:=H4.1;have j8:=h8.size;obtain⟨d0,d1,d2,d3⟩:=zF (zB c9.out (zD H1.out h8) (by simp));clear hg H4 h8;by_cases ha:a<k
     ·have l0:(a:Int)<k:=by omega
      go_wp2
      go_loopg [7,38] n (fun gh ov i wr=>∃ (q:Nat) (sa:Option Addr) (sc:Nat),gh+q=n/\i=.int .i64 q/\ov=.slice sa q sc/\wr.ownsRow wq.heap.size 3 1 (.slice sa q sc) q (nats ((nX d p a).take q))/\wq.grownBy wr none)
      case atStart=>exact⟨0,none,0,rfl,rfl,rfl,by simpa [nats] using World.ownsRow_nil _ _ _ _,zL _ _⟩
      case round =>
       obtain⟨q,sa,sc,hg,rfl,rfl,a1,h3⟩:=hrel;have f3:=Kh hg;have h6:=Kh a1;have H9:=Kh h3;clear hg a1 d0 d1 d2 d3;by_cases hq:q<n
       ·have g0:(q:Int)<n:=by omega
        have H7:=zD (zD H1.out h4.out) h3;obtain⟨d0,d1,d2,d3⟩:=zF (zB c9.out H7 (by simp));have hA:=f7.out.kept H7 (by simp);have ch:=hA.hd q hq;have ce:=hA.el q a hq ha;have d5:=hA.rcap q hq;have d7:=nO HD.out hq ha;have cp:=(b7.out.kept (zD h4.out h3) (by simp)).nat (nx d q a) (by rw[h5.out];exact d7);rw[Nat.zero_add]at cp;have c8:Hid ((nX d p a).take (q+1)=(nX d p a).take q++[p.getD (nx d q a) 0]):=Kh (colTo_take (by rw[h5.out];exact hq));obtain⟨s,hs⟩:∃ s,s=nx d q a:=⟨_,rfl⟩;rw[<- hs]at ce d7 cp c8;obtain⟨c,hc⟩:∃ c,c=p.getD s 0:=⟨_,rfl⟩;rw[<- hc]at cp c8;have i2:=h3.size;have f9:=d5.1;have g1:(s:Int)<n:=(by omega);clear H7 hA hs hc h3 d5;go_wp2_with (first|(at_builtin;refine app1 rfl _ _ _ rfl yU wq.heap.size _ q (nats ((nX d p a).take q)) rfl h6.out _ rfl rfl ?c1 ?c2 ?c3 ?_)|fail)
        case c1=>unfold maxLen;omega
        case c2=>omega
        case c3=>exact i2
        intro sa' sc' w6 H3 e3 g6;have i8:=Kh H3;have j3:=Kh e3;clear H3 e3;go_wp2;go_roundg (n - (q+1))
        case measure=>have:=f3.out;omega
        case rel =>
         refine⟨q+1,sa',sc',by omega,by go_num,rfl,?_,zA H9.out j3.out (fun q e=>(h6.out.lt q e).1)⟩;rw[c8.out,vM];exact i8.out
       ·have H5:q=n:=by have:=f3.out;omega
        have e7:(nX d p a).length=n:=by rw[rC,h5.out]
        have i6:Hid ((nX d p a).take q=nX d p a):=Kh (by rw[H5,<- e7];exact List.take_length);have l1:=Kh H5;rw[i6.out]at h6;obtain⟨kb,rfl,i1,i0,h0⟩:=yW h6.out (by omega);have k3:=(h6.out.lt kb rfl).1;have b4:=yV d p a
        have f6:=Kh (both_any (g5+1) wr.heap.size wr (.slice (some ⟨g5,0,none⟩) n n) (.slice (some ⟨kb,0,none⟩) q sc) (uJ d p a) (nX d p a) (by have:=h3.size;omega) (Nat.le_refl _)
         (kF (H0.out.kept h3 (by simp)) (by rw[b4,h5.out]) (by omega)) (Row.of_owns h6.out) (by rw[e7,b4,h5.out]) (by rw[b4,h5.out];omega)
         (fun c hc=>by have:=refTo_lt f1.out a c hc;rw[h5.out]at this;omega) (fun c hc=>by have:=colTo_lt c7.out (by omega) c hc;omega) (by rw[b4,h5.out];omega))
        clear H5 h0;go_wp2_with fail;refine f6.out.mono ?_;rintro e w7 ⟨g7,rfl,k7,c5,a2⟩;have e8:aT (uJ d p a) (nX d p a)=uJ d p (a+1):=rfl;rw[e8]at c5 ⊢;have e0:(uJ d p (a+1)).length=n:=by rw[yV,h5.out]
        rw[e0];have i7:=Kh c5.row;have j2:=Kh (zD (zD h4.out H9.out) a2);have j7:=H9.out.size;clear c5 a2 f6 e8 e0;go_wp2;go_roundg (k - (a+1))
        case measure=>have:=b3.out;omega
        case rel=>exact⟨a+1,g7,by omega,by go_num,rfl,by omega,i7.out,j2.out⟩
     ·have e9:a=k:=by have:=b3.out;omega
      have j5:Hid (uJ d p a=uJ d p k):=Kh (by rw[e9]);rw[j5.out]at H0;have g9:(uJ d p k).length=n:=by rw[yV,h5.out]
      have H8:=same03_any (g5+1) (g+1) wq (.slice (some ⟨g5,0,none⟩) n n) (.slice (some ⟨g,0,none⟩) n n) ((uJ d p k).map fun(x:Nat)=>(x:Int)) (p.map fun(x:Nat)=>(x:Int))
       (by rw[<- qM];exact kF H0.out g9 (by omega)) (by rw[<- qM];exact kF (b7.out.kept h4.out (by simp)) h5.out (by omega))
      rw[cast_dec]at H8;have H8:=Kh H8;clear e9;by_cases he:uJ d p k=p
      ·rw[decide_eq_true he]at H8
       have j4:Hid (yO d k=p):=Kh (by
        have h1:=HG.out;rw[HP.out];rw[HP.out]at he
        exact pD (by rw[HN.out];omega) he)
       clear he;go_wp2_with fail;refine H8.out.mono ?_;rintro e w8 ⟨rfl,m8,rfl⟩;go_wp2;go_ret;rw[qGV,j4.out];refine⟨g,by rw[h5.out];rfl,by have:=f2.out;omega,(b7.out.kept h4.out (by simp)).kept (zN _ _ none) (by simp),?_⟩;exact zD (zD j1.out (zD H1.out h4.out)) (zN _ _ _)
      ·rw[decide_eq_false he]at H8
       have b0:Hid (m+1<cls (yP d k (m+1))):=Kh (by
        have h1:=oB HD.out h5.out f1.out he;have h2:=i9.out;rw[<- HP.out]at h2;show m+1<cls (uJ d (yP d k m) k);rw[<- HP.out]
        omega)
       have j0:Hid (yP d k (m+1)=uJ d p k):=Kh (by rw[HP.out];rfl)
       have k2:m+1<n:=by
        have h1:=b0.out;have h2:=iP (yP d k (m+1));rw[yS,HN.out]at h2;omega
       clear he;go_wp2_with fail;refine H8.out.mono ?_;rintro e w8 ⟨rfl,m8,rfl⟩;go_wp2;go_roundg (n - (m+1))
       case measure=>have:=HG.out;omega
       case rel=>exact⟨m+1,g5,by omega,b0.out,rfl,c4,by rw[j0.out];exact H0.out.kept (zN _ _ none) (by simp),zD (zD H1.out h4.out) (zN _ _ _)⟩
theorem elem_string:ElemOk Try.prog 26 9 (.string ⟨#[]⟩) 16:=⟨Try.underlying26,by kernel_rfl,rfl⟩
def metL (n:Nat)(l:List Nat):List Bool:=(List.range n).map fun q=>decide (q∈l)
theorem rW (n:Nat)(l:List Nat):(metL n l).length=n:=by simp[metL]
theorem metL_get {n:Nat}{l:List Nat}{q:Nat}(h:q<n):(metL n l).getD q false=decide (q∈l):=by
 rw[zG (by rw[rW];exact h)];simp[metL]
theorem qEB {n:Nat}{l:List Nat}{q:Nat}:(metL n l).set q true=metL n (l++[q]):=by
 refine List.ext_getElem (by simp[metL]) fun i h1 h2=>?_;rw[List.getElem_set];simp only[metL,List.getElem_map,List.getElem_range,List.mem_append,List.mem_singleton];by_cases e:q=i
 ·subst e;simp
 ·rw[if_neg e];congr 1;simp[Ne.symm e]
theorem metL_nil (n:Nat):metL n []=List.replicate n false:=by
 refine List.ext_getElem (by simp[metL]) fun i h1 h2=>by simp[metL]
def eW (ws:List ByteArray):Prop:=∀ j,j<ws.length->(ws.getD j ⟨#[]⟩).size<=j
def strV (ws:List ByteArray):List Value:=ws.map Value.string
theorem eW.snoc {ws:List ByteArray}{x:ByteArray}(h:eW ws)(hx:x.size<=ws.length):eW (ws++[x]):=by
 intro j hj;rw[List.length_append,List.length_singleton]at hj;by_cases h1:j<ws.length
 ·have:=h j h1
  simpa [List.getD,List.getElem?_append_left h1] using this
 ·have:j=ws.length:=by omega
  subst this;simpa [List.getD] using hx
theorem strV_snoc (ws:List ByteArray)(x:ByteArray):strV (ws++[x])=strV ws++[.string x]:=by simp[strV]
def AccOk (w:World)(l:List Nat)(e:Ending)(w':World):Prop :=
 ∃ (sa:Option Addr) (sc:Nat) (v:Value),e=.returned (.tuple #[.slice sa l.length sc,v])/\w'.ownsRow w.heap.size 3 1 (.slice sa l.length sc) l.length (nats l)/\w.grownBy w' none
inductive acc13I (P sa sb sc sd s a1 i0:Nat)(m:List Nat)(ws:List ByteArray)(u X:ByteArray)(F:Nat->Prop)(w5:World)(a0:Act)(l:Array Bool)(a:Act)(w:World):Prop
 | mk (x55:Value) (x56:Value) (x65:Value) (x66:Value) (x67:Value) (x68:Value) (x69:Value) (x4:Value) (x5:Value) (vA:Value) (nA:Nat) (xA:List Value) (vB:Value) (nB:Nat) (xB:List Value) (ls:List (Nat×Obj)) (ha:a=wP a0 [(55,x55),(56,x56),(65,x65),(66,x66),(67,x67),(68,x68),(69,x69),(4,x4),(5,x5)]) (HR:∀ j∈[0,1,4,5,6,7,8,9,10,11],l.getD j true=true) (H2:Hid (l.getD 2 true=true->∃ g,x55=.slice (some ⟨g,0,none⟩) 1 1/\(g,Obj.cells #[Value.int .i64 (s:Int)] 3 (0,0))∈ls)) (H3n:Hid (l.getD 3 true=false->vA=.slice (some ⟨sa,0,none⟩) m.length sc/\m.length=nA/\xA=nats m)) (H3:Hid (l.getD 3 true=true->∃ ra rc,vA=.slice ra (m.length+1) rc/\x56=.slice ra (m.length+1) rc/\nA=m.length+1/\xA=nats m++[Value.int .i64 (s:Int)])) (H12:Hid (l.getD 12 true=true->∃ g,x65=.slice (some ⟨g,0,none⟩) 1 1/\(g,Obj.cells #[Value.int .u8 (97+(a1:Int))] 5 (0,0))∈ls)) (H13:Hid (l.getD 13 true=true->x66=.string X)) (H14:Hid (l.getD 14 true=true->x67=.string (u++X))) (H15:Hid (l.getD 15 true=true->∃ g,x68=.slice (some ⟨g,0,none⟩) 1 1/\(g,Obj.cells #[Value.string (u++X)] 9 (0,0))∈ls)) (H16n:Hid (l.getD 16 true=false->vB=.slice (some ⟨sb,0,none⟩) m.length sd/\m.length=nB/\xB=strV ws)) (H16:Hid (l.getD 16 true=true->l.getD 3 true=true/\∃ ra rc,vB=.slice ra (m.length+1) rc/\x69=.slice ra (m.length+1) rc/\nB=m.length+1/\xB=strV ws++[Value.string (u++X)])) (H17:Hid (l.getD 17 true=true->l.getD 3 true=true/\x4=x56)) (H18:Hid (l.getD 18 true=true->l.getD 16 true=true/\x5=x69)) (HM:(Many w5 F w [⟨P,3,vA,nA,xA,1⟩,⟨P,9,vB,nB,xB,1⟩] ls [(sb,9,strV ws)]))
theorem acc13_G {P sa sb sc sd s a1 i0:Nat}{m:List Nat}{ws:List ByteArray}{u X:ByteArray}{F:Nat->Prop}{w5:World}{a0:Act}{l:Array Bool}{a:Act}{w:World}(hpre:∀ W rs ls,Many w5 F W rs ls [(sb,9,strV ws)]->W.cell? ⟨sb,i0,none⟩=some (.string u))(h:acc13I P sa sb sc sd s a1 i0 m ws u X F w5 a0 l a w):tZ 99 (fun W=>W.cell? ⟨sb,i0,none⟩=some (.string u)) (fun W=>W.cell? ⟨sb,i0,none⟩=some (.string u)) l w:=by
 obtain⟨x55,x56,x65,x66,x67,x68,x69,x4,x5,vA,nA,xA,vB,nB,xB,ls,ha,HR,H2,h1,H3,h8,h7,h6,h5,h0,h4,h3,h2,HM⟩:=h;exact⟨hpre w _ _ HM,fun _=>hpre w _ _ HM⟩
theorem pE {P sa sb sc sd s a1 i0:Nat}{m:List Nat}{ws:List ByteArray}{u X:ByteArray}{F:Nat->Prop}{w5:World}{a0:Act}{l:Array Bool}{a:Act}{w:World}(h:acc13I P sa sb sc sd s a1 i0 m ws u X F w5 a0 l a w):∀ j∈[0,1,4,5,6,7,8,9,10,11],l.getD j true=true:=by
 obtain⟨x55,x56,x65,x66,x67,x68,x69,x4,x5,vA,nA,xA,vB,nB,xB,ls,ha,HR,H2,h1,H3,h8,h7,h6,h5,h0,h4,h3,h2,HM⟩:=h;exact HR
theorem acc13_steps {P sa sb sc sd s a1 i0:Nat}{m:List Nat}{ws:List ByteArray}{u X:ByteArray}{F:Nat->Prop}{w5:World}{v0 v1 v2 v3 v4 v5 v6 v7 v8 v9 v10 v11 v12 v13 v14 v15 v16 v17 v18 v19 v20 v21 v22 v23 v24 v25 v26 v27 v28 v29 v30 v31 v32 v33 v34 v35 v36 v37 v38 v39 v40 v41 v42 v43 v44 v45 v46 v47 v48 v49 v50 v51 v52 v55 v56 v65 v66 v67 v68 v69 v70 v71:Value}{dd:_}{a0:Act}(ha0:a0=⟨#[v0,v1,v2,v3,v4,v5,v6,v7,v8,v9,v10,v11,v12,v13,v14,v15,v16,v17,v18,v19,v20,v21,v22,v23,v24,v25,v26,v27,v28,v29,v30,v31,v32,v33,v34,v35,v36,v37,v38,v39,v40,v41,v42,v43,v44,v45,v46,v47,v48,v49,v50,v51,v52,.slice (some ⟨sa,0,none⟩) m.length sc,.int .i64 (s:Int),v55,v56,.slice (some ⟨sb,0,none⟩) m.length sd,.slice (some ⟨sb,0,none⟩) m.length sd,.int .i64 (i0:Int),.pointer (some ⟨sb,i0,none⟩),.string u,.int .i64 (a1:Int),.int .i64 (97+(a1:Int)),.int .u8 (97+(a1:Int)),v65,v66,v67,v68,v69,v70,v71],dd⟩)(hml:m.length<=4194304)(hbase:P<=w5.heap.size)(hcv:∀ (W:World) (g:Nat),W.cell? ⟨g,0,none⟩=some (.int .u8 (97+(a1:Int)))->(convert 106 9 (.slice (some ⟨g,0,none⟩) 1 1)).run Try.prog W=.ok (.string X) W)(hcc:∀ W:World,(Op.stringOp .add u X).run Try.prog W=.ok (.string (u++X)) W)(ops7:Array Oper)(Q7:Exit->Act->World->Prop):dB (qHY Try.prog .any ops7 Q7 (acc13I P sa sb sc sd s a1 i0 m ws u X F w5 a0)) 0 (regionOps Try.f105 13).toList:=by
 refine⟨?s0,?s1,?s2,?s3,?s4,?s5,?s6,?s7,?s8,?s9,?s10,?s11,?s12,?s13,?s14,?s15,?s16,?s17,?s18,trivial⟩
 case s0 =>
  exact fun l a w h h3=>absurd (pE h 0 (by simp)) (by rw[h3];simp)
 case s1 =>
  exact fun l a w h h3=>absurd (pE h 1 (by simp)) (by rw[h3];simp)
 case s2 =>
  intro l a w h h3 h0 K hK;obtain⟨x55,x56,x65,x66,x67,x68,x69,x4,x5,vA,nA,xA,vB,nB,xB,ls,ha,HR,H2,h5,H3,H4,H1,H0,h9,h4,h8,h7,h6,HM⟩:=h;subst ha;rw[ha0];simp only[wP,List.foldl_cons,List.foldl_nil,Act.put,sPa,sPb,sPc];go_simp;refine hK.out _ _ ?_;refine⟨(.slice (some ⟨w.heap.size,0,none⟩) 1 1),x56,x65,x66,x67,x68,x69,x4,x5,vA,nA,xA,vB,nB,xB,((w.heap.size,Obj.cells #[Value.int .i64 (s:Int)] 3 (0,0))::ls),?fa2,fun j hj=>xC (HR j hj),Kh (fun _=>⟨w.heap.size,rfl,List.Mem.head _⟩),(hsN h5),(hsP H3),Kh (fun h=>let ⟨g,h1,h2⟩:=H4.out (yZ (by decide) h);⟨g,h1,List.Mem.tail _ h2⟩),(hsP H1),(hsP H0),Kh (fun h=>let ⟨g,h1,h2⟩:=h9.out (yZ (by decide) h);⟨g,h1,List.Mem.tail _ h2⟩),(hsN h4),(hsQ h8),(hsQ h7),(hsQ h6),HM.alloc (.cells #[Value.int .i64 (s:Int)] 3)⟩
  case fa2=>rw[ha0];simp only[wP,List.foldl_cons,List.foldl_nil,Act.put,sPa,sPb,sPc]
 case s3 =>
  intro l a w h h3 h0 K hK;obtain⟨x55,x56,x65,x66,x67,x68,x69,x4,x5,vA,nA,xA,vB,nB,xB,ls,ha,HR,H2,h5,H3,H4,H1,H0,h9,h4,h8,h7,h6,HM⟩:=h;have DH2:=H2.out (tA (h0 ⟨2,.data⟩ (by simp) rfl));obtain⟨g5,rfl,H5⟩:=DH2;obtain⟨rfl,rfl,rfl⟩:=h5.out h3;subst ha;rw[ha0];simp only[wP,List.foldl_cons,List.foldl_nil,Act.put,sPa,sPb,sPc];refine dQ (by simp[Region.wanted]) (.tmp 53) (.tmp 55) 34 rfl yU 0 g5 1 rfl HM rfl rfl rfl rfl ?g13 ?g23 ?g33 H5 rfl ?_
  case g13=>show m.length+1<=maxLen;unfold maxLen;omega
  case g23=>show (m.length+1) * 8<=140737488355328;omega
  case g33=>exact hbase
  intro sa2 sc2 w6 H7 H8;refine hK.out _ _ ?_;refine⟨(.slice (some ⟨g5,0,none⟩) 1 1),(.slice sa2 (m.length+1) sc2),x65,x66,x67,x68,x69,x4,x5,(.slice sa2 (m.length+1) sc2),(m.length+1),(nats m++[Value.int .i64 (s:Int)]),vB,nB,xB,ls,?fa3,fun j hj=>xC (HR j hj),Kh (fun _=>⟨g5,rfl,H5⟩),Kh (fun h=>kB h),Kh (fun _=>⟨sa2,sc2,rfl,rfl,rfl,rfl⟩),(hsP H4),(hsP H1),(hsP H0),(hsP h9),(hsN h4),(hsA h8 h3),(hsA h7 h3),(hsQ h6),H7⟩
  case fa3=>rw[ha0];simp only[wP,List.foldl_cons,List.foldl_nil,Act.put,sPa,sPb,sPc]
 case s4 =>
  exact fun l a w h h3=>absurd (pE h 4 (by simp)) (by rw[h3];simp)
 case s5 =>
  exact fun l a w h h3=>absurd (pE h 5 (by simp)) (by rw[h3];simp)
 case s6 =>
  exact fun l a w h h3=>absurd (pE h 6 (by simp)) (by rw[h3];simp)
 case s7 =>
  exact fun l a w h h3=>absurd (pE h 7 (by simp)) (by rw[h3];simp)
 case s8 =>
  exact fun l a w h h3=>absurd (pE h 8 (by simp)) (by rw[h3];simp)
 case s9 =>
  exact fun l a w h h3=>absurd (pE h 9 (by simp)) (by rw[h3];simp)
 case s10 =>
  exact fun l a w h h3=>absurd (pE h 10 (by simp)) (by rw[h3];simp)
 case s11 =>
  exact fun l a w h h3=>absurd (pE h 11 (by simp)) (by rw[h3];simp)
 case s12 =>
  intro l a w h h3 h0 K hK;obtain⟨x55,x56,x65,x66,x67,x68,x69,x4,x5,vA,nA,xA,vB,nB,xB,ls,ha,HR,H2,h5,H3,H4,H1,H0,h9,h4,h8,h7,h6,HM⟩:=h;subst ha;rw[ha0];simp only[wP,List.foldl_cons,List.foldl_nil,Act.put,sPa,sPb,sPc];go_simp;refine hK.out _ _ ?_;refine⟨x55,x56,(.slice (some ⟨w.heap.size,0,none⟩) 1 1),x66,x67,x68,x69,x4,x5,vA,nA,xA,vB,nB,xB,((w.heap.size,Obj.cells #[Value.int .u8 (97+(a1:Int))] 5 (0,0))::ls),?fa12,fun j hj=>xC (HR j hj),Kh (fun h=>let ⟨g,h1,h2⟩:=H2.out (yZ (by decide) h);⟨g,h1,List.Mem.tail _ h2⟩),(hsN h5),(hsP H3),Kh (fun _=>⟨w.heap.size,rfl,List.Mem.head _⟩),(hsP H1),(hsP H0),Kh (fun h=>let ⟨g,h1,h2⟩:=h9.out (yZ (by decide) h);⟨g,h1,List.Mem.tail _ h2⟩),(hsN h4),(hsQ h8),(hsQ h7),(hsQ h6),HM.alloc (.cells #[Value.int .u8 (97+(a1:Int))] 5)⟩
  case fa12=>rw[ha0];simp only[wP,List.foldl_cons,List.foldl_nil,Act.put,sPa,sPb,sPc]
 case s13 =>
  intro l a w h h3 h0 K hK;obtain⟨x55,x56,x65,x66,x67,x68,x69,x4,x5,vA,nA,xA,vB,nB,xB,ls,ha,HR,H2,h5,H3,H4,H1,H0,h9,h4,h8,h7,h6,HM⟩:=h;have DH12:=H4.out (tA (h0 ⟨12,.data⟩ (by simp) rfl));obtain⟨g5,rfl,H5⟩:=DH12;subst ha;rw[ha0];simp only[wP,List.foldl_cons,List.foldl_nil,Act.put,sPa,sPb,sPc];have hq:=hcv w g5 (HM.litcell H5);go_simp;refine hK.out _ _ ?_;refine⟨x55,x56,(.slice (some ⟨g5,0,none⟩) 1 1),(.string X),x67,x68,x69,x4,x5,vA,nA,xA,vB,nB,xB,ls,?fa13,fun j hj=>xC (HR j hj),(hsP H2),(hsN h5),(hsP H3),Kh (fun _=>⟨g5,rfl,H5⟩),Kh (fun _=>rfl),(hsP H0),(hsP h9),(hsN h4),(hsQ h8),(hsQ h7),(hsQ h6),HM⟩
  case fa13=>rw[ha0];simp only[wP,List.foldl_cons,List.foldl_nil,Act.put,sPa,sPb,sPc]
 case s14 =>
  intro l a w h h3 h0 K hK;obtain⟨x55,x56,x65,x66,x67,x68,x69,x4,x5,vA,nA,xA,vB,nB,xB,ls,ha,HR,H2,h5,H3,H4,H1,H0,h9,h4,h8,h7,h6,HM⟩:=h;have DH13:=H1.out (tA (h0 ⟨13,.data⟩ (by simp) rfl));subst DH13;subst ha;rw[ha0];simp only[wP,List.foldl_cons,List.foldl_nil,Act.put,sPa,sPb,sPc];go_simp;refine hK.out _ _ ?_;refine⟨x55,x56,x65,(.string X),(.string (u++X)),x68,x69,x4,x5,vA,nA,xA,vB,nB,xB,ls,?fa14,fun j hj=>xC (HR j hj),(hsP H2),(hsN h5),(hsP H3),(hsP H4),Kh (fun _=>rfl),Kh (fun _=>rfl),(hsP h9),(hsN h4),(hsQ h8),(hsQ h7),(hsQ h6),HM⟩
  case fa14=>rw[ha0];simp only[wP,List.foldl_cons,List.foldl_nil,Act.put,sPa,sPb,sPc]
 case s15 =>
  intro l a w h h3 h0 K hK;obtain⟨x55,x56,x65,x66,x67,x68,x69,x4,x5,vA,nA,xA,vB,nB,xB,ls,ha,HR,H2,h5,H3,H4,H1,H0,h9,h4,h8,h7,h6,HM⟩:=h;have DH14:=H0.out (tA (h0 ⟨14,.data⟩ (by simp) rfl));subst DH14;subst ha;rw[ha0];simp only[wP,List.foldl_cons,List.foldl_nil,Act.put,sPa,sPb,sPc];go_simp;refine hK.out _ _ ?_;refine⟨x55,x56,x65,x66,(.string (u++X)),(.slice (some ⟨w.heap.size,0,none⟩) 1 1),x69,x4,x5,vA,nA,xA,vB,nB,xB,((w.heap.size,Obj.cells #[Value.string (u++X)] 9 (0,0))::ls),?fa15,fun j hj=>xC (HR j hj),Kh (fun h=>let ⟨g,h1,h2⟩:=H2.out (yZ (by decide) h);⟨g,h1,List.Mem.tail _ h2⟩),(hsN h5),(hsP H3),Kh (fun h=>let ⟨g,h1,h2⟩:=H4.out (yZ (by decide) h);⟨g,h1,List.Mem.tail _ h2⟩),(hsP H1),Kh (fun _=>rfl),Kh (fun _=>⟨w.heap.size,rfl,List.Mem.head _⟩),(hsN h4),(hsQ h8),(hsQ h7),(hsQ h6),HM.alloc (.cells #[Value.string (u++X)] 9)⟩
  case fa15=>rw[ha0];simp only[wP,List.foldl_cons,List.foldl_nil,Act.put,sPa,sPb,sPc]
 case s16 =>
  intro l a w h h3 h0 K hK;obtain⟨x55,x56,x65,x66,x67,x68,x69,x4,x5,vA,nA,xA,vB,nB,xB,ls,ha,HR,H2,h5,H3,H4,H1,H0,h9,h4,h8,h7,h6,HM⟩:=h;have DH15:=h9.out (tA (h0 ⟨15,.data⟩ (by simp) rfl));obtain⟨g5,rfl,H5⟩:=DH15;obtain⟨rfl,rfl,rfl⟩:=h4.out h3;have a2:=tA (h0 ⟨3,.chain⟩ (by simp) rfl);subst ha;rw[ha0];simp only[wP,List.foldl_cons,List.foldl_nil,Act.put,sPa,sPb,sPc];refine dQ (by simp[Region.wanted]) (.tmp 57) (.tmp 68) 26 rfl elem_string 1 g5 1 rfl HM rfl rfl rfl rfl ?g116 ?g216 ?g316 H5 rfl ?_
  case g116=>show m.length+1<=maxLen;unfold maxLen;omega
  case g216=>show (m.length+1) * 16<=140737488355328;omega
  case g316=>exact hbase
  intro sa2 sc2 w6 H7 H8;refine hK.out _ _ ?_;refine⟨x55,x56,x65,x66,x67,(.slice (some ⟨g5,0,none⟩) 1 1),(.slice sa2 (m.length+1) sc2),x4,x5,vA,nA,xA,(.slice sa2 (m.length+1) sc2),(m.length+1),(strV ws++[Value.string (u++X)]),ls,?fa16,fun j hj=>xC (HR j hj),(hsP H2),(hsN h5),(hsP H3),(hsP H4),(hsP H1),(hsP H0),Kh (fun _=>⟨g5,rfl,H5⟩),Kh (fun h=>kB h),Kh (fun _=>⟨xC a2,sa2,sc2,rfl,rfl,rfl,rfl⟩),(hsQ h7),(hsA h6 h3),H7⟩
  case fa16=>rw[ha0];simp only[wP,List.foldl_cons,List.foldl_nil,Act.put,sPa,sPb,sPc]
 case s17 =>
  intro l a w h h3 h0 K hK;obtain⟨x55,x56,x65,x66,x67,x68,x69,x4,x5,vA,nA,xA,vB,nB,xB,ls,ha,HR,H2,h5,H3,H4,H1,H0,h9,h4,h8,h7,h6,HM⟩:=h;have DH3:=H3.out (tA (h0 ⟨3,.data⟩ (by simp) rfl));obtain⟨ra,rc,rfl,rfl,rfl,rfl⟩:=DH3;have H6:=tA (h0 ⟨3,.data⟩ (by simp) rfl);subst ha;rw[ha0];simp only[wP,List.foldl_cons,List.foldl_nil,Act.put,sPa,sPb,sPc];go_simp;refine hK.out _ _ ?_;refine⟨x55,(.slice ra (m.length+1) rc),x65,x66,x67,x68,x69,(.slice ra (m.length+1) rc),x5,(.slice ra (m.length+1) rc),(m.length+1),(nats m++[Value.int .i64 (s:Int)]),vB,nB,xB,ls,?fa17,fun j hj=>xC (HR j hj),(hsP H2),Kh (fun h=>absurd (xC H6) (by rw[h];simp)),Kh (fun _=>⟨ra,rc,rfl,rfl,rfl,rfl⟩),(hsP H4),(hsP H1),(hsP H0),(hsP h9),(hsN h4),(hsQ h8),Kh (fun _=>⟨xC H6,rfl⟩),(hsQ h6),HM⟩
  case fa17=>rw[ha0];simp only[wP,List.foldl_cons,List.foldl_nil,Act.put,sPa,sPb,sPc]
 case s18 =>
  intro l a w h h3 h0 K hK;obtain⟨x55,x56,x65,x66,x67,x68,x69,x4,x5,vA,nA,xA,vB,nB,xB,ls,ha,HR,H2,h5,H3,H4,H1,H0,h9,h4,h8,h7,h6,HM⟩:=h;have DH16:=h8.out (tA (h0 ⟨16,.data⟩ (by simp) rfl));obtain⟨H9,ra,rc,rfl,rfl,rfl,rfl⟩:=DH16;have H6:=tA (h0 ⟨16,.data⟩ (by simp) rfl);subst ha;rw[ha0];simp only[wP,List.foldl_cons,List.foldl_nil,Act.put,sPa,sPb,sPc];go_simp;refine hK.out _ _ ?_;refine⟨x55,x56,x65,x66,x67,x68,(.slice ra (m.length+1) rc),x4,(.slice ra (m.length+1) rc),vA,nA,xA,(.slice ra (m.length+1) rc),(m.length+1),(strV ws++[Value.string (u++X)]),ls,?fa18,fun j hj=>xC (HR j hj),(hsP H2),(hsN h5),(hsP H3),(hsP H4),(hsP H1),(hsP H0),(hsP h9),Kh (fun h=>absurd (xC H6) (by rw[h];simp)),Kh (fun _=>⟨xC H9,ra,rc,rfl,rfl,rfl,rfl⟩),(hsQ h7),Kh (fun _=>⟨xC H6,rfl⟩),HM⟩
  case fa18=>rw[ha0];simp only[wP,List.foldl_cons,List.foldl_nil,Act.put,sPa,sPb,sPc]
theorem access_any (B:Nat)(w:World)(v:Value)(d:DfaV)(n k:Nat)(hB:B<=w.heap.size)(h:uW B w v d)(hd:VD d n k):Calls Try.prog 105 #[v] w (AccOk w (zV d k)):=by
 obtain⟨fb,fo,fc,b,off,cap,RB,RO,RC,rfl,b6⟩:=h.at hd;have hn:=hd.hn;have n3:=hd.n1;have g2:=hd.nbig;have n7:=hd.k6;have n8:=hd.k1;have o3:=b6.fcap.1;have c9:=b6.fcap.2;have o4:=b6.cap.1;have d4:=b6.cap.2;have k4:fc<=9223372036854775807:=by unfold maxLen at c9;omega
 have k3:cap<=9223372036854775807:=by unfold maxLen at d4;omega
 obtain⟨S,hS⟩:∃ S,S=st0 d:=⟨_,rfl⟩;have i0:S<n:=by rw[hS];exact oT hd
 have i3:=Kh hS;rw[<- hS];obtain⟨wA,d5⟩:∃ wA,wA=w.alloc (.cells #[.int .i64 (k:Int),.int .i64 (S:Int),.slice (some ⟨fb,fo,none⟩) n fc,.slice (some ⟨b,off,none⟩) n cap] 42):=⟨_,rfl⟩;have a1:wA.heap[w.heap.size]?=some (.cells #[.int .i64 (k:Int),.int .i64 (S:Int),.slice (some ⟨fb,fo,none⟩) n fc,.slice (some ⟨b,off,none⟩) n cap] 42 (0,0)):=by rw[d5];exact heap_alloc_new w _
 have e8:w.grownBy wA none:=by rw[d5];exact Ga w _ none
 have b5:wA.heap.size=w.heap.size+1:=by rw[d5,zJ]
 obtain⟨c0,c1,c2,c3⟩:=zF a1;obtain⟨P,hP⟩:∃ P,P=w.heap.size:=⟨_,rfl⟩;have i4:=Kh hP;rw[<- hP]at a1 c0 c1 c2 c3 b5 hB;have e5:=Kh a1;have l7:=Kh e8;have l3:=Kh d5;have m0:=Kh (b6.kept e8 (by simp));have HN:=Kh hn;have HD:=Kh hd;unfold dAgg;clear a1 e8 d5 b6 hn hd h c9 d4 hS;go_enter Try.func105,Try.ntmps105;go_upto_region 1 with fail;rw[<- l3.out,<- i4.out];clear hP;obtain⟨wB,b7⟩:∃ wB,wB=(wA.alloc (.cells #[.int .i64 (S:Int)] 3)).alloc (.cells #[.string ⟨#[]⟩] 9):=⟨_,rfl⟩
 have a7:wB.ownsRow (P+1) 3 1 (.slice (some ⟨P+1,0,none⟩) 1 1) 1 (nats [S]):=by
  rw[b7];have:=xM (World.ownsRow_lit wA #[.int .i64 (S:Int)] 1 (e:=3) (size:=1) (Nat.le_refl _) (by unfold maxLen;omega) (by simp)) (Nat.le_of_eq b5.symm);rw[b5]at this;exact this.alloc _
 have a6:wB.ownsRow (P+1) 9 1 (.slice (some ⟨P+1+1,0,none⟩) 1 1) 1 (strV [⟨#[]⟩]):=by
  rw[b7];have:=xM (World.ownsRow_lit (wA.alloc (.cells #[.int .i64 (S:Int)] 3)) #[.string ⟨#[]⟩] 1 (e:=9) (size:=1) (Nat.le_refl _) (by unfold maxLen;omega) (by simp)) (base':=P+1) (by rw[zJ,b5];omega);rw[zJ,b5]at this;exact this
 have g3:wA.grownBy wB none:=by rw[b7];exact wL (Ga wA _ none) _
 have l2:=Kh b7;have i6:=Kh a7;have i5:=Kh a6;have f8:=Kh g3;have j5:wB.heap.size=P+1+1+1:=by rw[b7,zJ,zJ,b5]
 clear b7 a7 a6 g3;go_upto_region 2 with fail;rw[<- l2.out];obtain⟨d0,d1,d2,d3⟩:=zF (zB e5.out f8.out (by simp));go_upto_region 3 with (first|(at_make;refine lO rfl _ _ _ rfl xW rfl .i64 .i64 _ _ n rfl rfl rfl rfl ?b1 ?b2 ?_;(case b1=>omega);(case b2=>(unfold maxLen;omega));intro w2 h0 e2 e7)|fail)
 clear d0 d1 d2 d3;obtain⟨d0,d1,d2,d3⟩:=zF (zB e5.out (zD f8.out e2) (by simp));obtain⟨G,hG⟩:∃ G,G=P+1+1+1:=⟨_,rfl⟩;have i1:wB.heap.size=G:=by omega
 rw[i1]at h0;rw[<- hG];have o8:P+2<G:=by omega
 clear hG j5 e7;rw[<- oM,<- metL_nil]at h0;have fS:=h0.frozen S;have cS:=h0.bool S (by rw[rW];exact i0);have e9:=h0.bool_set S (by rw[rW];exact i0) true;rw[qEB,List.nil_append]at e9;have e1:wB.grownBy (w2.setCell ⟨G,S,none⟩ (.bool true)) none:=zA e2 (zC w2 ⟨G,S,none⟩ _) (fun q e=>by have h7:G=q:=Oj e;have:=e2.size;omega);have k2:G≠P+1:=by omega
 have k0:G≠P+1+1:=by omega
 have d6:AccI d n k 0 [S]:=by have:=AccI.start HD.out;rw[<- i3.out]at this;exact this
 have c7:rI d k (n - 0) 0 [S]=zV d k:=by rw[zV,HN.out,<- i3.out];rfl
 have h6:=Kh d6;have d8:=Kh c7;have j1:=Kh e9;have i9:=Kh (zD f8.out e1);have i7:=Kh (yR i6.out e1 (by simp));have i2:=Kh (yR i5.out e1 (by simp));have H1:Hid (eW [⟨#[]⟩]):=Kh (fun j hj=>by simp at hj;subst hj;simp[List.getD];rfl);clear h0 e2 e9 e1 d6 c7 i1;have k9:(S:Int)<n:=by omega
 go_wp2;clear d0 d1 d2 d3 fS cS c0 c1 c2 c3
 go_loopg [4,5,7] n (fun gh v4 v5 i wr=>∃ (i':Nat) (l:List Nat) (ws:List ByteArray) (sa sb:Nat) (sc sd:Nat),gh+i'=n/\i=.int .i64 i'/\v4=.slice (some ⟨sa,0,none⟩) l.length sc/\v5=.slice (some ⟨sb,0,none⟩) l.length sd /\
  wr.ownsRow (P+1) 3 1 (.slice (some ⟨sa,0,none⟩) l.length sc) l.length (nats l)/\wr.ownsRow (P+1) 9 1 (.slice (some ⟨sb,0,none⟩) l.length sd) l.length (strV ws)/\Arr wr G 4 (bls (metL n l))/\AccI d n k i' l/\rI d k (n - i') i' l=zV d k/\i'<=l.length/\eW ws/\wA.grownBy wr none)
 case atStart=>exact⟨0,[S],[⟨#[]⟩],P+1,P+1+1,1,1,rfl,rfl,rfl,rfl,i7.out,i2.out,j1.out,h6.out,d8.out,by simp,H1.out,i9.out⟩
 case round =>
  clear i7 i2 j1 h6 d8 H1 i9 i6 i5;obtain⟨i',l,ws,sa,sb,sc,sd,hg,rfl,rfl,rfl,h2,h3,h0,a4,c7,o0,H9,H6⟩:=hrel;have n6:=mG a4.nd a4.lt;have HG:=Kh hg;have HO:=Kh h2;have HW:=Kh h3;have HA:=Kh h0;have h6:=Kh a4;have d8:=Kh c7;have H1:=Kh H9;have H8:=Kh H6;clear hg h2 h3 h0 a4 c7 H9 H6;by_cases hi:i'<l.length
  ·have o1:(i':Int)<l.length:=by omega
   have n9:i'<n:=(by omega);have a9:l.getD i' 0<n:=h6.out.lt _ (by rw[zG hi];exact List.getElem_mem _);obtain⟨q0,a8⟩:∃ q0,q0=l.getD i' 0:=⟨_,rfl⟩;rw[<- a8]at a9;have f1:=Kh a8;clear a8;go_wp2
   go_loopg [4,5,8] k (fun gh v4 v5 i wr=>∃ (a:Nat) (m:List Nat) (ws:List ByteArray) (sa sb:Nat) (sc sd:Nat),gh+a=k/\i=.int .i64 a/\m=wO d l i' a/\v4=.slice (some ⟨sa,0,none⟩) m.length sc/\v5=.slice (some ⟨sb,0,none⟩) m.length sd /\
    wr.ownsRow (P+1) 3 1 (.slice (some ⟨sa,0,none⟩) m.length sc) m.length (nats m)/\wr.ownsRow (P+1) 9 1 (.slice (some ⟨sb,0,none⟩) m.length sd) m.length (strV ws)/\Arr wr G 4 (bls (metL n m))/\eW ws/\wA.grownBy wr none)
   case atStart=>exact⟨0,l,ws,sa,sb,sc,sd,rfl,rfl,rfl,rfl,rfl,HO.out,HW.out,HA.out,H1.out,H8.out⟩
   case round =>
    clear HO HW HA H1 H8;obtain⟨a,m,ws,sa,sb,sc,sd,hg,rfl,hm,rfl,rfl,h2,h3,h0,H9,H6⟩:=hrel;have b4:=Kh hg;have HM:=Kh hm;have H0:=uS d l i' a;rw[<- hm]at H0;have n5:=H0.length_le;clear hg hm;by_cases ha:a<k
    ·have o6:(a:Int)<k:=by omega
     have b0:m.Nodup:=by rw[HM.out];exact mC h6.out.nd i' a
     have b3:∀ q∈m,q<n:=by
      intro q hq;rw[HM.out]at hq;rcases tM.1 hq with hq|⟨b,hb,rfl⟩
      ·exact h6.out.lt q hq
      ·rw[<- f1.out];exact nO HD.out a9 (by omega)
     have n4:=mG b0 b3;have H7:=m0.out.kept H6 (by simp);obtain⟨d0,d1,d2,d3⟩:=zF (zB e5.out H6 (by simp));have cq:=(Arr.of_owns h2).nat i' (by omega);rw[rY H0 hi,<- f1.out]at cq;have ch:=H7.hd q0 a9;have ce:=H7.el q0 a a9 ha;have n2:=(H7.rcap q0 a9).1;have b9:=(H7.rcap q0 a9).2;have hs:=nO HD.out a9 ha;obtain⟨s,e6⟩:∃ s,s=nx d q0 a:=⟨_,rfl⟩;rw[<- e6]at ce hs;have n0:(s:Int)<n:=(by omega);have j9:(q0:Int)<n:=(by omega);have j7:RC q0<=9223372036854775807:=by unfold maxLen at b9;omega
     have cm:=h0.bool s (by rw[rW];exact hs);rw[metL_get hs]at cm;have d7:Hid (wO d l i' (a+1)=xP m s):=Kh (by rw[wO,<- f1.out,<- e6,<- HM.out]);clear e6 b9 H7;by_cases hin2:s∈m
     ·rw[decide_eq_true hin2]at cm
      have f4:Hid (m=wO d l i' (a+1)):=Kh (by rw[d7.out,uR hin2]);have HO:=Kh h2;have HW:=Kh h3;have HA:=Kh h0;have H1:=Kh H9;have H8:=Kh H6;clear hin2 h2 h3 h0 H9 H6 b0 b3 H0;go_wp2
      go_quiet (fail)
      go_wp2;go_roundg (k - (a+1))
      case measure=>have:=b4.out;omega
      case rel =>
       have o2:=zN wr 1 none;exact⟨a+1,m,ws,sa,sb,sc,sd,by omega,by go_num,f4.out,rfl,rfl,yR HO.out (zN wr _ none) (by simp),yR HW.out (zN wr _ none) (by simp),HA.out.kept (zN wr _ none) (by simp),H1.out,zD H8.out (zN wr _ _)⟩
     ·rw[decide_eq_false hin2]at cm
      have f4:Hid (m++[s]=wO d l i' (a+1)):=Kh (by rw[d7.out,wV hin2]);have o9:=Kh hin2;have H1:=Kh H9;have H8:=Kh H6;have fm:wr.frozen? ⟨G,s,none⟩=false:=h0.frozen s;have H5:=Kh h2;have H4:=Kh h3;have h8:=Kh h0;clear hin2 h2 h3 h0 H9 H6 b0 b3 H0;go_upto_region 10 with fail
      go_quiet (fail)
      go_upto_region 13 with fail;obtain⟨w5,e0⟩:∃ w5,w5=((wr.drewN nq).setCell ⟨G,s,none⟩ (.bool true)).drew:=⟨_,rfl⟩;have l5:=Kh e0;have c8:wr.grownBy w5 (some G):=by rw[e0];exact vC (zC wr ⟨G,s,none⟩ (.bool true)) rfl rfl rfl rfl
      have e3:Arr w5 G 4 (bls (metL n (m++[s]))):=by
       have h1:=h8.out.bool_set s (by rw[rW];exact hs) true;rw[qEB]at h1;rw[e0];exact h1.of_heap rfl
      have c4:w5.ownsRow (P+1) 3 1 (.slice (some ⟨sa,0,none⟩) m.length sc) m.length (nats m):=H5.out.kept c8 (.inr (by obtain⟨cur,rest,hq,_⟩:=h8.out;exact zQ H5.out hq (by decide)));have h9:w5.ownsRow (P+1) 9 1 (.slice (some ⟨sb,0,none⟩) m.length sd) m.length (strV ws):=H4.out.kept c8 (.inr (by obtain⟨cur,rest,hq,_⟩:=h8.out;exact zQ H4.out hq (by decide)))
      have c5:∀ q,(Value.slice (some ⟨sa,0,none⟩) m.length sc).ownBlock=some q->(Value.slice (some ⟨sb,0,none⟩) m.length sd).ownBlock≠some q:=by
       intro q hq e;have:q=sb:=by simpa [Value.ownBlock] using e.symm
       subst this;obtain⟨cur,rest,j8,_⟩:=Arr.of_owns h9;exact zQ c4 j8 (by decide) hq
      have g1:ws.length=m.length:=by have:=h9.1;simpa [strV] using this
      obtain⟨u,hu⟩:∃ u,u=ws.getD i' ⟨#[]⟩:=⟨_,rfl⟩;have m9:u.size<=i':=by rw[hu];exact H1.out i' (by omega)
      obtain⟨F,hF⟩:∃ F:Nat->Prop,F=fun q=>(Value.slice (some ⟨sa,0,none⟩) m.length sc).ownBlock=some q\/(Value.slice (some ⟨sb,0,none⟩) m.length sd).ownBlock=some q:=⟨_,rfl⟩;have j0:=Kh hF
      have hM:Many w5 F w5 [⟨P+1,3,.slice (some ⟨sa,0,none⟩) m.length sc,m.length,nats m,1⟩,⟨P+1,9,.slice (some ⟨sb,0,none⟩) m.length sd,m.length,strV ws,1⟩] [] [(sb,9,strV ws)]:=by
       rw[hF];exact((Many.two (r:=⟨P+1,3,.slice (some ⟨sa,0,none⟩) m.length sc,m.length,nats m,1⟩) (s:=⟨P+1,9,.slice (some ⟨sb,0,none⟩) m.length sd,m.length,strV ws,1⟩) c4 h9 c5).see (j:=1) rfl rfl rfl)
      have a5:Hid (∀ W rs ls,Many w5 F W rs ls [(sb,9,strV ws)]->W.cell? ⟨sb,i',none⟩=some (.string u)):=Kh (fun W rs ls h=>by
       have:=h.precell (List.Mem.head _) i' (by simp[strV];omega);rw[this,hu,zG (by omega)]
       simp[strV])
      have j6:P+1<=w5.heap.size:=by have:=c8.size;have:=H8.out.size;omega
      have l9:=Kh c8;have m2:=Kh e3;have l0:=Kh g1;have k8:IntKind.i64.wrap (97+(a:Int))=97+(a:Int):=IntWalk.i64_in _ (by omega);have o5:IntKind.u8.wrap (97+(a:Int))=97+(a:Int):=IntWalk.u8_in _ (by omega);obtain⟨X,hX⟩:∃ X,X=strOfNums [97+(a:Int)]:=⟨_,rfl⟩;have o7:X.size=1:=by rw[hX];rfl
      have g5:∀ (W:World) (g:Nat),W.cell? ⟨g,0,none⟩=some (.int .u8 (97+(a:Int)))->(convert 106 9 (.slice (some ⟨g,0,none⟩) 1 1)).run Try.prog W=.ok (.string X) W:=fun W g h=>by rw[hX];exact qAK 106 5 Try.underlying106 Try.underlying5 9 Try.underlying9 h
      have g6:∀ W:World,(Op.stringOp .add u X).run Try.prog W=.ok (.string (u++X)) W:=fun W=>run_string_add_sum W u X (by omega);have f3:Hid ((Value.slice (some ⟨sa,0,none⟩) m.length sc).ownBlock≠some G):=Kh (by obtain⟨cur,rest,hq,_⟩:=e3;exact zQ c4 hq (by decide));have f2:Hid ((Value.slice (some ⟨sb,0,none⟩) m.length sd).ownBlock≠some G):=Kh (by obtain⟨cur,rest,hq,_⟩:=e3;exact zQ h9 hq (by decide));have f6:Hid (∀ q,(Value.slice (some ⟨sa,0,none⟩) m.length sc).ownBlock=some q->P+1<=q):=Kh (fun q hq=>(c4.lt q hq).1);have f5:Hid (∀ q,(Value.slice (some ⟨sb,0,none⟩) m.length sd).ownBlock=some q->P+1<=q):=Kh (fun q hq=>(h9.lt q hq).1);clear hX;clear hF hu e0 c8 e3 c5 c4 h9 g1 cq ch ce cm fm d0 d1 d2 d3 H5 H4 h8;have k7:i'<m.length:=(by omega);have k5:(i':Int)<m.length:=(by omega);have p0:Hid (∀ W rs ls,Many w5 F W rs ls [(sb,9,strV ws)]->W.cell? ⟨sb,i',none⟩=some (.string u)/\W.cell? ⟨sb,i',none⟩=some (.string u)):=Kh (fun W rs ls h=>⟨a5.out W rs ls h,a5.out W rs ls h⟩);refine wp_region_noPanic ?_;refine wQ (G:=tZ 99 (fun W=>W.cell? ⟨sb,i',none⟩=some (.string u)) (fun W=>W.cell? ⟨sb,i',none⟩=some (.string u))) (by kernel_rfl) ?_;rw[<- l5.out];have C:Hid (w5.cell? ⟨sb,i',none⟩=some (.string u)):=Kh (a5.out _ _ _ hM);refine zW 0 ⟨C.out,fun _=>C.out⟩ ?_;refine zW 1 ⟨C.out,fun _=>C.out⟩ ?_;refine zW 4 ⟨C.out,fun _=>C.out⟩ ?_;refine zW 5 ⟨C.out,fun _=>C.out⟩ ?_;refine zW 6 ⟨C.out,fun _=>C.out⟩ ?_;refine zW 7 ⟨C.out,fun _=>C.out⟩ ?_;refine zW 8 ⟨C.out,fun _=>C.out⟩ ?_;refine zW 9 ⟨C.out,fun _=>C.out⟩ ?_;refine zW 10 ⟨C.out,fun _=>C.out⟩ ?_;refine zW 11 ⟨C.out,fun _=>C.out⟩ ?_;refine wpAnyG_named (fun Wp hWp a0 ha0=>?_);subst hWp
      try simp only[Act.put,sPd,sPe,sPf,sPa,sPb,sPc]at ha0
      have m3:=Kh ha0;refine wpAnyG_steps (I:=acc13I (P+1) sa sb sc sd s a i' m ws u X F w5 a0) (fun l a w h=>acc13_G a5.out h) (acc13_steps ha0 (by omega) j6 g5 g6) (by kernel_rfl) ?hend (by decide +kernel) ?hinit
      case hinit =>
       clear ha0;refine⟨a0.tmps.getD 55 undef,a0.tmps.getD 56 undef,a0.tmps.getD 65 undef,a0.tmps.getD 66 undef,a0.tmps.getD 67 undef,a0.tmps.getD 68 undef,a0.tmps.getD 69 undef,a0.tmps.getD 4 undef,a0.tmps.getD 5 undef,.slice (some ⟨sa,0,none⟩) m.length sc,m.length,nats m,.slice (some ⟨sb,0,none⟩) m.length sd,m.length,strV ws,[],(iE (by simp)).symm,by decide +kernel,Kh (fun h=>absurd h (by decide +kernel)),Kh (fun _=>⟨rfl,rfl,rfl⟩),Kh (fun h=>absurd h (by decide +kernel)),Kh (fun h=>absurd h (by decide +kernel)),Kh (fun h=>absurd h (by decide +kernel)),Kh (fun h=>absurd h (by decide +kernel)),Kh (fun h=>absurd h (by decide +kernel)),Kh (fun _=>⟨rfl,rfl,rfl⟩),Kh (fun h=>absurd h (by decide +kernel)),Kh (fun h=>absurd h (by decide +kernel)),Kh (fun h=>absurd h (by decide +kernel)),hM⟩
      case hend =>
       clear ha0;intro l1 a2 w6 h a3;obtain⟨x55,x56,x65,x66,x67,x68,x69,x4,x5,vA,nA,xA,vB,nB,xB,ls,ha,HR,H2,m4,H3,m8,m7,m6,m5,g0,j4,j3,j2,HM⟩:=h;obtain⟨r3,c3,rfl,rfl,rfl,rfl⟩:=H3.out (a3 3 (by decide));obtain⟨_,r16,c16,rfl,rfl,rfl,rfl⟩:=j4.out (a3 16 (by decide));obtain⟨_,rfl⟩:=j3.out (a3 17 (by decide));obtain⟨_,rfl⟩:=j2.out (a3 18 (by decide));clear H2 m4 H3 m8 m7 m6 m5 g0 j4 j3 j2 HR;subst ha;rw[m3.out];simp only[wP,List.foldl_cons,List.foldl_nil,Act.put,sPa,sPb,sPc];refine NoPanic.normal ?_
       have g7:∀ q,F q->q≠G:=fun q hq=>by
        rw[j0.out]at hq;have h1:=HM.own;rintro rfl;rcases hq with hq|hq
        ·exact f3.out hq
        ·exact f2.out hq
       have h5:=HM.own 0 _ rfl;have h4:=HM.own 1 _ rfl
       have g4:wA.grownBy w6 none:=GrownBut.grown HM.but (zA H8.out l9.out (fun q e=>by have h7:G=q:=Oj e;omega)) (fun q hq=>by
        rw[j0.out]at hq;rcases hq with hq|hq
        ·exact .inr (by have:=f6.out q hq;omega)
        ·exact .inr (by have:=f5.out q hq;omega))
       have g9:Arr w6 G 4 (bls (metL n (m++[s]))):=by
        obtain⟨cur,rest,hq,hc⟩:=m2.out;exact⟨cur,rest,HM.but.heap hq (fun hf=>g7 G hf rfl),hc⟩
       have b8:eW (ws++[u++X]):=H1.out.snoc (by rw[ByteArray.size_append];have:=l0.out;omega);simp only[]at h5 h4;rw[<- vM]at h5;rw[<- strV_snoc]at h4;have c6:(m++[s]).length=m.length+1:=by simp
       obtain⟨ka,rfl,_,_,_⟩:=yW h5 (by omega);obtain⟨kb,rfl,_,_,_⟩:=yW h4 (by omega);have l6:=Kh h5;have l4:=Kh h4;have l8:=Kh g4;have m1:=Kh g9;have f0:=Kh b8;have e4:=Kh c6;clear HM h5 h4 g4 g9 b8 g7 c6 g5 g6;go_wp2;go_roundg (k - (a+1))
       case measure=>have:=b4.out;omega
       case rel=>exact⟨a+1,m++[s],ws++[u++X],ka,kb,_,_,by omega,by go_num,f4.out,by rw[e4.out],by rw[e4.out],by rw[e4.out];exact l6.out,by rw[e4.out];exact l4.out,m1.out,f0.out,l8.out⟩
    ·have g8:a=k:=by have:=b4.out;omega
     have i8:Hid (m=wO d l i' k):=Kh (by rw[HM.out,g8]);have d9:=Kh (h6.out.row HD.out hi)
     have f7:Hid (rI d k (n - (i'+1)) (i'+1) (wO d l i' k)=zV d k):=Kh (by
      have h1:=d8.out;rw[show n - i'=(n - (i'+1))+1 by omega,rI,if_pos hi]at h1
      exact h1)
     have HO:=Kh h2;have HW:=Kh h3;have HA:=Kh h0;have H1:=Kh H9;have H8:=Kh H6;clear g8 h2 h3 h0 H9 H6 H0;obtain⟨d0,d1,d2,d3⟩:=zF (zB e5.out H8.out (by simp));go_wp2;go_roundg (n - (i'+1))
     case measure=>have:=HG.out;omega
     case rel=>exact⟨i'+1,m,ws,sa,sb,sc,sd,by omega,by go_num,rfl,rfl,HO.out,HW.out,HA.out,by rw[i8.out];exact d9.out,by rw[i8.out];exact f7.out,by omega,H1.out,H8.out⟩
  ·have f9:Hid (zV d k=l):=Kh (by rw[<- d8.out,eV hi])
   go_wp2;refine bodyPost_ret (v:=.tuple #[.slice (some ⟨sa,0,none⟩) l.length sc,.slice (some ⟨sb,0,none⟩) l.length sd]) (by simp[results,Try.results105,go_sem]) rfl ?_;rw[f9.out];exact⟨_,_,_,rfl,xM HO.out (by have:=i4.out;omega),zD l7.out H8.out⟩
end Go.Proofs.Ytjfdomfendbhfaa
