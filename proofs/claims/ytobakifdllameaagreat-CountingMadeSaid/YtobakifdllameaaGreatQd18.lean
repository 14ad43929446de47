/- Part 18 of the proof. -/
import Derived.Test.YtobakifdllameaaGreatQd13
import Derived.Deep.DeepCutAuto
import Derived.Lib.OwnBridge
set_option linter.unusedVariables false
set_option linter.unusedSimpArgs false
set_option maxRecDepth 100000
set_option maxHeartbeats 16000000
namespace Go.Proofs.YtobakifdllameaaGreat
open Go.Maps Go.RowKit
def powN (t:List (List Int))(x:Nat):Nat->Nat
 | 0=>0
 | i+1=>entN t (powN t x i) x
def uH (t:List (List Int))(x L:Nat):List Nat:=(List.range L).map (powN t x)
theorem vY (t:List (List Int))(x L:Nat):(uH t x L).length=L:=by simp[uH]
theorem iQ (t:List (List Int))(x L:Nat):uH t x L++[powN t x L]=uH t x (L+1):=by rw[uH,uH,List.range_succ,List.map_append];rfl
theorem qBR {t:List (List Int)}{x L i:Nat}(h:i<L):(uH t x L).getD i 0=powN t x i:=by
 rw[zN (by rw[vY];exact h)];simp[uH]
theorem qAA {t:List (List Int)}(hs:Shape t){x:Nat}(hx:x<t.length):∀i,powN t x i<t.length
 | 0=>hs.pos
 | i+1=>pH hs (qAA hs hx i) hx
def PowR (t:List (List Int))(x L j:Nat):Prop:=(uH t x L).Nodup/\j<L/\powN t x L=powN t x j
theorem qJS {t:List (List Int)}{x L i j:Nat}(h:(uH t x L).Nodup)(hi:i<L)(hj:j<L)(e:powN t x i=powN t x j):i=j:=by
 have e1:(uH t x L)[i]'(by rw[vY];exact hi)=(uH t x L)[j]'(by rw[vY];exact hj):=by simpa [uH] using e
 exact(List.getElem_inj h).1 e1
theorem PowR.le {t:List (List Int)}{x L j L' j':Nat}(h:PowR t x L j)(h':PowR t x L' j'):L'<=L:=by
 rcases Nat.lt_or_ge L L' with h1|h1
 ·have:=qJS h'.1 h1 (by have:=h.2.1;omega) h.2.2
  have:=h.2.1;omega
 exact h1
theorem PowR.eq {t:List (List Int)}{x L j L' j':Nat}(h:PowR t x L j)(h':PowR t x L' j'):L=L'/\j=j':=by
 have e:L=L':=Nat.le_antisymm (h'.le h) (h.le h');subst e;exact⟨rfl,qJS h.1 h.2.1 h'.2.1 (h.2.2.symm.trans h'.2.2)⟩
theorem qJR {t:List (List Int)}{x L:Nat}(h:(uH t x L).Nodup)(hn:powN t x L ∉ uH t x L):(uH t x (L+1)).Nodup:=by
 rw[<-iQ,List.nodup_append];exact⟨h,by simp,fun a ha b hb=>by rw[List.mem_singleton]at hb;subst hb;exact fun e=>hn (e ▸ ha)⟩
theorem fK {t:List (List Int)}(hs:Shape t){x L:Nat}(hx:x<t.length)(h:(uH t x L).Nodup):L<=t.length:=by
 have:=qN h (n:=t.length) (fun q hq=>by obtain⟨i,_,rfl⟩:=List.mem_map.1 hq;exact qAA hs hx i)
 rwa [vY]at this
def uB (l:List Nat):List Int:=l.map fun(x:Nat)=>(x:Int)
theorem qKK {l:List Nat}{x:Nat}:(x:Int)∈uB l↔x∈l:=by
 constructor
 ·intro h
  obtain⟨y,hy,e⟩:=List.mem_map.1 h;have:y=x:=by omega
  rw[<-this];exact hy
 intro h;exact List.mem_map_of_mem h
theorem qKL {l:List Nat}{x:Nat}:(uB l).idxOf (x:Int)=l.idxOf x:=by
 induction l with
 | nil=>rfl
 | cons a l ih =>
  rw[uB,List.map_cons,List.idxOf_cons,List.idxOf_cons,<-uB,ih];by_cases h:a=x
  ·subst h;simp
  have h2:¬(a:Int)=(x:Int):=by omega
  have e1:((a:Int) == (x:Int))=false:=by rw[beq_eq_false_iff_ne];exact h2
  have e2:(a == x)=false:=by rw[beq_eq_false_iff_ne];exact h
  rw[e1,e2]
def qTM (t:List (List Int))(x:Nat)(w:World)(e:Ending)(w':World):Prop :=
 ∃L j sa sc,PowR t x L j/\e=.returned (.tuple #[.slice sa L sc,.int .i64 (j:Int)])/\w'.ownsRow w.heap.size 3 1 (.slice sa L sc) L (nats (uH t x L))/\w.grownBy w' none
theorem qBS (B:Nat)(w:World)(b off cap:Nat)(RB RO RC:Nat->Nat)(t:List (List Int))(x:Nat)(hB:B<=w.heap.size)(hq:Sq B w t b off RB RO RC)(hs:Shape t)(a6:t.length<=cap)(a5:cap<=9223372036854775807)(hx:x<t.length):Calls Tryz.prog 37 #[.slice (some ⟨b,off,none⟩) t.length cap,.int .i64 (x:Int)] w (qTM t x w):=by
 have e7:=@run_makeMap Tryz.prog;have d5:=hs.le;obtain⟨n,hN⟩:=Nm t.length;obtain⟨HN,HS,HQ⟩:=K3 hN hs hq;rw[<-hN]at a6 hx d5⊢;obtain⟨mb,H5⟩:=Nm w.heap.size;obtain⟨w1,H1⟩:=Nm (w.alloc (.map #[] 0));have c8:w.grownBy w1 none:=by rw[H1];exact Ga w _ none
 have b8:w1.heap.size=mb+1:=by rw[H1,zW,H5]
 have d0:Hid (rU w1 mb 0 (uB (uH t x 0))):=Kh (by rw[H1,H5];exact rU.made w);obtain⟨e3,d8,H7,e8⟩:=K4 c8 H1 H5 b8;clear hs hq hN c8 H1 H5 b8;go_enter Tryz.func37,Tryz.ntmps37;go_upto_region 2 with fail;rw[<-d8.out,<-H7.out];go_wp2
 go_loopg [7,8,9,10] (n+1) (fun gh a7 a8 a9 a10 wr=>∃(L:Nat) (sa:Option Addr) (sc:Nat),gh+L=n+1/\a7=.slice sa L sc/\a8=.int .i64 ((powN t x L:Nat):Int)/\(uH t x L).Nodup/\wr.ownsRow (mb+1) 3 1 (.slice sa L sc) L (nats (uH t x L))/\rU wr mb L (uB (uH t x L))/\w.grownBy wr none)
 case atStart=>exact⟨0,none,0,rfl,rfl,rfl,by simp[uH],by simpa [uH,nats] using World.ownsRow_nil _ _ _ _,d0.out,e3.out⟩
 clear d0;obtain⟨L,sa,sc,a2,rfl,rfl,H2,h4,h3,H6⟩:=hrel;obtain⟨d2,e0,HO,b4,b6⟩:=K5 a2 H2 h4 h3 H6;have d3:=H6.size;have hp:=qAA HS.out (by rw[<-HN.out];exact hx) L;rw[<-HN.out]at hp;have h6:=h3.lookup (x:=((powN t x L:Nat):Int)) ⟨by omega,by omega⟩;have hL:=fK HS.out (by rw[<-HN.out];exact hx) H2;rw[<-HN.out]at hL;have b3:Hid (powN t x (L+1)=entN t (powN t x L) x):=Kh rfl;have b1:=Kh (iQ t x L);have h0:((powN t x L:Nat):Int)∈uB (uH t x L)↔powN t x L∈uH t x L:=qKK;have h7:(uB (uH t x L)).idxOf ((powN t x L:Nat):Int)=(uH t x L).idxOf (powN t x L):=qKL;rw[h7]at h6;by_cases hin:powN t x L∈uH t x L
 ·rw[if_pos (h0.2 hin),decide_eq_true (h0.2 hin)]at h6
  obtain⟨j,hj⟩:=Nm ((uH t x L).idxOf (powN t x L));rw[<-hj]at h6
  have HP:Hid (PowR t x L j):=Kh (by
   have a1:j<(uH t x L).length:=(by rw[hj];exact List.idxOf_lt_length_of_mem hin);have c7:j<L:=(by rw[vY]at a1;exact a1);refine⟨e0.out,c7,?_⟩;have e1:=List.getElem_idxOf (x:=powN t x L) (xs:=uH t x L) (List.idxOf_lt_length_of_mem hin);rw[<-qBR (t:=t) (x:=x) c7,zN a1];simp only[hj]
   exact e1.symm)
  obtain⟨p,H0⟩:=Nm (powN t x L);rw[<-H0]at h6⊢;clear a2 H2 h4 h3 H6 hp hL h0 h7 hin hj H0 d3;go_wp2;refine bodyPost_ret (v:=.tuple #[.slice sa L sc,.int .i64 (j:Int)]) (by simp[results,Tryz.results37,go_sem]) rfl ?_;exact⟨L,j,sa,sc,HP.out,rfl,wV HO.out (by have:=H7.out;omega),b6.out⟩
 rw[if_neg (fun h=>hin (h0.1 h)),decide_eq_false (fun h=>hin (h0.1 h))]at h6;have H8:Hid (((powN t x L:Nat):Int) ∉ uB (uH t x L)):=Kh (fun h=>hin (h0.1 h));have c9:=Kh (qJR H2 hin);have b0:Hid (uB (uH t x L)++[((powN t x L:Nat):Int)]=uB (uH t x (L+1))):=Kh (by rw[<-iQ];simp[uB]);have d7:=fK HS.out (by rw[<-HN.out];exact hx) c9.out;rw[<-HN.out]at d7;obtain⟨l,hl⟩:=Nm (uB (uH t x L));have c6:l.length=L:=by rw[hl];simp[uB,vY]
 obtain⟨p,H0⟩:=Nm (powN t x L);rw[<-hl]at b4 H8 b0;rw[<-H0]at h6 H8 b0 hp b3 b1⊢;have d1:=Kh c6;have e9:=Kh H0;clear a2 H2 h4 h3 H6 hL h0 h7 hin hl c6 H0;go_upto_region 9 with (first|(at_mapUpdate;refine lO rfl _ _ _ rfl mb L l (p:Int) rfl rfl (by rw[d1.out];rfl) b4.out (by unfold maxLen;omega) ⟨by omega,by omega⟩ H8.out (by rw[d1.out];omega) ?_;intro w5 h1 a4)|fail);rw[b0.out]at h1;have h9:w.grownBy w5 none:=yG b6.out a4 (by show _<=mb;have:=H7.out;omega)
 have c4:(Value.slice sa L sc).ownBlock=none\/(Value.slice sa L sc).ownBlock≠some mb:=by
  rcases hv:(Value.slice sa L sc).ownBlock with _|k
  ·exact .inl rfl
  refine .inr (fun e=>?_);have e:k=mb:=Oj e;have:=(HO.out.lt k hv).1;omega
 have c0:=HO.out.kept a4 c4;have e4:=h9.size;obtain⟨b2,b5,H3⟩:=K3 c0 h1 h9;have d6:mb+1<=w5.heap.size:=by have:=h1.lt;omega
 clear h1 a4 h9 c0 h6 b4 H8 HO b6 c4;go_upto_region 4 with (first|(at_builtin;refine app1 rfl (.tmp 32) (.tmp 34) _ rfl yH (mb+1) _ L _ rfl b2.out _ rfl rfl ?c1 ?c2 ?c3 ?_)|fail)
 case c1=>unfold maxLen;omega
 case c2=>omega
 case c3=>exact d6
 intro sa6 sc6 w6 h2 a3 _;have h5:∀q,(Value.slice sa L sc).ownBlock=some q->w5.heap.size<=q\/mb+1<=q:=fun q hq=>.inr (b2.out.lt q hq).1;have h8:w.grownBy w6 none:=zC H3.out a3 (fun q e=>by rcases h5 q e with h|h<;>(have:=H7.out;omega));have c5:=(b5.out.kept a3 (fun e=>by rcases h5 mb e with h|h<;>(have:=b5.out.lt;omega)));have b9:nats (uH t x L)++[.int .i64 (p:Int)]=nats (uH t x (L+1)):=by rw[<-b1.out];simp[nats]
 rw[b9]at h2;have H4:=HQ.out.kept h8 (by simp);have chd:=H4.hd p (by rw[<-HN.out];exact hp);have cel:=H4.el p x (by rw[<-HN.out];exact hp) (by rw[<-HN.out];exact hx);have a0:=H4.cap p (by rw[<-HN.out];exact hp);have H9:=a0.1;have d4:RC p<=9223372036854775807:=by have:=a0.2;unfold maxLen at this;omega
 rw[<-HN.out]at chd H9;rw[<-b3.out]at cel;have e6:(p:Int)<n:=(by omega);have e5:(x:Int)<n:=(by omega);obtain⟨d9,b7,e2⟩:=K3 h2 h8 c5;obtain⟨y,hy⟩:=Nm (powN t x (L+1));rw[<-hy]at cel;have HY:=Kh hy;clear h2 a3 h5 h8 c5 b9 H4 a0 hy b3 b1 b5 b2 H3;go_wp2;go_roundg (n+1-(L+1))
 case measure=>have:=d2.out;omega
 exact⟨L+1,sa6,sc6,by have:=d2.out;omega,rfl,by rw[HY.out],c9.out,d9.out,e2.out,b7.out⟩
end Go.Proofs.YtobakifdllameaaGreat
namespace Go.Proofs.YtobakifdllameaaGreat
open Go.RowKit
theorem qGS {t:List (List Int)}(h:400<t.length):rD t=3:=by rw[rD,if_pos h]
theorem iM {t:List (List Int)}(h:¬400<t.length){x:Nat}(hx:x<t.length)(hb:dI t.length (t.getD x [])=false):rD t=4:=by
 rw[rD,if_neg h,if_neg (by omega),if_neg];intro ha;have:=List.all_eq_true.1 ha t[x] (List.getElem_mem hx);rw[List.getD,List.getElem?_eq_getElem hx]at hb;rw[Option.getD_some,this]at hb;cases hb
theorem qJC {t:List (List Int)}(h:¬400<t.length)(h0:0<t.length)(ha:∀x,x<t.length->dI t.length (t.getD x [])=true):rD t=0:=by
 rw[rD,if_neg h,if_neg (by omega),if_pos];rw[List.all_eq_true];intro r hr;obtain⟨x,hx,rfl⟩:=List.getElem_of_mem hr;have:=ha x hx
 rwa [List.getD,List.getElem?_eq_getElem hx]at this
theorem qJI {n:Nat}{r:List Int}(h:r.length≠n):dI n r=false:=by simp[dI,h]
theorem qBN {n:Nat}{r:List Int}{y:Nat}(hy:y<r.length)(h:r.getD y 0<0\/n<=r.getD y 0):dI n r=false:=by
 rw[<-Bool.not_eq_true];intro hr;have:=(oH.1 hr).2 y hy;omega
def qTL (t:List (List Int))(k:Nat):Prop:=∀x,x<k->dI t.length (t.getD x [])=true
def qPN (t:List (List Int))(x y z:Nat):Prop:=entN t (entN t x y) z=entN t x (entN t y z)
def fU (t:List (List Int))(gs:List Nat):Prop:=∀g∈gs,nV t g
open Classical in
noncomputable def eQ (t:List (List Int))(gs:List Nat):Bool:=decide (fU t gs)
theorem eP {t:List (List Int)}{gs:List Nat}(h:fU t gs):eQ t gs=true:=by simp[eQ,h]
theorem qCS {t:List (List Int)}{gs:List Nat}{k:Nat}(hk:k<gs.length)(h:¬nV t (gs.getD k 0)):eQ t gs=false:=by
 simp only[eQ,decide_eq_false_iff_not];intro ha;refine h (ha _ ?_);simp only[List.getD,List.getElem?_eq_getElem hk];exact List.getElem_mem hk
def qSB (t:List (List Int))(bs:List Bool):Prop:=∀x,bs.getD x false=true->nV t x
def qQO (t:List (List Int))(gs:List Nat)(k:Nat):Prop:=∀i,i<k->nV t (gs.getD i 0)
def qUK (t:List (List Int))(g k:Nat):Prop:=∀x,x<k->∀y,y<t.length->qPN t x g y
def qUL (t:List (List Int))(x g k:Nat):Prop:=∀y,y<k->qPN t x g y
theorem qOM {t:List (List Int)}{gs:List Nat}(h:qQO t gs gs.length):fU t gs:=by
 intro g hg;obtain⟨i,hi,rfl⟩:=List.getElem_of_mem hg;have:=h i hi;simpa [List.getD,List.getElem?_eq_getElem hi] using this
theorem dM (B:Nat)(w:World)(v gv:Value)(t:List (List Int))(gs:List Nat)(hB:B<=w.heap.size)(h:Mat B w v t)(hs:Shape t)(hg:Row B w gv (nats gs))(a9:∀g∈gs,g<t.length):Calls Tryz.prog 127 #[v,gv] w fun e w'=>e=.returned (.bool (eQ t gs))/\w.grownBy w' none:=by
 obtain⟨b,off,cap,RB,RO,RC,rfl,e2,c9,hq⟩:=h.sq hs;have d9:cap<=9223372036854775807:=by unfold maxLen at c9;omega
 have a4:=hg.len_le;rw[zT]at a4;unfold maxLen at a4;obtain⟨ga,gc,rfl⟩:=hg.shape;rw[zT];have c6:=hs.pos;have e0:=hs.le;obtain⟨HQ,HS,b6,d5⟩:=K4 hq hs hg a9;clear hq hs h hg a9;go_enter Tryz.func127,Tryz.ntmps127;go_wp2_with (at_make;refine qG rfl _ _ _ rfl wF rfl _ _ _ _ t.length rfl rfl rfl rfl ?b1 ?b2 ?_;(case b1=>omega);(case b2=>(unfold maxLen;omega));intro w1 H5 a8 b9);rw[<-qQ]at H5;have b8:=Kh H5;clear H5
 go_loopg [18] gs.length (fun g i wr=>∃(k:Nat) (bs:List Bool),g+k=gs.length/\i=.int .i64 k/\bs.length=t.length/\Arr wr w.heap.size 4 (bls bs)/\w.grownBy wr none/\qSB t bs/\qQO t gs k)
 case atStart =>
  refine⟨0,_,rfl,rfl,by simp,b8.out,a8,fun x hx=>?_,fun i hi=>absurd hi (by omega)⟩;exfalso;simp[List.getD,List.getElem?_replicate]at hx
  split at hx<;>simp at hx
 clear b8 a8 b9;obtain⟨k,bs,a5,rfl,b0,h6,H1,a0,a3⟩:=hrel;obtain⟨H9,H2,h1,H6,H8⟩:=K5 a5 b0 h6 a0 a3;have c2:=h6.lt;clear a5 b0 h6 a0 a3;by_cases hk:k<gs.length
 ·have e1:(k:Int)<gs.length:=by omega
  obtain⟨gb,go,gcap,e,_,_,_,H3⟩:=b6.out.some_ (by rw[zT];omega);simp only[Value.slice.injEq]at e;obtain⟨rfl,-,-⟩:=e;have b5:=b6.out.kept H1 (by simp);obtain⟨gb',go',gcap',e,_,_,_,H3⟩:=b5.some_ (by rw[zT];omega);simp only[Value.slice.injEq,Option.some.injEq,Addr.mk.injEq,and_true]at e;obtain⟨⟨rfl,rfl⟩,-,-⟩:=e;have a6:=H3.nat k hk;have h2:=qRS d5.out hk;obtain⟨x,hx⟩:=Nm (gs.getD k 0);rw[<-hx]at a6 h2;have c1:(x:Int)<t.length:=(by omega);have H4:=h1.out.bool x (by rw[H2.out];exact h2);have c8:=h1.out.frozen x;have HX:=Kh hx;clear H3 hx b5;cases hbv:bs.getD x false
  ·rw[hbv]at H4
   have h3:=h1.out.bool_set x (by rw[H2.out];exact h2) true;have h5:=zF wr ⟨w.heap.size,x,none⟩ (.bool true);have b7:=Kh hbv;clear hbv;go_wp2
   generalize hW:wr.setCell ⟨w.heap.size,x,none⟩ (.bool true)=w2 at h3 h5
   have h4:w.grownBy w2 none:=zC H1 h5;have h7:=Kh (HQ.out.kept h4 (by simp));have H7:=Kh h3;have HW:=Kh hW;clear h3 h5 hW H4 c8 a6;have d7:=h7.out.hd x h2
   go_loopg [31] t.length (fun g i wr=>∃k m:Nat,g+k=t.length/\i=.int .i64 k/\qUK t x k/\wr=w2.drewN m)
   case atStart=>exact⟨0,0,rfl,rfl,fun x hx=>absurd hx (by omega),rfl⟩
   obtain⟨a,m,a7,rfl,h9,rfl⟩:=hrel;have d6:=Kh a7;have b4:=Kh h9;clear a7 h9;by_cases ha:a<t.length
   ·have d2:(a:Int)<t.length:=by omega
    have e3:=h7.out.hd a ha;have d0:=h7.out.el a x ha h2;obtain⟨p,hp⟩:=Nm (entN t a x);have a1:p<t.length:=(by rw[hp];exact pH HS.out ha h2);have c7:(p:Int)<t.length:=(by omega);rw[<-hp]at d0;have d8:=h7.out.hd p a1;have HP:=Kh hp;clear hp;go_wp2
    go_loopg [47] t.length (fun g i wr=>∃k m:Nat,g+k=t.length/\i=.int .i64 k/\qUL t a x k/\wr=w2.drewN m)
    case atStart=>exact⟨0,m,rfl,rfl,fun x hx=>absurd hx (by omega),rfl⟩
    obtain⟨y,m,a2,rfl,h9,rfl⟩:=hrel;have d4:=Kh a2;have b3:=Kh h9;clear a2 h9;by_cases hy:y<t.length
    ·have h8:(y:Int)<t.length:=by omega
     have c0:=h7.out.el x y h2 hy;have c5:=h7.out.el p y a1 hy;obtain⟨q,hq⟩:=Nm (entN t x y);have c4:q<t.length:=(by rw[hq];exact pH HS.out h2 hy);have c3:(q:Int)<t.length:=(by omega);rw[<-hq]at c0;have d1:=h7.out.el a q ha c4;obtain⟨r,hr⟩:=Nm (entN t p y);obtain⟨s,hs⟩:=Nm (entN t a q);rw[<-hr]at c5;rw[<-hs]at d1;have H0:qPN t a x y↔r=s:=by rw[qPN,<-HP.out,<-hq,<-hr,<-hs]
     have HA:=Kh H0;clear hq hr hs H0;by_cases hrs:r=s
     ·subst hrs
      have ht:((r:Int) != (r:Int))=false:=by simp
      go_wp2
      go_quiet (fail)
      go_wp2;go_roundg (t.length-(y+1))
      case measure=>have:=d4.out;omega
      refine⟨y+1,_,by omega,by go_num,fun z' hz'=>?_,rfl⟩;rcases Nat.lt_succ_iff_lt_or_eq.1 hz' with hz'|rfl
      ·exact b3.out z' hz'
      exact HA.out.2 (by simp)
     have ht:((r:Int) != (s:Int))=true:=by rw[bne_iff_ne];omega
     have d3:=Kh hrs;clear hrs;go_wp2
     go_quiet (fail)
     go_wp2;go_ret;refine⟨yT (qCS hk (fun hl=>d3.out (HA.out.1 ?_))).symm,wW h4 rfl rfl rfl rfl⟩;rw[<-HX.out]at hl;exact hl a y ha hy
    go_wp2;go_roundg (t.length-(a+1))
    case measure=>have:=d6.out;omega
    refine⟨a+1,m,by omega,by go_num,fun y' h8=>?_,rfl⟩;rcases Nat.lt_succ_iff_lt_or_eq.1 h8 with h8|rfl
    ·exact b4.out y' h8
    exact fun z' hz'=>b3.out z' (by omega)
   have h0:Hid (nV t x):=Kh (fun a' y' d2 h8=>b4.out a' (by omega) y' h8);go_wp2;go_roundg (gs.length-(k+1))
   case measure=>have:=H9.out;omega
   refine⟨k+1,bs.set x true,by omega,by go_num,by rw[List.length_set];exact H2.out,H7.out.of_heap rfl,wW h4 rfl rfl rfl rfl,fun y hy=>?_,fun i hi=>?_⟩
   ·by_cases e:x=y
    ·subst e;exact h0.out
    rw[getD_set_ne _ _ _ _ _ e]at hy;exact H6.out y hy
   rcases Nat.lt_succ_iff_lt_or_eq.1 hi with hi|rfl
   ·exact H8.out i hi
   rw[<-HX.out];exact h0.out
  rw[hbv]at H4;have b7:=Kh hbv;clear hbv;go_wp2;go_roundg (gs.length-(k+1))
  case measure=>have:=H9.out;omega
  refine⟨k+1,bs,by omega,by go_num,H2.out,h1.out,H1,H6.out,fun i hi=>?_⟩;rcases Nat.lt_succ_iff_lt_or_eq.1 hi with hi|rfl
  ·exact H8.out i hi
  rw[<-HX.out];exact H6.out x b7.out
 go_wp2;go_ret;refine⟨yT (eP (qOM ?_)).symm,H1⟩;have:k=gs.length:=by have:=H9.out;omega
 rw[<-this];exact H8.out
structure Sp (w0 w:World)(bi bm g n:Nat)(mv:Value)(bs:List Bool)(made:List Nat):Prop where
 box1:w.heap[bi]?=some (.cells #[.slice (some ⟨g,0,none⟩) n n] 26 (0,0))
 box2:w.heap[bm]?=some (.cells #[mv] 22 (0,0))
 own:w.ownsRow w0.heap.size 3 1 mv made.length (nats made)
 shape:∃sa sc,mv=.slice sa made.length sc
 arr:Arr w g 4 (bls bs)
 len:bs.length=n
 cnt:made.length=bs.count true
 mem:∀x,x<n->(bs.getD x false=true↔x∈made)
 lt:∀x∈made,x<n
 lo:w0.heap.size<=bi/\w0.heap.size<=bm/\w0.heap.size<=g
 fr:w0.grownBy w none
theorem Sp.made_le {w0 w:World}{bi bm g n:Nat}{mv:Value}{bs:List Bool}{made:List Nat}(h:Sp w0 w bi bm g n mv bs made):made.length<=n:=by
 rw[h.cnt,<-h.len];exact List.count_le_length
structure Keep (w w':World)(bm g:Nat)(mv mv':Value):Prop where
 size:w.heap.size<=w'.heap.size
 k1:∀k,k<w.heap.size->k≠g->k≠bm->mv.ownBlock≠some k->w'.heap[k]?=w.heap[k]?
 k2:mv'.ownBlock=mv.ownBlock\/((∀k,k<w.heap.size->k≠g->k≠bm->w'.heap[k]?=w.heap[k]?)/\∀k,mv'.ownBlock=some k->w.heap.size<=k)
def pY (made:List Nat)(x:Nat):List Nat:=if x∈made then made else made++[x]
theorem oV {made:List Nat}{x y:Nat}:y∈pY made x↔y∈made\/y=x:=by
 unfold pY
 split
 ·constructor
  ·exact .inl
  rintro (h|rfl)
  ·exact h
  assumption
 simp
theorem lJ (made:List Nat)(x:Nat):∃r,pY made x=made++r:=by
 unfold pY
 split
 ·exact⟨[],by simp⟩
 exact⟨[x],rfl⟩
def qTT (w0 w:World)(bi bm g n:Nat)(mv:Value)(made:List Nat)(x:Nat)(e:Ending)(w':World):Prop :=
 e=.returned (.tuple #[])/\∃bs' mv',Sp w0 w' bi bm g n mv' bs' (pY made x)/\Keep w w' bm g mv mv'
theorem dK {bs:List Bool}{x:Nat}(hx:x<bs.length)(h:bs.getD x false=false):(bs.set x true).count true=bs.count true+1:=by
 rw[List.count_set hx];have:bs[x]=false:=by simpa [List.getD,List.getElem?_eq_getElem hx] using h
 simp[this]
theorem Sp.set {w0 w w3:World}{bi bm g n x:Nat}{mv:Value}{bs:List Bool}{made:List Nat}{sa:Option Addr}{sc:Nat}(h:Sp w0 w bi bm g n mv bs made)(hx:x<n)(hb:bs.getD x false=false)(h1:w3.heap[bi]?=some (.cells #[.slice (some ⟨g,0,none⟩) n n] 26 (0,0)))(h2:w3.heap[bm]?=some (.cells #[.slice sa (made.length+1) sc] 22 (0,0)))(h3:w3.ownsRow w0.heap.size 3 1 (.slice sa (made.length+1) sc) (made.length+1) (nats made++[.int .i64 (x:Int)]))(h4:Arr w3 g 4 (bls (bs.set x true)))(h5:w0.grownBy w3 none)(h6:Keep w w3 bm g mv (.slice sa (made.length+1) sc)):qTT w0 w bi bm g n mv made x (.returned (.tuple #[])) w3:=by
 have h0:¬x∈made:=fun hm=>by rw[(h.mem x hx).2 hm]at hb;cases hb
 refine⟨rfl,bs.set x true,_,⟨h1,h2,?_,?_,h4,by rw[List.length_set];exact h.len,?_,fun y hy=>?_,fun y hy=>?_,h.lo,h5⟩,h6⟩
 ·rw[pY,if_neg h0,List.length_append,qF];exact h3
 ·rw[pY,if_neg h0,List.length_append];exact⟨_,_,rfl⟩
 ·rw[pY,if_neg h0,List.length_append,dK (by rw[h.len];exact hx) hb,h.cnt];rfl
 ·rw[oV]
  by_cases e:x=y
  ·subst e
   rw[qEM _ _ _ _ (by rw[h.len];exact hx)];simp
  rw[getD_set_ne _ _ _ _ _ e,h.mem y hy];exact⟨.inl,fun hh=>hh.elim id (fun e'=>absurd e'.symm e)⟩
 rcases oV.1 hy with hy|rfl
 ·exact h.lt y hy
 exact hx
theorem qFC (w0 w:World)(bi bm g n x:Nat)(mv:Value)(bs:List Bool)(made:List Nat)(hx:x<n)(hn:n<=400)(h:Sp w0 w bi bm g n mv bs made):Calls Tryz.prog 157 #[.int .i64 (x:Int),.pointer (some ⟨bi,0,none⟩),.pointer (some ⟨bm,0,none⟩)] w (qTT w0 w bi bm g n mv made x):=by
 have H:=Kh h;have b5:=h.made_le;obtain⟨sa,sc,rfl⟩:=h.shape;have ci:=zH h.box1 0;have cx:=h.arr.bool x (by rw[h.len];exact hx);have fx:=h.arr.frozen x;simp only[List.getElem_toArray,List.getElem_cons_zero]at ci;have b4:(x:Int)<n:=by omega
 clear h;cases hb:bs.getD x false
 ·rw[hb]at cx
  have HB:=Kh hb;clear hb;have h8:=H.out.arr.bool_set x (by rw[H.out.len];exact hx) true;have h4:=zF w ⟨g,x,none⟩ (.bool true);go_enter Tryz.func157,Tryz.ntmps157;go_upto_region 2 with fail
  generalize hW:w.setCell ⟨g,x,none⟩ (.bool true)=w1 at h8 h4
  have HW:=Kh hW;have b6:=H.out.lo;have a4:=zC H.out.fr h4 (by simp;omega);have a0:=H.out.box2;have h9:=H.out.own
  have H1:=zB a0 h4 (fun e=>by
   have:=Oj e
   exact(H.out.arr.type_ne a0 (by decide)) this)
  have H4:=zB H.out.box1 h4 (fun e=>(H.out.arr.type_ne H.out.box1 (by decide)) (Oj e))
  have h0:=h9.kept h4 (.inr (fun e=>by
   obtain⟨cur,rest,hh,_⟩:=H.out.arr
   exact zV h9 hh (by decide) e))
  have cm:=zH H1 0;simp only[List.getElem_toArray,List.getElem_cons_zero]at cm;obtain⟨a8,a7,H5,a1⟩:=K4 H4 H1 h8 h4;clear hW ci cx fx h8 h4 a0 h9 H4 H1;go_wp2_with (at_builtin;refine iI rfl _ _ _ rfl yH w0.heap.size _ made.length (nats made) rfl h0 _ rfl rfl ?c1 ?c2 ?c3 ?_)
  case c1=>unfold maxLen;omega
  case c2=>omega
  case c3=>exact a4.size
  intro sa' sc' w3 h7 H2 b0 a3;have H8:=zV h0 a7.out (by decide);have h5:=zB a7.out H2 H8;have b7:=zA h5 0;have b1:=zH h5 0;simp only[List.getElem_toArray,List.getElem_cons_zero]at b1;have H3:=zB a8.out H2 (zV h0 a8.out (by decide))
  have h6:=H5.out.kept H2 (by
   obtain⟨cur,rest,hh,_⟩:=H5.out
   exact zV h0 hh (by decide))
  have H9:=zC a4 H2 (fun k e=>(h0.lt k e).1);obtain⟨a9,H7,a5,a6,H6,b3⟩:=K6 H3 h5 h6 h7 H2 a3;clear H3 h5 h6 h7 H2 h0 cm a3;go_wp2
  go_end0
  have H0:=zF w3 ⟨bm,0,none⟩ (.slice sa' (made.length+1) sc');have a2:=a1.out.size;refine H.out.set hx HB.out (sa:=sa') (sc:=sc') ?_ (heap_setCell_same w3 bm 0 _ _ _ H7.out) ?_ ?_ (zC H9 H0 (by simp;omega)) ⟨Nat.le_trans a2 (Nat.le_trans H6.out.size H0.size),fun k hk h1 h2 h3=>?_,?_⟩
  ·refine zB a9.out H0 (fun e=>?_)
   have e':=Oj e;have h1:=a9.out;rw[<-e',H7.out]at h1;simp at h1
  ·exact a6.out.kept H0 (.inr (zV a6.out H7.out (by decide)))
  ·exact a5.out.kept H0 (fun e=>(a5.out.type_ne H7.out (by decide)) (Oj e).symm)
  ·exact(H0.block k (by have:=H6.out.size;omega) (fun e=>h2 (Oj e))).trans ((H6.out.block k (by omega) (fun e=>h3 e.symm)).trans (a1.out.block k hk (fun e=>h1 (Oj e))))
  rcases b3.out with e|⟨e1,e2⟩
  ·exact .inl e
  exact .inr ⟨fun k hk h1 h2=>(H0.block k (by have:=H6.out.size;omega) (fun e=>h2 (Oj e))).trans ((e1.block k (by omega) (by simp)).trans (a1.out.block k hk (fun e=>h1 (Oj e)))),fun k hk=>Nat.le_trans a2 (e2 k hk)⟩
 rw[hb]at cx;have HB:=Kh hb;clear hb;go_enter Tryz.func157,Tryz.ntmps157;go_wp2
 go_end0
 have b2:pY made x=made:=by rw[pY,if_pos ((H.out.mem x hx).1 HB.out)]
 refine⟨rfl,bs,_,by rw[b2];exact H.out,Nat.le_refl _,fun _ _ _ _ _=>rfl,.inl rfl⟩
theorem jR {w w':World}{base e size:Nat}{v:Value}{n:Nat}{xs:List Value}(h:w.ownsRow base e size v n xs)(hb:∀k,v.ownBlock=some k->w'.heap[k]?=w.heap[k]?):w'.ownsRow base e size v n xs:=by
 refine⟨h.1,?_⟩;rcases h.2 with h2|⟨g,cap,cur,rfl,h2,h3,h4⟩
 ·exact .inl h2
 exact .inr ⟨g,cap,cur,rfl,h2,(hb g rfl).trans h3,h4⟩
theorem Arr.of_block {w w':World}{g:Nat}{e:TypeId}{xs:List Value}(h:Arr w g e xs)(hb:w'.heap[g]?=w.heap[g]?):Arr w' g e xs:=by
 obtain⟨cur,rest,h,hc⟩:=h;exact⟨cur,rest,hb.trans h,hc⟩
def qQB (v u:Value):Prop:=∀k,v.ownBlock=some k->u.ownBlock≠some k
theorem Keep.gens {w0 w w':World}{bi bm g n base m:Nat}{mv a9 gv:Value}{bs:List Bool}{made:List Nat}{xs:List Value}(hk:Keep w w' bm g mv a9)(h:Sp w0 w bi bm g n mv bs made)(hg:w.ownsRow base 3 1 gv m xs)(ha:qQB gv mv):w'.ownsRow base 3 1 gv m xs/\qQB gv a9:=by
 have h2:gv.ownBlock≠some g:=by
  obtain⟨cur,rest,hh,_⟩:=h.arr;exact zV hg hh (by decide)
 have h0:gv.ownBlock≠some bm:=zV hg h.box2 (by decide);refine⟨jR hg (fun k e=>hk.k1 k (hg.lt k e).2 (fun e'=>h2 (by rw[e,e'])) (fun e'=>h0 (by rw[e,e'])) (ha k e)),fun k e=>?_⟩;rcases hk.k2 with h1|⟨_,h1⟩
 ·rw[h1];exact ha k e
 intro e';have:=h1 k e';have:=(hg.lt k e).2;omega
theorem Keep.pre {w0 w w':World}{bi bm g n kb:Nat}{mv a8:Value}{bs a7:List Bool}{made a9 pre:List Nat}(hk:Keep w w' bm g mv a8)(h:Sp w0 w bi bm g n mv bs made)(h':Sp w0 w' bi bm g n a8 a7 a9)(hp:∃r,a9=pre++r)(ha:Arr w kb 3 (nats pre)):Arr w' kb 3 (nats pre):=by
 have h1:kb≠g:=by
  rintro rfl;obtain⟨cur,rest,hh,_⟩:=h.arr;exact(ha.type_ne hh (by decide)) rfl
 have h0:kb≠bm:=ha.type_ne h.box2 (by decide);rcases hk.k2 with e|⟨e,_⟩
 ·by_cases hkb:mv.ownBlock=some kb
  ·have h2:=e.trans hkb
   obtain⟨r,rfl⟩:=hp;have ho:=h'.own;rcases ho.2 with ⟨rfl,_⟩|⟨g',cap',cur',rfl,_⟩
   ·simp[Value.ownBlock]at h2
   have eg:g'=kb:=by simpa [Value.ownBlock] using h2
   subst eg;have:=Arr.of_owns ho;rw[eM]at this;exact this.front
  exact ha.of_block (hk.k1 kb ha.lt h1 h0 hkb)
 exact ha.of_block (e kb ha.lt h1 h0)
structure GInv (t:List (List Int))(gs made:List Nat)(k:Nat):Prop where
 gen:∀x∈made,Gen t gs x
 all:∀x,x<k->x∈made
 lt:∀g∈gs,g<t.length
 le:gs.length<=k
theorem GInv.add {t:List (List Int)}{gs made:List Nat}{k x y:Nat}(h:GInv t gs made k)(hx:x∈made)(hy:y∈made):GInv t gs (pY made (entN t x y)) k :=
 ⟨fun z hz=>by
  rcases oV.1 hz with hz|rfl
  ·exact h.gen z hz
  ·exact .mul x y (h.gen x hx) (h.gen y hy),fun z hz=>oV.2 (.inl (h.all z hz)),h.lt,h.le⟩
theorem GInv.next {t:List (List Int)}{gs made:List Nat}{k:Nat}(h:GInv t gs made k)(hk:k∈made):GInv t gs made (k+1) :=
 ⟨h.gen,fun x hx=>by
  rcases Nat.lt_succ_iff_lt_or_eq.1 hx with hx|rfl
  ·exact h.all x hx
  ·exact hk,h.lt,by have:=h.le;omega⟩
theorem GInv.new {t:List (List Int)}{gs made:List Nat}{k:Nat}(h:GInv t gs made k)(hk:k<t.length):GInv t (gs++[k]) (pY made k) (k+1) :=
 ⟨fun z hz=>by
  rcases oV.1 hz with hz|rfl
  ·exact(h.gen z hz).mono (fun g hg=>List.mem_append_left _ hg)
  ·exact .base _ (by simp),fun x hx=>by
  rw[oV]
  rcases Nat.lt_succ_iff_lt_or_eq.1 hx with hx|rfl
  ·exact .inl (h.all x hx)
  ·exact .inr rfl,fun g hg=>by
  rcases List.mem_append.1 hg with hg|hg
  ·exact h.lt g hg
  ·simp at hg;omega,by have:=h.le;simp;omega⟩
def qPU (w:World)(t:List (List Int))(e:Ending)(w':World):Prop :=
 ∃(sa:Option Addr) (sc:Nat) (gs:List Nat),e=.returned (.slice sa gs.length sc)/\Row w'.heap.size w' (.slice sa gs.length sc) (nats gs)/\(∀g∈gs,g<t.length)/\(∀x,x<t.length->Gen t gs x)/\w.grownBy w' none
structure SG (w w':World)(bi bm g:Nat)(t:List (List Int))(gv mv:Value)(bs:List Bool)(gs made:List Nat)(k:Nat):Prop where
 sp:Sp w w' bi bm g t.length mv bs made
 own:w'.ownsRow w.heap.size 3 1 gv gs.length (nats gs)
 ap:qQB gv mv
 inv:GInv t gs made k
theorem SG.add {w w1 w2:World}{bi bm g:Nat}{t:List (List Int)}{gv mv a9:Value}{bs a8:List Bool}{gs made:List Nat}{k x y:Nat}(h:SG w w1 bi bm g t gv mv bs gs made k)(hx:x∈made)(hy:y∈made)(h1:Sp w w2 bi bm g t.length a9 a8 (pY made (entN t x y)))(hk:Keep w1 w2 bm g mv a9):SG w w2 bi bm g t gv a9 a8 gs (pY made (entN t x y)) k :=
 ⟨h1,(hk.gens h.sp h.own h.ap).1,(hk.gens h.sp h.own h.ap).2,h.inv.add hx hy⟩
theorem qFX {l:List Nat}{i:Nat}(hi:i<l.length):l.getD i 0∈l:=by
 simp only[List.getD,List.getElem?_eq_getElem hi];exact List.getElem_mem hi
theorem qBJ (B:Nat)(w:World)(v:Value)(t:List (List Int))(hB:B<=w.heap.size)(h:Mat B w v t)(hs:Shape t):Calls Tryz.prog 128 #[v] w (qPU w t):=by
 obtain⟨b,off,cap,RB,RO,RC,rfl,g4,f4,hq⟩:=h.sq hs;have f8:cap<=9223372036854775807:=by unfold maxLen at f4;omega
 have e7:=hs.pos;have b5:=hs.le;have HQ:=Kh hq;have HS:=Kh hs;clear hq hs h;go_enter Tryz.func128,Tryz.ntmps128;go_wp2_with (at_make;refine qG rfl _ _ _ rfl wF rfl _ _ _ _ t.length rfl rfl rfl rfl ?b1 ?b2 ?_;(case b1=>omega);(case b2=>(unfold maxLen;omega));intro w1 a3 b6 c0);rw[<-qQ]at a3;rw[zW]at a3 c0;have d3:=zB (heap_alloc_new w (.cells #[.slice none 0 0] 22)) b6;have c8:=zG (Ga w (.cells #[.slice none 0 0] 22) none) b6
 have d5:Sp w (w1.alloc (.cells #[.slice (some ⟨w.heap.size+1,0,none⟩) t.length t.length] 26)) w1.heap.size w.heap.size (w.heap.size+1) t.length (.slice none 0 0) (List.replicate t.length false) []:=by
  have hA:=Ga w1 (.cells #[.slice (some ⟨w.heap.size+1,0,none⟩) t.length t.length] 26) none;refine⟨heap_alloc_new w1 _,zB d3 hA,World.ownsRow_nil _ _ _ _,⟨none,0,rfl⟩,a3.kept hA (by simp),by simp,by simp[List.count_replicate],fun x hx=>?_,by simp,⟨by omega,Nat.le_refl _,by omega⟩,zG c8 hA⟩;simp[List.getD,List.getElem?_replicate,hx]
 have d8:=Kh d5;clear d5 d3 c8 a3 b6
 go_loopg [3,7,18] t.length (fun g gv mul i wr=>∃(k p:Nat) (sa:Option Addr) (sc:Nat) (gs made:List Nat) (mv:Value) (bs:List Bool),g+k=t.length/\gv=.slice sa gs.length sc/\mul=.int .i64 p/\i=.int .i64 k/\p<=made.length /\
   SG w wr w1.heap.size w.heap.size (w.heap.size+1) t (.slice sa gs.length sc) mv bs gs made k)
 case atStart=>exact⟨0,0,none,0,[],[],.slice none 0 0,_,rfl,rfl,rfl,rfl,Nat.le_refl _,d8.out,World.ownsRow_nil _ _ _ _,fun k hk=>by simp[Value.ownBlock]at hk,⟨by simp,fun x hx=>absurd hx (by omega),by simp,by simp⟩⟩
 clear d8 c0;obtain⟨k,p,sa,sc,gs,made,mv,bs,d0,rfl,rfl,rfl,hp,h6⟩:=hrel;have HG:=Kh d0;have ST:=Kh h6;clear d0 h6;have f0:=ST.out.sp.made_le;have ci:=zH ST.out.sp.box1 0;simp only[List.getElem_toArray,List.getElem_cons_zero]at ci;by_cases hk:k<t.length
 ·have g1:(k:Int)<t.length:=by omega
  have ck:=ST.out.sp.arr.bool k (by rw[ST.out.sp.len];exact hk);have g3:=ST.out.inv.le;cases hbk:bs.getD k false
  ·rw[hbk]at ck
   have g5:=Kh hbk;clear hbk;have h0:=ST.out.own;obtain⟨wo,rfl⟩:=Nm (wr:World);go_wp2_with (at_builtin;refine iI rfl _ _ _ rfl yH w.heap.size _ gs.length (nats gs) rfl h0 _ rfl rfl ?c1 ?c2 ?c3 ?_)
   case c1=>unfold maxLen;omega
   case c2=>omega
   case c3=>exact ST.out.sp.fr.size
   intro sa1 sc1 w2 h7 H5 f3 a0
   have h5:Hid (Sp w w2 w1.heap.size w.heap.size (w.heap.size+1) t.length mv bs made/\qQB (.slice sa1 (gs.length+1) sc1) mv):=by
    have S:=ST.out.sp;have d4:=ST.out.ap;have n1:=zV h0 S.box1 (by decide);have n2:=zV h0 S.box2 (by decide)
    have n3:(Value.slice sa gs.length sc).ownBlock≠some (w.heap.size+1):=by
     obtain⟨cur,rest,hh,_⟩:=S.arr;exact zV h0 hh (by decide)
    refine⟨⟨zB S.box1 H5 n1,zB S.box2 H5 n2,jR S.own (fun q hq=>H5.block q (S.own.lt q hq).2 (fun e=>d4 q e.symm hq)),S.shape,S.arr.kept H5 n3,S.len,S.cnt,S.mem,S.lt,S.lo,zC S.fr H5 (fun x e=>(h0.lt x e).1)⟩,fun q hq=>?_⟩;rcases a0 with e|⟨_,e⟩
    ·rw[e]at hq;exact d4 q hq
    intro e6;have:=e q hq;have:=(S.own.lt q e6).2;omega
   have e0:=Kh h7;clear h0 h7 H5 a0 ci ck;go_wp2_with fail;refine(qFC w w2 w1.heap.size w.heap.size (w.heap.size+1) t.length k mv bs made hk b5 h5.out.1).mono ?_;rintro e w3 ⟨rfl,bs3,mv3,H9,h8⟩
   have H8:SG w w3 w1.heap.size w.heap.size (w.heap.size+1) t (.slice sa1 (gs.length+1) sc1) mv3 bs3 (gs++[k]) (pY made k) (k+1):=by
    have d2:=h8.gens h5.out.1 (show w2.ownsRow w.heap.size 3 1 (.slice sa1 (gs.length+1) sc1) (gs.length+1) (nats (gs++[k])) by rw[qF];exact e0.out) h5.out.2;exact⟨H9,by rw[List.length_append];exact d2.1,d2.2,ST.out.inv.new hk⟩
   have H4:=Kh H8
   have c6:p<=(pY made k).length:=by
    obtain⟨r,hr⟩:=lJ made k;rw[hr,List.length_append];omega
   have a1:(gs++[k]).length=gs.length+1:=by simp
   have e1:=Kh a1;clear H9 h8 H8 h5 e0 a1;go_wp2
   go_loopg [7] (t.length-p) (fun g mul wr=>∃(p:Nat) (made:List Nat) (mv:Value) (bs:List Bool),g+p=t.length/\mul=.int .i64 p/\p<=made.length /\
     SG w wr w1.heap.size w.heap.size (w.heap.size+1) t (.slice sa1 (gs.length+1) sc1) mv bs (gs++[k]) made (k+1))
   case atStart=>exact⟨p,_,_,_,by have:=H4.out.sp.made_le;omega,rfl,c6,H4.out⟩
   clear H4 c6;obtain⟨p,made,mv,bs,c9,rfl,hp,h6⟩:=hrel;have f6:=Kh c9;have ST:=Kh h6;clear c9 h6;have f0:=ST.out.sp.made_le;have cm:=zH ST.out.sp.box2 0;simp only[List.getElem_toArray,List.getElem_cons_zero]at cm;obtain⟨ma,mc,a2⟩:=ST.out.sp.shape;rw[a2]at cm;by_cases hpm:p<made.length
   ·obtain⟨kb,f2,f1,b3,H3⟩:=yZ (a2 ▸ ST.out.sp.own) (by omega)
    subst f2;have e8:(p:Int)<made.length:=(by omega);have cp:=H3.nat p hpm;obtain⟨x,hx⟩:=Nm (made.getD p 0);have a5:x∈made:=(by rw[hx];exact qFX hpm);have H7:=ST.out.sp.lt x a5;rw[<-hx]at cp;unfold maxLen at b3
    have h3:Arr wr kb 3 (nats (made.take (p+1))):=by
     have:=H3;rw[<-List.take_append_drop (p+1) made,eM]at this;exact this.front
    obtain⟨b9,HX,d7⟩:=K3 h3 hx a5;have c5:(made.take (p+1)).length=p+1:=by rw[List.length_take];omega
    have d9:=Kh c5;have e9:=Kh a2;clear a2 h3 hx a5 H3 c5;obtain⟨wo,rfl⟩:=Nm (wr:World);go_wp2
    go_loopg [47] (p+1) (fun g jv wr=>∃(j:Nat) (made':List Nat) (mv':Value) (bs':List Bool),g+j=p+1/\jv=.int .i64 j/\(∃r,made'=made++r)/\Arr wr kb 3 (nats (made.take (p+1))) /\
      SG w wr w1.heap.size w.heap.size (w.heap.size+1) t (.slice sa1 (gs.length+1) sc1) mv' bs' (gs++[k]) made' (k+1))
    case atStart=>exact⟨0,made,mv,bs,rfl,rfl,⟨[],by simp⟩,b9.out,ST.out⟩
    clear cp cm;obtain⟨j,made',mv',bs',d1,rfl,hr,h3,h6⟩:=hrel;obtain⟨f7,ST',HR,h9⟩:=K4 d1 h6 hr h3;clear d1 h6 hr h3;by_cases hj:j<p+1
    ·have cj:=h9.out.nat j (by rw[d9.out];exact hj)
     obtain⟨y,hy⟩:=Nm ((made.take (p+1)).getD j 0);have a4:y∈made:=(by rw[hy];exact List.mem_of_mem_take (qFX (by rw[d9.out];exact hj)));have H6:=ST.out.sp.lt y a4;rw[<-hy]at cj;have g2:(j:Int)<(p:Int)+1:=(by omega);have e5:(x:Int)<t.length:=(by omega);have e3:(y:Int)<t.length:=(by omega);have b8:=HQ.out.kept ST'.out.sp.fr (by simp);have cx:=b8.hd x H7;have cxy:=b8.el x y H7 H6;have e4:=pH HS.out H7 H6;have e2:=pH HS.out H6 H7;have d6:=Kh a4;clear b8 hy a4;go_wp2_with fail;refine(qFC w _ w1.heap.size w.heap.size (w.heap.size+1) t.length (entN t x y) mv' bs' made' e4 b5 ST'.out.sp).mono ?_;rintro e w4 ⟨rfl,bs4,mv4,h4,h2⟩
     have H2:∀z∈made,z∈made':=by
      obtain⟨r,hr⟩:=HR.out;intro z hz;rw[hr];exact List.mem_append_left _ hz
     have H0:=Kh (ST'.out.add (H2 x d7.out) (H2 y d6.out) h4 h2)
     have a7:Hid (∃r,pY made' (entN t x y)=made++r):=by
      obtain⟨r,hr⟩:=HR.out;obtain⟨r2,a8⟩:=lJ made' (entN t x y);exact⟨r++r2,by rw[a8,hr,List.append_assoc]⟩
     have b0:Hid (Arr w4 kb 3 (nats (made.take (p+1)))):=by
      obtain⟨r,hr⟩:=a7.out;exact h2.pre ST'.out.sp h4 ⟨made.drop (p+1)++r,by rw[hr,<-List.append_assoc,List.take_append_drop]⟩ h9.out
     have b7:=HQ.out.kept h4.fr (by simp);have cy:=b7.hd y H6;have cyx:=b7.el y x H6 H7;clear b7 h4 h2 cx cxy cj H2;go_wp2_with fail;refine(qFC w _ w1.heap.size w.heap.size (w.heap.size+1) t.length (entN t y x) mv4 bs4 _ e2 b5 H0.out.sp).mono ?_;rintro e w5 ⟨rfl,bs5,mv5,H1,h1⟩
     have H2:∀z∈made,z∈pY made' (entN t x y):=by
      obtain⟨r,hr⟩:=a7.out;intro z hz;rw[hr];exact List.mem_append_left _ hz
     have a6:=Kh (H0.out.add (H2 y d6.out) (H2 x d7.out) H1 h1)
     have c4:Hid (∃r,pY (pY made' (entN t x y)) (entN t y x)=made++r):=by
      obtain⟨r,hr⟩:=a7.out;obtain⟨r2,a8⟩:=lJ (pY made' (entN t x y)) (entN t y x);exact⟨r++r2,by rw[a8,hr,List.append_assoc]⟩
     have a9:Hid (Arr w5 kb 3 (nats (made.take (p+1)))):=by
      obtain⟨r,hr⟩:=c4.out;exact h1.pre H0.out.sp H1 ⟨made.drop (p+1)++r,by rw[hr,<-List.append_assoc,List.take_append_drop]⟩ b0.out
     clear H1 h1 cy cyx H2;go_wp2;go_roundg (p+1-(j+1))
     case measure=>have:=f7.out;omega
     exact⟨j+1,_,_,_,by omega,by go_num,c4.out,a9.out,a6.out⟩
    have b4:p+1<=made'.length:=by
     obtain⟨r,hr⟩:=HR.out;rw[hr,List.length_append];omega
    have f9:=ST'.out.sp.made_le;go_wp2;go_roundg (t.length-(p+1))
    case measure=>have:=f6.out;omega
    exact⟨p+1,made',mv',bs',by omega,by go_num,b4,ST'.out⟩
   go_wp2;go_roundg (t.length-(k+1))
   case measure=>have:=HG.out;omega
   exact⟨k+1,p,sa1,sc1,gs++[k],made,mv,bs,by omega,by rw[e1.out],rfl,by go_num,hp,by have:=ST.out;rw[<-e1.out]at this;exact this⟩
  rw[hbk]at ck;have c7:k∈made:=(ST.out.sp.mem k hk).1 hbk;have f5:=Kh c7;clear hbk c7;go_wp2;go_roundg (t.length-(k+1))
  case measure=>have:=HG.out;omega
  exact⟨k+1,p,sa,sc,gs,made,mv,bs,by omega,rfl,rfl,by go_num,hp,ST.out.sp,ST.out.own,ST.out.ap,ST.out.inv.next f5.out⟩
 go_wp2;go_ret;have g0:k=t.length:=by have:=HG.out;omega
 exact⟨sa,sc,gs,rfl,Row.of_owns ST.out.own,ST.out.inv.lt,fun x hx=>ST.out.inv.gen x (ST.out.inv.all x (by omega)),ST.out.sp.fr⟩
theorem qBM (B:Nat)(w:World)(v:Value)(t:List (List Int))(h:Mat B w v t):Calls Tryz.prog 126 #[v] w fun e w'=>e=.returned (.int .i64 (rD t))/\w=w':=by
 by_cases h0:0<t.length
 ·obtain⟨b,off,cap,A,C,rfl,H6,H2,hm⟩:=h.some_ h0
  have H5:cap<=9223372036854775807:=by unfold maxLen at H2;omega
  have HM:=Kh hm;clear hm;by_cases h4:400<t.length
  ·go_enter Tryz.func126,Tryz.ntmps126
   go_wp2;go_ret;exact⟨yX (qGS h4).symm,rfl⟩
  have H4:((t.length:Int) == 0)=false:=by rw[beq_eq_false_iff_ne];omega
  go_enter Tryz.func126,Tryz.ntmps126;go_wp2
  go_loopg [15] t.length (fun g i wr=>∃k:Nat,g+k=t.length/\i=.int .i64 k/\qTL t k/\w=wr)
  case atStart=>exact⟨0,rfl,rfl,fun x hx=>absurd hx (by omega),rfl⟩
  obtain⟨k,hg,rfl,h6,rfl⟩:=hrel;have OK:=Kh h6;clear h6;by_cases hk:k<t.length
  ·have h8:=HM.out.hd k hk
   have h3:=HM.out.row k hk;have h7:=h3.len_le;rw[zJ]at h7;unfold maxLen at h7;obtain⟨r,hr⟩:=Nm (t.getD k []);rw[<-hr]at h8 h3 h7;have HG:=Kh hg;have HR:=Kh hr;clear hg hr;by_cases hl:r.length=t.length
   ·have h5:=Kh hl
    have H0:((r.length:Int) != t.length)=false:=by rw[hl];simp
    obtain⟨rb,ro,rc,e,hb,h1,h2,h9⟩:=h3.some_ (by rw[zJ];omega);simp only[Value.slice.injEq]at e;obtain⟨eA,-,rfl⟩:=e;rw[eA]at h8;have HA:=Kh eA;have RA:=Kh h9;rw[hl]at h8;rw[zJ,hl]at h1;clear eA h9 hl;go_wp2
    go_loopg [26] t.length (fun g j wr'=>∃y:Nat,g+y=t.length/\j=.int .i64 y/\qMF t.length r y/\w=wr')
    case atStart=>exact⟨0,rfl,rfl,fun x hx=>absurd hx (by omega),rfl⟩
    obtain⟨y,hg,rfl,h6,rfl⟩:=hrel;have OKY:=Kh h6;clear h6;by_cases hy:y<t.length
    ·have H1:=RA.out.int y (by rw[h5.out];exact hy)
     obtain⟨z,hz⟩:=Nm (r.getD y 0);rw[<-hz]at H1;have HZ:=Kh hz;have H3:=Kh hg;clear hz hg;by_cases hb1:z<0
     ·go_wp2
      go_ret;exact⟨yX (iM h4 hk (qBN (y:=y) (by rw[<-HR.out,h5.out];exact hy) (by rw[<-HR.out,<-HZ.out];exact .inl hb1))).symm,rfl⟩
     by_cases hb2:(t.length:Int)<=z
     ·go_wp2
      go_ret;exact⟨yX (iM h4 hk (qBN (y:=y) (by rw[<-HR.out,h5.out];exact hy) (by rw[<-HR.out,<-HZ.out];exact .inr hb2))).symm,rfl⟩
     go_wp2;go_roundg (t.length-(y+1))
     case measure=>have:=H3.out;omega
     refine⟨y+1,by omega,by go_num,fun x hx=>?_,rfl⟩;rcases Nat.lt_succ_iff_lt_or_eq.1 hx with hx|rfl
     ·exact OKY.out x hx
     rw[<-HZ.out];omega
    go_wp2;go_roundg (t.length-(k+1))
    case measure=>have:=HG.out;omega
    refine⟨k+1,by omega,by go_num,fun x hx=>?_,rfl⟩;rcases Nat.lt_succ_iff_lt_or_eq.1 hx with hx|rfl
    ·exact OK.out x hx
    rw[<-HR.out,oH];exact⟨h5.out,fun z hz=>OKY.out z (by rw[h5.out]at hz;omega)⟩
   have H0:((r.length:Int) != t.length)=true:=by rw[bne_iff_ne];omega
   have h5:=Kh hl;clear hl;go_wp2;go_ret;exact⟨yX (iM h4 hk (by rw[<-HR.out];exact qJI h5.out)).symm,rfl⟩
  go_wp2;go_ret;exact⟨yX (qJC h4 h0 (fun x hx=>OK.out x (by omega))).symm,rfl⟩
 obtain⟨a,c,e⟩:=h.shape;have ht:t=[]:=List.eq_nil_of_length_eq_zero (by omega);subst ht;subst e;clear h0;go_enter Tryz.func126,Tryz.ntmps126;go_wp2;go_ret;exact⟨rfl,rfl⟩
theorem qAZ (B:Nat)(w:World)(v:Value)(t:List (List Int))(hB:B<=w.heap.size)(h:Mat B w v t):Calls Tryz.prog 97 #[v] w fun e w'=>e=.returned (.int .i64 (qA t))/\w.grownBy w' none:=by
 by_cases hE:rD t=0
 ·have hs:=qFM hE
  obtain⟨HS,HE,H⟩:=K3 hs hE h;clear hs hE h;go_enter Tryz.func97,Tryz.ntmps97;go_wp2_with fail;refine(qBM B w v t H.out).mono ?_;rintro e w' ⟨rfl,rfl⟩;rw[HE.out];go_wp2_with fail;refine(qBJ B w v t hB H.out HS.out).mono ?_;rintro e w1 ⟨sa,sc,gs,rfl,h0,h5,h1,h2⟩;obtain⟨HR,h3,h4⟩:=K3 h0 h5 h1;have HM:=Kh ((H.out.kept h2 (by simp)).mono (show B<=w1.heap.size by have:=h2.size;omega));clear h0 h5 h1;go_wp2_with fail;refine(dM w1.heap.size w1 v _ t gs (Nat.le_refl _) HM.out HS.out HR.out h3.out).mono ?_;rintro e w2 ⟨rfl,h6⟩;have hg:=zG h2 h6;cases hb:eQ t gs
  ·have hv:qA t=5:=qGL HE.out (fun ha=>by
    rw[eP (fun g hg=>ha g (h3.out g hg))]at hb;cases hb)
   have HV:=Kh hv;clear hb hv;go_wp2;go_ret;exact⟨yX HV.out.symm,hg⟩
  have hv:qA t=0:=gJ HE.out (dN HS.out h4.out (fun g hg=>⟨h3.out g hg,by
   have:fU t gs:=by simpa [eQ] using hb
   exact this g hg⟩))
  have HV:=Kh hv;clear hb hv;go_wp2;go_ret;exact⟨yX HV.out.symm,hg⟩
 have hb:(rD t != 0)=true:=by rw[bne_iff_ne];exact hE
 have HE:=Kh hE;clear hE;go_enter Tryz.func97,Tryz.ntmps97;go_wp2_with fail;refine(qBM B w v t h).mono ?_;rintro e w' ⟨rfl,rfl⟩;go_wp2;go_ret;exact⟨yX (qBB HE.out).symm,zU _ _⟩
theorem qBA (B:Nat)(w:World)(v:Value)(t:List (List Int))(hB:B<=w.heap.size)(h:Mat B w v t):Calls Tryz.prog 70 #[v] w fun e w'=>e=.returned (.bool (qA t == 0))/\w.grownBy w' none:=by
 go_enter Tryz.func70,Tryz.ntmps70;go_wp2_with fail;refine(qAZ B w v t hB h).mono ?_;rintro e w1 ⟨rfl,hg⟩;go_wp2;go_ret;exact⟨rfl,hg⟩
theorem qGT (n k:Nat)(hk:k<n):(List.range k++List.replicate (n-k) 0).set k k=List.range (k+1)++List.replicate (n-(k+1)) 0:=by
 rw[List.set_append_right _ _ (by simp),List.length_range,Nat.sub_self,List.range_succ,List.append_assoc];congr 1;rw[show n-k=n-(k+1)+1 by omega,List.replicate_succ,List.set_cons_zero];rfl
theorem qCZ (w:World)(a:Option Addr)(n cap:Nat)(hn:n<=400):Calls Tryz.prog 130 #[.slice a n cap] w fun e w'=>e=.returned (.slice (some ⟨w.heap.size,0,none⟩) n n)/\Arr w' w.heap.size 3 (nats (List.range n))/\w.grownBy w' none:=by
 go_enter Tryz.func130,Tryz.ntmps130;go_wp2_with (at_make;refine qG rfl _ _ _ rfl yH rfl _ _ _ _ n rfl rfl rfl rfl ?b1 ?b2 ?_;(case b1=>omega);(case b2=>(unfold maxLen;omega));intro w1 h3 h7 h8);rw[<-yN]at h3;have HA:=Kh h3;clear h3
 go_loopg [10] n (fun g i wr=>∃k:Nat,g+k=n/\i=.int .i64 k/\Arr wr w.heap.size 3 (nats (List.range k++List.replicate (n-k) 0))/\w.grownBy wr none)
 case atStart=>exact⟨0,rfl,rfl,by simpa using HA.out,h7⟩
 clear HA h7 h8;obtain⟨k,hg,rfl,h0,h6⟩:=hrel;have HG:=Kh hg;clear hg;by_cases hk:k<n
 ·have H1:(k:Int)<n:=by omega
  have h1:(List.range k++List.replicate (n-k) 0).length=n:=by simp;omega
  have ck:=h0.nat k (by rw[h1];exact hk);have fk:=h0.frozen k;have h2:=h0.nat_set k (by rw[h1];exact hk) k;rw[qGT n k hk]at h2;have h9:=Kh h2;clear h2 h1 h0;go_wp2;go_roundg (n-(k+1))
  case measure=>have:=HG.out;omega
  exact⟨k+1,by omega,by go_num,h9.out,zC h6 (zF _ _ _)⟩
 have h5:k=n:=by have:=HG.out;omega
 have H0:=Kh h5;have h4:=Kh h0;clear h0 h5;go_wp2;go_ret;refine⟨rfl,?_,h6⟩;have:=h4.out;rw[H0.out,Nat.sub_self,List.replicate_zero,List.append_nil]at this;exact this
def cenB (t:List (List Int))(x:Nat):Bool:=(List.range t.length).all fun y=>entN t x y == entN t y x
def fD (t:List (List Int)):Bool:=(List.range t.length).all (cenB t)
theorem qPF {t:List (List Int)}{x y:Nat}(hy:y<t.length)(h:entN t x y≠entN t y x):cenB t x=false:=by
 rw[<-Bool.not_eq_true,cenB,List.all_eq_true];intro ha;exact h (by simpa using ha y (List.mem_range.2 hy))
def qTR (t:List (List Int))(x k:Nat):Prop:=∀y,y<k->entN t x y=entN t y x
theorem qLS {t:List (List Int)}{x:Nat}(h:qTR t x t.length):cenB t x=true:=by
 rw[cenB,List.all_eq_true];intro y hy;simpa using h y (List.mem_range.1 hy)
theorem qHN {n:Nat}(p:Fin n->Bool):((List.finRange n).filter p).length=n↔∀x,p x=true:=by
 have h1:(List.finRange n).length=n:=List.length_finRange;constructor
 ·intro h x
  have h2:=(List.length_filter_eq_length_iff (p:=p) (l:=List.finRange n)).1 (by rw[h,h1]);exact h2 x (List.mem_finRange x)
 intro h;rw[List.filter_eq_self.2 (fun a _=>h a),h1]
structure CenAt (K:Nat)(W:World)(cb pb:Nat)(t:List (List Int))(b off cap:Nat)(RB RO RC:Nat->Nat):Prop where
 box:W.cell? ⟨pb,0,none⟩=some (.slice (some ⟨b,off,none⟩) t.length cap)
 clo:W.cell? ⟨cb,0,none⟩=some (.func (.func 99) #[] #[.pointer (some ⟨pb,0,none⟩)])
 hd:∀x,x<t.length->W.cell? ⟨b,off+x,none⟩=some (.slice (some ⟨RB x,RO x,none⟩) t.length (RC x))
 lt:cb<K/\pb<K/\b<K/\∀x,x<t.length->RB x<K
 el:∀x y,x<t.length->y<t.length->W.cell? ⟨RB x,RO x+y,none⟩=some (.int .i64 (entN t x y))
section
variable {K:Nat} {W W':World} {cb pb:Nat} {t:List (List Int)} {b off cap:Nat} {RB RO RC:Nat->Nat}
theorem CenAt.mono (h:CenAt K W cb pb t b off cap RB RO RC)(hk:∀p u,p.block<K->W.cell? p=some u->W'.cell? p=some u):CenAt K W' cb pb t b off cap RB RO RC :=
 ⟨hk _ _ h.lt.2.1 h.box,hk _ _ h.lt.1 h.clo,fun x hx=>hk _ _ h.lt.2.2.1 (h.hd x hx),h.lt,fun x y hx hy=>hk _ _ (h.lt.2.2.2 x hx) (h.el x y hx hy)⟩
theorem qEV (w:World)(h:CenAt K w cb pb t b off cap RB RO RC)(a8:t.length<=cap)(a7:cap<=9223372036854775807)(a9:∀x,x<t.length->t.length<=RC x/\RC x<=9223372036854775807)(x:Nat)(hx:x<t.length):Calls Tryz.prog 99 #[.int .i64 (x:Int),.pointer (some ⟨pb,0,none⟩)] w fun r w'=>r=.returned (.bool (cenB t x))/\∃m,w'=w.drewN m:=by
 have HQ:=Kh h;have h6:=Kh a9;have hp:=h.box;have ce:=h.hd x hx;have H6:(x:Int)<t.length:=by omega
 have h0:=a9 x hx;have H3:=h0.1;have H2:=h0.2;clear h a9 h0;go_enter Tryz.func99,Tryz.ntmps99;go_wp2
 go_loopg [4,7] t.length (fun g a4 i wr=>∃k m:Nat,g+k=t.length/\i=.int .i64 k/\qTR t x k/\wr=w.drewN m)
 case atStart=>exact⟨0,0,rfl,rfl,fun x hx=>absurd hx (by omega),rfl⟩
 obtain⟨y,m,hg,rfl,h4,rfl⟩:=hrel;have HG:=Kh hg;have OK:=Kh h4;clear hg h4;by_cases hy:y<t.length
 ·have H5:(y:Int)<t.length:=by omega
  have cy:=HQ.out.hd y hy;have cxy:=HQ.out.el x y hx hy;have cyx:=HQ.out.el y x hy hx;have H0:=(h6.out y hy).1;have h9:=(h6.out y hy).2;obtain⟨p,h3⟩:=Nm (entN t x y);obtain⟨q,h2⟩:=Nm (entN t y x);rw[<-h3]at cxy;rw[<-h2]at cyx;have h8:=Kh h3;have h7:=Kh h2;clear h3 h2;by_cases h1:p=q
  ·have e1:((p:Int) != (q:Int))=false:=by rw[h1];simp
   have H1:=Kh h1;clear h1;go_wp2
   first|(go_quiet (fail);go_wp2)|skip
   go_roundg (t.length-(y+1))
   case measure=>have:=HG.out;omega
   refine⟨y+1,_,by omega,by go_num,fun z hz=>?_,rfl⟩;rcases Nat.lt_succ_iff_lt_or_eq.1 hz with hz|rfl
   ·exact OK.out z hz
   rw[<-h8.out,<-h7.out];exact H1.out
  have e1:((p:Int) != (q:Int))=true:=by rw[bne_iff_ne];omega
  have H1:=Kh h1;clear h1;go_wp2
  first|(go_quiet (fail);go_wp2)|skip
  go_ret;exact⟨yT (qPF hy (by rw[<-h8.out,<-h7.out];exact H1.out)).symm,_,World.drewN_drewN _ _ _⟩
 have h5:y=t.length:=by have:=HG.out;omega
 have H4:=Kh h5;clear h5;go_wp2;go_ret;exact⟨yT (qLS (by rw[<-H4.out];exact OK.out)).symm,_,rfl⟩
theorem qEU (w:World)(h:CenAt K w cb pb t b off cap RB RO RC)(a9:t.length<=cap)(a7:cap<=9223372036854775807)(a8:∀x,x<t.length->t.length<=RC x/\RC x<=9223372036854775807)(x:Nat)(hx:x<t.length):Calls Tryz.prog 131 #[.int .i64 (x:Int),.pointer (some ⟨cb,0,none⟩)] w fun r w'=>r=.returned (.bool (!cenB t x))/\∃m,w'=w.drewN m:=by
 have HC:=Kh (qEV w h a9 a7 a8 x hx);have h0:=h.clo;have eg:∀args w,(callFunc 99 args).run Tryz.prog w=.ok (.enter 99 args) w:=enters_of Tryz.func99 (by kernel_rfl) rfl;obtain⟨c,hc⟩:=Nm (cenB t x);rw[<-hc]at HC⊢;clear h a8 hc;go_enter Tryz.func131,Tryz.ntmps131;go_wp2_with (first|(go_at_fn 99;refine HC.out.mono ?_;rintro e w1 ⟨rfl,m,rfl⟩)|fail);go_ret;exact⟨rfl,m,rfl⟩
end
open Go.Lib Go.Sort Go.Shelf in
theorem qHY (B : Nat)(w : World)(pb b off cap : Nat)(RB RO RC : Nat → Nat)(t : List (List Int))(hB : B ≤ w.heap.size)(hq : Sq B w t b off RB RO RC)(hM : Mat B w (.slice (some ⟨b, off, none⟩) t.length cap) t)(hs : Shape t)(hv : qA t = 0)(a9 : t.length ≤ cap)(a8 : cap ≤ 9223372036854775807)(hp : w.cell? ⟨pb, 0, none⟩ = some (.slice (some ⟨b, off, none⟩) t.length cap)): Calls Tryz.prog 98 #[.slice (some ⟨b, off, none⟩) t.length cap, .func (.func 99) #[] #[.pointer (some ⟨pb, 0, none⟩)]] w fun e w' => (∃ sa sc m, e = .returned (.slice sa m sc) ∧ (m = t.length ↔ fD t = true)) ∧ w.grownBy w' none := by
 have hn := hs.pos
 have hn4 := hs.le
 have hpb : pb < w.heap.size := World.block_lt_of_cell? w _ hp
 obtain⟨w1,hw1⟩:=Nm (w.alloc (.cells #[.func (.func 99) #[] #[.pointer (some ⟨pb, 0, none⟩)]] 74))
 have hg1 : w.grownBy w1 none := by rw [hw1]; exact Ga w _ none
 have hb1 := heap_alloc_new w (.cells #[.func (.func 99) #[] #[.pointer (some ⟨pb, 0, none⟩)]] 74)
 obtain⟨cb,hcb⟩:=Nm w.heap.size
 rw [← hw1, ← hcb] at hb1
 have hcl := zH hb1 0
 simp only [List.getElem_toArray, List.getElem_cons_zero] at hcl
 have hcb1 : cb < w1.heap.size := zR hb1
 have hC : CenAt w1.heap.size w1 cb pb t b off cap RB RO RC := ⟨zK hp hg1, hcl, fun x hx => zK (hq.hd x hx) hg1, ⟨hcb1, by have := hg1.size; omega, by have := hg1.size; have := hq.ltw; omega, fun x hx => by have := hg1.size; have := (hq.ltr x hx).2; omega⟩, fun x y hx hy => zK (hq.el x y hx hy) hg1⟩
 have hrc : ∀ x, x < t.length → t.length ≤ RC x ∧ RC x ≤ 9223372036854775807 := fun x hx => ⟨(hq.cap x hx).1, by have := (hq.cap x hx).2; unfold maxLen at this; exact this⟩
 have HC := Kh hC; have HRC := Kh hrc; have HG1 := Kh hg1; have HW1 := Kh hw1; have HCB := Kh hcb
 have HV := Kh (qBA B w1 _ t (Nat.le_trans hB hg1.size) (hM.kept hg1 (by simp)))
 rw [show (qA t == 0) = true by rw [hv]; rfl] at HV
 obtain⟨n,hN⟩:=Nm t.length
 have HN := Kh hN
 rw [← hN] at a9 hn hn4 HV ⊢
 clear hq hM hs hv hp hpb hw1 hg1 hb1 hcb hcl hcb1 hC hrc hN
 go_enter Tryz.func98, Tryz.ntmps98
 go_upto_region 1 with fail
 rw [← HW1.out, ← HCB.out]
 go_wp2_with fail
 refine HV.out.mono ?_
 rintro e w2 ⟨rfl, hg2⟩
 have HEL := Kh (qCZ w2 (some ⟨b, off, none⟩) n cap hn4)
 have HG2 := Kh hg2
 clear hg2 HV
 go_wp2_with fail
 refine HEL.out.mono ?_
 rintro e w3 ⟨rfl, harr, hg3⟩
 obtain⟨g,hg⟩:=Nm w2.heap.size
 rw [← hg] at harr ⊢
 have HDF : Hid (Calls Tryz.prog 129 #[.slice (some ⟨g, 0, none⟩) n n, .func (.func 131) #[] #[.pointer (some ⟨cb, 0, none⟩)]] w3 fun e w' => (∃ m, e = .returned (.slice (some ⟨g, 0, none⟩) m n) ∧ (m = n ↔ fD t = true)) ∧ w2.grownBy w' none) := Kh (by
  have hC3 : CenAt w1.heap.size w3 cb pb t b off cap RB RO RC := HC.out.mono (fun p u _ hu => zK hu (zC HG2.out hg3))
  haveI : Inhabited (Fin n) := ⟨⟨0, by omega⟩⟩
  have hK : w1.heap.size ≤ g := by rw [hg]; exact HG2.out.size
  have hgl : g < w3.heap.size := harr.lt
  have hdl : ((List.finRange n).toArray).size = n := by simp
  have hpred : ∀ (W : World), CenAt w1.heap.size W cb pb t b off cap RB RO RC → ∀ x : Fin n, FnGives Tryz.prog 131 #[.pointer (some ⟨cb, 0, none⟩)] #[.int .i64 ((x.val : Nat) : Int)] (.bool (!cenB t x.val)) W := fun W hW x => qEU W hW (by rw [← HN.out]; exact a9) a8 HRC.out x.val (by rw [← HN.out]; exact x.isLt)
  have := Tryz.slices_DeleteFunc (fun x : Fin n => Value.int .i64 ((x.val : Nat) : Int)) (fun _ => rfl) (fun x => !cenB t x.val) 131 #[.pointer (some ⟨cb, 0, none⟩)] (enters_of Tryz.func131 (by kernel_rfl) rfl) ⟨0, by omega⟩ Tryz.zeroValue3 g 0 n (List.finRange n).toArray w3
   (fun W x hb => hpred W (hC3.mono (fun p u hp hu => (hb.cell (by omega)).trans hu)) x)
   (fun m os dk x hdk => hpred _ (hC3.mono (fun p u hp hu => by
    unfold sortWorld
    rw [cell?_grow _ _ _ (by show p.block < (putRow _ _ _ _ _).heap.size; rw [size_putRow]; show p.block < w3.heap.size; omega), cell?_putRow_other _ _ g _ _ _ (Or.inl (by omega))]
    exact hu)) x)
   (fun j hj => by
    have hj' : j < n := by rw [hdl] at hj; exact hj
    have h1 := harr.nat j (by simpa using hj')
    refine ⟨?_, harr.frozen _⟩
    rw [Nat.zero_add, h1, getElem!_pos _ j hj, zN (show j < (List.range n).length by simpa using hj')]
    simp only [List.getElem_range, List.getElem_toArray, List.getElem_finRange]
    rfl)
   (by rw [hdl]; omega) (by rw [hdl]; exact Nat.le_refl _)
  rw [hdl] at this
  refine this.mono fun e w' ⟨h1, q, h2⟩ => ⟨⟨_, h1, ?_⟩, ?_⟩
  ·have hf : (List.filter (fun x : Fin n => !!cenB t x.val) (List.finRange n).toArray.toList) = (List.finRange n).filter (fun x : Fin n => cenB t x.val) := by simp
   rw [hf, qHN, fD, List.all_eq_true, ← HN.out]
   exact ⟨fun h x hx => h ⟨x, List.mem_range.1 hx⟩, fun h x => h x.val (List.mem_range.2 x.isLt)⟩
  ·have hb3 : Below w2.heap.size w2 w3 := ⟨hg3.os, hg3.tape, hg3.output, hg3.size, fun j hj => hg3.block j hj (by simp)⟩
   rw [h2]
   exact kP (below_putRow hb3 (by rw [hg]; exact Nat.le_refl _)))
 have HG12 := Kh (zC HG1.out HG2.out)
 clear harr hg3 hg HEL HC HRC
 go_wp2_with fail
 refine HDF.out.mono ?_
 rintro e w4 ⟨⟨m, rfl, hm⟩, hg4⟩
 have HM := Kh hm; have HG4 := Kh (zC HG12.out hg4)
 clear hm hg4
 go_wp2
 go_ret
 exact ⟨⟨_, _, m, rfl, HM.out⟩, HG4.out⟩
theorem qHZ (B:Nat)(w:World)(v:Value)(t:List (List Int))(hB:B<=w.heap.size)(hM:Mat B w v t)(hs:Shape t)(hv:qA t=0):Calls Tryz.prog 71 #[v] w fun e w'=>(∃sa sc m,e=.returned (.slice sa m sc)/\(m=t.length↔fD t=true))/\w.grownBy w' none:=by
 obtain⟨b,off,cap,RB,RO,RC,rfl,h8,h4,hq⟩:=hM.sq hs;obtain⟨w1,h1⟩:=Nm (w.alloc (.cells #[.slice (some ⟨b,off,none⟩) t.length cap] 27));have h0:w.grownBy w1 none:=by rw[h1];exact Ga w _ none
 have h5:=heap_alloc_new w (.cells #[.slice (some ⟨b,off,none⟩) t.length cap] 27);obtain⟨pb,h3⟩:=Nm w.heap.size;rw[<-h1,<-h3]at h5;have h2:=zH h5 0;simp only[List.getElem_toArray,List.getElem_cons_zero]at h2;have h6:=Kh (qHY B w1 pb b off cap RB RO RC t (Nat.le_trans hB h0.size) (hq.kept h0 (by simp)) (hM.kept h0 (by simp)) hs hv h8 (by unfold maxLen at h4;exact h4) h2);obtain⟨H2,h9,H0⟩:=K3 h0 h1 h3;obtain⟨n,hN⟩:=Nm t.length;rw[<-hN]at h6 h2⊢;have HN:=Kh hN;clear hM hs hv h8 h4 hq h1 h0 h5 h3 hN;go_enter Tryz.func71,Tryz.ntmps71;go_upto_region 1 with fail;rw[HN.out,<-h9.out,<-H0.out];rw[HN.out]at h2 h6;go_wp2_with fail;refine h6.out.mono ?_;rintro e w2 ⟨⟨sa,sc,m,rfl,hm⟩,h7⟩;have HM:=Kh hm;have H1:=Kh (zC H2.out h7);clear hm h7;go_wp2;go_ret;exact⟨⟨sa,sc,m,rfl,by rw[HN.out];exact HM.out⟩,H1.out⟩
theorem qPB (B:Nat)(w:World)(v:Value)(t:List (List Int))(hB:B<=w.heap.size)(hM:Mat B w v t)(hs:Shape t)(hv:qA t=0):Calls Tryz.prog 36 #[v] w fun e w'=>e=.returned (.bool (fD t))/\w.grownBy w' none:=by
 obtain⟨a,cap,rfl⟩:=hM.shape;have HV:=Kh (qBA B w _ t hB hM);rw[show (qA t == 0)=true by rw[hv];rfl]at HV;have h0:Hid (∀W:World,w.grownBy W none->Calls Tryz.prog 71 #[.slice a t.length cap] W fun e w'=>(∃sa sc m,e=.returned (.slice sa m sc)/\(m=t.length↔fD t=true))/\W.grownBy w' none):=Kh (fun W hW=>qHZ B W _ t (Nat.le_trans hB hW.size) (hM.kept hW (by simp)) hs hv);obtain⟨n,hN⟩:=Nm t.length;obtain⟨c,hc⟩:=Nm (fD t);rw[<-hN]at HV h0⊢;rw[<-hc]at h0⊢;clear hM hs hv hN hc;go_enter Tryz.func36,Tryz.ntmps36;go_wp2_with fail;refine HV.out.mono ?_;rintro e w1 ⟨rfl,h1⟩;have h3:=Kh (h0.out w1 h1);have h5:=Kh h1;clear h1 h0 HV;go_wp2_with fail;refine h3.out.mono ?_;rintro e w2 ⟨⟨sa,sc,m,rfl,hm⟩,h2⟩;have h4:=Kh (zC h5.out h2)
 have e1:((m:Int) == (n:Int))=c:=by
  rw[Bool.eq_iff_iff,<-hm,beq_iff_eq];omega
 clear hm h2 h3;go_wp2;go_ret;exact⟨rfl,h4.out⟩
def rK (l:List ByteArray):List Value:=l.map .string
theorem qDK {α:Type}[BEq α][LawfulBEq α][DecidableEq α]:∀(xs ys:List α),Lib.allEq (fun x y=>x == y) xs ys=decide (xs=ys)
 | [],[]=>rfl
 | [],y::ys=>by simp[Lib.allEq]
 | x::xs,[]=>by simp[Lib.allEq]
 | x::xs,y::ys=>by
  rw[Lib.allEq,qDK xs ys,Bool.eq_iff_iff]
  simp
theorem bN (B C:Nat)(w:World)(v1 v2:Value)(xs ys:List Int)(h1:Row B w v1 (ints xs))(h2:Row C w v2 (ints ys))(hl:1<=xs.length):Calls Tryz.prog 67 #[v1,v2] w fun e w'=>e=.returned (.bool (decide (xs=ys)))/\w.grownBy w' none:=by
 by_cases he:xs.length=ys.length
 ·obtain⟨b1,o1,c1,rfl,_,_,m1,r1⟩:=h1.some_ (by rw[zJ];omega)
  obtain⟨b2,o2,c2,rfl,_,_,m2,r2⟩:=h2.some_ (by rw[zJ];omega);have k1:=h1.len_le;have k2:=h2.len_le;rw[zJ]at k1 k2⊢;rw[zJ];unfold maxLen at k1 k2;refine(Tryz.slices_Equal_int b1 o1 xs.length c1 b2 o2 ys.length c2 xs ys w (Nat.le_refl _) (Nat.le_refl _) (by omega) (by omega) (fun j hj=>r1.int j hj) (fun j hj=>r2.int j hj)).mono ?_;rintro e w' ⟨rfl,q,rfl⟩;rw[List.take_of_length_le (Nat.le_refl _),List.take_of_length_le (Nat.le_refl _)];exact⟨by rw[show (xs == ys)=decide (xs=ys) by rw[Bool.eq_iff_iff];simp],zQ _ _ none⟩
 obtain⟨a1,c1,rfl⟩:=h1.shape;obtain⟨a2,c2,rfl⟩:=h2.shape;rw[zJ,zJ];exact(Tryz.slices_Equal_int_lens a1 a2 xs.length c1 ys.length c2 w he).mono fun e w' ⟨e1,e2⟩=>⟨by rw[e1,decide_eq_false (fun e=>he (by rw[e]))],by rw[e2];exact zU _ _⟩
theorem vQ.str_ {w:World}{b off:Nat}{zs:List ByteArray}(h:vQ w b off (rK zs))(i:Nat)(hi:i<zs.length):w.cell? ⟨b,off+i,none⟩=some (.string (zs.getD i ByteArray.empty)):=by
 rw[vQ.map h i hi];simp[List.getD,List.getElem?_eq_getElem hi]
theorem vQ.bool_ {w:World}{b off:Nat}{zs:List Bool}(h:vQ w b off (bls zs))(i:Nat)(hi:i<zs.length):w.cell? ⟨b,off+i,none⟩=some (.bool zs[i]!):=by
 rw[vQ.map (f:=Value.bool) h i hi,getElem!_pos zs i hi]
theorem qHQ (B C:Nat)(w:World)(v1 v2:Value)(xs ys:List ByteArray)(h1:Row B w v1 (rK xs))(h2:Row C w v2 (rK ys))(hl:1<=xs.length):Calls Tryz.prog 68 #[v1,v2] w fun e w'=>e=.returned (.bool (decide (xs=ys)))/\w.grownBy w' none:=by
 have l1:(rK xs).length=xs.length:=by simp[rK]
 have l2:(rK ys).length=ys.length:=by simp[rK]
 by_cases he:xs.length=ys.length
 ·obtain⟨b1,o1,c1,rfl,_,_,m1,r1⟩:=h1.some_ (by omega)
  obtain⟨b2,o2,c2,rfl,_,_,m2,r2⟩:=h2.some_ (by omega);have k1:=h1.len_le;have k2:=h2.len_le;rw[l1]at k1⊢;rw[l2]at k2⊢;unfold maxLen at k1 k2;refine(Tryz.slices_Equal_string b1 o1 xs.length c1 b2 o2 ys.length c2 xs ys w (Nat.le_refl _) (Nat.le_refl _) (by omega) (by omega) (fun j hj=>r1.str_ j hj) (fun j hj=>r2.str_ j hj)).mono ?_;rintro e w' ⟨rfl,q,rfl⟩;rw[List.take_of_length_le (Nat.le_refl _),List.take_of_length_le (Nat.le_refl _)];exact⟨rfl,zQ _ _ none⟩
 obtain⟨a1,c1,rfl⟩:=h1.shape;obtain⟨a2,c2,rfl⟩:=h2.shape;rw[l1,l2];exact(Tryz.slices_Equal_string_lens a1 a2 xs.length c1 ys.length c2 w he).mono fun e w' ⟨e1,e2⟩=>⟨by rw[e1,decide_eq_false (fun e=>he (by rw[e]))],by rw[e2];exact zU _ _⟩
theorem eV (B C:Nat)(w:World)(v1 v2:Value)(xs ys:List Bool)(h1:Row B w v1 (bls xs))(h2:Row C w v2 (bls ys))(hl:1<=xs.length)(a9:1<=ys.length):Calls Tryz.prog 69 #[v1,v2] w fun e w'=>e=.returned (.bool (decide (xs=ys)))/\w.grownBy w' none:=by
 obtain⟨b1,o1,c1,rfl,_,_,m1,r1⟩:=h1.some_ (by rw[zX];omega);obtain⟨b2,o2,c2,rfl,_,_,m2,r2⟩:=h2.some_ (by rw[zX];omega);have k1:=h1.len_le;have k2:=h2.len_le;rw[zX]at k1 k2⊢;rw[zX];unfold maxLen at k1 k2;refine(Tryz.slices_Equal_f69 Value.bool (fun x y=>x == y) (NeqAt.bool _ Tryz.underlying4) b1 o1 xs.length c1 b2 o2 ys.length c2 xs ys w (Nat.le_refl _) (Nat.le_refl _) (by omega) (by omega) (fun j hj=>r1.bool_ j hj) (fun j hj=>r2.bool_ j hj)).mono ?_;rintro e w' ⟨rfl,q,rfl⟩;rw[List.take_of_length_le (Nat.le_refl _),List.take_of_length_le (Nat.le_refl _),qDK];exact⟨rfl,zQ _ _ none⟩
theorem qIC (B:Nat)(w:World)(v:Value)(f:List Bool)(h:Row B w v (bls f))(h1:1<=f.length)(hb:f.length<=1000000):Calls Tryz.prog 96 #[v] w fun e w'=>∃sa sc,e=.returned (.slice sa f.length sc)/\w'.ownsRow w.heap.size 4 1 (.slice sa f.length sc) f.length (bls f)/\w.grownBy w' none:=by
 obtain⟨b,off,cap,rfl,_,H0,h9,h7⟩:=h.some_ (by rw[zX];omega);rw[zX]at h⊢;obtain⟨n,hn⟩:=Nm f.length;have HN:=Kh hn;have HR:=Kh h
 have h8:Hid (∀u∈bls f,u.oneCell'=true):=Kh (fun u hu=>by
  obtain⟨y,_,rfl⟩:=List.mem_map.1 hu;rfl)
 rw[<-hn]at h1 hb HR⊢;have h2:=Ga w (.cells #[] 4) none;have h0:=qBZ (heap_alloc_new w (.cells #[] 4)) (Nat.le_refl _);obtain⟨w1,h3⟩:=Nm (w.alloc (.cells #[] 4));rw[<-h3]at h2 h0;have H2:=Kh (HR.out.kept h2 (by simp));obtain⟨h6,H3,H1⟩:=K3 h2 h0 h3;clear h H0 h9 h7 hn h2 h0 h3;have q4:∀(W:World) (a:Option Addr) (n c n' c':Nat),(binOp .eql 26 (.slice a n c) (.slice none n' c')).run Tryz.prog W=.ok (.bool a.isNone) W:=fun W a n c n' c'=>Lib.run_eql_slice_nil W _ _ a n c n' c' Tryz.underlying26;go_enter Tryz.func96,Tryz.ntmps96;go_wp2_with (first|(rw[<-H1.out];at_builtin;refine appR rfl (.tmp 5) (.tmp 6) _ rfl wF w.heap.size _ 0 [] rfl H3.out _ (bls f) rfl ⟨_,H2.out⟩ h8.out n ?a1 ?a2 ?a3 ?a4 ?_)|fail)
 case a1=>rw[zX];have:=HN.out;omega
 case a2=>unfold maxLen;omega
 case a3=>omega
 case a4=>exact h6.out.size
 intro sa sc w2 h4 h5;have HO:=Kh h4;have H4:=Kh h5;clear h4 h5;go_wp2;go_ret;exact⟨sa,sc,rfl,HO.out,zC h6.out H4.out (fun j e=>by cases e;exact Nat.le_refl _)⟩
def inR (n:Nat)(zs:List Int):Bool:=zs.all fun x=>decide (0<=x/\x<n)
theorem dT (B:Nat)(w:World)(v:Value)(zs:List Int)(n:Nat)(h:Row B w v (ints zs)):Calls Tryz.prog 95 #[v,.int .i64 (n:Int)] w fun e w'=>e=.returned (.bool (inR n zs))/\w'=w:=by
 have h2:=h.len_le;rw[zJ]at h2;unfold maxLen at h2;by_cases h0:zs.length=0
 ·have hx:zs=[]:=List.eq_nil_of_length_eq_zero h0
  subst hx;obtain⟨a,c,rfl⟩:=h.nil_ rfl;clear h;go_enter Tryz.func95,Tryz.ntmps95;go_wp2
  go_loopg [6,9] 0 (fun g a6 i wr=>i=.int .i64 0/\wr=w)
  case atStart=>exact⟨rfl,rfl⟩
  obtain⟨rfl,rfl⟩:=hrel;go_wp2;go_ret;exact⟨rfl,rfl⟩
 obtain⟨b,o,c,rfl,_,h7,h6,hr⟩:=h.some_ (by rw[zJ];omega);have R:=Kh hr;rw[zJ]at h7⊢;clear h hr;unfold maxLen at h6;go_enter Tryz.func95,Tryz.ntmps95;go_wp2
 go_loopg [6,9] zs.length (fun g a6 i wr=>∃k:Nat,g+k=zs.length/\i=.int .i64 k/\inR n (zs.take k)=true/\wr=w)
 case atStart=>exact⟨0,rfl,rfl,rfl,rfl⟩
 obtain⟨k,hg,rfl,hn,rfl⟩:=hrel;have HG:=Kh hg;have HN:=Kh hn;clear hg hn;by_cases hk:k<zs.length
 ·have h8:(k:Int)<zs.length:=by omega
  have ca:=R.out.int k hk;obtain⟨x,hx⟩:=Nm (zs.getD k 0);rw[<-hx]at ca;have HX:=Kh hx;clear hx;have h5:Hid (x∈zs):=Kh (by rw[HX.out,List.getD_eq_getElem?_getD,List.getElem?_eq_getElem hk];exact List.getElem_mem hk)
  have h3:¬(0<=x/\x<n)->inR n zs=false:=fun h=>by
   rw[inR,List.all_eq_false];exact⟨x,h5.out,by simpa using h⟩
  have h4:=Kh h3;clear h3;by_cases hx0:x<0
  ·go_wp2
   go_ret;exact⟨yT (h4.out (by omega)).symm,rfl⟩
  by_cases hxn:(n:Int)<=x
  ·go_wp2
   go_ret;exact⟨yT (h4.out (by omega)).symm,rfl⟩
  go_wp2;go_roundg (zs.length-(k+1))
  case measure=>have:=HG.out;omega
  refine⟨k+1,by have:=HG.out;omega,by go_num,?_,rfl⟩;have h1:=HN.out;unfold inR at h1⊢;rw[yB (d:=0) hk,List.all_append,h1,<-HX.out];simp;omega
 have HM:Hid (inR n zs=true):=Kh (by
  have:=HN.out
  rwa [List.take_of_length_le (by have:=HG.out;omega)]at this)
 go_wp2;go_ret;exact⟨yT HM.out.symm,rfl⟩
end Go.Proofs.YtobakifdllameaaGreat
