/- Part 6 of the proof. -/
import Derived.Test.YtobakifdllameaaQb5
import Derived.Deep.RegionLaw
import Derived.Deep.DeepCutAuto
import Derived.Deep.CutBlock
set_option linter.unusedVariables false
set_option linter.unusedSimpArgs false
set_option maxRecDepth 100000
set_option maxHeartbeats 16000000
namespace Go.Proofs.Ytobakifdllameaa
open Go.Maps Go.RowKit
def exT (d:DfaV)(k:Nat)(l:List Nat)(i:Nat):List (List Int):=(l.take i).map fun q=>wV (yH d k) (d.next.getD q [])
def exF (d:DfaV)(l:List Nat)(i:Nat):List Bool:=(l.take i).map fun q=>d.final.getD q false
theorem qDV {d:DfaV}{k:Nat}{l:List Nat}{i:Nat}(h:i<=l.length):(exT d k l i).length=i:=by simp[exT];omega
theorem qKL {d:DfaV}{l:List Nat}{i:Nat}(h:i<=l.length):(exF d l i).length=i:=by simp[exF];omega
theorem qNS {d:DfaV}{k:Nat}{l m:List Nat}{i:Nat}(hp:l <+: m)(h:i<l.length):exT d k m (i+1)=exT d k l i++[wV (yH d k) (d.next.getD (l.getD i 0) [])]:=by
 simp only[exT,mF hp (show i+1<=l.length by omega),zZ (d:=0) h,List.map_append,List.map_cons,List.map_nil]
theorem qNT {d:DfaV}{l m:List Nat}{i:Nat}(hp:l <+: m)(h:i<l.length):exF d m (i+1)=exF d l i++[d.final.getD (l.getD i 0) false]:=by
 simp only[exF,mF hp (show i+1<=l.length by omega),zZ (d:=0) h,List.map_append,List.map_cons,List.map_nil]
theorem RowX.of_arr {X:Nat->Prop}{w:World}{g n:Nat}{e:TypeId}{xs:List Value}(h:Arr w g e xs)(hn:xs.length=n)(hm:n<=maxLen)(hX:X g):RowX X e w (.slice (some ⟨g,0,none⟩) n n) xs:=by
 obtain⟨cur,rest,hc,ht⟩:=h;subst hn;refine⟨.inr ⟨g,0,xs.length,cur,(0,0),rfl,zQ hc,Nat.le_refl _,hm,hc,fun i hi=>?_⟩,fun k hk=>?_⟩
 ·rw[Nat.zero_add,<-Array.getElem?_toList,ht,List.getElem?_append_left hi,List.getElem?_eq_getElem hi]
 have:g=k:=by simpa [Value.ownBlock] using hk
 subst this;exact hX
theorem Arr.but {w w':World}{g:Nat}{e:TypeId}{xs:List Value}{F:Nat->Prop}(h:Arr w g e xs)(hg:GrownBut w w' F)(hF:¬F g):Arr w' g e xs:=by
 obtain⟨cur,rest,hc,ht⟩:=h;exact⟨cur,rest,hg.heap hc hF,ht⟩
theorem qR {w W:World}{o:Obj}(h1:W.os=w.os)(h2:W.tape=w.tape)(h3:W.output=w.output)(h4:W.heap=(w.alloc o).heap):w.grownBy W none :=
 vJ (Ga w o none) h1 h2 h3 h4
structure TBox (B:Nat)(W:World)(P:Nat)(d:DfaV)(n k S fb fo fc b off cap:Nat)(RB RO RC:Nat->Nat):Prop where
 box:W.heap[P]?=some (.cells #[.int .i64 (k:Int),.int .i64 (S:Int),.slice (some ⟨fb,fo,none⟩) n fc,.slice (some ⟨b,off,none⟩) n cap] 37 (0,0))
 at_:DAt B W d n k fb fo fc b off cap RB RO RC
theorem TBox.grow {B:Nat}{W W':World}{P:Nat}{d:DfaV}{n k S fb fo fc b off cap:Nat}{RB RO RC:Nat->Nat}(h:TBox B W P d n k S fb fo fc b off cap RB RO RC)(hg:W.grownBy W' none):TBox B W' P d n k S fb fo fc b off cap RB RO RC :=
 ⟨zB h.box hg,h.at_.kept hg (by simp)⟩
section
variable {B:Nat} {W:World} {P:Nat} {d:DfaV} {n k S fb fo fc b off cap:Nat} {RB RO RC:Nat->Nat}
theorem qHU (h:TBox B W P d n k S fb fo fc b off cap RB RO RC){q a:Nat}(hq:q<n)(ha:a<k):Calls Try.prog 88 #[.int .i64 (q:Int),.int .i64 (a:Int),.pointer (some ⟨P,0,none⟩)] W fun e w'=>e=.returned (.int .i64 ((nx d q a:Nat):Int))/\W=w':=by
 obtain⟨c0,c1,c2,c3⟩:=zL h.box;have c4:=h.at_.hd q hq;have c5:=h.at_.el q a hq ha;have hc:=h.at_.cap;have hr:=h.at_.rcap q hq;have hd:=h.at_.ok;have hn:=hd.nbig;have hk:=hd.k6;unfold maxLen at hc hr;clear h hd;go_enter Try.func88,Try.ntmps88;go_wp2;go_ret;exact⟨rfl,rfl⟩
theorem qHT (h:TBox B W P d n k S fb fo fc b off cap RB RO RC){q:Nat}(hq:q<n):Calls Try.prog 89 #[.int .i64 (q:Int),.pointer (some ⟨P,0,none⟩)] W fun e w'=>e=.returned (.bool (d.final.getD q false))/\W=w':=by
 obtain⟨c0,c1,c2,c3⟩:=zL h.box;have c4:=h.at_.fin hq;have hc:=h.at_.fcap;have hd:=h.at_.ok;have hn:=hd.nbig;unfold maxLen at hc;clear h hd;go_enter Try.func89,Try.ntmps89;go_wp2;go_ret;exact⟨rfl,rfl⟩
end
def qSK (W:World)(d:DfaV)(k:Nat)(e:Ending)(W':World):Prop :=
 ∃v sa sc,e=.returned (.tuple #[v,.slice sa (yH d k).length sc,.int .i64 0])/\tT W W' v (wO d k)/\W'.ownsRow W.heap.size 3 1 (.slice sa (yH d k).length sc) (yH d k).length (nats (yH d k))/\W.grownBy W' none
theorem qDU (B:Nat)(W:World)(P:Nat)(d:DfaV)(n k S fb fo fc b off cap:Nat)(RB RO RC:Nat->Nat)(hS:S=st0 d)(h5:n<=512)(h:TBox B W P d n k S fb fo fc b off cap RB RO RC):Calls Try.prog 87 #[.int .i64 (k:Int),.int .i64 (S:Int),.func (.func 88) #[] #[.pointer (some ⟨P,0,none⟩)],.func (.func 89) #[] #[.pointer (some ⟨P,0,none⟩)]] W (qSK W d k):=by
 have hd:=h.at_.ok;have hn:=hd.nbig;have hk:=hd.k6;have q9:=hd.k1;have r4:S<n:=by rw[hS];exact mJ hd
 obtain⟨w1,a5⟩:=Nm ((W.alloc (.cells #[.int .i64 0,.int .i64 0,.slice none 0 0,.slice none 0 0] 37)).alloc (.cells #[.slice none 0 0,.map none] 141));have l2:W.grownBy w1 none:=by rw[a5];exact nM (Ga W _ none) _
 have H3:w1.heap[W.heap.size]?=some (.cells #[.int .i64 0,.int .i64 0,.slice none 0 0,.slice none 0 0] 37 (0,0)):=by rw[a5];exact cV W _ _
 have i6:w1.heap[W.heap.size+1]?=some (.cells #[.slice none 0 0,.map none] 141 (0,0)):=by rw[a5];exact dZ W _ _
 have q3:w1.heap.size=W.heap.size+2:=by rw[a5,zU,zU]
 obtain⟨oN,e7⟩:=Nm (W.heap.size+1);obtain⟨o0,e9⟩:=Nm W.heap.size;rw[<-e9]at H3;rw[<-e7]at i6;have j2:Hid (NumSt W.heap.size w1 oN none 0 none []):=Kh ⟨i6,World.ownsRow_nil _ _ _ _,.inl ⟨rfl,rfl⟩,by omega⟩;obtain⟨h2,p4,m2,HD,HT,HS⟩:=K6 H3 l2 a5 hd h hS;have p1:=Kh e9;have p2:=Kh e7;have n7:W.heap.size<oN:=by omega
 have n6:oN<w1.heap.size:=by omega
 have o1:W.heap.size<=o0:=by omega
 have n9:o0<oN:=by omega
 clear e7 e9;clear H3 i6 l2 a5 hd h hS;go_enter Try.func87,Try.ntmps87;go_upto_region 2 with fail;rw[<-m2.out,<-p2.out,<-p1.out];go_wp2_with fail;refine(qBJ W.heap.size w1 oN none 0 none [] S j2.out (by omega) (by simp) (by omega)).mono ?_;rintro e w2 ⟨sa2,sc2,mv2,rfl,H1,H2,f5⟩;have a6:wK ([]:List Nat) S=[S]:=by simp[wK]
 rw[a6]at H1;have q2:=H2.size;have c2:=Kh H1;have a4:=Kh H2;obtain⟨o2,e8⟩:=Nm w2.heap.size;clear a6 H1 H2 f5;go_wp2_with fail;obtain⟨w3,d7⟩:=Nm (w2.alloc (.cells #[.int .i64 (k:Int),.int .i64 0,.slice none 0 0,.slice none 0 0] 37));have a7:=Ga w2 (.cells #[.int .i64 (k:Int),.int .i64 0,.slice none 0 0,.slice none 0 0] 37) none;have b5:=heap_alloc_new w2 (.cells #[.int .i64 (k:Int),.int .i64 0,.slice none 0 0,.slice none 0 0] 37);rw[<-d7]at a7 b5;rw[<-e8]at b5;have q1:=a7.size;have b0:W.heap.size<=o2:=by omega
 have n8:=zQ b5;have m8:=Kh (zC (a4.out.grown p4.out (fun k hk=>.inr (j2.out.ge k hk).1)) a7);have h0:Hid (ExSt W.heap.size W w3 oN o2 (fun _=>False) (fun _=>False) k [S] (exF d [S] 0) (exT d k [S] 0) [] sa2 sc2 mv2 none 0 none 0):=Kh ⟨c2.out.kept a7 (by simp),fun _ _ h=>h,fun _ h=>h,fun _ h=>h.elim,b5,World.ownsRow_nil _ _ _ _,World.ownsRow_nil _ _ _ _,xU.nil,b0,⟨Nat.le_refl _,by omega⟩,m8.out⟩
 have p3:=Kh e8;have m1:=Kh d7;have c4:=Kh (zB (a4.out.heap h2.out (fun h=>by
  rcases h with h|h|h
  ·omega
  ·simp[Value.ownBlock]at h
  simp at h)) a7)
 have H9:o0≠o2:=by omega
 have k5:o0<w3.heap.size:=by omega
 clear a7 b5 d7 e8;rw[<-p3.out,<-m1.out]
 go_loopg [13,14,15,16] n (fun gh i a14 a15 a16 wr=>∃(q:Nat) (l:List Nat) (hs:List Value) (X:Nat->Prop) (sa:Option Addr) (sc:Nat) (mv:Option Nat) (sf:Option Addr) (cf:Nat) (sn:Option Addr) (cn:Nat),gh+q=n/\i=.int .i64 q/\q<=l.length/\ExL d n k q l/\wr.heap[o0]?=some (.cells #[.int .i64 0,.int .i64 0,.slice none 0 0,.slice none 0 0] 37 (0,0))/\ExSt W.heap.size W wr oN o2 X X k l (exF d l q) (exT d k l q) hs sa sc mv sf cf sn cn)
 case atStart=>exact⟨0,[S],[],fun _=>False,sa2,sc2,mv2,none,0,none,0,rfl,rfl,by simp,by rw[HS.out];exact ExL.start HD.out,c4.out,h0.out⟩
 clear h0 c2 a4 h2 j2 m8 c4 m2 m1;obtain⟨q,l,hs,X,sa,sc,mv,sf,cf,sn,cn,b4,rfl,d9,a8,H3,h3⟩:=hrel;obtain⟨m7,a9,h2,h0⟩:=K4 b4 a8 H3 h3;have q7:=a8.le;have p9:=h3.grown.size;obtain⟨c0,c1⟩:=tI h3.num.box;clear b4 a8 H3 h3;by_cases hk':q<l.length
 ·have f9:(q:Int)<l.length:=by omega
  obtain⟨lb,lo,lc,el,q8,k9,a6,k8⟩:=(Row.of_owns h0.out.num.own).some_ (by rw[zR];omega);rw[zR]at el k9;simp only[Value.slice.injEq]at el;obtain⟨rfl,_,rfl⟩:=el;have cq:=k8.nat q hk';obtain⟨s,c7⟩:=Nm (l.getD q 0);have c6:s<n:=(by rw[c7,zN hk'];exact a9.out.acc.lt _ (List.getElem_mem hk'));rw[<-c7]at cq;have b8:=Kh c7;clear k8 c7;go_wp2_with (first|(at_make;refine qC rfl _ _ _ rfl yJ rfl .i64 .i64 _ _ k rfl rfl rfl rfl ?b1 ?b2 ?_)|fail)
  case b1=>omega
  case b2=>unfold maxLen;omega
  intro w4 h6 i0 f7;obtain⟨g,hg⟩:=Nm wr.heap.size;rw[<-hg]at h6⊢;have n2:Hid (Arr w4 g 3 (nats (mT d k s 0))):=Kh (by rw[qGT,yM];exact h6);have m3:=Kh (h0.out.fresh i0 (g:=g) (by omega) (by omega));have n1:=Kh (zB h2.out i0);have l7:¬X g:=fun hx=>by have:=h0.out.lt g hx;omega
  have o8:=Kh l7;have o6:W.heap.size<=g:=by omega
  have o5:o0<g:=(by have:=zQ h2.out;omega);have k2:=fun x (hx:x<=k)=>a9.out.rowLen HD.out hk' hx;have j0:=Kh k2;clear h6 i0 l7 f7 hg k2 h0 h2 c0 c1 cq;go_wp2_with fail
  go_loopg [16,37] k (fun gh a16 i wr=>∃(x:Nat) (sa:Option Addr) (sc:Nat) (mv:Option Nat),gh+x=k/\i=.int .i64 x/\Arr wr g 3 (nats (mT d k s x))/\wr.heap[o0]?=some (.cells #[.int .i64 0,.int .i64 0,.slice none 0 0,.slice none 0 0] 37 (0,0))/\ExSt W.heap.size W wr oN o2 X (fun j=>X j\/j=g) k (vN d l q x) (exF d l q) (exT d k l q) hs sa sc mv sf cf sn cn)
  case atStart=>exact⟨0,_,_,_,rfl,rfl,n2.out,n1.out,m3.out⟩
  clear n2 m3 n1 k9 a6;obtain⟨x,sa,sc,mv,b4,rfl,h6,H3,h3⟩:=hrel;obtain⟨c3,j6,h2,h0⟩:=K4 b4 h6 H3 h3;have p8:=h3.grown.size;have q6:=h3.loB.2;clear b4 h6 H3 h3;by_cases hx':x<k
  ·have d6:(x:Int)<k:=by omega
   have d4:=Kh (HT.out.grow h0.out.grown);have k7:=j0.out x (by omega);have f6:=qV HD.out c6 hx';go_wp2_with fail;refine(qHU d4.out c6 hx').mono ?_;rintro e w5 ⟨rfl,rfl⟩;obtain⟨y,hy⟩:=Nm (nx d s x);rw[<-hy]at f6⊢;have HY:=Kh hy;clear hy;go_wp2_with fail;refine(qBJ W.heap.size wr oN sa sc mv (vN d l q x) y h0.out.num (by omega) (by omega) (by omega)).mono ?_;rintro e w5 ⟨sa5,sc5,mv5,rfl,H0,h4,b3⟩;have e5:wK (vN d l q x) y=vN d l q (x+1):=by rw[HY.out,b8.out];rfl
   have e6:(vN d l q (x+1)).idxOf y=(yH d k).idxOf y:=by rw[HY.out,b8.out];exact a9.out.idx HD.out hk' hx'
   rw[e5]at H0;rw[e5,e6];have q0:=h4.size;have b6:=j6.out.but h4 (fun hf=>h0.out.sep g hf (.inr rfl))
   have l5:=h4.heap h2.out (fun hf=>by
    rcases hf with e|e|e
    ·omega
    ·rw[<-yG sa (vN d l q x).length sc]at e
     exact zV h0.out.num.own h2.out (by decide) e
    rcases h0.out.num.map with ⟨e2,_⟩|⟨mb,e2,_,_,_,_,hm⟩
    ·rw[e2]at e;cases e
    rw[e2]at e;have:=Oj e;subst this;obtain⟨es,cl,hm⟩:=hm.obj
    rw[h2.out]at hm;simp at hm)
   have k0:=h0.out.num_step H0 h4 b3;have cg:=b6.nat x (by rw[mS (by omega)];exact hx');have fg:=b6.frozen x;have H8:=b6.nat_set x (by rw[mS (by omega)];exact hx') ((yH d k).idxOf y);have a8:(mT d k s x).set x ((yH d k).idxOf y)=mT d k s (x+1):=by rw[HY.out];exact qKK hx'
   rw[a8]at H8;obtain⟨b9,p6,p7,p0⟩:=K4 H8 l5 b6 k0;have q4:(nats (mT d k s x)).length=k:=by rw[zR,mS (by omega)]
   obtain⟨I,hI⟩:=Nm ((yH d k).idxOf y);rw[<-hI]at b9⊢;clear e5 e6 H0 h4 b3 b6 l5 k0 H8 a8 hI;go_wp2_with fail;go_roundg (k-(x+1))
   case measure=>have:=c3.out;omega
   obtain⟨cur,rest,i3,_⟩:=p7.out;have l0:=zF w5 ⟨g,x,none⟩ (.int .i64 (I:Int));exact⟨x+1,sa5,sc5,mv5,by omega,by go_num,b9.out,zB p6.out l0 (fun e=>by have e:g=o0:=Oj e;omega),p0.out.put l0 i3 (.inr rfl) o8.out o6⟩
  have n4:x=k:=by have:=c3.out;omega
  subst n4;have d6:¬(x:Int)<x:=(by omega);obtain⟨m,hm⟩:=Nm (vN d l q x);have k7:=j0.out x (by omega);have m0:=Kh (a9.out.next HD.out hk')
  have o4:q<m.length:=by
   have:=(tM d l q x).length_le;rw[hm];omega
  have j1:=Kh (tM d l q x);rw[<-hm]at m0 j1 h0 k7;have HM:=Kh hm;clear hm;obtain⟨c0,c1⟩:=tI h0.out.num.box;obtain⟨d0,d1,d2,d3⟩:=zL h0.out.box;have f3:=zA h0.out.box 3;have q5:¬((512:Int)<m.length):=by omega
  have H4:Hid (RowX (fun j=>X j\/(X j\/j=g)) 3 wr (.slice (some ⟨g,0,none⟩) x x) (ints (wV (yH d x) (d.next.getD s [])))):=Kh (by
   have e:=qGU HD.out (q:=s) (fun a ha=>by rw[b8.out];exact a9.out.done_mem HD.out hk' ha) c6;have h9:=RowX.of_arr (X:=fun j=>X j\/(X j\/j=g)) j6.out (by rw[zR,mS (Nat.le_refl x)]) (by unfold maxLen;omega) (.inr (.inr rfl));rw[show nats (mT d x s x)=ints (zl (mT d x s x)) by simp[nats,ints,zl],e]at h9
   exact h9)
  go_wp2_with (first|(at_builtin;refine jV rfl _ _ _ rfl xY o2 (.slice sn (exT d x l q).length cn) (exT d x l q).length hs rfl h0.out.ownN (.slice (some ⟨g,0,none⟩) x x) rfl rfl ?a1 ?a2 ?a3 ?_;(case a1=>(unfold maxLen;rw[qDV d9];omega));(case a2=>(rw[qDV d9];omega));(case a3=>exact Nat.le_of_lt (zQ h0.out.box));intro sn6 cn6 w6 H6 c9 n3 f4;(have i7:=zB h0.out.box c9 (zV h0.out.ownN h0.out.box (by decide)));(obtain⟨e0,e1,e2,e3⟩:=zL i7);(have fz6:=zA i7 3))|fail);have h8:=Kh (h0.out.pushN rfl H6 c9 H4.out rfl);obtain⟨wo,c5⟩:=Nm (w6.setCell ⟨o2,3,none⟩ (.slice sn6 ((exT d x l q).length+1) cn6));rw[<-c5]at h8⊢;have o9:=Kh c5
  have j5:Hid (wo.heap[o0]?=some (.cells #[.int .i64 0,.int .i64 0,.slice none 0 0,.slice none 0 0] 37 (0,0))):=Kh (by
   rw[c5]
   exact zB (zB h2.out c9 (zV h0.out.ownN h2.out (by decide))) (zF w6 ⟨o2,3,none⟩ _) (fun e=>H9 (Oj e).symm))
  have d4:=Kh (HT.out.grow h8.out.grown);obtain⟨d0,d1,d2,d3⟩:=zL h8.out.box;have fz2:=zA h8.out.box 2;have m6:Hid (∀w',wo.grownBy w' none->w'.ownsRow o2 4 1 (.slice sf (exF d l q).length cf) (exF d l q).length (bls (exF d l q))/\o2<=w'.heap.size):=Kh (fun w' hg=>⟨yB h8.out.ownF hg,Nat.le_of_lt (Nat.lt_of_lt_of_le (zQ h8.out.box) hg.size)⟩)
  have p5:Hid (∀w7 w',wo.grownBy w7 none->w7.grownBy w' (Value.slice sf (exF d l q).length cf).ownBlock->w'.frozen? ⟨o2,2,none⟩=false/\w'.cell? ⟨o2,2,none⟩=some (.slice sf (exF d l q).length cf)):=Kh (fun w7 w' h7 hg=>by
   have hb:=zB (zB h8.out.box h7) hg (zV h8.out.ownF h8.out.box (by decide))
   exact⟨zA hb 2,(zL hb).2.2.1⟩)
  have j4:=Kh (qKL (d:=d) d9);have k4:=zQ h8.out.box;obtain⟨bf,i5⟩:=Nm (d.final.getD s false);have n0:=Kh i5;have m9:Hid (∀w',wo.grownBy w' none->Calls Try.prog 89 #[.int .i64 (s:Int),.pointer (some ⟨P,0,none⟩)] w' fun e w''=>e=.returned (.bool bf)/\w'=w''):=Kh (fun w' hg=>by rw[i5];exact qHT (d4.out.grow hg) c6);clear i5;clear c5 n3 f4 H6 c9 i7 e0 e1 e2 e3 fz6
  have H7:Hid (∀(W1 w':World) (sf':Option Addr) (cf':Nat),w'.ownsRow o2 4 1 (.slice sf' ((exF d l q).length+1) cf') ((exF d l q).length+1) (bls (exF d l q)++[.bool bf])->W1.grownBy w' (Value.slice sf (exF d l q).length cf).ownBlock->wo.grownBy W1 none ->
    (∃(hs:List Value) (X:Nat->Prop) (sa:Option Addr) (sc:Nat) (mv:Option Nat) (sn:Option Addr) (cn:Nat),ExSt W.heap.size W (w'.setCell ⟨o2,2,none⟩ (.slice sf' ((exF d l q).length+1) cf')) oN o2 X X x m (exF d m (q+1)) (exT d x m (q+1)) hs sa sc mv sf' cf' sn cn) /\
    (w'.setCell ⟨o2,2,none⟩ (.slice sf' ((exF d l q).length+1) cf')).heap[o0]?=some (.cells #[.int .i64 0,.int .i64 0,.slice none 0 0,.slice none 0 0] 37 (0,0))/\w'.frozen? ⟨o2,2,none⟩=false/\w'.cell? ⟨o2,2,none⟩=some (.slice sf (exF d l q).length cf)):=Kh (fun W1 w' sf' cf' ho hg h1=>by
   have b7:=h8.out.grow h1;have l6:=zB b7.box hg (zV b7.ownF b7.box (by decide));have hp:=b7.pushF (b:=bf) rfl ho hg rfl;have eF:exF d l q++[bf]=exF d m (q+1):=by rw[qNT j1.out hk',<-b8.out,<-n0.out]
   have eT:exT d x l q++[wV (yH d x) (d.next.getD s [])]=exT d x m (q+1):=by rw[qNS j1.out hk',<-b8.out]
   rw[eF,eT]at hp
   exact⟨⟨_,_,_,_,_,_,_,hp⟩,zB (zB (zB j5.out h1) hg (zV b7.ownF (zB j5.out h1) (by decide))) (zF w' ⟨o2,2,none⟩ _) (fun e=>H9 (Oj e).symm),zA l6 2,(zL l6).2.2.1⟩)
  have j3:Hid (∀W1:World,wo.grownBy W1 none->W1.ownsRow o2 4 1 (.slice sf (exF d l q).length cf) (exF d l q).length (bls (exF d l q))/\o2<=W1.heap.size):=m6;clear m6 p5
  go_region_law (first|(go_simp;go_at_call 89;refine(m9.out _ (by first|exact zW wo none|exact zS wo _ none)).mono ?_;rintro e w' ⟨rfl,rfl⟩)|(refine qAL ?g1 (.tmp 61) (.tmp 65) 26 ?g2 wF o2 (.slice sf (exF d l q).length cf) (exF d l q).length (bls (exF d l q)) ?g3 ?g4 (.bool bf) wo.heap.size (0,0) ?g5 ?g6 ?g7 ?g8 ?g9 ?g10 ?_;(case g1=>rfl);(case g2=>rfl);(case g3=>rfl);(case g4=>(refine(j3.out _ ?_).1;exact qR (o:=.cells #[.bool bf] 4) rfl rfl rfl rfl));(case g5=>rfl);(case g6=>exact heap_alloc_new (wo.drew) _);(case g7=>rfl);(case g8=>(rw[j4.out];unfold maxLen;omega));(case g9=>(rw[j4.out];omega));(case g10=>(refine(j3.out _ ?_).2;exact qR (o:=.cells #[.bool bf] 4) rfl rfl rfl rfl));intro sf8 cf8 w8 H5 l1;have c8:=H7.out _ _ _ _ H5 l1 (qR (o:=.cells #[.bool bf] 4) rfl rfl rfl rfl);have i1:=c8.2.2.1;have i2:=c8.2.2.2;have m5:=Kh c8;clear c8 H5 l1)|fail)
  all_goals
   clear H7 j3 m9 j5 n0 o9 d4 h8 d0 d1 d2 d3 fz2 i1 i2 j4 j0 H4 j6 h2;obtain⟨w9,j9⟩:=Nm (w8.setCell ⟨o2,2,none⟩ (.slice sf8 ((exF d l q).length+1) cf8));rw[<-j9]at m5⊢;clear j9;go_wp2;go_roundg (n-(q+1))
   case measure=>have:=m7.out;omega
   obtain⟨⟨n5,X9,sa9,sc9,mv9,sn9,cn9,d8⟩,i9,_,_⟩:=m5.out;exact⟨q+1,m,n5,X9,sa9,sc9,mv9,sf8,cf8,sn9,cn9,by have:=m7.out;omega,by go_num,o4,m0.out,i9,d8⟩
 have f9:¬(q:Int)<l.length:=by omega
 have d5:=Kh (a9.out.done hk');have m4:Hid (q=l.length):=Kh (by omega);obtain⟨d0,d1,d2,d3⟩:=zL h0.out.box;obtain⟨e0,e1,e2,e3⟩:=zL h2.out;have f0:=zA h2.out 0;have f1:=zA h2.out 1;have f2:=zA h2.out 2;have f3:=zA h2.out 3;go_wp2_with fail;obtain⟨c0,c1⟩:=tI h0.out.num.box;have o3:o0≠oN:=by omega
 go_region
 all_goals (try go_frame)
 all_goals go_wp2
 obtain⟨i4,g0⟩:=uB h2.out (.int .i64 (k:Int)) (.int .i64 0) (.slice sf (exF d l q).length cf) (.slice sn (exT d k l q).length cn);obtain⟨wz,j7⟩:=Nm ((((wr.setCell ⟨o0,0,none⟩ (.int .i64 (k:Int))).setCell ⟨o0,1,none⟩ (.int .i64 0)).setCell ⟨o0,2,none⟩ (.slice sf (exF d l q).length cf)).setCell ⟨o0,3,none⟩ (.slice sn (exT d k l q).length cn));rw[<-j7]at i4 g0⊢;clear j7;have a0:=zC (row:=some o0) g0 (zW wz none) (by simp);have l4:wz.drew.heap[o0]?=some (.cells #[.int .i64 (k:Int),.int .i64 0,.slice sf (exF d l q).length cf,.slice sn (exT d k l q).length cn] 37 (0,0)):=i4;obtain⟨wf,j8⟩:=Nm wz.drew;rw[<-j8]at a0 l4⊢;obtain⟨r0,r1,r2,r3⟩:=zL l4;clear j8 i4 g0;refine bodyPost_ret (v:=.tuple #[.agg #[.int .i64 (k:Int),.int .i64 0,.slice sf (exF d l q).length cf,.slice sn (exT d k l q).length cn],.slice sa l.length sc,.int .i64 0]) (by simp[results,Try.results87,go_sem,r0,r1,r2,r3]) rfl ?_
 have eF:exF d l q=(wO d k).final:=by
  rw[exF,m4.out,List.take_length,d5.out];rfl
 have eT:exT d k l q=(wO d k).next:=by
  rw[exT,m4.out,List.take_length,d5.out];rfl
 have h3:=h0.out;have o7:W.grownBy wf none:=yK h3.grown a0 (by show _<=o0;omega);have e4:yZ wr 3 o0:=⟨_,_,_,h2.out,by decide⟩;have f8:(exF d l q).length=(exT d k l q).length:=by rw[qKL (by omega),qDV (by omega)]
 have i8:=zB h3.box a0 (fun e=>H9 (Oj e));have l9:=h3.ownF.kept a0 (.inr (zV h3.ownF h2.out (by decide)));have l8:=h3.ownN.kept a0 (.inr (zV h3.ownN h2.out (by decide)));have k3:=(h3.rows.keptT a0 (fun k e=>by have e:o0=k:=Oj e;subst e;exact e4)).rowsT;have a6:=h3.num.own.kept a0 (.inr (zV h3.num.own h2.out (by decide)));have l3:(wO d k).letters=k:=HD.out.hk;rw[eF]at f8 i8 l9⊢;rw[eT]at f8 i8 l8 k3⊢;refine⟨_,sa,sc,by rw[<-d5.out],?_,by rw[<-d5.out];exact a6,o7⟩;exact⟨o2,hs,sf,cf,sn,cn,by rw[l3];rfl,b0,by rw[l3];exact i8,l9,l8,k3,f8⟩
end Go.Proofs.Ytobakifdllameaa
namespace Go.Proofs.Ytobakifdllameaa
open Go.RowKit
structure BX (W0 W:World)(o:Nat)(X:Nat->Prop)(k:Nat)(fs:List Bool)(t:List (List Int))(hs:List Value)(sf:Option Addr)(cf:Nat)(sn:Option Addr)(cn:Nat):Prop where
 lt:∀j,X j->j<W.heap.size
 box:W.heap[o]?=some (.cells #[.int .i64 (k:Int),.int .i64 0,.slice sf fs.length cf,.slice sn t.length cn] 37 (0,0))
 ownF:W.ownsRow o 4 1 (.slice sf fs.length cf) fs.length (bls fs)
 ownN:W.ownsRow o 22 1 (.slice sn t.length cn) t.length hs
 rows:xU X 3 ints W hs t
 lo:W0.heap.size<=o
 grown:W0.grownBy W none
section
variable {W0 W W':World} {o k:Nat} {X:Nat->Prop} {fs:List Bool} {t:List (List Int)} {hs:List Value} {sf:Option Addr} {cf:Nat} {sn:Option Addr} {cn:Nat}
theorem BX.start {w:World}{o k:Nat}(hb:w.heap[o]?=some (.cells #[.int .i64 (k:Int),.int .i64 0,.slice none 0 0,.slice none 0 0] 37 (0,0)))(h0:W0.heap.size<=o)(hg:W0.grownBy w none):BX W0 w o (fun _=>False) k [] [] [] none 0 none 0 :=
 ⟨fun _ h=>h.elim,hb,World.ownsRow_nil _ _ _ _,World.ownsRow_nil _ _ _ _,xU.nil,h0,hg⟩
theorem BX.grow (h:BX W0 W o X k fs t hs sf cf sn cn)(hg:W.grownBy W' none):BX W0 W' o X k fs t hs sf cf sn cn where
 lt:=fun j hj=>Nat.lt_of_lt_of_le (h.lt j hj) hg.size
 box:=zB h.box hg
 ownF:=yB h.ownF hg
 ownN:=yB h.ownN hg
 rows:=h.rows.keptT hg (by simp)
 lo:=h.lo
 grown:=zC h.grown hg
theorem BX.put (h:BX W0 W o X k fs t hs sf cf sn cn){g:Nat}{c:Array Value}{m:Nat×Nat}(hg:W.grownBy W' (some g))(hc:W.heap[g]?=some (.cells c 3 m))(hX:¬X g)(h0:W0.heap.size<=g):BX W0 W' o X k fs t hs sf cf sn cn where
 lt:=fun j hj=>Nat.lt_of_lt_of_le (h.lt j hj) hg.size
 box:=zB h.box hg (fun e=>by
  have:=Oj e
  subst this
  rw[h.box]at hc
  simp only[Option.some.injEq,Obj.cells.injEq]at hc
  exact absurd hc.2.1 (by decide))
 ownF:=h.ownF.kept hg (.inr (zV h.ownF hc (by decide)))
 ownN:=h.ownN.kept hg (.inr (zV h.ownN hc (by decide)))
 rows:=h.rows.kept (fun j hj=>hg.block j (h.lt j hj) (fun e=>by have:=Oj e;subst this;exact hX hj)) hg.size
 lo:=h.lo
 grown:=zC h.grown hg (fun j e=>by have:=Oj e;omega)
theorem BX.pushN (h:BX W0 W o X k fs t hs sf cf sn cn){m:Nat}(hm:t.length=m){rv:Value}{row:List Int}{a9:Option Addr}{a8:Nat}{Y:Nat->Prop}(a6:∀j,X j->Y j)(hY:∀j,Y j->j<W.heap.size)(ho:W'.ownsRow o 22 1 (.slice a9 (m+1) a8) (m+1) (hs++[rv]))(hg:W.grownBy W' (Value.slice sn m cn).ownBlock)(a7:RowX Y 3 W rv (ints row)){W2:World}(a5:W2=W'.setCell ⟨o,3,none⟩ (.slice a9 (m+1) a8)):BX W0 W2 o Y k fs (t++[row]) (hs++[rv]) sf cf a9 a8:=by
 subst hm;have hb:=zB h.box hg (zV h.ownN h.box (by decide));have h0:=heap_setCell_same W' o 3 _ _ (.slice a9 (t.length+1) a8) hb;have g2:=zF W' ⟨o,3,none⟩ (.slice a9 (t.length+1) a8);rw[<-a5]at h0 g2
 have h1:=h.ownF.kept hg (by
  rcases hv:(Value.slice sf fs.length cf).ownBlock with _|j
  ·exact .inl rfl
  refine .inr fun e=>?_;obtain⟨cu,e',mm,hh,h5⟩:=vO (e':=22) h.ownF (by decide) j hv
  exact zV h.ownN hh (fun e2=>h5 e2.symm) e.symm)
 have h3:xU Y 3 ints W (hs++[rv]) (t++[row]):=(h.rows.mono a6).snoc a7;have h2:=h3.keptT hg (fun j e=>vO h.ownN (by decide) j e);have h4:yZ W' 3 o:=⟨_,_,_,hb,by decide⟩;have hz:=hg.size;have h6:=g2.size
 exact⟨fun j hj=>by have:=hY j hj;omega,by rw[h0];simp,h1.kept g2 (.inr (zV h1 hb (by decide))),by
  rw[List.length_append]
  exact ho.kept g2 (.inr (zV ho hb (by decide))),h2.keptT g2 (fun j e=>by have:=Oj e;subst this;exact h4),h.lo,yK (zC h.grown hg (fun j e=>Nat.le_trans h.lo (h.ownN.lt j e).1)) g2 (by show _<=o;have:=h.lo;omega)⟩
theorem BX.pushF (h:BX W0 W o X k fs t hs sf cf sn cn){m:Nat}(hm:fs.length=m){b:Bool}{a9:Option Addr}{a8:Nat}(ho:W'.ownsRow o 4 1 (.slice a9 (m+1) a8) (m+1) (bls fs++[.bool b]))(hg:W.grownBy W' (Value.slice sf m cf).ownBlock){W2:World}(a7:W2=W'.setCell ⟨o,2,none⟩ (.slice a9 (m+1) a8)):BX W0 W2 o X k (fs++[b]) t hs a9 a8 sn cn:=by
 subst hm;have hb:=zB h.box hg (zV h.ownF h.box (by decide));have h0:=heap_setCell_same W' o 2 _ _ (.slice a9 (fs.length+1) a8) hb;have g2:=zF W' ⟨o,2,none⟩ (.slice a9 (fs.length+1) a8);rw[<-a7]at h0 g2
 have h1:=h.ownN.kept hg (by
  rcases hv:(Value.slice sn t.length cn).ownBlock with _|j
  ·exact .inl rfl
  refine .inr fun e=>?_;obtain⟨cu,e',mm,hh,h4⟩:=vO (e':=4) h.ownN (by decide) j hv
  exact zV h.ownF hh (fun e2=>h4 e2.symm) e.symm)
 have h2:=h.rows.keptT hg (fun j e=>vO h.ownF (by decide) j e);have h3:yZ W' 3 o:=⟨_,_,_,hb,by decide⟩;have hz:=hg.size;have h6:=g2.size;have h5:bls (fs++[b])=bls fs++[.bool b]:=by simp[bls]
 exact⟨fun j hj=>by have:=h.lt j hj;omega,by rw[h0];simp,by
  rw[List.length_append,h5]
  exact ho.kept g2 (.inr (zV ho hb (by decide))),h1.kept g2 (.inr (zV h1 hb (by decide))),h2.keptT g2 (fun j e=>by have:=Oj e;subst this;exact h3),h.lo,yK (zC h.grown hg (fun j e=>Nat.le_trans h.lo (h.ownF.lt j e).1)) g2 (by show _<=o;have:=h.lo;omega)⟩
theorem BX.built (h:BX W0 W o X k fs t hs sf cf sn cn)(hl:fs.length=t.length):Built o W o k 0 fs t hs sf cf sn cn:=⟨h.box,h.ownF,h.ownN,h.rows.rowsT,hl⟩
end
def tS (d:DfaV)(p:List Nat)(q:Nat):List Bool:=(tR p q).map fun q=>d.final.getD q false
def rK (d:DfaV)(p:List Nat)(q:Nat):List (List Int):=(tR p q).map fun q=>vY p (d.next.getD q [])
theorem qGB {d:DfaV}{p:List Nat}{q:Nat}(h:p.getD q 0=cls (p.take q)):tS d p (q+1)=tS d p q++[d.final.getD q false]:=by
 rw[tS,uO h,List.map_append];rfl
theorem qFZ {d:DfaV}{p:List Nat}{q:Nat}(h:p.getD q 0=cls (p.take q)):rK d p (q+1)=rK d p q++[vY p (d.next.getD q [])]:=by
 rw[rK,uO h,List.map_append];rfl
theorem qGA {d:DfaV}{p:List Nat}{q:Nat}(h:p.getD q 0≠cls (p.take q)):tS d p (q+1)=tS d p q:=by rw[tS,uM h];rfl
theorem qFY {d:DfaV}{p:List Nat}{q:Nat}(h:p.getD q 0≠cls (p.take q)):rK d p (q+1)=rK d p q:=by rw[rK,uM h];rfl
theorem dO {d:DfaV}{p:List Nat}{q:Nat}(h:Norm p)(hq:q<=p.length):(tS d p q).length=cls (p.take q):=by rw[tS,List.length_map,vG h q hq]
theorem dN {d:DfaV}{p:List Nat}{q:Nat}(h:Norm p)(hq:q<=p.length):(rK d p q).length=cls (p.take q):=by rw[rK,List.length_map,vG h q hq]
theorem qIT {d:DfaV}{p:List Nat}{q:Nat}(hq:q=p.length)(h0:p.getD (st0 d) 0=0):(⟨d.letters,0,tS d p q,rK d p q⟩:DfaV)=uI d p:=by
 rw[hq,uI,h0];rfl
theorem qJM {p:List Nat}(h:Norm p):p.getD 0 0=0:=by
 by_cases h0:0<p.length
 ·have:=(lP h h0).1
  rw[List.take_zero]at this;simpa [cls,yO] using this
 rw[List.getD,List.getElem?_eq_none (by omega)];rfl
theorem qJ (B:Nat)(w:World)(v:Value)(d:DfaV)(hB:B<=w.heap.size)(h:tO B w v d):Calls Try.prog 28 #[v] w fun e w'=>e=.returned (.int .i64 (uG d))/\w.grownBy w' none:=by
 obtain⟨fv,nv,rfl,hf,hn⟩:=h;have a2:=hf.len_le;rw[zX]at a2;unfold maxLen at a2;have a5:=hn.len_le;unfold maxLen at a5;obtain⟨fa,fc,rfl⟩:=hf.shape;rw[zX]at hf⊢;obtain⟨na,nc,rfl⟩:=hn.shape;have HN:=Kh hn;obtain⟨n,a0⟩:=Nm d.final.length;obtain⟨m,a1⟩:=Nm d.next.length;obtain⟨L,hL⟩:=Nm d.letters;obtain⟨S,hS⟩:=Nm d.start;rw[<-a0]at a2⊢;rw[<-a1]at a5 HN⊢;rw[<-hL,<-hS];obtain⟨H0,H1,H8,b0⟩:=K4 a0 a1 hL hS;clear hf hn a0 a1 hL hS;obtain⟨wA,H6⟩:=Nm (w.alloc (.cells #[.int .i64 L,.int .i64 S,.slice fa n fc,.slice na m nc] 37));have h3:wA.heap[w.heap.size]?=some (.cells #[.int .i64 L,.int .i64 S,.slice fa n fc,.slice na m nc] 37 (0,0)):=by rw[H6];exact heap_alloc_new w _
 have a7:w.grownBy wA none:=by rw[H6];exact Ga w _ none
 have c0:=zG h3 0;have c1:=zG h3 1;have c2:=zG h3 2;have c3:=zG h3 3;simp only[List.getElem_toArray,List.getElem_cons_zero,List.getElem_cons_succ]at c0 c1 c2 c3;have h4:=Kh a7;have h9:=Kh H6;clear h3 a7 H6;by_cases hl:L<1\/6<L
 ·have HE:=Kh (lZ (d:=d) (by rw[<-H8.out];exact hl))
  by_cases h1:L<1
  ·clear hl
   go_enter Try.func28,Try.ntmps28;go_upto_region 1 with fail;rw[<-h9.out];go_wp2;go_ret;exact⟨yX HE.out.symm,h4.out⟩
  have h6:6<L:=by omega
  clear hl;go_enter Try.func28,Try.ntmps28;go_upto_region 1 with fail;rw[<-h9.out];go_wp2;go_ret;exact⟨yX HE.out.symm,h4.out⟩
 have c7:1<=L:=by omega
 have c6:L<=6:=by omega
 have H2:Hid (¬(d.letters<1\/6<d.letters)):=Kh (by rw[<-H8.out];exact hl);clear hl;by_cases h5:512<n
 ·have HE:=Kh (dH H2.out (by rw[<-H0.out];exact h5))
  go_enter Try.func28,Try.ntmps28;go_upto_region 1 with fail;rw[<-h9.out];go_wp2;go_ret;exact⟨yX HE.out.symm,h4.out⟩
 have H5:Hid (¬512<d.final.length):=Kh (by rw[<-H0.out];exact h5);by_cases hsh:n=0\/m≠n\/S<0\/n<=S
 ·have HE:=Kh (iW H2.out H5.out (by rw[<-H0.out,<-H1.out,<-b0.out];exact hsh))
  ·by_cases h8:m=n
   ·have e1:((m:Int) != n)=false:=by rw[h8];simp
    have b7:=Kh h8;by_cases hs:S<0
    ·clear hsh h8
     go_enter Try.func28,Try.ntmps28;go_upto_region 1 with fail;rw[<-h9.out];go_wp2;go_ret;exact⟨yX HE.out.symm,h4.out⟩
    have b1:(n:Int)<=S:=by omega
    clear hsh h8;go_enter Try.func28,Try.ntmps28;go_upto_region 1 with fail;rw[<-h9.out];go_wp2;go_ret;exact⟨yX HE.out.symm,h4.out⟩
   have e1:((m:Int) != n)=true:=by rw[bne_iff_ne];omega
   clear hsh;go_enter Try.func28,Try.ntmps28;go_upto_region 1 with fail;rw[<-h9.out];go_wp2;go_ret;exact⟨yX HE.out.symm,h4.out⟩
 have H7:Hid (¬(d.final.length=0\/d.next.length≠d.final.length\/d.start<0\/d.final.length<=d.start)):=Kh (by rw[<-H0.out,<-H1.out,<-b0.out];exact hsh);have h0:0<n:=(by omega);have e0:((n:Int) == 0)=false:=by rw[beq_eq_false_iff_ne];omega
 have h8:m=n:=by omega
 have e1:((m:Int) != n)=false:=by rw[h8];simp
 have c4:0<=S:=by omega
 have b1:S<n:=(by omega);have b2:0<m:=(by omega);have a9:Mat B wA (.slice na m nc) d.next:=HN.out.kept h4.out (by simp);obtain⟨b,off,cap,A,C,e,b6,b5,a6⟩:=a9.some_ (by rw[<-H1.out];exact b2);simp only[Value.slice.injEq]at e;obtain⟨rfl,-,rfl⟩:=e;rw[<-H1.out]at b6;have c5:nc<=9223372036854775807:=by unfold maxLen at b5;omega
 have HM:=Kh a6;have b7:=Kh h8;clear hsh h8 a9 a6;go_enter Try.func28,Try.ntmps28;go_upto_region 1 with fail;rw[<-h9.out];go_wp2
 go_loopg [40] m (fun g i wr=>∃k:Nat,g+k=m/\i=.int .i64 k/\qSL d k/\wA=wr)
 case atStart=>exact⟨0,rfl,rfl,fun x hx=>absurd hx (by omega),rfl⟩
 obtain⟨k,hg,rfl,H3,rfl⟩:=hrel;have OK:=Kh H3;have HG:=Kh hg;clear H3 hg;by_cases hk:k<m
 ·have H4:k<d.next.length:=by rw[<-H1.out];exact hk
  have a8:=HM.out.hd k H4;have h7:=HM.out.row k H4;have H9:=h7.len_le;rw[zK]at H9;unfold maxLen at H9;obtain⟨r,hr⟩:=Nm (d.next.getD k []);rw[<-hr]at a8 h7 H9;have HR:=Kh hr;have a3:=Kh H4;clear hr H4;by_cases hlr:(r.length:Int)=L
  ·have b8:=Kh hlr
   have b3:((r.length:Int) != L)=false:=by rw[hlr];simp
   obtain⟨rb,ro,rc,e,hb,h1,h2,a4⟩:=h7.some_ (by rw[zK];omega);simp only[Value.slice.injEq]at e;obtain⟨eA,-,rfl⟩:=e;rw[eA]at a8;rw[zK]at h1;have HA:=Kh eA;have RA:=Kh a4;clear eA a4 hlr h7;go_wp2
   go_loopg [51] r.length (fun g j wr'=>∃y:Nat,g+y=r.length/\j=.int .i64 y/\qLH n r y/\wA=wr')
   case atStart=>exact⟨0,rfl,rfl,fun x hx=>absurd hx (by omega),rfl⟩
   obtain⟨y,hg,rfl,H3,rfl⟩:=hrel;have OKY:=Kh H3;have b9:=Kh hg;clear H3 hg;by_cases hy:y<r.length
   ·have b4:=RA.out.int y hy
    obtain⟨z,hz⟩:=Nm (r.getD y 0);rw[<-hz]at b4;have HZ:=Kh hz;clear hz;by_cases hb1:z<0
    ·have HE:=Kh (qO H2.out H5.out H7.out a3.out (by rw[<-HR.out];exact gV (y:=y) hy (by rw[<-HZ.out];exact .inl hb1)))
     go_wp2;go_ret;exact⟨yX HE.out.symm,h4.out⟩
    by_cases hb2:(n:Int)<=z
    ·have HE:=Kh (qO H2.out H5.out H7.out a3.out (by rw[<-HR.out];exact gV (y:=y) hy (by rw[<-HZ.out,<-H0.out];exact .inr hb2)))
     go_wp2;go_ret;exact⟨yX HE.out.symm,h4.out⟩
    go_wp2;go_roundg (r.length-(y+1))
    case measure=>have:=b9.out;omega
    refine⟨y+1,by omega,by go_num,fun x hx=>?_,rfl⟩;rcases Nat.lt_succ_iff_lt_or_eq.1 hx with hx|rfl
    ·exact OKY.out x hx
    rw[<-HZ.out];omega
   go_wp2;go_roundg (m-(k+1))
   case measure=>have:=HG.out;omega
   refine⟨k+1,by omega,by go_num,fun x hx=>?_,rfl⟩;rcases Nat.lt_succ_iff_lt_or_eq.1 hx with hx|rfl
   ·exact OK.out x hx
   rw[<-HR.out,oU,<-H0.out,<-H8.out];exact⟨b8.out,fun z hz=>OKY.out z (by omega)⟩
  have b3:((r.length:Int) != L)=true:=by rw[bne_iff_ne];exact hlr
  have HE:=Kh (qO H2.out H5.out H7.out a3.out (by rw[<-HR.out];exact qET (by rw[<-H8.out];exact hlr)));clear hlr;go_wp2;go_ret;exact⟨yX HE.out.symm,h4.out⟩
 have HE:=Kh (qAH H2.out H5.out H7.out (fun q hq=>OK.out q (by have:=H1.out;omega)));go_wp2;go_ret;exact⟨yX HE.out.symm,h4.out⟩
def sF (n:Nat)(l:List Nat):List Int:=(List.range n).map fun q=>qF l q
theorem vV (n:Nat)(l:List Nat):(sF n l).length=n:=by simp[sF]
theorem dS {n:Nat}{l:List Nat}{q:Nat}(h:q<n):(sF n l).getD q 0=qF l q:=by
 rw[zN (by rw[vV];exact h)];simp[sF]
theorem dR (n:Nat):sF n []=List.replicate n (-1):=by
 refine List.ext_getElem (by simp[sF]) fun i h1 h2=>by simp[sF,qF]
theorem dP {n:Nat}{l:List Nat}{q:Nat}(hq:q ∉ l):(sF n l).set q (l.length:Int)=sF n (l++[q]):=by
 refine List.ext_getElem (by simp[sF]) fun i h1 h2=>?_;rw[List.getElem_set];simp only[sF,List.getElem_map,List.getElem_range,qF];by_cases e:q=i
 ·subst e
  rw[if_pos rfl,if_pos (by simp),List.idxOf_append,if_neg hq];simp
 rw[if_neg e];by_cases hi:i∈l
 ·rw[if_pos hi,if_pos (by simp[hi]),List.idxOf_append,if_pos hi]
 rw[if_neg hi,if_neg (by simp[hi,Ne.symm e])]
def iM (n k:Nat):List Int:=List.replicate k (-1)++List.replicate (n-k) 0
theorem pL {n k:Nat}(h:k<=n):(iM n k).length=n:=by simp[iM];omega
theorem qCC {n k:Nat}(h:k<n):(iM n k).set k (-1)=iM n (k+1):=by
 unfold iM;rw[List.set_append_right _ _ (by simp),List.length_replicate,Nat.sub_self,show n-k=(n-(k+1))+1 by omega,List.replicate_succ,List.set_cons_zero,List.replicate_succ',List.append_assoc];rfl
def qSF (w:World)(m:DfaV)(e:Ending)(w':World):Prop:=∃v p,e=.returned (.tuple #[v,p])/\tT w w' v m/\w.grownBy w' none
def nZ (d:DfaV)(l:List Nat)(i:Nat):List Bool:=(l.take i).map fun q=>d.final.getD q false
def nY (d:DfaV)(l:List Nat)(i:Nat):List (List Int):=(l.take i).map fun q=>wV l (d.next.getD q [])
theorem qCX {d:DfaV}{l:List Nat}{i:Nat}(h:i<l.length):nZ d l (i+1)=nZ d l i++[d.final.getD (l.getD i 0) false]:=by
 simp only[nZ,zZ (d:=0) h,List.map_append,List.map_cons,List.map_nil]
theorem qCV {d:DfaV}{l:List Nat}{i:Nat}(h:i<l.length):nY d l (i+1)=nY d l i++[wV l (d.next.getD (l.getD i 0) [])]:=by
 simp only[nY,zZ (d:=0) h,List.map_append,List.map_cons,List.map_nil]
theorem bL {d:DfaV}{l:List Nat}{i:Nat}(h:i<=l.length):(nZ d l i).length=i:=by simp[nZ];omega
theorem bK {d:DfaV}{l:List Nat}{i:Nat}(h:i<=l.length):(nY d l i).length=i:=by simp[nY];omega
theorem qCW {d:DfaV}{n k:Nat}(hd:VD d n k){l:List Nat}{q a:Nat}(hq:q<n)(ha:a<k):(wV l (d.next.getD q [])).getD a 0=qF l (nx d q a):=by
 rw[wV,xW (x:=0) (by rw[hd.row q hq];exact ha)];rfl
theorem kB {d:DfaV}{n k:Nat}(hd:VD d n k){l:List Nat}{q:Nat}(hq:q<n):(wV l (d.next.getD q [])).length=k:=by rw[wV,List.length_map,hd.row q hq]
theorem eE (l:List Int)(x:Int):ints (l++[x])=ints l++[.int .i64 x]:=by simp[ints]
theorem qLR (B:Nat)(w:World)(v:Value)(d:DfaV)(n k:Nat)(hB:B<=w.heap.size)(h:tO B w v d)(hd:VD d n k):Calls Try.prog 60 #[v] w (qSF w (wO d k)):=by
 have a4:=h;obtain⟨fb,fo,fc,b,off,cap,RB,RO,RC,rfl,b6⟩:=h.at hd;have hn:=hd.hn;have n7:=hd.n1;have i9:=hd.nbig;have o6:=hd.k6;have o7:=hd.k1;have p1:=b6.fcap.1;have c9:=b6.fcap.2;have p2:=b6.cap.1;have d4:=b6.cap.2;have m0:fc<=9223372036854775807:=by unfold maxLen at c9;omega
 have l9:cap<=9223372036854775807:=by unfold maxLen at d4;omega
 obtain⟨S,hS⟩:=Nm (st0 d);have p9:=Kh hS;have i3:dAgg k (st0 d) fb fo fc b off cap n=.agg #[.int .i64 (k:Int),.int .i64 (S:Int),.slice (some ⟨fb,fo,none⟩) n fc,.slice (some ⟨b,off,none⟩) n cap]:=by rw[hS];rfl
 rw[i3]at a4⊢;obtain⟨d5,e8,c7,i2⟩:=rY w #[.int .i64 (k:Int),.int .i64 (S:Int),.slice (some ⟨fb,fo,none⟩) n fc,.slice (some ⟨b,off,none⟩) n cap] #[.int .i64 0,.int .i64 0,.slice none 0 0,.slice none 0 0] 37;obtain⟨wA,f8⟩:=Nm ((w.alloc (.cells #[.int .i64 (k:Int),.int .i64 (S:Int),.slice (some ⟨fb,fo,none⟩) n fc,.slice (some ⟨b,off,none⟩) n cap] 37)).alloc (.cells #[.int .i64 0,.int .i64 0,.slice none 0 0,.slice none 0 0] 37));rw[<-f8]at d5 e8 c7 i2;obtain⟨c0,c1,c2,c3⟩:=zL d5;obtain⟨P,hP⟩:=Nm w.heap.size;have g5:=Kh hP;rw[<-hP]at d5 e8 c0 c1 c2 c3 i2 hB;obtain⟨f1,n2,m7,m4⟩:=K4 d5 e8 c7 f8;have n3:=Kh (b6.kept c7 (by simp));have HN:=Kh hn;have HD:=Kh hd;have l1:=Kh (qHJ B wA _ d n k (by omega) (a4.kept c7 (by simp)) hd);clear d5 e8 c7 f8 b6 hn hd h a4 i3 c9 d4 hS;go_enter Try.func60,Try.ntmps60;go_upto_region 1 with fail;rw[<-m4.out,<-g5.out];clear hP;go_wp2_with fail;refine l1.out.mono ?_;rintro e w1 ⟨sa,sc,vw,rfl,h9,e7⟩;obtain⟨H5,m2⟩:=wG HD.out;obtain⟨l,hl⟩:=Nm (yH d k);have HL:=Kh hl;rw[<-hl]at h9 H5 m2⊢;have H4:=H5.hd.1;obtain⟨gl,rfl,o5,o4,d6⟩:=xD h9 H4;have o9:=(h9.lt gl rfl).1;obtain⟨i1,b8,b3⟩:=K3 d6 e7 H5;have n5:=e7.size;obtain⟨d0,d1,d2,d3⟩:=zL (zB f1.out e7);clear hl h9 d6 e7 H5 l1 c0 c1 c2 c3;go_wp2_with (first|(at_make;refine qC rfl _ _ _ rfl yJ rfl .i64 .i64 _ _ n rfl rfl rfl rfl ?b1 ?b2 ?_;(case b1=>omega);(case b2=>(unfold maxLen;omega));intro w2 h4 j4 f5)|fail);obtain⟨G,hG⟩:=Nm w1.heap.size;rw[<-hG]at h4 f5⊢;obtain⟨l2,k7,g8⟩:=K3 h4 j4 hG;have p5:P+1<G:=by omega
 clear h4 j4 hG d0 d1 d2 d3
 go_loopg [7,27] n (fun gh a7 i wr=>∃q:Nat,gh+q=n/\i=.int .i64 q/\Arr wr G 3 (ints (iM n q))/\w1.grownBy wr none)
 case atStart=>exact⟨0,rfl,rfl,by simpa [iM,rV] using l2.out,k7.out⟩
 clear l2 k7;obtain⟨q,hg,rfl,h4,h5⟩:=hrel;obtain⟨HG,HA,H0⟩:=K3 hg h4 h5;clear hg;by_cases hq:q<n
 ·have l7:(q:Int)<n:=by omega
  have cgk:=h4.int q (by rw[pL (by omega)];exact hq);have fgk:=h4.frozen q;have HS:=Kh (qCC hq);clear h4 h5;go_wp2;go_roundg (n-(q+1))
  case measure=>have:=HG.out;omega
  refine⟨q+1,by omega,by go_num,?_,zC H0.out (zF wr ⟨G,q,none⟩ _) (fun q e=>by have h7:G=q:=Oj e;have:=g8.out;omega)⟩;rw[<-HS.out];exact HA.out.int_set q (by rw[pL (by omega)];exact hq) (-1)
 have i5:q=n:=by have:=HG.out;omega
 have HF:Hid (iM n q=sF n (l.take 0)):=Kh (by rw[i5,List.take_zero,dR];simp[iM]);rw[HF.out]at HA;have g7:=H0;clear i5 h4 h5 HG;obtain⟨w3,rfl⟩:=Nm (wr:World);go_wp2
 go_loopg [8,9,36] l.length (fun gh a8 a9 i wr=>∃q:Nat,gh+q=l.length/\i=.int .i64 q/\Arr wr G 3 (ints (sF n (l.take q)))/\w1.grownBy wr none)
 case atStart=>exact⟨0,rfl,rfl,HA.out,H0.out⟩
 clear HA H0 HF;obtain⟨q,hg,rfl,h4,h5⟩:=hrel;obtain⟨HG,HA,H0⟩:=K3 hg h4 h5;clear hg;by_cases hq:q<l.length
 ·have l7:(q:Int)<l.length:=by omega
  have cl:=(i1.out.kept h5 (by simp)).nat q hq;have f3:l.getD q 0<n:=b3.out.lt _ (by rw[zN hq];exact List.getElem_mem _);have e5:l.take (q+1)=l.take q++[l.getD q 0]:=zZ hq
  have a0:l.getD q 0 ∉ l.take q:=by
   have h1:=b3.out.nd;have h2:(l.take (q+1)).Nodup:=h1.sublist (List.take_sublist _ _);rw[e5,List.nodup_append]at h2;exact fun hm=>h2.2.2 _ hm _ (by simp) rfl
  obtain⟨s,hs⟩:=Nm (l.getD q 0);rw[<-hs]at cl f3 e5 a0;have l4:(s:Int)<n:=(by omega);have cgk:=h4.int s (by rw[vV];exact f3);have fgk:=h4.frozen s
  have HS:Hid ((sF n (l.take q)).set s (q:Int)=sF n (l.take (q+1))):=Kh (by
   have:=dP (n:=n) a0;rw[List.length_take,Nat.min_eq_left (by omega)]at this
   rw[this,e5])
  clear h4 h5 e5 a0 hs;go_wp2;go_roundg (l.length-(q+1))
  case measure=>have:=HG.out;omega
  refine⟨q+1,by omega,by go_num,?_,zC H0.out (zF wr ⟨G,s,none⟩ _) (fun q e=>by have h7:G=q:=Oj e;have:=g8.out;omega)⟩;rw[<-HS.out];exact HA.out.int_set s (by rw[vV];exact f3) (q:Int)
 have i6:q=l.length:=by have:=HG.out;omega
 have i8:l.take q=l:=by rw[i6];exact List.take_length
 rw[i8]at HA h4;have k2:=Kh h4;have h8:=Kh h5;clear i6 i8 h4 HA HG h5 g7;obtain⟨w4,rfl⟩:=Nm (wr:World);obtain⟨d0,d1,d2,d3⟩:=zL (zB (zB f1.out b8.out) h8.out);go_upto_region 14 with fail;obtain⟨O,hO⟩:=Nm w4.heap.size;obtain⟨w6,e4⟩:=Nm (w4.alloc (.cells #[.int .i64 (k:Int),.int .i64 0,.slice none 0 0,.slice none 0 0] 37));rw[<-e4,<-hO];have a2:w4.grownBy w6 none:=(by rw[e4];exact Ga w4 _ none);have j6:w6.heap[O]?=some (.cells #[.int .i64 (k:Int),.int .i64 0,.slice none 0 0,.slice none 0 0] 37 (0,0)):=by rw[e4,hO];exact heap_alloc_new w4 _
 have k0:Built O w6 O k 0 [] [] [] none 0 none 0:=⟨j6,World.ownsRow_nil _ _ _ _,World.ownsRow_nil _ _ _ _,tN.nil,rfl⟩;obtain⟨k9,e0,d8⟩:=K3 k0 a2 hO;have p6:G<O:=(by rw[hO];have:=k2.out.lt;omega);have p4:P+1<O:=(by omega);have l3:=a2.size;clear d0 d1 d2 d3 j6 k0 a2 e4 hO;go_wp2
 go_loopg [51] l.length (fun gh i wr=>∃(i':Nat) (hs:List Value) (sf:Option Addr) (cf:Nat) (sn:Option Addr) (cn:Nat),gh+i'=l.length/\i=.int .i64 i'/\Built O wr O k 0 (nZ d l i') (nY d l i') hs sf cf sn cn/\w4.grownBy wr (some O))
 case atStart=>exact⟨0,[],none,0,none,0,rfl,rfl,k9.out,vH e0.out⟩
 clear k9 e0;obtain⟨i,hs,sf,cf,sn,cn,hg,rfl,a6,h5⟩:=hrel;obtain⟨k5,e1,H0⟩:=K3 hg a6 h5;have n4:=h5.size;clear hg;by_cases hi:i<l.length
 ·have o8:(i:Int)<l.length:=by omega
  have b7:O≠P:=(by omega);have f6:O≠gl:=(by have:=i1.out.lt;have:=g8.out;omega);have c6:∀x,Hid (x<w4.heap.size->x≠O):=fun x=>Kh (fun h e=>by have:=d8.out;omega);have cl:=((i1.out.kept h8.out (by simp)).kept h5 (fun e=>f6 (Oj e))).nat i hi;have H3:l.getD i 0<n:=b3.out.lt _ (by rw[zN hi];exact List.getElem_mem _);have f0:=Kh (qCX (d:=d) hi);have f9:=Kh (qCV (d:=d) hi);have a3:=bL (d:=d) (Nat.le_of_lt hi);have H7:=bK (d:=d) (Nat.le_of_lt hi);obtain⟨q0,i7⟩:=Nm (l.getD i 0);rw[<-i7]at cl H3 f0 f9;have l6:(q0:Int)<n:=(by omega);have p7:B<=O:=by omega
  have hA:=((n3.out.kept b8.out (by simp)).kept h8.out (by simp)).kept h5 (fun k e=>by have:=Oj e;omega);have ch:=hA.hd q0 H3;obtain⟨d0,d1,d2,d3⟩:=zL (zB (zB (zB f1.out b8.out) h8.out) h5 (fun e=>b7 (Oj e)));obtain⟨wo,rfl⟩:=Nm (wr:World);have i0:=Kh hA;clear hA a6 h5 i7;go_wp2
  go_loopg [13,61] k (fun gh ov i wr=>∃(a:Nat) (sr:Option Addr) (cr:Nat),gh+a=k/\i=.int .i64 a/\ov=.slice sr a cr/\wr.ownsRow wo.heap.size 3 1 (.slice sr a cr) a (ints ((wV l (d.next.getD q0 [])).take a))/\wo.grownBy wr none)
  case atStart=>exact⟨0,none,0,rfl,rfl,rfl,by simpa [ints] using World.ownsRow_nil _ _ _ _,zT _ _⟩
  obtain⟨a,sr,cr,hg,rfl,rfl,c4,h5⟩:=hrel;obtain⟨k4,H6,g6⟩:=K3 hg c4 h5;clear hg c4 d0 d1 d2 d3;by_cases ha:a<k
  ·have p3:(a:Int)<k:=by omega
   have hA:=i0.out.kept h5 (by simp);have ce:=hA.el q0 a H3 ha;have n6:=(hA.rcap q0 H3).1;have f4:=qV HD.out H3 ha;have cp:=(((k2.out.kept H0.out (fun e=>by have:=Oj e;omega)).kept h5 (by simp))).int (nx d q0 a) (by rw[vV];exact f4);rw[dS f4]at cp
   have g1:Hid ((wV l (d.next.getD q0 [])).take (a+1)=(wV l (d.next.getD q0 [])).take a++[qF l (nx d q0 a)]):=Kh (by
    rw[zZ (d:=0) (by rw[kB HD.out H3];exact ha),qCW HD.out H3 ha])
   obtain⟨s,hs⟩:=Nm (nx d q0 a);rw[<-hs]at ce f4 cp g1;obtain⟨c,hc⟩:=Nm (qF l s);rw[<-hc]at cp g1;have e6:=h5.size;have l8:(s:Int)<n:=(by omega);clear hA hs hc h5;go_wp2_with (first|(at_builtin;refine app1 rfl _ _ _ rfl yJ wo.heap.size _ a (ints ((wV l (d.next.getD q0 [])).take a)) rfl H6.out _ rfl rfl ?c1 ?c2 ?c3 ?_)|fail)
   case c1=>unfold maxLen;omega
   case c2=>omega
   case c3=>exact e6
   intro sa' sc' w6 H8 j3 m1;have m6:=Kh H8;have m9:=Kh j3;clear H8 j3;go_wp2;go_roundg (k-(a+1))
   case measure=>have:=k4.out;omega
   refine⟨a+1,sa',sc',by omega,by go_num,rfl,?_,zC g6.out m9.out (fun q e=>(H6.out.lt q e).1)⟩;rw[g1.out,eE];exact m6.out
  have j7:a=k:=by have:=k4.out;omega
  have i4:(wV l (d.next.getD q0 [])).take a=wV l (d.next.getD q0 []):=by rw[j7,<-kB HD.out (l:=l) H3];exact List.take_length
  rw[i4]at H6;obtain⟨w5,f2⟩:=Nm wr.drew;have m5:=Kh f2;have a1:wr.grownBy w5 none:=(by rw[f2];exact zW wr none);have b0:=Kh ((e1.out.grow h5).grow a1);have g2:Hid (RowT w5.heap.size 3 w5 (.slice sr a cr) (ints (wV l (d.next.getD q0 [])))):=Kh (RowT.of_owns (wR H6.out a1 (by simp)));have n0:=Kh (zH H0.out (vH (zH h5 a1) (row:=some O)));have j9:=b0.out.box;have H1:=Kh j9;have k3:=Kh b0.out.notbox;have b4:O<=w5.heap.size:=by have:=h5.size;have:=a1.size;have:=d8.out;omega
  have cq:=(((i0.out.kept h5 (by simp)).kept a1 (by simp))).fin H3;obtain⟨_,_,d2,_⟩:=zL (zB (zB (zB (zB (zB f1.out b8.out) h8.out) H0.out (fun e=>b7 (Oj e))) h5) a1);have p0:=i0.out.flt;have m3:O≠fb:=(by omega);obtain⟨bq,j5⟩:=Nm (d.final.getD q0 false);rw[<-j5]at cq f0;obtain⟨fsl,c8⟩:=Nm (nZ d l i);obtain⟨tsl,b9⟩:=Nm (nY d l i);rw[<-c8]at b0 H1 f0 a3;rw[<-b9]at b0 H1 f9 H7;have q4:=Kh a3;have p8:=Kh H7;obtain⟨m,hm⟩:=Nm i;rw[<-hm]at a3 H7;have g0:=Kh H7;have j8:=b0.out.many
  have hM:Many w5 (FB sf sn) w5 [⟨O,22,.slice sn m cn,m,hs,1⟩,⟨O,4,.slice sf m cf,m,bls fsl,1⟩] [] []:=by
   have h1:=j8;simp only[rN,rF,a3,H7]at h1;exact h1
  have l0:Hid (∀W:World,(W.cell? ⟨P,2,none⟩=some (.slice (some ⟨fb,fo,none⟩) n fc)/\W.cell? ⟨fb,fo+q0,none⟩=some (.bool bq))->∀(c:Nat) (X:Value),(W.setCell ⟨O,c,none⟩ X).cell? ⟨P,2,none⟩=some (.slice (some ⟨fb,fo,none⟩) n fc)/\(W.setCell ⟨O,c,none⟩ X).cell? ⟨fb,fo+q0,none⟩=some (.bool bq)):=Kh (fun W h c X =>
   ⟨by rw[World.cell?_setCell_far W ⟨O,c,none⟩ ⟨P,2,none⟩ X b7];exact h.1,by rw[World.cell?_setCell_far W ⟨O,c,none⟩ ⟨fb,fo+q0,none⟩ X m3];exact h.2⟩)
  have h0:Hid (∀W rs ls,Many w5 (FB sf sn) W rs ls []->(W.cell? ⟨P,2,none⟩=some (.slice (some ⟨fb,fo,none⟩) n fc)/\W.cell? ⟨fb,fo+q0,none⟩=some (.bool bq))/\(W.cell? ⟨O,3,none⟩=some (.slice sn m cn)/\W.cell? ⟨O,2,none⟩=some (.slice sf m cf))):=Kh (fun W rs ls h=>by
   have j2:=b0.out.ge;have hb:=h.but.heap H1.out k3.out;rw[a3,H7]at hb;obtain⟨_,_,e2,e3⟩:=zL hb
   exact⟨⟨h.but.cell d2 (fun hf=>by have:=j2 _ hf;simp only at this;omega),h.but.cell cq (fun hf=>by have:=j2 _ hf;simp only at this;omega)⟩,e3,e2⟩)
  rw[a3,H7]at H1;have n8:Hid (m=i):=Kh hm;have n9:m<=4194304:=by omega
  clear j8 j9 i4 j7 f2 a1 h5 j5 c8 b9 hm a3 H7 cl ch c6 d2 cq;go_upto_region 23 with fail;refine wp_region_noPanic ?_;refine yQ (G:=wH 15 (fun W=>W.cell? ⟨P,2,none⟩=some (.slice (some ⟨fb,fo,none⟩) n fc)/\W.cell? ⟨fb,fo+q0,none⟩=some (.bool bq)) (fun W=>W.cell? ⟨O,3,none⟩=some (.slice sn m cn)/\W.cell? ⟨O,2,none⟩=some (.slice sf m cf))) (by kernel_rfl) ?_;rw[<-m5.out];refine zO 0 ⟨(h0.out _ _ _ hM).1,fun _=>(h0.out _ _ _ hM).2⟩ ?_;refine xG 1 ⟨(h0.out _ _ _ hM).1,fun _=>(h0.out _ _ _ hM).2⟩ ?_;refine zO 2 ⟨(h0.out _ _ _ hM).1,fun _=>(h0.out _ _ _ hM).2⟩ ?_;refine zO 5 ⟨(h0.out _ _ _ hM).1,fun _=>(h0.out _ _ _ hM).2⟩ ?_;refine xG 6 ⟨(h0.out _ _ _ hM).1,fun _=>(h0.out _ _ _ hM).2⟩ ?_;refine zO 7 ⟨(h0.out _ _ _ hM).1,fun _=>(h0.out _ _ _ hM).2⟩ ?_;refine zO 8 ⟨(h0.out _ _ _ hM).1,fun _=>(h0.out _ _ _ hM).2⟩ ?_;refine zO 9 ⟨(h0.out _ _ _ hM).1,fun _=>(h0.out _ _ _ hM).2⟩ ?_;refine zO 10 ⟨(h0.out _ _ _ hM).1,fun _=>(h0.out _ _ _ hM).2⟩ ?_;refine zO 11 ⟨(h0.out _ _ _ hM).1,fun _=>(h0.out _ _ _ hM).2⟩ ?_;refine twoG (i:=3) (j:=12) (by kernel_rfl) rfl rfl (fun K hK=>?_) (fun K hK=>?_);go_simp;refine hK.out _ _ ⟨(h0.out _ _ _ (hM.alloc _)).1,fun _=>(h0.out _ _ _ (hM.alloc _)).2⟩ ?_;clear hK K
  try simp only[Act.put,sPa,sPb,sPc]
  refine twoG (i:=4) (j:=12) (by kernel_rfl) rfl rfl (fun K hK=>?_) (fun K hK=>?_);refine wJ rfl (.tmp 74) (.tmp 76) 35 rfl xY 0 _ _ rfl ⟨_,_,_,_,_,(hM.alloc _),_,rfl,rfl,rfl,rfl,?g3,?g4,b4,_,_,_,List.Mem.head _,(by first|rfl|simp),rfl,?_⟩
  case g3=>(simp only[];unfold maxLen;omega)
  case g4=>(simp only[];omega)
  intro sa1 sc1 w1x h6;have H4:=h6.litcell (List.Mem.head _)
  try simp only[zU]at H4
  refine hK.out _ _ ⟨(h0.out _ _ _ h6).1,fun _=>(h0.out _ _ _ h6).2⟩ ?_;clear hK K
  try simp only[Act.put,sPa,sPb,sPc]
  refine zO 14 ⟨(h0.out _ _ _ h6).1,fun _=>(h0.out _ _ _ h6).2⟩ ?_;refine oneG (i:=12) (by kernel_rfl) rfl (fun K hK=>?_);go_simp;refine hK.out _ _ ⟨(h0.out _ _ _ (h6.alloc _)).1,fun _=>(h0.out _ _ _ (h6.alloc _)).2⟩ ?_;clear hK K
  try simp only[Act.put,sPa,sPb,sPc]
  rotate_left;go_simp;refine hK.out _ _ ⟨(h0.out _ _ _ ((hM.alloc _).alloc _)).1,fun _=>(h0.out _ _ _ ((hM.alloc _).alloc _)).2⟩ ?_;clear hK K
  try simp only[Act.put,sPa,sPb,sPc]
  refine oneG (i:=4) (by kernel_rfl) rfl (fun K hK=>?_);refine wJ rfl (.tmp 74) (.tmp 76) 35 rfl xY 0 _ _ rfl ⟨_,_,_,_,_,((hM.alloc _).alloc _),_,rfl,rfl,rfl,rfl,?g3,?g4,b4,_,_,_,List.Mem.tail _ (List.Mem.head _),(by first|rfl|simp),rfl,?_⟩
  case g3=>(simp only[];unfold maxLen;omega)
  case g4=>(simp only[];omega)
  intro sa1 sc1 w1x h6;have H4:=h6.litcell (List.Mem.head _)
  try simp only[zU]at H4
  have c5:=h6.litcell (List.Mem.tail _ (List.Mem.head _))
  try simp only[zU]at c5
  refine hK.out _ _ ⟨(h0.out _ _ _ h6).1,fun _=>(h0.out _ _ _ h6).2⟩ ?_;clear hK K
  try simp only[Act.put,sPa,sPb,sPc]
  refine zO 14 ⟨(h0.out _ _ _ h6).1,fun _=>(h0.out _ _ _ h6).2⟩ ?_;rotate_left;go_simp;refine hK.out _ _ ⟨(h0.out _ _ _ (hM.alloc _)).1,fun _=>(h0.out _ _ _ (hM.alloc _)).2⟩ ?_;clear hK K
  try simp only[Act.put,sPa,sPb,sPc]
  refine oneG (i:=3) (by kernel_rfl) rfl (fun K hK=>?_);go_simp;refine hK.out _ _ ⟨(h0.out _ _ _ ((hM.alloc _).alloc _)).1,fun _=>(h0.out _ _ _ ((hM.alloc _).alloc _)).2⟩ ?_;clear hK K
  try simp only[Act.put,sPa,sPb,sPc]
  refine oneG (i:=4) (by kernel_rfl) rfl (fun K hK=>?_);refine wJ rfl (.tmp 74) (.tmp 76) 35 rfl xY 0 _ _ rfl ⟨_,_,_,_,_,((hM.alloc _).alloc _),_,rfl,rfl,rfl,rfl,?g3,?g4,b4,_,_,_,List.Mem.head _,(by first|rfl|simp),rfl,?_⟩
  case g3=>(simp only[];unfold maxLen;omega)
  case g4=>(simp only[];omega)
  intro sa1 sc1 w1x h6;have H4:=h6.litcell (List.Mem.head _)
  try simp only[zU]at H4
  have c5:=h6.litcell (List.Mem.tail _ (List.Mem.head _))
  try simp only[zU]at c5
  refine hK.out _ _ ⟨(h0.out _ _ _ h6).1,fun _=>(h0.out _ _ _ h6).2⟩ ?_;clear hK K
  try simp only[Act.put,sPa,sPb,sPc]
  refine zO 14 ⟨(h0.out _ _ _ h6).1,fun _=>(h0.out _ _ _ h6).2⟩ ?_
  all_goals
   refine oneG (i:=13) (by kernel_rfl) rfl (fun K hK=>?_)
   first
   | refine wJ rfl (.tmp 79) (.tmp 85) 26 rfl wF 1 _ _ rfl ⟨_,_,_,_,_,(h6.alloc _),_,rfl,rfl,rfl,rfl,?g3,?g4,b4,_,_,_,List.Mem.head _,(by first|rfl|simp),rfl,?_⟩
   | refine wJ rfl (.tmp 79) (.tmp 85) 26 rfl wF 1 _ _ rfl ⟨_,_,_,_,_,h6,_,rfl,rfl,rfl,rfl,?g3,?g4,b4,_,_,_,List.Mem.head _,(by first|rfl|simp),rfl,?_⟩
   | refine wJ rfl (.tmp 79) (.tmp 85) 26 rfl wF 1 _ _ rfl ⟨_,_,_,_,_,h6,_,rfl,rfl,rfl,rfl,?g3,?g4,b4,_,_,_,List.Mem.tail _ (List.Mem.head _),(by first|rfl|simp),rfl,?_⟩
   case g3=>(simp only[];unfold maxLen;omega)
   case g4=>(simp only[];omega)
   intro sa2 sc2 w2x H9;have H4:=H9.litcell (List.Mem.head _)
   try simp only[zU]at H4
   have c5:=H9.litcell (List.Mem.tail _ (List.Mem.head _))
   try simp only[zU]at c5
   refine hK.out _ _ ⟨(h0.out _ _ _ H9).1,fun _=>(h0.out _ _ _ H9).2⟩ ?_;clear hK K
   try simp only[Act.put,sPa,sPb,sPc]
   refine oneG (i:=15) (by kernel_rfl) rfl (fun K hK=>?_);have b5:=H9.but.heap H1.out k3.out;have cb3:=zG b5 3;have cb2:=zG b5 2;have fb3:=zA b5 3;have fb2:=zA b5 2;simp only[List.getElem_toArray,List.getElem_cons_zero,List.getElem_cons_succ]at cb3 cb2;go_simp;have a5:=heap_setCell_same _ O 3 _ _ (.slice sa1 (m+1) sc1) b5;have cb22:=zG a5 2;have fb22:=zA a5 2;simp at cb22;have e9:=l0.out _ (h0.out _ _ _ H9).1 3 (.slice sa1 (m+1) sc1);refine hK.out _ _ ⟨e9,fun h=>by simp at h⟩ ?_;clear hK K
   try simp only[Act.put,sPa,sPb,sPc]
   refine zO 16 ⟨e9,fun h=>by simp at h⟩ ?_;refine oneG (i:=17) (by kernel_rfl) rfl (fun K hK=>?_);go_simp;have d7:=l0.out _ e9 2 (.slice sa2 (m+1) sc2);refine hK.out _ _ ⟨d7,fun h=>by simp at h⟩ ?_;clear hK K
   try simp only[Act.put,sPa,sPb,sPc]
   refine tZ (by kernel_rfl) ?_ _;refine NoPanic.normal ?_;obtain⟨a6,j1⟩:=b0.out.push (b:=bq) (row:=wV l (d.next.getD q0 [])) g0.out H9 g2.out rfl;have g9:=Kh a6;have m8:=Kh (j1 w4 n0.out (by have:=d8.out;omega));clear a6 j1 cb3 cb2 fb3 fb2 b5 a5 cb22 fb22 e9 d7 H9
   (try clear h6)
   go_wp2;go_roundg (l.length-(i+1))
   case measure=>have:=k5.out;omega
   exact⟨i+1,_,_,_,_,_,by omega,by go_num,g9.out.congr f0.out f9.out,m8.out⟩
 have j0:i=l.length:=by have:=k5.out;omega
 have k8:Hid (nZ d l i=(wO d k).final/\nY d l i=(wO d k).next):=Kh (by
  rw[j0];simp only[nZ,nY,List.take_length];rw[HL.out]
  exact⟨rfl,rfl⟩)
 have b7:O≠P+1:=(by omega);have H2:=zB (zB (zB n2.out b8.out) h8.out) h5 (fun e=>b7 (Oj e));have r0:=zG H2 0;have r1:=zG H2 1;have r2:=zG H2 2;have r3:=zG H2 3;have q0:=zA H2 0;have q1:=zA H2 1;have q2:=zA H2 2;have q3:=zA H2 3;simp only[List.getElem_toArray,List.getElem_cons_zero,List.getElem_cons_succ]at r0 r1 r2 r3;have d9:=Kh H2;obtain⟨o0,o1,o2,o3⟩:=zL a6.box;clear a6 h5 H2 j0;go_wp2;refine bodyPost_ret (v:=.tuple #[.agg #[.int .i64 (k:Int),.int .i64 0,.slice sf (nZ d l i).length cf,.slice sn (nY d l i).length cn],.slice (some ⟨G,0,none⟩) n n]) (by simp[results,Try.results60,go_sem,r0,r1,r2,r3]) rfl ?_;obtain⟨l5,e6⟩:=uB d9.out (.int .i64 (k:Int)) (.int .i64 0) (.slice sf (nZ d l i).length cf) (.slice sn (nY d l i).length cn);have f7:=e1.out.far e6 d9.out (fun e=>b7 e.symm);refine⟨_,_,rfl,?_,?_⟩
 ·have he:wO d k=⟨(k:Int),0,nZ d l i,nY d l i⟩:=by
   rw[k8.out.1,k8.out.2];have:=HD.out.hk;simp only[wO,this]
  rw[he];exact⟨O,hs,sf,cf,sn,cn,rfl,by have h1:=h8.out.size;have h2:=d8.out;have h3:=g5.out;omega,f7⟩
 refine zC (zH m7.out (zH b8.out (zH h8.out (zC (zT _ _) H0.out (fun x e=>by have:=Oj e;have:=d8.out;omega))))) e6 (fun x e=>by have:=Oj e;have:=g5.out;omega)
def qRB (w:World)(d:DfaV)(n k:Nat)(e:Ending)(w':World):Prop :=
 ∃v G,e=.returned (.tuple #[v,.slice (some ⟨G,0,none⟩) n n])/\tT w w' v (wO d k)/\w.heap.size<=G/\Arr w' G 3 (ints (sF n (yH d k)))/\w.grownBy w' none
theorem qAT (B:Nat)(w:World)(v:Value)(d:DfaV)(n k:Nat)(hB:B<=w.heap.size)(h:tO B w v d)(hd:VD d n k)(h5:n<=512):Calls Try.prog 68 #[v] w (qRB w d n k):=by
 have H0:=h;obtain⟨fb,fo,fc,b,off,cap,RB,RO,RC,rfl,H5⟩:=h.at hd;have hn:=hd.hn;have j8:=hd.n1;have k2:=hd.k6;have k3:=hd.k1;have k4:=H5.fcap.1;have H8:=H5.fcap.2;have k5:=H5.cap.1;have H9:=H5.cap.2;have f9:fc<=9223372036854775807:=by unfold maxLen at H8;omega
 have f8:cap<=9223372036854775807:=by unfold maxLen at H9;omega
 obtain⟨S,hS⟩:=Nm (st0 d);have g9:=Kh hS;have d6:dAgg k (st0 d) fb fo fc b off cap n=.agg #[.int .i64 (k:Int),.int .i64 (S:Int),.slice (some ⟨fb,fo,none⟩) n fc,.slice (some ⟨b,off,none⟩) n cap]:=by rw[hS];rfl
 rw[d6]at H0⊢;obtain⟨a1,b4,H6,d4⟩:=rY w #[.int .i64 (k:Int),.int .i64 (S:Int),.slice (some ⟨fb,fo,none⟩) n fc,.slice (some ⟨b,off,none⟩) n cap] #[.int .i64 0,.int .i64 0,.slice none 0 0,.slice none 0 0] 37;obtain⟨wA,c4⟩:=Nm ((w.alloc (.cells #[.int .i64 (k:Int),.int .i64 (S:Int),.slice (some ⟨fb,fo,none⟩) n fc,.slice (some ⟨b,off,none⟩) n cap] 37)).alloc (.cells #[.int .i64 0,.int .i64 0,.slice none 0 0,.slice none 0 0] 37));rw[<-c4]at a1 b4 H6 d4;obtain⟨c0,c1,c2,c3⟩:=zL a1;obtain⟨P,hP⟩:=Nm w.heap.size;obtain⟨Q,hQ⟩:=Nm (w.heap.size+1);have i2:=Kh hP;have i0:Hid (Q=P+1):=Kh (by omega);have l2:P<Q:=by omega
 have k8:Q<wA.heap.size:=by omega
 have l1:w.heap.size<=P:=by omega
 have g4:B<=wA.heap.size:=by omega
 rw[<-hQ]at b4;rw[<-hP]at a1 c0 c1 c2 c3 hB;obtain⟨j2,j1,i6,g5⟩:=K4 a1 b4 H6 c4;have j3:=Kh (H5.kept H6 (by simp));have HN:=Kh hn;have HD:=Kh hd;have e7:=Kh (qJ B wA _ d g4 (H0.kept H6 (by simp)));have g7:=Kh (kW hd h5);clear a1 b4 H6 c4 H5 hn hd h H0 d6 H8 H9 hS d4 hP hQ;go_enter Try.func68,Try.ntmps68;go_upto_region 1 with fail;rw[<-g5.out,<-i2.out,<-i0.out];go_wp2_with fail;refine e7.out.mono ?_;rintro e w1 ⟨rfl,H4⟩;rw[g7.out];have j7:=H4.size;have i7:=Kh H4;have H3:=Kh (zB j2.out H4);have c9:=Kh (zB j1.out H4);have e9:=Kh (qDU B w1 P d n k S fb fo fc b off cap RB RO RC g9.out h5 ⟨H3.out,j3.out.kept H4 (by simp)⟩);obtain⟨d0,d1,d2,d3⟩:=zL H3.out;clear H4 e7 c0 c1 c2 c3;go_wp2_with fail;refine e9.out.mono ?_;rintro e w2 ⟨v2,sa,sc,rfl,⟨o,hs,sf,cf,sn,cn,rfl,ho,H1⟩,h3,b9⟩;clear e9 d0 d1 d2 d3;obtain⟨h6,g0⟩:=wG HD.out;obtain⟨l,hl⟩:=Nm (yH d k);have HL:=Kh hl;rw[<-hl]at h3 h6 g0⊢;have g1:=h6.hd.1;obtain⟨gl,rfl,k0,j9,a2⟩:=xD h3 g1;obtain⟨m,hm⟩:=Nm (wO d k);rw[<-hm]at H1;have HM:=Kh hm;have a6:(wO d k).start=0:=rfl;have b0:(wO d k).letters=k:=HD.out.hk;rw[<-hm]at a6 b0;rw[<-hm,a6,b0];obtain⟨j4,c8,a4,i9,i4,i5⟩:=K6 a2 b9 h6 H1 a6 b0;have j6:=b9.size;obtain⟨FL,c6⟩:=Nm m.final.length;obtain⟨NL,c5⟩:=Nm m.next.length;rw[<-c6,<-c5];have i8:=Kh c6;have i3:=Kh c5;clear hl h3 a2 b9 h6 hm a6 b0 H1 c6 c5;obtain⟨w3,b6⟩:=Nm (w2.alloc (.cells #[.int .i64 (k:Int),.int .i64 0,.slice sf FL cf,.slice sn NL cn] 37));obtain⟨T,hT⟩:=Nm w2.heap.size;have H7:=Ga w2 (.cells #[.int .i64 (k:Int),.int .i64 0,.slice sf FL cf,.slice sn NL cn] 37) none;have a0:=heap_alloc_new w2 (.cells #[.int .i64 (k:Int),.int .i64 0,.slice sf FL cf,.slice sn NL cn] 37);rw[<-b6]at H7 a0;rw[<-hT]at a0;obtain⟨b5,j0,g6,g8⟩:=K4 H7 a0 b6 hT;have j5:=H7.size;have k7:=zQ a0;have k9:Q<T:=by omega
 have l0:P+1<w3.heap.size:=by omega
 obtain⟨d0,d1,d2,d3⟩:=zL (zB (zB H3.out c8.out) H7);clear H7 a0 b6 hT;go_upto_region 4 with fail;rw[<-g6.out,<-g8.out];go_wp2_with (first|(at_make;refine qC rfl _ _ _ rfl yJ rfl .i64 .i64 _ _ n rfl rfl rfl rfl ?b1 ?b2 ?_;(case b1=>omega);(case b2=>(unfold maxLen;omega));intro w4 h0 e5 b8)|fail);obtain⟨G,hG⟩:=Nm w3.heap.size;rw[<-hG]at h0 b8⊢;obtain⟨f5,e8,c7⟩:=K3 h0 e5 hG;have l3:T<G:=by omega
 clear h0 e5 hG d0 d1 d2 d3
 go_loopg [8,32] n (fun gh a7 i wr=>∃q:Nat,gh+q=n/\i=.int .i64 q/\Arr wr G 3 (ints (iM n q))/\w3.grownBy wr none)
 case atStart=>exact⟨0,rfl,rfl,by simpa [iM,rV] using f5.out,e8.out⟩
 clear f5 e8;obtain⟨q,hg,rfl,h0,h4⟩:=hrel;obtain⟨HG,HA,a3⟩:=K3 hg h0 h4;clear hg;by_cases hq:q<n
 ·have f7:(q:Int)<n:=by omega
  have cgk:=h0.int q (by rw[pL (by omega)];exact hq);have fgk:=h0.frozen q;have HS:=Kh (qCC hq);clear h0 h4;go_wp2;go_roundg (n-(q+1))
  case measure=>have:=HG.out;omega
  refine⟨q+1,by omega,by go_num,?_,zC a3.out (zF wr ⟨G,q,none⟩ _) (fun q e=>by have h7:G=q:=Oj e;have:=c7.out;omega)⟩;rw[<-HS.out];exact HA.out.int_set q (by rw[pL (by omega)];exact hq) (-1)
 have d7:q=n:=by have:=HG.out;omega
 have HF:Hid (iM n q=sF n (l.take 0)):=Kh (by rw[d7,List.take_zero,dR];simp[iM]);rw[HF.out]at HA;clear d7 h0 h4 HG;obtain⟨w5,rfl⟩:=Nm (wr:World);go_wp2
 go_loopg [9,10,41] l.length (fun gh a8 a9 i wr=>∃q:Nat,gh+q=l.length/\i=.int .i64 q/\Arr wr G 3 (ints (sF n (l.take q)))/\w3.grownBy wr none)
 case atStart=>exact⟨0,rfl,rfl,HA.out,a3.out⟩
 clear HA a3 HF;obtain⟨q,hg,rfl,h0,h4⟩:=hrel;obtain⟨HG,HA,a3⟩:=K3 hg h0 h4;clear hg;by_cases hq:q<l.length
 ·have f7:(q:Int)<l.length:=by omega
  have cl:=((j4.out.kept b5.out (by simp)).kept h4 (by simp)).nat q hq;have b7:l.getD q 0<n:=a4.out.lt _ (by rw[zN hq];exact List.getElem_mem _);have a5:l.take (q+1)=l.take q++[l.getD q 0]:=zZ hq
  have h9:l.getD q 0 ∉ l.take q:=by
   have h1:=a4.out.nd;have h2:(l.take (q+1)).Nodup:=h1.sublist (List.take_sublist _ _);rw[a5,List.nodup_append]at h2;exact fun hm=>h2.2.2 _ hm _ (by simp) rfl
  obtain⟨s,hs⟩:=Nm (l.getD q 0);rw[<-hs]at cl b7 a5 h9;have f6:(s:Int)<n:=(by omega);have cgk:=h0.int s (by rw[vV];exact b7);have fgk:=h0.frozen s
  have HS:Hid ((sF n (l.take q)).set s (q:Int)=sF n (l.take (q+1))):=Kh (by
   have:=dP (n:=n) h9;rw[List.length_take,Nat.min_eq_left (by omega)]at this
   rw[this,a5])
  clear h0 h4 a5 h9 hs;go_wp2;go_roundg (l.length-(q+1))
  case measure=>have:=HG.out;omega
  refine⟨q+1,by omega,by go_num,?_,zC a3.out (zF wr ⟨G,s,none⟩ _) (fun q e=>by have h7:G=q:=Oj e;have:=c7.out;omega)⟩;rw[<-HS.out];exact HA.out.int_set s (by rw[vV];exact b7) (q:Int)
 have d8:q=l.length:=by have:=HG.out;omega
 have d9:l.take q=l:=by rw[d8];exact List.take_length
 rw[d9]at HA h0;have i1:=Kh h0;have h8:=Kh h4;clear d8 d9 h0 HA HG h4;obtain⟨e0,e1,e2,e3⟩:=zL (zB j0.out h8.out);have H2:=zB (zB (zB c9.out c8.out) b5.out) h8.out;obtain⟨q0,q1,q2,q3⟩:=zL H2;have f0:=zA H2 0;have f1:=zA H2 1;have f2:=zA H2 2;have f3:=zA H2 3;have f4:=Kh H2;clear H2;go_wp2;obtain⟨e6,b3⟩:=uB f4.out (.int .i64 (k:Int)) (.int .i64 0) (.slice sf FL cf) (.slice sn NL cn);obtain⟨wz,d5⟩:=Nm ((((wr.setCell ⟨Q,0,none⟩ (.int .i64 (k:Int))).setCell ⟨Q,1,none⟩ (.int .i64 0)).setCell ⟨Q,2,none⟩ (.slice sf FL cf)).setCell ⟨Q,3,none⟩ (.slice sn NL cn));rw[<-d5]at e6 b3⊢;clear d5;obtain⟨r0,r1,r2,r3⟩:=zL e6;clear e0 e1 e2 e3 q0 q1 q2 q3 f0 f1 f2 f3;refine bodyPost_ret (v:=.tuple #[.agg #[.int .i64 (k:Int),.int .i64 0,.slice sf FL cf,.slice sn NL cn],.slice (some ⟨G,0,none⟩) n n]) (by simp[results,Try.results68,go_sem,r0,r1,r2,r3]) rfl ?_;have g2:w.grownBy wz none:=zC (zC (zC (zC (zC i6.out i7.out) c8.out) b5.out) h8.out) b3 (fun k e=>by have h7:Q=k:=Oj e;omega);have g3:=((i9.out.grow b5.out).grow h8.out).far b3 f4.out (by omega);have e4:wO d k=m:=HM.out.symm;refine⟨_,G,rfl,⟨o,hs,sf,cf,sn,cn,?_,by omega,by rw[e4];exact g3⟩,by have:=c7.out;omega,?_,g2⟩
 ·rw[e4,i4.out,i5.out,i8.out,i3.out]
 rw[<-HL.out];exact i1.out.kept b3 (fun e=>by have h7:Q=G:=Oj e;omega)
open Go.Maps
structure KeyK {α:Type}(mt kt:TypeId)(V:α->Prop)(kv:α->Value):Prop where
 key:Keyed Try.prog kt
 und:Try.prog.underlying mt=some (.map kt 3)
 of:∀a,V a->(keyOf Try.prog kt (kv a)).isSome=true
 inj:∀a b,V a->V b->kv a=kv b->a=b
section
variable {α:Type} {mt kt:TypeId} {V:α->Prop} {kv:α->Value}
def MapK (kt:TypeId)(V:α->Prop)(kv:α->Value)(w:World)(b n c:Nat)(f:α->Option Nat):Prop :=
 ∃D:DataW Unit,w.ownsMap Try.prog kt (plainElem Try.prog 3) b n D/\size D=c /\
  ∀a l,V a->keyOf Try.prog kt (kv a)=some l->has D l=(f a).isSome/\D.atKey l (.lit (.int .i64 0))=.lit (.int .i64 (((f a).getD 0:Nat):Int))
theorem MapK.made (kt:TypeId)(V:α->Prop)(kv:α->Value)(w:World):MapK kt V kv (w.alloc (.map #[] 0)) w.heap.size 0 0 (fun _=>none):=by
 refine⟨.map [],World.ownsMap_made _ _ _ _,rfl,fun x _ _ _=>⟨by simp[has_eq],?_⟩⟩;rw[WideAt.atKey_none _ (by simp)];simp
variable {w w':World} {b n c:Nat} {f:α->Option Nat}
theorem MapK.kept {row:Option Nat}(h:MapK kt V kv w b n c f)(hg:w.grownBy w' row)(a9:row≠some b):MapK kt V kv w' b n c f:=by
 obtain⟨D,h1,h2,h3⟩:=h;exact⟨D,h1.kept hg (fun e=>a9 e.symm),h2,h3⟩
theorem MapK.mono {n':Nat}(h:MapK kt V kv w b n c f)(hn:n<=n'):MapK kt V kv w b n' c f:=by
 obtain⟨D,h1,h2,h3⟩:=h;exact⟨D,h1.mono hn,h2,h3⟩
theorem MapK.lt (h:MapK kt V kv w b n c f):b<w.heap.size:=by
 obtain⟨D,h1,_⟩:=h;exact h1.lt
theorem MapK.obj (h:MapK kt V kv w b n c f):∃es clock,w.heap[b]?=some (.map es clock):=by
 obtain⟨D,⟨es,clock,hb,_⟩,_⟩:=h;exact⟨es,clock,hb⟩
theorem MapK.lookup (h:MapK kt V kv w b n c f)(K:KeyK mt kt V kv){x:α}(hx:V x):(Instr.lookup mt (.map (some b)) (kv x) true).run Try.prog w=.ok (.tuple #[.int .i64 (((f x).getD 0:Nat):Int),.bool (f x).isSome]) w:=by
 obtain⟨D,h1,h2,h3⟩:=h;obtain⟨kl,h4⟩:=Option.isSome_iff_exists.1 (K.of x hx);obtain⟨v,ps,h0,hv⟩:=h1.look_ok K.key K.und (gT w) (plainElem_int tH (by decide)) h4;obtain⟨c,rfl,hc,_⟩:=plainElem_int_inv tH hv;obtain⟨e1,e2⟩:=h3 x kl hx h4;have e3:=congrArg Prod.fst hc;simp only[e2]at e3;rw[h0,e1]
 have e4:(((f x).getD 0:Nat):Int)=c:=by
  simp only[Lit.int.injEq,DataW.lit.injEq,true_and]at e3;exact e3
 rw[e4]
theorem MapK.len (h:MapK kt V kv w b n c f)(K:KeyK mt kt V kv):(Builtin.len_ #[mt] 3 #[.map (some b)]).run Try.prog w=.ok (.int .i64 (c:Nat)) w:=by
 obtain⟨D,h1,h2,h3⟩:=h;have h0:=h1.len K.und 3;rw[h2]at h0;exact h0
theorem qHY [DecidableEq α]{ops:Array Oper}{a9:List Oper}{o:Oper}{a:Act}{Q:Exit->Act->World->Prop}(K:KeyK mt kt V kv)(hg:o.guard=none)(m x v:Operand)(a8:o.op=Op.mapUpdate mt m x v)(b n c:Nat)(f:α->Option Nat)(z:α)(y:Nat)(hm:a.eval m=.map (some b))(hx:a.eval x=kv z)(hv:a.eval v=.int .i64 (y:Int))(h:MapK kt V kv w b n c f)(hn:n<maxLen)(hz:V z)(hy:y<4611686018427387904)(hK:∀w',MapK kt V kv w' b (n+1) (if (f z).isSome then c else c+1) (fun q=>if q=z then some y else f q)->w.grownBy w' (some b)->wpList Try.prog ops Q a9 (a.put o.dst undef) w'):wpList Try.prog ops Q (o::a9) a w:=by
 obtain⟨D,h1,h2,h3⟩:=h;obtain⟨kl,h0⟩:=Option.isSome_iff_exists.1 (K.of z hz);obtain⟨w',h4,h5,h7⟩:=h1.update K.key K.und hn h0 (plainElem_int tH (cD (x:=(y:Int)) ⟨by omega,by omega⟩));refine wpList_plain hg fun K' hK'=>?_;unfold Oper.wp;simp[execOp,a8,hm,hx,hv,h4,Result.andThen];refine hK' _ _ (hK w' ⟨_,h5,?_,fun q ql hq hql=>?_⟩ h7)
 ·rw[size_put (h1.tidy K.key),(h3 z kl hz h0).1,h2]
 by_cases e:q=z
 ·subst e
  rw[h0]at hql;cases hql;refine⟨by rw[has_put_same h1.isMap (K.key.key h0)];simp,?_⟩;simp only[if_pos];rw[atKey_put_same h1.isMap (K.key.key h0)];rfl
 have h6:ql≠kl:=fun h=>e (K.inj q z hq hz (K.key.inj (hql.trans (congrArg some h)) h0));obtain⟨e1,e2⟩:=h3 q ql hq hql;simp only[if_neg e];exact⟨by rw[has_put_other h6,e1],by rw[atKey_put_other h6,e2]⟩
end
end Go.Proofs.Ytobakifdllameaa
