/- Part 7 of the proof. -/
import Derived.Test.YtjfdomfendbhfaaQf6
import Derived.Deep.RegionLaw
import Derived.Deep.DeepCutAuto
import Derived.Deep.CutBlock
set_option linter.unusedVariables false
set_option linter.unusedSimpArgs false
set_option maxRecDepth 100000
set_option maxHeartbeats 16000000
namespace Go.Proofs.Ytjfdomfendbhfaa
open Go.RowKit Go.Maps
def exT (d:DfaV)(k:Nat)(l:List Nat)(i:Nat):List (List Int):=(l.take i).map fun q=>xQ (zX d k) (d.next.getD q [])
def exF (d:DfaV)(l:List Nat)(i:Nat):List Bool:=(l.take i).map fun q=>d.final.getD q false
theorem qDR {d:DfaV}{k:Nat}{l:List Nat}{i:Nat}(h:i<=l.length):(exT d k l i).length=i:=by simp[exT];omega
theorem qHC {d:DfaV}{l:List Nat}{i:Nat}(h:i<=l.length):(exF d l i).length=i:=by simp[exF];omega
theorem exT_next {d:DfaV}{k:Nat}{l m:List Nat}{i:Nat}(hp:l <+: m)(h:i<l.length):exT d k m (i+1)=exT d k l i++[xQ (zX d k) (d.next.getD (l.getD i 0) [])]:=by
 simp only[exT,nG hp (show i+1<=l.length by omega),zR (d:=0) h,List.map_append,List.map_cons,List.map_nil]
theorem exF_next {d:DfaV}{l m:List Nat}{i:Nat}(hp:l <+: m)(h:i<l.length):exF d m (i+1)=exF d l i++[d.final.getD (l.getD i 0) false]:=by
 simp only[exF,nG hp (show i+1<=l.length by omega),zR (d:=0) h,List.map_append,List.map_cons,List.map_nil]
theorem RowX.of_arr {X:Nat->Prop}{w:World}{g n:Nat}{e:TypeId}{xs:List Value}(h:Arr w g e xs)(hn:xs.length=n)(hm:n<=maxLen)(hX:X g):RowX X e w (.slice (some ⟨g,0,none⟩) n n) xs:=by
 obtain⟨cur,rest,hc,ht⟩:=h;subst hn;refine⟨.inr ⟨g,0,xs.length,cur,(0,0),rfl,zI hc,Nat.le_refl _,hm,hc,fun i hi=>?_⟩,fun k hk=>?_⟩
 ·rw[Nat.zero_add,<- Array.getElem?_toList,ht,List.getElem?_append_left hi,List.getElem?_eq_getElem hi]
 ·have:g=k:=by simpa [Value.ownBlock] using hk
  subst this;exact hX
theorem Arr.but {w w':World}{g:Nat}{e:TypeId}{xs:List Value}{F:Nat->Prop}(h:Arr w g e xs)(hg:GrownBut w w' F)(hF:¬ F g):Arr w' g e xs:=by
 obtain⟨cur,rest,hc,ht⟩:=h;exact⟨cur,rest,hg.heap hc hF,ht⟩
theorem vC {w W:World}{o:Obj}(h1:W.os=w.os)(h2:W.tape=w.tape)(h3:W.output=w.output)(h4:W.heap=(w.alloc o).heap):w.grownBy W none :=
 vI (Ga w o none) h1 h2 h3 h4
structure TBox (B:Nat)(W:World)(P:Nat)(d:DfaV)(n k S fb fo fc b off cap:Nat)(RB RO RC:Nat->Nat):Prop where
 box:W.heap[P]?=some (.cells #[.int .i64 (k:Int),.int .i64 (S:Int),.slice (some ⟨fb,fo,none⟩) n fc,.slice (some ⟨b,off,none⟩) n cap] 42 (0,0))
 at_:DAt B W d n k fb fo fc b off cap RB RO RC
theorem TBox.grow {B:Nat}{W W':World}{P:Nat}{d:DfaV}{n k S fb fo fc b off cap:Nat}{RB RO RC:Nat->Nat}(h:TBox B W P d n k S fb fo fc b off cap RB RO RC)(hg:W.grownBy W' none):TBox B W' P d n k S fb fo fc b off cap RB RO RC :=
 ⟨zA h.box hg (by simp),h.at_.kept hg (by simp)⟩
section
variable {B:Nat} {W:World} {P:Nat} {d:DfaV} {n k S fb fo fc b off cap:Nat} {RB RO RC:Nat->Nat}
theorem trim1_any (h:TBox B W P d n k S fb fo fc b off cap RB RO RC){q a:Nat}(hq:q<n)(ha:a<k):
  Calls Try.prog 122 #[.int .i64 (q:Int),.int .i64 (a:Int),.pointer (some ⟨P,0,none⟩)] W fun e w'=>e=.returned (.int .i64 ((nx d q a:Nat):Int))/\W=w':=by
 obtain⟨c0,c1,c2,c3⟩:=zF h.box;have c4:=h.at_.hd q hq;have c5:=h.at_.el q a hq ha;have hc:=h.at_.cap;have hr:=h.at_.rcap q hq;have hd:=h.at_.ok;have hn:=hd.nbig;have hk:=hd.k6;unfold maxLen at hc hr;clear h hd;go_enter Try.func122,Try.ntmps122;go_wp2;go_ret;exact⟨rfl,rfl⟩
theorem trim2_any (h:TBox B W P d n k S fb fo fc b off cap RB RO RC){q:Nat}(hq:q<n):
  Calls Try.prog 123 #[.int .i64 (q:Int),.pointer (some ⟨P,0,none⟩)] W fun e w'=>e=.returned (.bool (d.final.getD q false))/\W=w':=by
 obtain⟨c0,c1,c2,c3⟩:=zF h.box;have c4:=h.at_.fin hq;have hc:=h.at_.fcap;have hd:=h.at_.ok;have hn:=hd.nbig;unfold maxLen at hc;clear h hd;go_enter Try.func123,Try.ntmps123;go_wp2;go_ret;exact⟨rfl,rfl⟩
end
def ExplOk (W:World)(d:DfaV)(k:Nat)(e:Ending)(W':World):Prop :=
 ∃ v sa sc,e=.returned (.tuple #[v,.slice sa (zX d k).length sc,.int .i64 0])/\sI W W' v (xT d k)/\W'.ownsRow W.heap.size 3 1 (.slice sa (zX d k).length sc) (zX d k).length (nats (zX d k))/\W.grownBy W' none
theorem explore_any (B:Nat)(W:World)(P:Nat)(d:DfaV)(n k S fb fo fc b off cap:Nat)(RB RO RC:Nat->Nat)(hS:S=st0 d)(h5:n<=512)(h:TBox B W P d n k S fb fo fc b off cap RB RO RC):
  Calls Try.prog 121 #[.int .i64 (k:Int),.int .i64 (S:Int),.func (.func 122) #[] #[.pointer (some ⟨P,0,none⟩)],.func (.func 123) #[] #[.pointer (some ⟨P,0,none⟩)]] W (ExplOk W d k):=by
 have hd:=h.at_.ok;have hn:=hd.nbig;have hk:=hd.k6;have q9:=hd.k1;have r4:S<n:=by rw[hS];exact qR hd
 obtain⟨w1,a5⟩:∃ w1,w1=(W.alloc (.cells #[.int .i64 0,.int .i64 0,.slice none 0 0,.slice none 0 0] 42)).alloc (.cells #[.slice none 0 0,.map none] 181):=⟨_,rfl⟩;have l2:W.grownBy w1 none:=by rw[a5];exact xR (Ga W _ none) _
 have H3:w1.heap[W.heap.size]?=some (.cells #[.int .i64 0,.int .i64 0,.slice none 0 0,.slice none 0 0] 42 (0,0)):=by rw[a5];exact sO W _ _
 have i6:w1.heap[W.heap.size+1]?=some (.cells #[.slice none 0 0,.map none] 181 (0,0)):=by rw[a5];exact sL W _ _
 have q3:w1.heap.size=W.heap.size+2:=by rw[a5,zO,zO]
 obtain⟨oN,e7⟩:∃ o,o=W.heap.size+1:=⟨_,rfl⟩;obtain⟨o0,e9⟩:∃ o,o=W.heap.size:=⟨_,rfl⟩;rw[<- e9]at H3;rw[<- e7]at i6;have j2:Hid (NumSt W.heap.size w1 oN none 0 none []):=Kh ⟨i6,World.ownsRow_nil _ _ _ _,.inl ⟨rfl,rfl⟩,by omega⟩;have h2:=Kh H3;have p4:=Kh l2;have m2:=Kh a5;have HD:=Kh hd;have HT:=Kh h;have HS:=Kh hS;have p1:=Kh e9;have p2:=Kh e7;have n7:W.heap.size<oN:=by omega
 have n6:oN<w1.heap.size:=by omega
 have o1:W.heap.size<=o0:=by omega
 have n9:o0<oN:=by omega
 clear e7 e9;clear H3 i6 l2 a5 hd h hS;go_enter Try.func121,Try.ntmps121;go_upto_region 2 with fail;rw[<- m2.out,<- p2.out,<- p1.out];go_wp2_with fail;refine(qBX W.heap.size w1 oN none 0 none [] S j2.out (by omega) (by simp) (by omega)).mono ?_;rintro e w2 ⟨sa2,sc2,mv2,rfl,H1,H2,f5⟩;have a6:xP ([]:List Nat) S=[S]:=by simp[xP]
 rw[a6]at H1;have q2:=H2.size;have c2:=Kh H1;have a4:=Kh H2;obtain⟨o2,e8⟩:∃ o,o=w2.heap.size:=⟨_,rfl⟩;clear a6 H1 H2 f5;go_wp2_with fail;obtain⟨w3,d7⟩:∃ w3,w3=w2.alloc (.cells #[.int .i64 (k:Int),.int .i64 0,.slice none 0 0,.slice none 0 0] 42):=⟨_,rfl⟩;have a7:=Ga w2 (.cells #[.int .i64 (k:Int),.int .i64 0,.slice none 0 0,.slice none 0 0] 42) none;have b5:=heap_alloc_new w2 (.cells #[.int .i64 (k:Int),.int .i64 0,.slice none 0 0,.slice none 0 0] 42);rw[<- d7]at a7 b5;rw[<- e8]at b5;have q1:=a7.size;have b0:W.heap.size<=o2:=by omega
 have n8:=zI b5;have m8:=Kh (zB (a4.out.grown p4.out (fun k hk=>.inr (j2.out.ge k hk).1)) a7 (by simp));have h0:Hid (ExSt W.heap.size W w3 oN o2 (fun _=>False) (fun _=>False) k [S] (exF d [S] 0) (exT d k [S] 0) [] sa2 sc2 mv2 none 0 none 0):=Kh ⟨c2.out.kept a7 (by simp),fun _ _ h=>h,fun _ h=>h,fun _ h=>h.elim,b5,World.ownsRow_nil _ _ _ _,World.ownsRow_nil _ _ _ _,uF.nil,b0,⟨Nat.le_refl _,by omega⟩,m8.out⟩
 have p3:=Kh e8;have m1:=Kh d7;have c4:=Kh (zA (a4.out.heap h2.out (fun h=>by
  rcases h with h|h|h
  ·omega
  ·simp[Value.ownBlock]at h
  ·simp at h)) a7 (by simp))
 have H9:o0≠o2:=by omega
 have k5:o0<w3.heap.size:=by omega
 clear a7 b5 d7 e8;rw[<- p3.out,<- m1.out]
 go_loopg [13,14,15,16] n (fun gh i a14 a15 a16 wr=>∃ (q:Nat) (l:List Nat) (hs:List Value) (X:Nat->Prop) (sa:Option Addr) (sc:Nat) (mv:Option Nat) (sf:Option Addr) (cf:Nat) (sn:Option Addr) (cn:Nat),gh+q=n/\i=.int .i64 q/\q<=l.length/\ExL d n k q l/\wr.heap[o0]?=some (.cells #[.int .i64 0,.int .i64 0,.slice none 0 0,.slice none 0 0] 42 (0,0))/\ExSt W.heap.size W wr oN o2 X X k l (exF d l q) (exT d k l q) hs sa sc mv sf cf sn cn)
 case atStart=>exact⟨0,[S],[],fun _=>False,sa2,sc2,mv2,none,0,none,0,rfl,rfl,by simp,by rw[HS.out];exact ExL.start HD.out,c4.out,h0.out⟩
 case round =>
  clear h0 c2 a4 h2 j2 m8 c4 m2 m1;obtain⟨q,l,hs,X,sa,sc,mv,sf,cf,sn,cn,b4,rfl,d9,a8,H3,h3⟩:=hrel;have m7:=Kh b4;have a9:=Kh a8;have h2:=Kh H3;have h0:=Kh h3;have q7:=a8.le;have p9:=h3.grown.size;obtain⟨c0,c1⟩:=vP h3.num.box;clear b4 a8 H3 h3;by_cases hk':q<l.length
  ·have f9:(q:Int)<l.length:=by omega
   obtain⟨lb,lo,lc,el,q8,k9,a6,k8⟩:=(Row.of_owns h0.out.num.own).some_ (by rw[zT];omega);rw[zT]at el k9;simp only[Value.slice.injEq]at el;obtain⟨rfl,_,rfl⟩:=el;have cq:=k8.nat q hk';obtain⟨s,c7⟩:∃ s,s=l.getD q 0:=⟨_,rfl⟩;have c6:s<n:=(by rw[c7,zG hk'];exact a9.out.acc.lt _ (List.getElem_mem hk'));rw[<- c7]at cq;have b8:=Kh c7;clear k8 c7;go_wp2_with (first|(at_make;refine nD rfl _ _ _ rfl yP rfl .i64 .i64 _ _ k rfl rfl rfl rfl ?b1 ?b2 ?_)|fail)
   case b1=>omega
   case b2=>unfold maxLen;omega
   intro w4 h6 i0 f7;obtain⟨g,hg⟩:∃ g,g=wr.heap.size:=⟨_,rfl⟩;rw[<- hg]at h6 ⊢;have n2:Hid (Arr w4 g 3 (nats (nW d k s 0))):=Kh (by rw[exRow_zero,yV];exact h6);have m3:=Kh (h0.out.fresh i0 (g:=g) (by omega) (by omega));have n1:=Kh (zA h2.out i0 (by simp));have l7:¬ X g:=fun hx=>by have:=h0.out.lt g hx;omega
   have o8:=Kh l7;have o6:W.heap.size<=g:=by omega
   have o5:o0<g:=(by have:=zI h2.out;omega);have k2:=fun x (hx:x<=k)=>a9.out.rowLen HD.out hk' hx;have j0:=Kh k2;clear h6 i0 l7 f7 hg k2 h0 h2 c0 c1 cq;go_wp2_with fail
   go_loopg [16,37] k (fun gh a16 i wr=>∃ (x:Nat) (sa:Option Addr) (sc:Nat) (mv:Option Nat),gh+x=k/\i=.int .i64 x/\Arr wr g 3 (nats (nW d k s x))/\wr.heap[o0]?=some (.cells #[.int .i64 0,.int .i64 0,.slice none 0 0,.slice none 0 0] 42 (0,0))/\ExSt W.heap.size W wr oN o2 X (fun j=>X j\/j=g) k (wV d l q x) (exF d l q) (exT d k l q) hs sa sc mv sf cf sn cn)
   case atStart=>exact⟨0,_,_,_,rfl,rfl,n2.out,n1.out,m3.out⟩
   case round =>
    clear n2 m3 n1 k9 a6;obtain⟨x,sa,sc,mv,b4,rfl,h6,H3,h3⟩:=hrel;have c3:=Kh b4;have j6:=Kh h6;have h2:=Kh H3;have h0:=Kh h3;have p8:=h3.grown.size;have q6:=h3.loB.2;clear b4 h6 H3 h3;by_cases hx':x<k
    ·have d6:(x:Int)<k:=by omega
     have d4:=Kh (HT.out.grow h0.out.grown);have k7:=j0.out x (by omega);have f6:=qC HD.out c6 hx';go_wp2_with fail;refine(trim1_any d4.out c6 hx').mono ?_;rintro e w5 ⟨rfl,rfl⟩;obtain⟨y,hy⟩:∃ y,y=nx d s x:=⟨_,rfl⟩;rw[<- hy]at f6 ⊢;have HY:=Kh hy;clear hy;go_wp2_with fail;refine(qBX W.heap.size wr oN sa sc mv (wV d l q x) y h0.out.num (by omega) (by omega) (by omega)).mono ?_;rintro e w5 ⟨sa5,sc5,mv5,rfl,H0,h4,b3⟩;have e5:xP (wV d l q x) y=wV d l q (x+1):=by rw[HY.out,b8.out];rfl
     have e6:(wV d l q (x+1)).idxOf y=(zX d k).idxOf y:=by rw[HY.out,b8.out];exact a9.out.idx HD.out hk' hx'
     rw[e5]at H0;rw[e5,e6];have q0:=h4.size;have b6:=j6.out.but h4 (fun hf=>h0.out.sep g hf (.inr rfl))
     have l5:=h4.heap h2.out (fun hf=>by
      rcases hf with e|e|e
      ·omega
      ·rw[<- zV sa (wV d l q x).length sc]at e
       exact zS h0.out.num.own h2.out (by decide) e
      ·rcases h0.out.num.map with ⟨e2,_⟩|⟨mb,e2,_,_,_,_,hm⟩
       ·rw[e2]at e;cases e
       ·rw[e2]at e
        have:=Oj e;subst this;obtain⟨es,cl,hm⟩:=hm.obj
        rw[h2.out]at hm;simp at hm)
     have k0:=h0.out.num_step H0 h4 b3;have cg:=b6.nat x (by rw[nV (by omega)];exact hx');have fg:=b6.frozen x;have H8:=b6.nat_set x (by rw[nV (by omega)];exact hx') ((zX d k).idxOf y);have a8:(nW d k s x).set x ((zX d k).idxOf y)=nW d k s (x+1):=by rw[HY.out];exact exRow_set hx'
     rw[a8]at H8;have b9:=Kh H8;have p6:=Kh l5;have p7:=Kh b6;have p0:=Kh k0;have q4:(nats (nW d k s x)).length=k:=by rw[zT,nV (by omega)]
     obtain⟨I,hI⟩:∃ I,I=(zX d k).idxOf y:=⟨_,rfl⟩;rw[<- hI]at b9 ⊢;clear e5 e6 H0 h4 b3 b6 l5 k0 H8 a8 hI;go_wp2_with fail;go_roundg (k - (x+1))
     case measure=>have:=c3.out;omega
     case rel =>
      obtain⟨cur,rest,i3,_⟩:=p7.out;have l0:=zC w5 ⟨g,x,none⟩ (.int .i64 (I:Int));exact⟨x+1,sa5,sc5,mv5,by omega,by go_num,b9.out,zA p6.out l0 (fun e=>by have e:g=o0:=Oj e;omega),p0.out.put l0 i3 (.inr rfl) o8.out o6⟩
    ·have n4:x=k:=by have:=c3.out;omega
     subst n4;have d6:¬ (x:Int)<x:=(by omega);obtain⟨m,hm⟩:∃ m,m=wV d l q x:=⟨_,rfl⟩;have k7:=j0.out x (by omega);have m0:=Kh (a9.out.next HD.out hk')
     have o4:q<m.length:=by
      have:=(uS d l q x).length_le;rw[hm];omega
     have j1:=Kh (uS d l q x);rw[<- hm]at m0 j1 h0 k7;have HM:=Kh hm;clear hm;obtain⟨c0,c1⟩:=vP h0.out.num.box;obtain⟨d0,d1,d2,d3⟩:=zF h0.out.box;have f3:=zE h0.out.box 3;have q5:¬ ((512:Int)<m.length):=by omega
     have H4:Hid (RowX (fun j=>X j\/(X j\/j=g)) 3 wr (.slice (some ⟨g,0,none⟩) x x) (ints (xQ (zX d x) (d.next.getD s [])))):=Kh (by
      have e:=exRow_full HD.out (q:=s) (fun a ha=>by rw[b8.out];exact a9.out.done_mem HD.out hk' ha) c6;have h9:=RowX.of_arr (X:=fun j=>X j\/(X j\/j=g)) j6.out (by rw[zT,nV (Nat.le_refl x)]) (by unfold maxLen;omega) (.inr (.inr rfl));rw[show nats (nW d x s x)=ints (zl (nW d x s x)) by simp[nats,ints,zl],e]at h9
      exact h9)
     go_wp2_with (first|(at_builtin;refine qDH rfl _ _ _ rfl uP o2 (.slice sn (exT d x l q).length cn) (exT d x l q).length hs rfl h0.out.ownN (.slice (some ⟨g,0,none⟩) x x) rfl rfl ?a1 ?a2 ?a3 ?_;(case a1=>(unfold maxLen;rw[qDR d9];omega));(case a2=>(rw[qDR d9];omega));(case a3=>exact Nat.le_of_lt (zI h0.out.box));intro sn6 cn6 w6 H6 c9 n3 f4;(have i7:=zA h0.out.box c9 (zS h0.out.ownN h0.out.box (by decide)));(obtain⟨e0,e1,e2,e3⟩:=zF i7);(have fz6:=zE i7 3))|fail);have h8:=Kh (h0.out.pushN rfl H6 c9 H4.out rfl);obtain⟨wo,c5⟩:∃ W7,W7=w6.setCell ⟨o2,3,none⟩ (.slice sn6 ((exT d x l q).length+1) cn6):=⟨_,rfl⟩;rw[<- c5]at h8 ⊢;have o9:=Kh c5
     have j5:Hid (wo.heap[o0]?=some (.cells #[.int .i64 0,.int .i64 0,.slice none 0 0,.slice none 0 0] 42 (0,0))):=Kh (by
      rw[c5]
      exact zA (zA h2.out c9 (zS h0.out.ownN h2.out (by decide))) (zC w6 ⟨o2,3,none⟩ _) (fun e=>H9 (Oj e).symm))
     have d4:=Kh (HT.out.grow h8.out.grown);obtain⟨d0,d1,d2,d3⟩:=zF h8.out.box;have fz2:=zE h8.out.box 2;have m6:Hid (∀ w',wo.grownBy w' none->w'.ownsRow o2 4 1 (.slice sf (exF d l q).length cf) (exF d l q).length (bls (exF d l q))/\o2<=w'.heap.size):=Kh (fun w' hg=>⟨zQ h8.out.ownF hg,Nat.le_of_lt (Nat.lt_of_lt_of_le (zI h8.out.box) hg.size)⟩)
     have p5:Hid (∀ w7 w',wo.grownBy w7 none->w7.grownBy w' (Value.slice sf (exF d l q).length cf).ownBlock->w'.frozen? ⟨o2,2,none⟩=false/\w'.cell? ⟨o2,2,none⟩=some (.slice sf (exF d l q).length cf)):=Kh (fun w7 w' h7 hg=>by
      have hb:=zA (zA h8.out.box h7 (by simp)) hg (zS h8.out.ownF h8.out.box (by decide))
      exact⟨zE hb 2,(zF hb).2.2.1⟩)
     have j4:=Kh (qHC (d:=d) d9);have k4:=zI h8.out.box;obtain⟨bf,i5⟩:∃ bf,bf=d.final.getD s false:=⟨_,rfl⟩;have n0:=Kh i5;have m9:Hid (∀ w',wo.grownBy w' none->Calls Try.prog 123 #[.int .i64 (s:Int),.pointer (some ⟨P,0,none⟩)] w' fun e w''=>e=.returned (.bool bf)/\w'=w''):=Kh (fun w' hg=>by rw[i5];exact trim2_any (d4.out.grow hg) c6);clear i5;clear c5 n3 f4 H6 c9 i7 e0 e1 e2 e3 fz6
     have H7:Hid (∀ (W1 w':World) (sf':Option Addr) (cf':Nat),w'.ownsRow o2 4 1 (.slice sf' ((exF d l q).length+1) cf') ((exF d l q).length+1) (bls (exF d l q)++[.bool bf])->W1.grownBy w' (Value.slice sf (exF d l q).length cf).ownBlock->wo.grownBy W1 none ->
       (∃ (hs:List Value) (X:Nat->Prop) (sa:Option Addr) (sc:Nat) (mv:Option Nat) (sn:Option Addr) (cn:Nat),ExSt W.heap.size W (w'.setCell ⟨o2,2,none⟩ (.slice sf' ((exF d l q).length+1) cf')) oN o2 X X x m (exF d m (q+1)) (exT d x m (q+1)) hs sa sc mv sf' cf' sn cn) /\
       (w'.setCell ⟨o2,2,none⟩ (.slice sf' ((exF d l q).length+1) cf')).heap[o0]?=some (.cells #[.int .i64 0,.int .i64 0,.slice none 0 0,.slice none 0 0] 42 (0,0))/\w'.frozen? ⟨o2,2,none⟩=false/\w'.cell? ⟨o2,2,none⟩=some (.slice sf (exF d l q).length cf)):=Kh (fun W1 w' sf' cf' ho hg h1=>by
      have b7:=h8.out.grow h1;have l6:=zA b7.box hg (zS b7.ownF b7.box (by decide));have hp:=b7.pushF (b:=bf) rfl ho hg rfl;have eF:exF d l q++[bf]=exF d m (q+1):=by rw[exF_next j1.out hk',<- b8.out,<- n0.out]
      have eT:exT d x l q++[xQ (zX d x) (d.next.getD s [])]=exT d x m (q+1):=by rw[exT_next j1.out hk',<- b8.out]
      rw[eF,eT]at hp
      exact⟨⟨_,_,_,_,_,_,_,hp⟩,zA (zA (zA j5.out h1 (by simp)) hg (zS b7.ownF (zA j5.out h1 (by simp)) (by decide))) (zC w' ⟨o2,2,none⟩ _) (fun e=>H9 (Oj e).symm),zE l6 2,(zF l6).2.2.1⟩)
     have j3:Hid (∀ W1:World,wo.grownBy W1 none->W1.ownsRow o2 4 1 (.slice sf (exF d l q).length cf) (exF d l q).length (bls (exF d l q))/\o2<=W1.heap.size):=m6;clear m6 p5
     go_region_law (first|(go_simp;go_at_call 123;refine(m9.out _ (by first|exact zP wo none|exact zN wo _ none)).mono ?_;rintro e w' ⟨rfl,rfl⟩)|(refine qBD ?g1 (.tmp 61) (.tmp 65) 39 ?g2 wU o2 (.slice sf (exF d l q).length cf) (exF d l q).length (bls (exF d l q)) ?g3 ?g4 (.bool bf) wo.heap.size (0,0) ?g5 ?g6 ?g7 ?g8 ?g9 ?g10 ?_;(case g1=>rfl);(case g2=>rfl);(case g3=>rfl);(case g4=>(refine(j3.out _ ?_).1;exact vC (o:=.cells #[.bool bf] 4) rfl rfl rfl rfl));(case g5=>rfl);(case g6=>exact heap_alloc_new (wo.drew) _);(case g7=>rfl);(case g8=>(rw[j4.out];unfold maxLen;omega));(case g9=>(rw[j4.out];omega));(case g10=>(refine(j3.out _ ?_).2;exact vC (o:=.cells #[.bool bf] 4) rfl rfl rfl rfl));intro sf8 cf8 w8 H5 l1;have c8:=H7.out _ _ _ _ H5 l1 (vC (o:=.cells #[.bool bf] 4) rfl rfl rfl rfl);have i1:=c8.2.2.1;have i2:=c8.2.2.2;have m5:=Kh c8;clear c8 H5 l1)|fail)
     all_goals
      clear H7 j3 m9 j5 n0 o9 d4 h8 d0 d1 d2 d3 fz2 i1 i2 j4 j0 H4 j6 h2;obtain⟨w9,j9⟩:∃ W9,W9=w8.setCell ⟨o2,2,none⟩ (.slice sf8 ((exF d l q).length+1) cf8):=⟨_,rfl⟩;rw[<- j9]at m5 ⊢;clear j9;go_wp2;go_roundg (n - (q+1))
      case measure=>have:=m7.out;omega
      case rel =>
       obtain⟨⟨n5,X9,sa9,sc9,mv9,sn9,cn9,d8⟩,i9,_,_⟩:=m5.out;exact⟨q+1,m,n5,X9,sa9,sc9,mv9,sf8,cf8,sn9,cn9,by have:=m7.out;omega,by go_num,o4,m0.out,i9,d8⟩
  ·have f9:¬ (q:Int)<l.length:=by omega
   have d5:=Kh (a9.out.done hk');have m4:Hid (q=l.length):=Kh (by omega);obtain⟨d0,d1,d2,d3⟩:=zF h0.out.box;obtain⟨e0,e1,e2,e3⟩:=zF h2.out;have f0:=zE h2.out 0;have f1:=zE h2.out 1;have f2:=zE h2.out 2;have f3:=zE h2.out 3;go_wp2_with fail;obtain⟨c0,c1⟩:=vP h0.out.num.box;have o3:o0≠oN:=by omega
   go_region
   all_goals (try go_frame)
   all_goals go_wp2
   obtain⟨i4,g0⟩:=xI h2.out (.int .i64 (k:Int)) (.int .i64 0) (.slice sf (exF d l q).length cf) (.slice sn (exT d k l q).length cn);obtain⟨wz,j7⟩:∃ wz,wz=(((wr.setCell ⟨o0,0,none⟩ (.int .i64 (k:Int))).setCell ⟨o0,1,none⟩ (.int .i64 0)).setCell ⟨o0,2,none⟩ (.slice sf (exF d l q).length cf)).setCell ⟨o0,3,none⟩ (.slice sn (exT d k l q).length cn):=⟨_,rfl⟩;rw[<- j7]at i4 g0 ⊢;clear j7;have a0:=zB (row:=some o0) g0 (zP wz none) (by simp);have l4:wz.drew.heap[o0]?=some (.cells #[.int .i64 (k:Int),.int .i64 0,.slice sf (exF d l q).length cf,.slice sn (exT d k l q).length cn] 42 (0,0)):=i4;obtain⟨wf,j8⟩:∃ wf,wf=wz.drew:=⟨_,rfl⟩;rw[<- j8]at a0 l4 ⊢;obtain⟨r0,r1,r2,r3⟩:=zF l4;clear j8 i4 g0;refine bodyPost_ret (v:=.tuple #[.agg #[.int .i64 (k:Int),.int .i64 0,.slice sf (exF d l q).length cf,.slice sn (exT d k l q).length cn],.slice sa l.length sc,.int .i64 0]) (by simp[results,Try.results121,go_sem,r0,r1,r2,r3]) rfl ?_
   have eF:exF d l q=(xT d k).final:=by
    rw[exF,m4.out,List.take_length,d5.out];rfl
   have eT:exT d k l q=(xT d k).next:=by
    rw[exT,m4.out,List.take_length,d5.out];rfl
   have h3:=h0.out;have o7:W.grownBy wf none:=zB h3.grown a0 (fun k e=>by have e:o0=k:=Oj e;omega);have e4:yF wr 3 o0:=⟨_,_,_,h2.out,by decide⟩;have f8:(exF d l q).length=(exT d k l q).length:=by rw[qHC (by omega),qDR (by omega)]
   have i8:=zA h3.box a0 (fun e=>H9 (Oj e));have l9:=h3.ownF.kept a0 (.inr (zS h3.ownF h2.out (by decide)));have l8:=h3.ownN.kept a0 (.inr (zS h3.ownN h2.out (by decide)));have k3:=(h3.rows.keptT a0 (fun k e=>by have e:o0=k:=Oj e;subst e;exact e4)).rowsT;have a6:=h3.num.own.kept a0 (.inr (zS h3.num.own h2.out (by decide)));have l3:(xT d k).letters=k:=HD.out.hk;rw[eF]at f8 i8 l9 ⊢;rw[eT]at f8 i8 l8 k3 ⊢;refine⟨_,sa,sc,by rw[<- d5.out],?_,by rw[<- d5.out];exact a6,o7⟩;exact⟨o2,hs,sf,cf,sn,cn,by rw[l3];rfl,b0,by rw[l3];exact i8,l9,l8,k3,f8⟩
end Go.Proofs.Ytjfdomfendbhfaa
namespace Go.Proofs.Ytjfdomfendbhfaa
open Go.RowKit
structure BX (W0 W:World)(o:Nat)(X:Nat->Prop)(k:Nat)(fs:List Bool)(t:List (List Int))(hs:List Value)(sf:Option Addr)(cf:Nat)(sn:Option Addr)(cn:Nat):Prop where
 lt:∀ j,X j->j<W.heap.size
 box:W.heap[o]?=some (.cells #[.int .i64 (k:Int),.int .i64 0,.slice sf fs.length cf,.slice sn t.length cn] 42 (0,0))
 ownF:W.ownsRow o 4 1 (.slice sf fs.length cf) fs.length (bls fs)
 ownN:W.ownsRow o 34 1 (.slice sn t.length cn) t.length hs
 rows:uF X 3 ints W hs t
 lo:W0.heap.size<=o
 grown:W0.grownBy W none
section
variable {W0 W W':World} {o k:Nat} {X:Nat->Prop} {fs:List Bool} {t:List (List Int)} {hs:List Value} {sf:Option Addr} {cf:Nat} {sn:Option Addr} {cn:Nat}
theorem BX.start {w:World}{o k:Nat}(hb:w.heap[o]?=some (.cells #[.int .i64 (k:Int),.int .i64 0,.slice none 0 0,.slice none 0 0] 42 (0,0)))(h0:W0.heap.size<=o)(hg:W0.grownBy w none):BX W0 w o (fun _=>False) k [] [] [] none 0 none 0 :=
 ⟨fun _ h=>h.elim,hb,World.ownsRow_nil _ _ _ _,World.ownsRow_nil _ _ _ _,uF.nil,h0,hg⟩
theorem BX.grow (h:BX W0 W o X k fs t hs sf cf sn cn)(hg:W.grownBy W' none):BX W0 W' o X k fs t hs sf cf sn cn where
 lt:=fun j hj=>Nat.lt_of_lt_of_le (h.lt j hj) hg.size
 box:=zA h.box hg (by simp)
 ownF:=zQ h.ownF hg
 ownN:=zQ h.ownN hg
 rows:=h.rows.keptT hg (by simp)
 lo:=h.lo
 grown:=zB h.grown hg (by simp)
theorem BX.put (h:BX W0 W o X k fs t hs sf cf sn cn){g:Nat}{c:Array Value}{m:Nat×Nat}(hg:W.grownBy W' (some g))(hc:W.heap[g]?=some (.cells c 3 m))(hX:¬ X g)(h0:W0.heap.size<=g):BX W0 W' o X k fs t hs sf cf sn cn where
 lt:=fun j hj=>Nat.lt_of_lt_of_le (h.lt j hj) hg.size
 box:=zA h.box hg (fun e=>by
  have:=Oj e
  subst this
  rw[h.box]at hc
  simp only[Option.some.injEq,Obj.cells.injEq]at hc
  exact absurd hc.2.1 (by decide))
 ownF:=h.ownF.kept hg (.inr (zS h.ownF hc (by decide)))
 ownN:=h.ownN.kept hg (.inr (zS h.ownN hc (by decide)))
 rows:=h.rows.kept (fun j hj=>hg.block j (h.lt j hj) (fun e=>by have:=Oj e;subst this;exact hX hj)) hg.size
 lo:=h.lo
 grown:=zB h.grown hg (fun j e=>by have:=Oj e;omega)
theorem BX.pushN (h:BX W0 W o X k fs t hs sf cf sn cn){m:Nat}(hm:t.length=m){rv:Value}{row:List Int}{sn':Option Addr}{cn':Nat}{Y:Nat->Prop}(hXY:∀ j,X j->Y j)(hY:∀ j,Y j->j<W.heap.size)(ho:W'.ownsRow o 34 1 (.slice sn' (m+1) cn') (m+1) (hs++[rv]))(hg:W.grownBy W' (Value.slice sn m cn).ownBlock)(hrow:RowX Y 3 W rv (ints row)){W2:World}(hW2:W2=W'.setCell ⟨o,3,none⟩ (.slice sn' (m+1) cn')):
  BX W0 W2 o Y k fs (t++[row]) (hs++[rv]) sf cf sn' cn':=by
 subst hm;have hb:=zA h.box hg (zS h.ownN h.box (by decide));have h0:=heap_setCell_same W' o 3 _ _ (.slice sn' (t.length+1) cn') hb;have g2:=zC W' ⟨o,3,none⟩ (.slice sn' (t.length+1) cn');rw[<- hW2]at h0 g2
 have h1:=h.ownF.kept hg (by
  rcases hv:(Value.slice sf fs.length cf).ownBlock with _|j
  ·exact .inl rfl
  ·refine .inr fun e=>?_
   obtain⟨cu,e',mm,hh,h5⟩:=yU (e':=34) h.ownF (by decide) j hv
   exact zS h.ownN hh (fun e2=>h5 e2.symm) e.symm)
 have h3:uF Y 3 ints W (hs++[rv]) (t++[row]):=(h.rows.mono hXY).snoc hrow;have h2:=h3.keptT hg (fun j e=>yU h.ownN (by decide) j e);have h4:yF W' 3 o:=⟨_,_,_,hb,by decide⟩;have hz:=hg.size;have h6:=g2.size
 exact⟨fun j hj=>by have:=hY j hj;omega,by rw[h0];simp,h1.kept g2 (.inr (zS h1 hb (by decide))),by
  rw[List.length_append]
  exact ho.kept g2 (.inr (zS ho hb (by decide))),h2.keptT g2 (fun j e=>by have:=Oj e;subst this;exact h4),h.lo,zB (zB h.grown hg (fun j e=>Nat.le_trans h.lo (h.ownN.lt j e).1)) g2 (fun j e=>by have e:o=j:=Oj e;have:=h.lo;omega)⟩
theorem BX.pushF (h:BX W0 W o X k fs t hs sf cf sn cn){m:Nat}(hm:fs.length=m){b:Bool}{sf':Option Addr}{cf':Nat}(ho:W'.ownsRow o 4 1 (.slice sf' (m+1) cf') (m+1) (bls fs++[.bool b]))(hg:W.grownBy W' (Value.slice sf m cf).ownBlock){W2:World}(hW2:W2=W'.setCell ⟨o,2,none⟩ (.slice sf' (m+1) cf')):
  BX W0 W2 o X k (fs++[b]) t hs sf' cf' sn cn:=by
 subst hm;have hb:=zA h.box hg (zS h.ownF h.box (by decide));have h0:=heap_setCell_same W' o 2 _ _ (.slice sf' (fs.length+1) cf') hb;have g2:=zC W' ⟨o,2,none⟩ (.slice sf' (fs.length+1) cf');rw[<- hW2]at h0 g2
 have h1:=h.ownN.kept hg (by
  rcases hv:(Value.slice sn t.length cn).ownBlock with _|j
  ·exact .inl rfl
  ·refine .inr fun e=>?_
   obtain⟨cu,e',mm,hh,h4⟩:=yU (e':=4) h.ownN (by decide) j hv
   exact zS h.ownF hh (fun e2=>h4 e2.symm) e.symm)
 have h2:=h.rows.keptT hg (fun j e=>yU h.ownF (by decide) j e);have h3:yF W' 3 o:=⟨_,_,_,hb,by decide⟩;have hz:=hg.size;have h6:=g2.size;have h5:bls (fs++[b])=bls fs++[.bool b]:=by simp[bls]
 exact⟨fun j hj=>by have:=h.lt j hj;omega,by rw[h0];simp,by
  rw[List.length_append,h5]
  exact ho.kept g2 (.inr (zS ho hb (by decide))),h1.kept g2 (.inr (zS h1 hb (by decide))),h2.keptT g2 (fun j e=>by have:=Oj e;subst this;exact h3),h.lo,zB (zB h.grown hg (fun j e=>Nat.le_trans h.lo (h.ownF.lt j e).1)) g2 (fun j e=>by have e:o=j:=Oj e;have:=h.lo;omega)⟩
theorem BX.built (h:BX W0 W o X k fs t hs sf cf sn cn)(hl:fs.length=t.length):Built o W o k 0 fs t hs sf cf sn cn:=⟨h.box,h.ownF,h.ownN,h.rows.rowsT,hl⟩
end
def uW (d:DfaV)(p:List Nat)(q:Nat):List Bool:=(uV p q).map fun q=>d.final.getD q false
def sH (d:DfaV)(p:List Nat)(q:Nat):List (List Int):=(uV p q).map fun q=>wT p (d.next.getD q [])
theorem quotFs_new {d:DfaV}{p:List Nat}{q:Nat}(h:p.getD q 0=cls (p.take q)):uW d p (q+1)=uW d p q++[d.final.getD q false]:=by
 rw[uW,vO h,List.map_append];rfl
theorem quotTs_new {d:DfaV}{p:List Nat}{q:Nat}(h:p.getD q 0=cls (p.take q)):sH d p (q+1)=sH d p q++[wT p (d.next.getD q [])]:=by
 rw[sH,vO h,List.map_append];rfl
theorem quotFs_old {d:DfaV}{p:List Nat}{q:Nat}(h:p.getD q 0≠cls (p.take q)):uW d p (q+1)=uW d p q:=by rw[uW,vN h];rfl
theorem quotTs_old {d:DfaV}{p:List Nat}{q:Nat}(h:p.getD q 0≠cls (p.take q)):sH d p (q+1)=sH d p q:=by rw[sH,vN h];rfl
theorem bB {d:DfaV}{p:List Nat}{q:Nat}(h:Norm p)(hq:q<=p.length):(uW d p q).length=cls (p.take q):=by rw[uW,List.length_map,wH h q hq]
theorem bA {d:DfaV}{p:List Nat}{q:Nat}(h:Norm p)(hq:q<=p.length):(sH d p q).length=cls (p.take q):=by rw[sH,List.length_map,wH h q hq]
theorem quot_full {d:DfaV}{p:List Nat}{q:Nat}(hq:q=p.length)(h0:p.getD (st0 d) 0=0):(⟨d.letters,0,uW d p q,sH d p q⟩:DfaV)=vE d p:=by
 rw[hq,vE,h0];rfl
theorem norm_zero {p:List Nat}(h:Norm p):p.getD 0 0=0:=by
 by_cases h0:0<p.length
 ·have:=(mS h h0).1
  rw[List.take_zero]at this;simpa [cls,yA] using this
 ·rw[List.getD,List.getElem?_eq_none (by omega)];rfl
theorem rP (B:Nat)(w:World)(v:Value)(d:DfaV)(hB:B<=w.heap.size)(h:uT B w v d):
  Calls Try.prog 55 #[v] w fun e w'=>e=.returned (.int .i64 (vS d))/\w.grownBy w' none:=by
 obtain⟨fv,nv,rfl,hf,hn⟩:=h;have a2:=hf.len_le;rw[xE]at a2;unfold maxLen at a2;have a5:=hn.len_le;unfold maxLen at a5;obtain⟨fa,fc,rfl⟩:=hf.shape;rw[xE]at hf ⊢;obtain⟨na,nc,rfl⟩:=hn.shape;have HN:=Kh hn;obtain⟨n,a0⟩:∃ n,n=d.final.length:=⟨_,rfl⟩;obtain⟨m,a1⟩:∃ m,m=d.next.length:=⟨_,rfl⟩;obtain⟨L,hL⟩:∃ L,L=d.letters:=⟨_,rfl⟩;obtain⟨S,hS⟩:∃ S,S=d.start:=⟨_,rfl⟩;rw[<- a0]at a2 ⊢;rw[<- a1]at a5 HN ⊢;rw[<- hL,<- hS];have H0:=Kh a0;have H1:=Kh a1;have H8:=Kh hL;have b0:=Kh hS;clear hf hn a0 a1 hL hS;obtain⟨wA,H6⟩:∃ wA,wA=w.alloc (.cells #[.int .i64 L,.int .i64 S,.slice fa n fc,.slice na m nc] 42):=⟨_,rfl⟩;have h3:wA.heap[w.heap.size]?=some (.cells #[.int .i64 L,.int .i64 S,.slice fa n fc,.slice na m nc] 42 (0,0)):=by rw[H6];exact heap_alloc_new w _
 have a7:w.grownBy wA none:=by rw[H6];exact Ga w _ none
 have c0:=zJ h3 0 (by simp);have c1:=zJ h3 1 (by simp);have c2:=zJ h3 2 (by simp);have c3:=zJ h3 3 (by simp);simp only[List.getElem_toArray,List.getElem_cons_zero,List.getElem_cons_succ]at c0 c1 c2 c3;have h4:=Kh a7;have h9:=Kh H6;clear h3 a7 H6;by_cases hl:L<1\/6<L
 ·have HE:=Kh (validD_letters (d:=d) (by rw[<- H8.out];exact hl))
  by_cases h1:L<1
  ·clear hl
   go_enter Try.func55,Try.ntmps55;go_upto_region 1 with fail;rw[<- h9.out];go_wp2;go_ret;exact⟨yC HE.out.symm,h4.out⟩
  ·have h6:6<L:=by omega
   clear hl;go_enter Try.func55,Try.ntmps55;go_upto_region 1 with fail;rw[<- h9.out];go_wp2;go_ret;exact⟨yC HE.out.symm,h4.out⟩
 ·have c7:1<=L:=by omega
  have c6:L<=6:=by omega
  have H2:Hid (¬ (d.letters<1\/6<d.letters)):=Kh (by rw[<- H8.out];exact hl);clear hl;by_cases h5:512<n
  ·have HE:=Kh (validD_big H2.out (by rw[<- H0.out];exact h5))
   go_enter Try.func55,Try.ntmps55;go_upto_region 1 with fail;rw[<- h9.out];go_wp2;go_ret;exact⟨yC HE.out.symm,h4.out⟩
  ·have H5:Hid (¬ 512<d.final.length):=Kh (by rw[<- H0.out];exact h5)
   by_cases hsh:n=0\/m≠n\/S<0\/n<=S
   ·have HE:=Kh (validD_shape H2.out H5.out (by rw[<- H0.out,<- H1.out,<- b0.out];exact hsh))
    ·by_cases h8:m=n
     ·have e1:((m:Int) != n)=false:=by rw[h8];simp
      have b7:=Kh h8;by_cases hs:S<0
      ·clear hsh h8
       go_enter Try.func55,Try.ntmps55;go_upto_region 1 with fail;rw[<- h9.out];go_wp2;go_ret;exact⟨yC HE.out.symm,h4.out⟩
      ·have b1:(n:Int)<=S:=by omega
       clear hsh h8;go_enter Try.func55,Try.ntmps55;go_upto_region 1 with fail;rw[<- h9.out];go_wp2;go_ret;exact⟨yC HE.out.symm,h4.out⟩
     ·have e1:((m:Int) != n)=true:=by rw[bne_iff_ne];omega
      clear hsh;go_enter Try.func55,Try.ntmps55;go_upto_region 1 with fail;rw[<- h9.out];go_wp2;go_ret;exact⟨yC HE.out.symm,h4.out⟩
   ·have H7:Hid (¬ (d.final.length=0\/d.next.length≠d.final.length\/d.start<0\/d.final.length<=d.start)):=Kh (by rw[<- H0.out,<- H1.out,<- b0.out];exact hsh)
    have h0:0<n:=(by omega);have e0:((n:Int) == 0)=false:=by rw[beq_eq_false_iff_ne];omega
    have h8:m=n:=by omega
    have e1:((m:Int) != n)=false:=by rw[h8];simp
    have c4:0<=S:=by omega
    have b1:S<n:=(by omega);have b2:0<m:=(by omega);have a9:Mat B wA (.slice na m nc) d.next:=HN.out.kept h4.out (by simp);obtain⟨b,off,cap,A,C,e,b6,b5,a6⟩:=a9.some_ (by rw[<- H1.out];exact b2);simp only[Value.slice.injEq]at e;obtain⟨rfl,-,rfl⟩:=e;rw[<- H1.out]at b6;have c5:nc<=9223372036854775807:=by unfold maxLen at b5;omega
    have HM:=Kh a6;have b7:=Kh h8;clear hsh h8 a9 a6;go_enter Try.func55,Try.ntmps55;go_upto_region 1 with fail;rw[<- h9.out];go_wp2
    go_loopg [40] m (fun g i wr=>∃ k:Nat,g+k=m/\i=.int .i64 k/\DRows d k/\wA=wr)
    case atStart=>exact⟨0,rfl,rfl,fun x hx=>absurd hx (by omega),rfl⟩
    case round =>
     obtain⟨k,hg,rfl,H3,rfl⟩:=hrel;have OK:=Kh H3;have HG:=Kh hg;clear H3 hg;by_cases hk:k<m
     ·have H4:k<d.next.length:=by rw[<- H1.out];exact hk
      have a8:=HM.out.hd k H4;have h7:=HM.out.row k H4;have H9:=h7.len_le;rw[yE]at H9;unfold maxLen at H9;obtain⟨r,hr⟩:∃ r,r=d.next.getD k []:=⟨_,rfl⟩;rw[<- hr]at a8 h7 H9;have HR:=Kh hr;have a3:=Kh H4;clear hr H4;by_cases hlr:(r.length:Int)=L
      ·have b8:=Kh hlr
       have b3:((r.length:Int) != L)=false:=by rw[hlr];simp
       obtain⟨rb,ro,rc,e,hb,h1,h2,a4⟩:=h7.some_ (by rw[yE];omega);simp only[Value.slice.injEq]at e;obtain⟨eA,-,rfl⟩:=e;rw[eA]at a8;rw[yE]at h1;have HA:=Kh eA;have RA:=Kh a4;clear eA a4 hlr h7;go_wp2
       go_loopg [51] r.length (fun g j wr'=>∃ y:Nat,g+y=r.length/\j=.int .i64 y/\EntsOk n r y/\wA=wr')
       case atStart=>exact⟨0,rfl,rfl,fun x hx=>absurd hx (by omega),rfl⟩
       case round =>
        obtain⟨y,hg,rfl,H3,rfl⟩:=hrel;have OKY:=Kh H3;have b9:=Kh hg;clear H3 hg;by_cases hy:y<r.length
        ·have b4:=RA.out.int y hy
         obtain⟨z,hz⟩:∃ z,z=r.getD y 0:=⟨_,rfl⟩;rw[<- hz]at b4;have HZ:=Kh hz;clear hz;by_cases hb1:z<0
         ·have HE:=Kh (jU H2.out H5.out H7.out a3.out (by rw[<- HR.out];exact qEM (y:=y) hy (by rw[<- HZ.out];exact .inl hb1)))
          go_wp2;go_ret;exact⟨yC HE.out.symm,h4.out⟩
         ·by_cases hb2:(n:Int)<=z
          ·have HE:=Kh (jU H2.out H5.out H7.out a3.out (by rw[<- HR.out];exact qEM (y:=y) hy (by rw[<- HZ.out,<- H0.out];exact .inr hb2)))
           go_wp2;go_ret;exact⟨yC HE.out.symm,h4.out⟩
          ·go_wp2
           go_roundg (r.length - (y+1))
           case measure=>have:=b9.out;omega
           case rel =>
            refine⟨y+1,by omega,by go_num,fun x hx=>?_,rfl⟩;rcases Nat.lt_succ_iff_lt_or_eq.1 hx with hx|rfl
            ·exact OKY.out x hx
            ·rw[<- HZ.out];omega
        ·go_wp2
         go_roundg (m - (k+1))
         case measure=>have:=HG.out;omega
         case rel =>
          refine⟨k+1,by omega,by go_num,fun x hx=>?_,rfl⟩;rcases Nat.lt_succ_iff_lt_or_eq.1 hx with hx|rfl
          ·exact OK.out x hx
          ·rw[<- HR.out,mJ,<- H0.out,<- H8.out]
           exact⟨b8.out,fun z hz=>OKY.out z (by omega)⟩
      ·have b3:((r.length:Int) != L)=true:=by rw[bne_iff_ne];exact hlr
       have HE:=Kh (jU H2.out H5.out H7.out a3.out (by rw[<- HR.out];exact rowD_len (by rw[<- H8.out];exact hlr)));clear hlr;go_wp2;go_ret;exact⟨yC HE.out.symm,h4.out⟩
     ·have HE:=Kh (validD_ok H2.out H5.out H7.out (fun q hq=>OK.out q (by have:=H1.out;omega)))
      go_wp2;go_ret;exact⟨yC HE.out.symm,h4.out⟩
def tI (n:Nat)(l:List Nat):List Int:=(List.range n).map fun q=>rI l q
theorem vF (n:Nat)(l:List Nat):(tI n l).length=n:=by simp[tI]
theorem bK {n:Nat}{l:List Nat}{q:Nat}(h:q<n):(tI n l).getD q 0=rI l q:=by
 rw[zG (by rw[vF];exact h)];simp[tI]
theorem bJ (n:Nat):tI n []=List.replicate n (-1):=by
 refine List.ext_getElem (by simp[tI]) fun i h1 h2=>by simp[tI,rI]
theorem bI {n:Nat}{l:List Nat}{q:Nat}(hq:q ∉ l):(tI n l).set q (l.length:Int)=tI n (l++[q]):=by
 refine List.ext_getElem (by simp[tI]) fun i h1 h2=>?_;rw[List.getElem_set];simp only[tI,List.getElem_map,List.getElem_range,rI];by_cases e:q=i
 ·subst e
  rw[if_pos rfl,if_pos (by simp),List.idxOf_append,if_neg hq];simp
 ·rw[if_neg e]
  by_cases hi:i∈l
  ·rw[if_pos hi,if_pos (by simp[hi]),List.idxOf_append,if_pos hi]
  ·rw[if_neg hi,if_neg (by simp[hi,Ne.symm e])]
def iE (n k:Nat):List Int:=List.replicate k (-1)++List.replicate (n - k) 0
theorem pC {n k:Nat}(h:k<=n):(iE n k).length=n:=by simp[iE];omega
theorem qCY {n k:Nat}(h:k<n):(iE n k).set k (-1)=iE n (k+1):=by
 unfold iE;rw[List.set_append_right _ _ (by simp),List.length_replicate,Nat.sub_self,show n - k=(n - (k+1))+1 by omega,List.replicate_succ,List.set_cons_zero,List.replicate_succ',List.append_assoc];rfl
def TrimOk (w:World)(m:DfaV)(e:Ending)(w':World):Prop:=∃ v p,e=.returned (.tuple #[v,p])/\sI w w' v m/\w.grownBy w' none
def oV (d:DfaV)(l:List Nat)(i:Nat):List Bool:=(l.take i).map fun q=>d.final.getD q false
def oU (d:DfaV)(l:List Nat)(i:Nat):List (List Int):=(l.take i).map fun q=>xQ l (d.next.getD q [])
theorem trimFs_succ {d:DfaV}{l:List Nat}{i:Nat}(h:i<l.length):oV d l (i+1)=oV d l i++[d.final.getD (l.getD i 0) false]:=by
 simp only[oV,zR (d:=0) h,List.map_append,List.map_cons,List.map_nil]
theorem trimTs_succ {d:DfaV}{l:List Nat}{i:Nat}(h:i<l.length):oU d l (i+1)=oU d l i++[xQ l (d.next.getD (l.getD i 0) [])]:=by
 simp only[oU,zR (d:=0) h,List.map_append,List.map_cons,List.map_nil]
theorem trimFs_length {d:DfaV}{l:List Nat}{i:Nat}(h:i<=l.length):(oV d l i).length=i:=by simp[oV];omega
theorem trimTs_length {d:DfaV}{l:List Nat}{i:Nat}(h:i<=l.length):(oU d l i).length=i:=by simp[oU];omega
theorem trimRow_get {d:DfaV}{n k:Nat}(hd:VD d n k){l:List Nat}{q a:Nat}(hq:q<n)(ha:a<k):(xQ l (d.next.getD q [])).getD a 0=rI l (nx d q a):=by
 rw[xQ,uY (x:=0) (by rw[hd.row q hq];exact ha)];rfl
theorem lH {d:DfaV}{n k:Nat}(hd:VD d n k){l:List Nat}{q:Nat}(hq:q<n):(xQ l (d.next.getD q [])).length=k:=by rw[xQ,List.length_map,hd.row q hq]
theorem qCL (l:List Int)(x:Int):ints (l++[x])=ints l++[.int .i64 x]:=by simp[ints]
theorem trim_any (B:Nat)(w:World)(v:Value)(d:DfaV)(n k:Nat)(hB:B<=w.heap.size)(h:uT B w v d)(hd:VD d n k):
  Calls Try.prog 82 #[v] w (TrimOk w (xT d k)):=by
 have c6:=h;obtain⟨fb,fo,fc,b,off,cap,RB,RO,RC,rfl,d6⟩:=h.at hd;have hn:=hd.hn;have o5:=hd.n1;have j9:=hd.nbig;have p0:=hd.k6;have p1:=hd.k1;have p5:=d6.fcap.1;have e8:=d6.fcap.2;have p6:=d6.cap.1;have e9:=d6.cap.2;have m6:fc<=9223372036854775807:=by unfold maxLen at e8;omega
 have m5:cap<=9223372036854775807:=by unfold maxLen at e9;omega
 obtain⟨S,hS⟩:∃ S,S=st0 d:=⟨_,rfl⟩;have q7:=Kh hS;have j3:dAgg k (st0 d) fb fo fc b off cap n=.agg #[.int .i64 (k:Int),.int .i64 (S:Int),.slice (some ⟨fb,fo,none⟩) n fc,.slice (some ⟨b,off,none⟩) n cap]:=by rw[hS];rfl
 rw[j3]at c6 ⊢;obtain⟨f0,g1,e6,j2⟩:=rX w #[.int .i64 (k:Int),.int .i64 (S:Int),.slice (some ⟨fb,fo,none⟩) n fc,.slice (some ⟨b,off,none⟩) n cap] #[.int .i64 0,.int .i64 0,.slice none 0 0,.slice none 0 0] 42;obtain⟨wA,i3⟩:∃ wA,wA=(w.alloc (.cells #[.int .i64 (k:Int),.int .i64 (S:Int),.slice (some ⟨fb,fo,none⟩) n fc,.slice (some ⟨b,off,none⟩) n cap] 42)).alloc (.cells #[.int .i64 0,.int .i64 0,.slice none 0 0,.slice none 0 0] 42):=⟨_,rfl⟩;rw[<- i3]at f0 g1 e6 j2;obtain⟨c0,c1,c2,c3⟩:=zF f0;obtain⟨P,hP⟩:∃ P,P=w.heap.size:=⟨_,rfl⟩;have i5:=Kh hP;rw[<- hP]at f0 g1 c0 c1 c2 c3 j2 hB;have g6:=Kh f0;have n6:=Kh g1;have n4:=Kh e6;have n0:=Kh i3;have n7:=Kh (d6.kept e6 (by simp));have HN:=Kh hn;have HD:=Kh hd;have l7:=Kh (access_any B wA _ d n k (by omega) (c6.kept e6 (by simp)) hd);clear f0 g1 e6 i3 d6 hn hd h c6 j3 e8 e9 hS;go_enter Try.func82,Try.ntmps82;go_upto_region 1 with fail;rw[<- n0.out,<- i5.out];clear hP;go_wp2_with fail;refine l7.out.mono ?_;rintro e w1 ⟨sa,sc,vw,rfl,H2,g0⟩;obtain⟨a1,m8⟩:=xK HD.out;obtain⟨l,hl⟩:∃ l,l=zX d k:=⟨_,rfl⟩;have HL:=Kh hl;rw[<- hl]at H2 a1 m8 ⊢;have H4:=a1.hd.1;obtain⟨gl,rfl,o9,o8,f1⟩:=wQ H2 H4;have p3:=(H2.lt gl rfl).1;have j1:=Kh f1;have d8:=Kh g0;have d4:=Kh a1;have n9:=g0.size;obtain⟨d0,d1,d2,d3⟩:=zF (zA g6.out g0 (by simp));clear hl H2 f1 g0 a1 l7 c0 c1 c2 c3;go_wp2_with (first|(at_make;refine nD rfl _ _ _ rfl yP rfl .i64 .i64 _ _ n rfl rfl rfl rfl ?b1 ?b2 ?_;(case b1=>omega);(case b2=>(unfold maxLen;omega));intro w2 h4 k4 i0)|fail);obtain⟨G,hG⟩:∃ G,G=w1.heap.size:=⟨_,rfl⟩;rw[<- hG]at h4 i0 ⊢;have l8:=Kh h4;have l4:=Kh k4;have i8:=Kh hG;have p9:P+1<G:=by omega
 clear h4 k4 hG d0 d1 d2 d3
 go_loopg [7,27] n (fun gh a7 i wr=>∃ q:Nat,gh+q=n/\i=.int .i64 q/\Arr wr G 3 (ints (iE n q))/\w1.grownBy wr none)
 case atStart=>exact⟨0,rfl,rfl,by simpa [iE,sU] using l8.out,l4.out⟩
 case round =>
  clear l8 l4;obtain⟨q,hg,rfl,h4,h5⟩:=hrel;have HG:=Kh hg;have HA:=Kh h4;have H6:=Kh h5;clear hg;by_cases hq:q<n
  ·have m3:(q:Int)<n:=by omega
   have cgk:=h4.int q (by rw[pC (by omega)];exact hq);have fgk:=h4.frozen q;have HS:=Kh (qCY hq);clear h4 h5;go_wp2;go_roundg (n - (q+1))
   case measure=>have:=HG.out;omega
   case rel =>
    refine⟨q+1,by omega,by go_num,?_,zB H6.out (zC wr ⟨G,q,none⟩ _) (fun q e=>by have h7:G=q:=Oj e;have:=i8.out;omega)⟩;rw[<- HS.out];exact HA.out.int_set q (by rw[pC (by omega)];exact hq) (-1)
  ·have j5:q=n:=by have:=HG.out;omega
   have HF:Hid (iE n q=tI n (l.take 0)):=Kh (by rw[j5,List.take_zero,bJ];simp[iE]);rw[HF.out]at HA;have i7:=H6;clear j5 h4 h5 HG;obtain⟨w3,rfl⟩:∃ w3:World,w3=wr:=⟨_,rfl⟩;go_wp2
   go_loopg [8,9,36] l.length (fun gh a8 a9 i wr=>∃ q:Nat,gh+q=l.length/\i=.int .i64 q/\Arr wr G 3 (ints (tI n (l.take q)))/\w1.grownBy wr none)
   case atStart=>exact⟨0,rfl,rfl,HA.out,H6.out⟩
   case round =>
    clear HA H6 HF;obtain⟨q,hg,rfl,h4,h5⟩:=hrel;have HG:=Kh hg;have HA:=Kh h4;have H6:=Kh h5;clear hg;by_cases hq:q<l.length
    ·have m3:(q:Int)<l.length:=by omega
     have cl:=(j1.out.kept h5 (by simp)).nat q hq;have g8:l.getD q 0<n:=d4.out.lt _ (by rw[zG hq];exact List.getElem_mem _);have f8:l.take (q+1)=l.take q++[l.getD q 0]:=zR hq
     have b8:l.getD q 0 ∉ l.take q:=by
      have h1:=d4.out.nd;have h2:(l.take (q+1)).Nodup:=h1.sublist (List.take_sublist _ _);rw[f8,List.nodup_append]at h2;exact fun hm=>h2.2.2 _ hm _ (by simp) rfl
     obtain⟨s,hs⟩:∃ s,s=l.getD q 0:=⟨_,rfl⟩;rw[<- hs]at cl g8 f8 b8;have m0:(s:Int)<n:=(by omega);have cgk:=h4.int s (by rw[vF];exact g8);have fgk:=h4.frozen s
     have HS:Hid ((tI n (l.take q)).set s (q:Int)=tI n (l.take (q+1))):=Kh (by
      have:=bI (n:=n) b8;rw[List.length_take,Nat.min_eq_left (by omega)]at this
      rw[this,f8])
     clear h4 h5 f8 b8 hs;go_wp2;go_roundg (l.length - (q+1))
     case measure=>have:=HG.out;omega
     case rel =>
      refine⟨q+1,by omega,by go_num,?_,zB H6.out (zC wr ⟨G,s,none⟩ _) (fun q e=>by have h7:G=q:=Oj e;have:=i8.out;omega)⟩;rw[<- HS.out];exact HA.out.int_set s (by rw[vF];exact g8) (q:Int)
    ·have j6:q=l.length:=by have:=HG.out;omega
     have j8:l.take q=l:=by rw[j6];exact List.take_length
     rw[j8]at HA h4;have l2:=Kh h4;have H0:=Kh h5;clear j6 j8 h4 HA HG h5 i7;obtain⟨w4,rfl⟩:∃ w4:World,w4=wr:=⟨_,rfl⟩;obtain⟨d0,d1,d2,d3⟩:=zF (zA (zA g6.out d8.out (by simp)) H0.out (by simp));go_upto_region 14 with fail;obtain⟨O,hO⟩:∃ O,O=w4.heap.size:=⟨_,rfl⟩;obtain⟨w6,f7⟩:∃ w6,w6=w4.alloc (.cells #[.int .i64 (k:Int),.int .i64 0,.slice none 0 0,.slice none 0 0] 42):=⟨_,rfl⟩;rw[<- f7,<- hO];have c4:w4.grownBy w6 none:=(by rw[f7];exact Ga w4 _ none);have k7:w6.heap[O]?=some (.cells #[.int .i64 (k:Int),.int .i64 0,.slice none 0 0,.slice none 0 0] 42 (0,0)):=by rw[f7,hO];exact heap_alloc_new w4 _
     have l1:Built O w6 O k 0 [] [] [] none 0 none 0:=⟨k7,World.ownsRow_nil _ _ _ _,World.ownsRow_nil _ _ _ _,xY.nil,rfl⟩;have l6:=Kh l1;have f5:=Kh c4;have c9:=Kh hO;have q4:G<O:=(by rw[hO];have:=l2.out.lt;omega);have p8:P+1<O:=(by omega);have l9:=c4.size;clear d0 d1 d2 d3 k7 l1 c4 f7 hO;go_wp2
     go_loopg [51] l.length (fun gh i wr=>∃ (i':Nat) (hs:List Value) (sf:Option Addr) (cf:Nat) (sn:Option Addr) (cn:Nat),gh+i'=l.length/\i=.int .i64 i'/\Built O wr O k 0 (oV d l i') (oU d l i') hs sf cf sn cn/\w4.grownBy wr (some O))
     case atStart=>exact⟨0,[],none,0,none,0,rfl,rfl,l6.out,yQ f5.out⟩
     case round =>
      clear l6 f5;obtain⟨i,hs,sf,cf,sn,cn,hg,rfl,H5,h5⟩:=hrel;have g5:=Kh hg;have f6:=Kh H5;have H6:=Kh h5;have n8:=h5.size;clear hg;by_cases hi:i<l.length
      ·have p2:(i:Int)<l.length:=by omega
       have d7:O≠P:=(by omega);have i1:O≠gl:=(by have:=j1.out.lt;have:=i8.out;omega);have e5:∀ x,Hid (x<w4.heap.size->x≠O):=fun x=>Kh (fun h e=>by have:=c9.out;omega);have cl:=((j1.out.kept H0.out (by simp)).kept h5 (fun e=>i1 (Oj e))).nat i hi;have H9:l.getD i 0<n:=d4.out.lt _ (by rw[zG hi];exact List.getElem_mem _);have d9:=Kh (trimFs_succ (d:=d) hi);have f2:=Kh (trimTs_succ (d:=d) hi);have c5:=trimFs_length (d:=d) (Nat.le_of_lt hi);have a5:=trimTs_length (d:=d) (Nat.le_of_lt hi);obtain⟨q0,j7⟩:∃ q0,q0=l.getD i 0:=⟨_,rfl⟩;rw[<- j7]at cl H9 d9 f2;have m2:(q0:Int)<n:=(by omega);have q5:B<=O:=by omega
       have hA:=((n7.out.kept d8.out (by simp)).kept H0.out (by simp)).kept h5 (fun k e=>by have:=Oj e;omega);have ch:=hA.hd q0 H9;obtain⟨d0,d1,d2,d3⟩:=zF (zA (zA (zA g6.out d8.out (by simp)) H0.out (by simp)) h5 (fun e=>d7 (Oj e)));obtain⟨wo,rfl⟩:∃ wo:World,wo=wr:=⟨_,rfl⟩;have j0:=Kh hA;clear hA H5 h5 j7;go_wp2
       go_loopg [13,61] k (fun gh ov i wr=>∃ (a:Nat) (sr:Option Addr) (cr:Nat),gh+a=k/\i=.int .i64 a/\ov=.slice sr a cr/\wr.ownsRow wo.heap.size 3 1 (.slice sr a cr) a (ints ((xQ l (d.next.getD q0 [])).take a))/\wo.grownBy wr none)
       case atStart=>exact⟨0,none,0,rfl,rfl,rfl,by simpa [ints] using World.ownsRow_nil _ _ _ _,zM _ _⟩
       case round =>
        obtain⟨a,sr,cr,hg,rfl,rfl,e4,h5⟩:=hrel;have l3:=Kh hg;have a3:=Kh e4;have i6:=Kh h5;clear hg e4 d0 d1 d2 d3;by_cases ha:a<k
        ·have p7:(a:Int)<k:=by omega
         have hA:=j0.out.kept h5 (by simp);have ce:=hA.el q0 a H9 ha;have o4:=(hA.rcap q0 H9).1;have g9:=qC HD.out H9 ha;have cp:=(((l2.out.kept H6.out (fun e=>by have:=Oj e;omega)).kept h5 (by simp))).int (nx d q0 a) (by rw[vF];exact g9);rw[bK g9]at cp
         have i4:Hid ((xQ l (d.next.getD q0 [])).take (a+1)=(xQ l (d.next.getD q0 [])).take a++[rI l (nx d q0 a)]):=Kh (by
          rw[zR (d:=0) (by rw[lH HD.out H9];exact ha),trimRow_get HD.out H9 ha])
         obtain⟨s,hs⟩:∃ s,s=nx d q0 a:=⟨_,rfl⟩;rw[<- hs]at ce g9 cp i4;obtain⟨c,hc⟩:∃ c,c=rI l s:=⟨_,rfl⟩;rw[<- hc]at cp i4;have f9:=h5.size;have m4:(s:Int)<n:=(by omega);clear hA hs hc h5;go_wp2_with (first|(at_builtin;refine app1 rfl _ _ _ rfl yP wo.heap.size _ a (ints ((xQ l (d.next.getD q0 [])).take a)) rfl a3.out _ rfl rfl ?c1 ?c2 ?c3 ?_)|fail)
         case c1=>unfold maxLen;omega
         case c2=>omega
         case c3=>exact f9
         intro sa' sc' w6 a6 k3 m7;have n3:=Kh a6;have n5:=Kh k3;clear a6 k3;go_wp2;go_roundg (k - (a+1))
         case measure=>have:=l3.out;omega
         case rel =>
          refine⟨a+1,sa',sc',by omega,by go_num,rfl,?_,zB i6.out n5.out (fun q e=>(a3.out.lt q e).1)⟩;rw[i4.out,qCL];exact n3.out
        ·have k8:a=k:=by have:=l3.out;omega
         have j4:(xQ l (d.next.getD q0 [])).take a=xQ l (d.next.getD q0 []):=by rw[k8,<- lH HD.out (l:=l) H9];exact List.take_length
         rw[j4]at a3;obtain⟨w5,g7⟩:∃ w5,w5=wr.drew:=⟨_,rfl⟩;have n2:=Kh g7;have b9:wr.grownBy w5 none:=(by rw[g7];exact zP wr none);have a4:=Kh ((f6.out.grow h5).grow b9);have c8:Hid (RowT w5.heap.size 3 w5 (.slice sr a cr) (ints (xQ l (d.next.getD q0 [])))):=Kh (RowT.of_owns (yM a3.out b9 (by simp)));have i9:=Kh (zD H6.out (yQ (zD h5 b9) (row:=some O)));have l0:=a4.out.box;have H1:=Kh l0;have g2:=Kh a4.out.notbox;have d5:O<=w5.heap.size:=by have:=h5.size;have:=b9.size;have:=c9.out;omega
         have cq:=(((j0.out.kept h5 (by simp)).kept b9 (by simp))).fin H9;obtain⟨_,_,d2,_⟩:=zF (zA (zA (zA (zA (zA g6.out d8.out (by simp)) H0.out (by simp)) H6.out (fun e=>d7 (Oj e))) h5 (by simp)) b9 (by simp));have p4:=j0.out.flt;have m9:O≠fb:=(by omega);obtain⟨bq,k5⟩:∃ bq,bq=d.final.getD q0 false:=⟨_,rfl⟩;rw[<- k5]at cq d9;obtain⟨fsl,e7⟩:∃ x,x=oV d l i:=⟨_,rfl⟩;obtain⟨tsl,e1⟩:∃ x,x=oU d l i:=⟨_,rfl⟩;rw[<- e7]at a4 H1 d9 c5;rw[<- e1]at a4 H1 f2 a5;have q8:=Kh c5;have q6:=Kh a5;obtain⟨m,hm⟩:∃ m,m=i:=⟨_,rfl⟩;rw[<- hm]at c5 a5;have c7:=Kh a5;have k9:=a4.out.many
         have hM:Many w5 (FB sf sn) w5 [⟨O,34,.slice sn m cn,m,hs,1⟩,⟨O,4,.slice sf m cf,m,bls fsl,1⟩] [] []:=by
          have h1:=k9;simp only[rN,rF,c5,a5]at h1;exact h1
         have e0:Hid (∀ W:World,(W.cell? ⟨P,2,none⟩=some (.slice (some ⟨fb,fo,none⟩) n fc)/\W.cell? ⟨fb,fo+q0,none⟩=some (.bool bq))->∀ (c:Nat) (X:Value),(W.setCell ⟨O,c,none⟩ X).cell? ⟨P,2,none⟩=some (.slice (some ⟨fb,fo,none⟩) n fc)/\(W.setCell ⟨O,c,none⟩ X).cell? ⟨fb,fo+q0,none⟩=some (.bool bq)):=Kh (fun W h c X =>
          ⟨by rw[World.cell?_setCell_far W ⟨O,c,none⟩ ⟨P,2,none⟩ X d7];exact h.1,by rw[World.cell?_setCell_far W ⟨O,c,none⟩ ⟨fb,fo+q0,none⟩ X m9];exact h.2⟩)
         have h0:Hid (∀ W rs ls,Many w5 (FB sf sn) W rs ls []->(W.cell? ⟨P,2,none⟩=some (.slice (some ⟨fb,fo,none⟩) n fc)/\W.cell? ⟨fb,fo+q0,none⟩=some (.bool bq))/\(W.cell? ⟨O,3,none⟩=some (.slice sn m cn)/\W.cell? ⟨O,2,none⟩=some (.slice sf m cf))):=Kh (fun W rs ls h=>by
          have k2:=a4.out.ge;have hb:=h.but.heap H1.out g2.out;rw[c5,a5]at hb;obtain⟨_,_,e2,e3⟩:=zF hb
          exact⟨⟨h.but.cell d2 (fun hf=>by have:=k2 _ hf;simp only at this;omega),h.but.cell cq (fun hf=>by have:=k2 _ hf;simp only at this;omega)⟩,e3,e2⟩)
         rw[c5,a5]at H1;have o6:Hid (m=i):=Kh hm;have o7:m<=4194304:=by omega
         clear k9 l0 j4 k8 g7 b9 h5 k5 e7 e1 hm c5 a5 cl ch e5 d2 cq;go_upto_region 23 with fail;refine wp_region_noPanic ?_;refine xZ (G:=tG 15 (fun W=>W.cell? ⟨P,2,none⟩=some (.slice (some ⟨fb,fo,none⟩) n fc)/\W.cell? ⟨fb,fo+q0,none⟩=some (.bool bq)) (fun W=>W.cell? ⟨O,3,none⟩=some (.slice sn m cn)/\W.cell? ⟨O,2,none⟩=some (.slice sf m cf))) (by kernel_rfl) ?_;rw[<- n2.out];refine yK 0 ⟨(h0.out _ _ _ hM).1,fun _=>(h0.out _ _ _ hM).2⟩ ?_;refine vX 1 ⟨(h0.out _ _ _ hM).1,fun _=>(h0.out _ _ _ hM).2⟩ ?_;refine yK 2 ⟨(h0.out _ _ _ hM).1,fun _=>(h0.out _ _ _ hM).2⟩ ?_;refine yK 5 ⟨(h0.out _ _ _ hM).1,fun _=>(h0.out _ _ _ hM).2⟩ ?_;refine vX 6 ⟨(h0.out _ _ _ hM).1,fun _=>(h0.out _ _ _ hM).2⟩ ?_;refine yK 7 ⟨(h0.out _ _ _ hM).1,fun _=>(h0.out _ _ _ hM).2⟩ ?_;refine yK 8 ⟨(h0.out _ _ _ hM).1,fun _=>(h0.out _ _ _ hM).2⟩ ?_;refine yK 9 ⟨(h0.out _ _ _ hM).1,fun _=>(h0.out _ _ _ hM).2⟩ ?_;refine yK 10 ⟨(h0.out _ _ _ hM).1,fun _=>(h0.out _ _ _ hM).2⟩ ?_;refine yK 11 ⟨(h0.out _ _ _ hM).1,fun _=>(h0.out _ _ _ hM).2⟩ ?_;refine twoG (i:=3) (j:=12) (by kernel_rfl) rfl rfl (fun K hK=>?_) (fun K hK=>?_)
         ·skip
          go_simp;refine hK.out _ _ ⟨(h0.out _ _ _ (hM.alloc _)).1,fun _=>(h0.out _ _ _ (hM.alloc _)).2⟩ ?_;clear hK K
          try simp only[Act.put,sPa,sPb,sPc]
          refine twoG (i:=4) (j:=12) (by kernel_rfl) rfl rfl (fun K hK=>?_) (fun K hK=>?_)
          ·skip
           refine vY rfl (.tmp 74) (.tmp 76) 40 rfl uP 0 _ _ rfl ⟨_,_,_,_,_,(hM.alloc _),_,rfl,rfl,rfl,rfl,?g3,?g4,d5,_,_,_,List.Mem.head _,(by first|rfl|simp),rfl,?_⟩
           case g3=>(simp only[];unfold maxLen;omega)
           case g4=>(simp only[];omega)
           intro sa1 sc1 w1x a2;have H4:=a2.litcell (List.Mem.head _)
           try simp only[zO]at H4
           refine hK.out _ _ ⟨(h0.out _ _ _ a2).1,fun _=>(h0.out _ _ _ a2).2⟩ ?_;clear hK K
           try simp only[Act.put,sPa,sPb,sPc]
           refine yK 14 ⟨(h0.out _ _ _ a2).1,fun _=>(h0.out _ _ _ a2).2⟩ ?_;refine oneG (i:=12) (by kernel_rfl) rfl (fun K hK=>?_);go_simp;refine hK.out _ _ ⟨(h0.out _ _ _ (a2.alloc _)).1,fun _=>(h0.out _ _ _ (a2.alloc _)).2⟩ ?_;clear hK K
           try simp only[Act.put,sPa,sPb,sPc]
           refine oneG (i:=13) (by kernel_rfl) rfl (fun K hK=>?_);refine vY rfl (.tmp 79) (.tmp 85) 39 rfl wU 1 _ _ rfl ⟨_,_,_,_,_,(a2.alloc _),_,rfl,rfl,rfl,rfl,?g3,?g4,d5,_,_,_,List.Mem.head _,(by first|rfl|simp),rfl,?_⟩
           case g3=>(simp only[];unfold maxLen;omega)
           case g4=>(simp only[];omega)
           intro sa2 sc2 w2x b7;have H4:=b7.litcell (List.Mem.head _)
           try simp only[zO]at H4
           have a0:=b7.litcell (List.Mem.tail _ (List.Mem.head _))
           try simp only[zO]at a0
           refine hK.out _ _ ⟨(h0.out _ _ _ b7).1,fun _=>(h0.out _ _ _ b7).2⟩ ?_;clear hK K
           try simp only[Act.put,sPa,sPb,sPc]
           refine oneG (i:=15) (by kernel_rfl) rfl (fun K hK=>?_);have h8:=b7.but.heap H1.out g2.out;have cb3:=zJ h8 3 (by simp);have cb2:=zJ h8 2 (by simp);have fb3:=zE h8 3;have fb2:=zE h8 2;simp only[List.getElem_toArray,List.getElem_cons_zero,List.getElem_cons_succ]at cb3 cb2;go_simp;have h6:=heap_setCell_same _ O 3 _ _ (.slice sa1 (m+1) sc1) h8;have cb22:=zJ h6 2 (by simp);have fb22:=zE h6 2;simp at cb22;have H3:=e0.out _ (h0.out _ _ _ b7).1 3 (.slice sa1 (m+1) sc1);refine hK.out _ _ ⟨H3,fun h=>by simp at h⟩ ?_;clear hK K
           try simp only[Act.put,sPa,sPb,sPc]
           refine yK 16 ⟨H3,fun h=>by simp at h⟩ ?_;refine oneG (i:=17) (by kernel_rfl) rfl (fun K hK=>?_);go_simp;have h9:=e0.out _ H3 2 (.slice sa2 (m+1) sc2);refine hK.out _ _ ⟨h9,fun h=>by simp at h⟩ ?_;clear hK K
           try simp only[Act.put,sPa,sPb,sPc]
           refine nE (by kernel_rfl) ?_ _;refine NoPanic.normal ?_;obtain⟨H5,b0⟩:=a4.out.push (b:=bq) (row:=xQ l (d.next.getD q0 [])) c7.out b7 c8.out rfl;have H7:=Kh H5;have f4:=Kh (b0 w4 i9.out (by have:=c9.out;omega));clear H5 b0 cb3 cb2 fb3 fb2 h8 h6 cb22 fb22 H3 h9 b7
           (try clear a2)
           go_wp2;go_roundg (l.length - (i+1))
           case measure=>have:=g5.out;omega
           case rel=>exact⟨i+1,_,_,_,_,_,by omega,by go_num,H7.out.congr d9.out f2.out,f4.out⟩
          ·skip
           go_simp;refine hK.out _ _ ⟨(h0.out _ _ _ ((hM.alloc _).alloc _)).1,fun _=>(h0.out _ _ _ ((hM.alloc _).alloc _)).2⟩ ?_;clear hK K
           try simp only[Act.put,sPa,sPb,sPc]
           refine oneG (i:=4) (by kernel_rfl) rfl (fun K hK=>?_);refine vY rfl (.tmp 74) (.tmp 76) 40 rfl uP 0 _ _ rfl ⟨_,_,_,_,_,((hM.alloc _).alloc _),_,rfl,rfl,rfl,rfl,?g3,?g4,d5,_,_,_,List.Mem.tail _ (List.Mem.head _),(by first|rfl|simp),rfl,?_⟩
           case g3=>(simp only[];unfold maxLen;omega)
           case g4=>(simp only[];omega)
           intro sa3 sc3 w3x b6;have H4:=b6.litcell (List.Mem.head _)
           try simp only[zO]at H4
           have a0:=b6.litcell (List.Mem.tail _ (List.Mem.head _))
           try simp only[zO]at a0
           refine hK.out _ _ ⟨(h0.out _ _ _ b6).1,fun _=>(h0.out _ _ _ b6).2⟩ ?_;clear hK K
           try simp only[Act.put,sPa,sPb,sPc]
           refine yK 14 ⟨(h0.out _ _ _ b6).1,fun _=>(h0.out _ _ _ b6).2⟩ ?_;refine oneG (i:=13) (by kernel_rfl) rfl (fun K hK=>?_);refine vY rfl (.tmp 79) (.tmp 85) 39 rfl wU 1 _ _ rfl ⟨_,_,_,_,_,b6,_,rfl,rfl,rfl,rfl,?g3,?g4,d5,_,_,_,List.Mem.head _,(by first|rfl|simp),rfl,?_⟩
           case g3=>(simp only[];unfold maxLen;omega)
           case g4=>(simp only[];omega)
           intro sa4 sc4 w4x b5;have H4:=b5.litcell (List.Mem.head _)
           try simp only[zO]at H4
           have a0:=b5.litcell (List.Mem.tail _ (List.Mem.head _))
           try simp only[zO]at a0
           refine hK.out _ _ ⟨(h0.out _ _ _ b5).1,fun _=>(h0.out _ _ _ b5).2⟩ ?_;clear hK K
           try simp only[Act.put,sPa,sPb,sPc]
           refine oneG (i:=15) (by kernel_rfl) rfl (fun K hK=>?_);have h8:=b5.but.heap H1.out g2.out;have cb3:=zJ h8 3 (by simp);have cb2:=zJ h8 2 (by simp);have fb3:=zE h8 3;have fb2:=zE h8 2;simp only[List.getElem_toArray,List.getElem_cons_zero,List.getElem_cons_succ]at cb3 cb2;go_simp;have h6:=heap_setCell_same _ O 3 _ _ (.slice sa3 (m+1) sc3) h8;have cb22:=zJ h6 2 (by simp);have fb22:=zE h6 2;simp at cb22;have H3:=e0.out _ (h0.out _ _ _ b5).1 3 (.slice sa3 (m+1) sc3);refine hK.out _ _ ⟨H3,fun h=>by simp at h⟩ ?_;clear hK K
           try simp only[Act.put,sPa,sPb,sPc]
           refine yK 16 ⟨H3,fun h=>by simp at h⟩ ?_;refine oneG (i:=17) (by kernel_rfl) rfl (fun K hK=>?_);go_simp;have h9:=e0.out _ H3 2 (.slice sa4 (m+1) sc4);refine hK.out _ _ ⟨h9,fun h=>by simp at h⟩ ?_;clear hK K
           try simp only[Act.put,sPa,sPb,sPc]
           refine nE (by kernel_rfl) ?_ _;refine NoPanic.normal ?_;obtain⟨H5,b0⟩:=a4.out.push (b:=bq) (row:=xQ l (d.next.getD q0 [])) c7.out b5 c8.out rfl;have H7:=Kh H5;have f4:=Kh (b0 w4 i9.out (by have:=c9.out;omega));clear H5 b0 cb3 cb2 fb3 fb2 h8 h6 cb22 fb22 H3 h9 b5
           (try clear b6)
           go_wp2;go_roundg (l.length - (i+1))
           case measure=>have:=g5.out;omega
           case rel=>exact⟨i+1,_,_,_,_,_,by omega,by go_num,H7.out.congr d9.out f2.out,f4.out⟩
         ·skip
          go_simp;refine hK.out _ _ ⟨(h0.out _ _ _ (hM.alloc _)).1,fun _=>(h0.out _ _ _ (hM.alloc _)).2⟩ ?_;clear hK K
          try simp only[Act.put,sPa,sPb,sPc]
          refine oneG (i:=3) (by kernel_rfl) rfl (fun K hK=>?_);go_simp;refine hK.out _ _ ⟨(h0.out _ _ _ ((hM.alloc _).alloc _)).1,fun _=>(h0.out _ _ _ ((hM.alloc _).alloc _)).2⟩ ?_;clear hK K
          try simp only[Act.put,sPa,sPb,sPc]
          refine oneG (i:=4) (by kernel_rfl) rfl (fun K hK=>?_);refine vY rfl (.tmp 74) (.tmp 76) 40 rfl uP 0 _ _ rfl ⟨_,_,_,_,_,((hM.alloc _).alloc _),_,rfl,rfl,rfl,rfl,?g3,?g4,d5,_,_,_,List.Mem.head _,(by first|rfl|simp),rfl,?_⟩
          case g3=>(simp only[];unfold maxLen;omega)
          case g4=>(simp only[];omega)
          intro sa5 sc5 w5x b4;have H4:=b4.litcell (List.Mem.head _)
          try simp only[zO]at H4
          have a0:=b4.litcell (List.Mem.tail _ (List.Mem.head _))
          try simp only[zO]at a0
          refine hK.out _ _ ⟨(h0.out _ _ _ b4).1,fun _=>(h0.out _ _ _ b4).2⟩ ?_;clear hK K
          try simp only[Act.put,sPa,sPb,sPc]
          refine yK 14 ⟨(h0.out _ _ _ b4).1,fun _=>(h0.out _ _ _ b4).2⟩ ?_;refine oneG (i:=13) (by kernel_rfl) rfl (fun K hK=>?_);refine vY rfl (.tmp 79) (.tmp 85) 39 rfl wU 1 _ _ rfl ⟨_,_,_,_,_,b4,_,rfl,rfl,rfl,rfl,?g3,?g4,d5,_,_,_,List.Mem.tail _ (List.Mem.head _),(by first|rfl|simp),rfl,?_⟩
          case g3=>(simp only[];unfold maxLen;omega)
          case g4=>(simp only[];omega)
          intro sa6 sc6 w6x b3;have H4:=b3.litcell (List.Mem.head _)
          try simp only[zO]at H4
          have a0:=b3.litcell (List.Mem.tail _ (List.Mem.head _))
          try simp only[zO]at a0
          refine hK.out _ _ ⟨(h0.out _ _ _ b3).1,fun _=>(h0.out _ _ _ b3).2⟩ ?_;clear hK K
          try simp only[Act.put,sPa,sPb,sPc]
          refine oneG (i:=15) (by kernel_rfl) rfl (fun K hK=>?_);have h8:=b3.but.heap H1.out g2.out;have cb3:=zJ h8 3 (by simp);have cb2:=zJ h8 2 (by simp);have fb3:=zE h8 3;have fb2:=zE h8 2;simp only[List.getElem_toArray,List.getElem_cons_zero,List.getElem_cons_succ]at cb3 cb2;go_simp;have h6:=heap_setCell_same _ O 3 _ _ (.slice sa5 (m+1) sc5) h8;have cb22:=zJ h6 2 (by simp);have fb22:=zE h6 2;simp at cb22;have H3:=e0.out _ (h0.out _ _ _ b3).1 3 (.slice sa5 (m+1) sc5);refine hK.out _ _ ⟨H3,fun h=>by simp at h⟩ ?_;clear hK K
          try simp only[Act.put,sPa,sPb,sPc]
          refine yK 16 ⟨H3,fun h=>by simp at h⟩ ?_;refine oneG (i:=17) (by kernel_rfl) rfl (fun K hK=>?_);go_simp;have h9:=e0.out _ H3 2 (.slice sa6 (m+1) sc6);refine hK.out _ _ ⟨h9,fun h=>by simp at h⟩ ?_;clear hK K
          try simp only[Act.put,sPa,sPb,sPc]
          refine nE (by kernel_rfl) ?_ _;refine NoPanic.normal ?_;obtain⟨H5,b0⟩:=a4.out.push (b:=bq) (row:=xQ l (d.next.getD q0 [])) c7.out b3 c8.out rfl;have H7:=Kh H5;have f4:=Kh (b0 w4 i9.out (by have:=c9.out;omega));clear H5 b0 cb3 cb2 fb3 fb2 h8 h6 cb22 fb22 H3 h9 b3
          (try clear b4)
          go_wp2;go_roundg (l.length - (i+1))
          case measure=>have:=g5.out;omega
          case rel=>exact⟨i+1,_,_,_,_,_,by omega,by go_num,H7.out.congr d9.out f2.out,f4.out⟩
      ·have k0:i=l.length:=by have:=g5.out;omega
       have l5:Hid (oV d l i=(xT d k).final/\oU d l i=(xT d k).next):=Kh (by
        rw[k0];simp only[oV,oU,List.take_length];rw[HL.out]
        exact⟨rfl,rfl⟩)
       have d7:O≠P+1:=(by omega);have H8:=zA (zA (zA n6.out d8.out (by simp)) H0.out (by simp)) h5 (fun e=>d7 (Oj e));have r0:=zJ H8 0 (by simp);have r1:=zJ H8 1 (by simp);have r2:=zJ H8 2 (by simp);have r3:=zJ H8 3 (by simp);have q0:=zE H8 0;have q1:=zE H8 1;have q2:=zE H8 2;have q3:=zE H8 3;simp only[List.getElem_toArray,List.getElem_cons_zero,List.getElem_cons_succ]at r0 r1 r2 r3;have f3:=Kh H8;obtain⟨o0,o1,o2,o3⟩:=zF H5.box;clear H5 h5 H8 k0;go_wp2;refine bodyPost_ret (v:=.tuple #[.agg #[.int .i64 (k:Int),.int .i64 0,.slice sf (oV d l i).length cf,.slice sn (oU d l i).length cn],.slice (some ⟨G,0,none⟩) n n]) (by simp[results,Try.results82,go_sem,r0,r1,r2,r3]) rfl ?_;obtain⟨m1,f9⟩:=xI f3.out (.int .i64 (k:Int)) (.int .i64 0) (.slice sf (oV d l i).length cf) (.slice sn (oU d l i).length cn);have i2:=f6.out.far f9 f3.out (fun e=>d7 e.symm);refine⟨_,_,rfl,?_,?_⟩
       ·have he:xT d k=⟨(k:Int),0,oV d l i,oU d l i⟩:=by
         rw[l5.out.1,l5.out.2];have:=HD.out.hk;simp only[xT,this]
        rw[he];exact⟨O,hs,sf,cf,sn,cn,rfl,by have h1:=H0.out.size;have h2:=c9.out;have h3:=i5.out;omega,i2⟩
       ·refine zB (zD n4.out (zD d8.out (zD H0.out (zB (zM _ _) H6.out (fun x e=>by have:=Oj e;have:=c9.out;omega))))) f9 (fun x e=>by have:=Oj e;have:=i5.out;omega)
end Go.Proofs.Ytjfdomfendbhfaa
