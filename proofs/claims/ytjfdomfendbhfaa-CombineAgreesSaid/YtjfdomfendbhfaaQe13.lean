/- Part 13 of the proof: Expl. -/
import Derived.Test.YtjfdomfendbhfaaQe12
import Derived.Deep.RegionLaw
set_option linter.unusedVariables false
set_option linter.unusedSimpArgs false
namespace Go.Proofs.Ytjfdomfendbhfaa
open Go.RowKit Go.Maps
def exT (d:DfaV) (k:Nat) (l:List Nat) (i:Nat):List (List Int):=(l.take i).map fun q=>tS (zT d k) (d.next.getD q [])
def exF (d:DfaV) (l:List Nat) (i:Nat):List Bool:=(l.take i).map fun q=>d.final.getD q false
theorem bH {d:DfaV} {k:Nat} {l:List Nat} {i:Nat} (h:i<=l.length):(exT d k l i).length=i:=by simp[exT];omega
theorem qBI {d:DfaV} {l:List Nat} {i:Nat} (h:i<=l.length):(exF d l i).length=i:=by simp[exF];omega
theorem exT_next {d:DfaV} {k:Nat} {l m:List Nat} {i:Nat} (hp:l <+: m) (h:i < l.length):exT d k m (i+1)=exT d k l i ++ [tS (zT d k) (d.next.getD (l.getD i 0) [])]:=by
 simp only[exT,qI hp (show i+1<=l.length by omega),zW (d:=0) h,List.map_append,List.map_cons,List.map_nil]
theorem exF_next {d:DfaV} {l m:List Nat} {i:Nat} (hp:l <+: m) (h:i < l.length):exF d m (i+1)=exF d l i ++ [d.final.getD (l.getD i 0) false]:=by
 simp only[exF,qI hp (show i+1<=l.length by omega),zW (d:=0) h,List.map_append,List.map_cons,List.map_nil]
theorem RowX.of_arr {X:Nat->Prop} {w:World} {g n:Nat} {e:TypeId} {xs:List Value} (h:Arr w g e xs) (hn:xs.length=n) (hm:n<=maxLen) (hX:X g):RowX X e w (.slice (some ⟨g,0,none⟩) n n) xs:=by
 obtain⟨cur,rest,hc,ht⟩:=h
 subst hn
 refine⟨.inr ⟨g,0,xs.length,cur,(0,0),rfl,zH hc,Nat.le_refl _,hm,hc,fun i hi=>?_⟩,fun k hk=>?_⟩
 ·rw[Nat.zero_add,<- Array.getElem?_toList,ht,List.getElem?_append_left hi,List.getElem?_eq_getElem hi]
 ·have:g=k:=by simpa [Value.ownBlock] using hk
  subst this;exact hX
theorem Arr.but {w w':World} {g:Nat} {e:TypeId} {xs:List Value} {F:Nat->Prop} (h:Arr w g e xs) (hg:GrownBut w w' F) (hF:¬ F g):Arr w' g e xs:=by
 obtain⟨cur,rest,hc,ht⟩:=h
 exact⟨cur,rest,hg.heap hc hF,ht⟩
theorem tQ {w W:World} {o:Obj} (h1:W.os=w.os) (h2:W.tape=w.tape) (h3:W.output=w.output) (h4:W.heap=(w.alloc o).heap):w.grownBy W none :=
 uW (Ga w o none) h1 h2 h3 h4
structure TBox (B:Nat) (W:World) (P:Nat) (d:DfaV) (n k S fb fo fc b off cap:Nat) (RB RO RC:Nat->Nat):Prop where
 box:W.heap[P]?=some (.cells #[.int .i64 (k:Int),.int .i64 (S:Int),.slice (some ⟨fb,fo,none⟩) n fc,.slice (some ⟨b,off,none⟩) n cap] 42 (0,0))
 at_:DAt B W d n k fb fo fc b off cap RB RO RC
theorem TBox.grow {B:Nat} {W W':World} {P:Nat} {d:DfaV} {n k S fb fo fc b off cap:Nat} {RB RO RC:Nat->Nat} (h:TBox B W P d n k S fb fo fc b off cap RB RO RC) (hg:W.grownBy W' none):TBox B W' P d n k S fb fo fc b off cap RB RO RC :=
 ⟨zA h.box hg (by simp),h.at_.kept hg (by simp)⟩
section
variable {B:Nat} {W:World} {P:Nat} {d:DfaV} {n k S fb fo fc b off cap:Nat} {RB RO RC:Nat->Nat}
set_option maxHeartbeats 400000 in
theorem trim1_any (h:TBox B W P d n k S fb fo fc b off cap RB RO RC) {q a:Nat} (hq:q < n) (ha:a < k) :
  Calls Try.prog 122 #[.int .i64 (q:Int),.int .i64 (a:Int),.pointer (some ⟨P,0,none⟩)] W fun e w'=>e=.returned (.int .i64 ((nx d q a:Nat):Int))/\W=w':=by
 obtain⟨c0,c1,c2,c3⟩:=zG h.box
 have c4:=h.at_.hd q hq
 have c5:=h.at_.el q a hq ha
 have hc:=h.at_.cap
 have hr:=h.at_.rcap q hq
 have hd:=h.at_.ok
 have hn:=hd.nbig
 have hk:=hd.k6
 unfold maxLen at hc hr
 clear h hd
 go_enter Try.func122,Try.ntmps122
 go_wp2
 go_ret
 exact⟨rfl,rfl⟩
set_option maxHeartbeats 400000 in
theorem trim2_any (h:TBox B W P d n k S fb fo fc b off cap RB RO RC) {q:Nat} (hq:q < n) :
  Calls Try.prog 123 #[.int .i64 (q:Int),.pointer (some ⟨P,0,none⟩)] W fun e w'=>e=.returned (.bool (d.final.getD q false))/\W=w':=by
 obtain⟨c0,c1,c2,c3⟩:=zG h.box
 have c4:=h.at_.fin hq
 have hc:=h.at_.fcap
 have hd:=h.at_.ok
 have hn:=hd.nbig
 unfold maxLen at hc
 clear h hd
 go_enter Try.func123,Try.ntmps123
 go_wp2
 go_ret
 exact⟨rfl,rfl⟩
end
def ExplOk (W:World) (d:DfaV) (k:Nat) (e:Ending) (W':World):Prop :=
 ∃ v sa sc,e=.returned (.tuple #[v,.slice sa (zT d k).length sc,.int .i64 0])/\tA W W' v (xK d k)/\W'.ownsRow W.heap.size 3 1 (.slice sa (zT d k).length sc) (zT d k).length (nats (zT d k))/\W.grownBy W' none
set_option maxRecDepth 100000 in
set_option maxHeartbeats 2000000 in
theorem explore_any (B:Nat) (W:World) (P:Nat) (d:DfaV) (n k S fb fo fc b off cap:Nat) (RB RO RC:Nat->Nat) (hS:S=st0 d) (h5:n<=512) (h:TBox B W P d n k S fb fo fc b off cap RB RO RC) :
  Calls Try.prog 121 #[.int .i64 (k:Int),.int .i64 (S:Int),.func (.func 122) #[] #[.pointer (some ⟨P,0,none⟩)],.func (.func 123) #[] #[.pointer (some ⟨P,0,none⟩)]] W (ExplOk W d k):=by
 have hd:=h.at_.ok
 have hn:=hd.nbig
 have hk:=hd.k6
 have q9:=hd.k1
 have r4:S < n:=by rw[hS];exact rB hd
 obtain⟨w1,a5⟩:∃ w1,w1=(W.alloc (.cells #[.int .i64 0,.int .i64 0,.slice none 0 0,.slice none 0 0] 42)).alloc (.cells #[.slice none 0 0,.map none] 181):=⟨_,rfl⟩
 have l2:W.grownBy w1 none:=by rw[a5];exact xO (Ga W _ none) _
 have H3:w1.heap[W.heap.size]?=some (.cells #[.int .i64 0,.int .i64 0,.slice none 0 0,.slice none 0 0] 42 (0,0)):=by rw[a5];exact tR W _ _
 have i6:w1.heap[W.heap.size+1]?=some (.cells #[.slice none 0 0,.map none] 181 (0,0)):=by rw[a5];exact tO W _ _
 have q3:w1.heap.size=W.heap.size+2:=by rw[a5,zM,zM]
 obtain⟨oN,e7⟩:∃ o,o=W.heap.size+1:=⟨_,rfl⟩
 obtain⟨o0,e9⟩:∃ o,o=W.heap.size:=⟨_,rfl⟩
 rw[<- e9]at H3
 rw[<- e7]at i6
 have j2:Hid (NumSt W.heap.size w1 oN none 0 none []):=Kh ⟨i6,World.ownsRow_nil _ _ _ _,.inl ⟨rfl,rfl⟩,by omega⟩
 have h2:=Kh H3;have p4:=Kh l2;have m2:=Kh a5;have HD:=Kh hd;have HT:=Kh h;have HS:=Kh hS;have p1:=Kh e9
 have p2:=Kh e7
 have n7:W.heap.size < oN:=by omega
 have n6:oN < w1.heap.size:=by omega
 have o1:W.heap.size<=o0:=by omega
 have n9:o0 < oN:=by omega
 clear e7 e9
 clear H3 i6 l2 a5 hd h hS
 go_enter Try.func121,Try.ntmps121
 go_upto_region 2 with fail
 rw[<- m2.out,<- p2.out,<- p1.out]
 go_wp2_with fail
 refine(dL W.heap.size w1 oN none 0 none [] S j2.out (by omega) (by simp) (by omega)).mono ?_
 rintro e w2 ⟨sa2,sc2,mv2,rfl,H1,H2,f5⟩
 have a6:xA ([]:List Nat) S=[S]:=by simp[xA]
 rw[a6]at H1
 have q2:=H2.size
 have c2:=Kh H1;have a4:=Kh H2
 obtain⟨o2,e8⟩:∃ o,o=w2.heap.size:=⟨_,rfl⟩
 clear a6 H1 H2 f5
 go_wp2_with fail
 obtain⟨w3,d7⟩:∃ w3,w3=w2.alloc (.cells #[.int .i64 (k:Int),.int .i64 0,.slice none 0 0,.slice none 0 0] 42):=⟨_,rfl⟩
 have a7:=Ga w2 (.cells #[.int .i64 (k:Int),.int .i64 0,.slice none 0 0,.slice none 0 0] 42) none
 have b5:=heap_alloc_new w2 (.cells #[.int .i64 (k:Int),.int .i64 0,.slice none 0 0,.slice none 0 0] 42)
 rw[<- d7]at a7 b5
 rw[<- e8]at b5
 have q1:=a7.size
 have b0:W.heap.size<=o2:=by omega
 have n8:=zH b5
 have m8:=Kh (zB (a4.out.grown p4.out (fun k hk=>.inr (j2.out.ge k hk).1)) a7 (by simp))
 have h0:Hid (ExSt W.heap.size W w3 oN o2 (fun _=>False) (fun _=>False) k [S] (exF d [S] 0) (exT d k [S] 0) [] sa2 sc2 mv2 none 0 none 0):=Kh ⟨c2.out.kept a7 (by simp),fun _ _ h=>h,fun _ h=>h,fun _ h=>h.elim,b5,World.ownsRow_nil _ _ _ _,World.ownsRow_nil _ _ _ _,vM.nil,b0,⟨Nat.le_refl _,by omega⟩,m8.out⟩
 have p3:=Kh e8;have m1:=Kh d7;have c4:=Kh (zA (a4.out.heap h2.out (fun h=>by
  rcases h with h|h|h
  ·omega
  ·simp[Value.ownBlock]at h
  ·simp at h)) a7 (by simp))
 have H9:o0≠o2:=by omega
 have k5:o0 < w3.heap.size:=by omega
 clear a7 b5 d7 e8
 rw[<- p3.out,<- m1.out]
 go_loopg [13,14,15,16] n (fun gh i a14 a15 a16 wr=>∃ (q:Nat) (l:List Nat) (hs:List Value) (X:Nat->Prop) (sa:Option Addr) (sc:Nat) (mv:Option Nat) (sf:Option Addr) (cf:Nat) (sn:Option Addr) (cn:Nat),gh+q=n/\i=.int .i64 q/\q<=l.length/\ExL d n k q l/\wr.heap[o0]?=some (.cells #[.int .i64 0,.int .i64 0,.slice none 0 0,.slice none 0 0] 42 (0,0))/\ExSt W.heap.size W wr oN o2 X X k l (exF d l q) (exT d k l q) hs sa sc mv sf cf sn cn)
 case atStart=>exact⟨0,[S],[],fun _=>False,sa2,sc2,mv2,none,0,none,0,rfl,rfl,by simp,by rw[HS.out];exact ExL.start HD.out,c4.out,h0.out⟩
 case round =>
  clear h0 c2 a4 h2 j2 m8 c4 m2 m1
  obtain⟨q,l,hs,X,sa,sc,mv,sf,cf,sn,cn,b4,rfl,d9,a8,H3,h3⟩:=hrel
  have m7:=Kh b4;have a9:=Kh a8;have h2:=Kh H3;have h0:=Kh h3
  have q7:=a8.le
  have p9:=h3.grown.size
  obtain⟨c0,c1⟩:=vC h3.num.box
  clear b4 a8 H3 h3
  by_cases hk':q < l.length
  ·have f9:(q:Int) < l.length:=by omega
   obtain⟨lb,lo,lc,el,q8,k9,a6,k8⟩:=(Row.of_owns h0.out.num.own).some_ (by rw[yB];omega)
   rw[yB]at el k9
   simp only[Value.slice.injEq]at el
   obtain⟨rfl,_,rfl⟩:=el
   have cq:=k8.nat q hk'
   obtain⟨s,c7⟩:∃ s,s=l.getD q 0:=⟨_,rfl⟩
   have c6:s < n:=by rw[c7,zF hk'];exact a9.out.acc.lt _ (List.getElem_mem hk')
   rw[<- c7]at cq
   have b8:=Kh c7
   clear k8 c7
   go_wp2_with (first|(at_make;refine kZ rfl _ _ _ rfl xQ rfl .i64 .i64 _ _ k rfl rfl rfl rfl ?b1 ?b2 ?_)|fail)
   case b1=>omega
   case b2=>unfold maxLen;omega
   intro w4 h6 i0 f7
   obtain⟨g,hg⟩:∃ g,g=wr.heap.size:=⟨_,rfl⟩
   rw[<- hg]at h6 ⊢
   have n2:Hid (Arr w4 g 3 (nats (qY d k s 0))):=Kh (by rw[exRow_zero,yR];exact h6)
   have m3:=Kh (h0.out.fresh i0 (g:=g) (by omega) (by omega))
   have n1:=Kh (zA h2.out i0 (by simp))
   have l7:¬ X g:=fun hx=>by have:=h0.out.lt g hx;omega
   have o8:=Kh l7
   have o6:W.heap.size<=g:=by omega
   have o5:o0 < g:=by have:=zH h2.out;omega
   have k2:=fun x (hx:x<=k)=>a9.out.rowLen HD.out hk' hx
   have j0:=Kh k2
   clear h6 i0 l7 f7 hg k2 h0 h2 c0 c1 cq
   go_wp2_with fail
   go_loopg [16,37] k (fun gh a16 i wr=>∃ (x:Nat) (sa:Option Addr) (sc:Nat) (mv:Option Nat),gh+x=k/\i=.int .i64 x/\Arr wr g 3 (nats (qY d k s x))/\wr.heap[o0]?=some (.cells #[.int .i64 0,.int .i64 0,.slice none 0 0,.slice none 0 0] 42 (0,0))/\ExSt W.heap.size W wr oN o2 X (fun j=>X j\/j=g) k (wY d l q x) (exF d l q) (exT d k l q) hs sa sc mv sf cf sn cn)
   case atStart=>exact⟨0,_,_,_,rfl,rfl,n2.out,n1.out,m3.out⟩
   case round =>
    clear n2 m3 n1 k9 a6
    obtain⟨x,sa,sc,mv,b4,rfl,h6,H3,h3⟩:=hrel
    have c3:=Kh b4;have j6:=Kh h6;have h2:=Kh H3;have h0:=Kh h3
    have p8:=h3.grown.size
    have q6:=h3.loB.2
    clear b4 h6 H3 h3
    by_cases hx':x < k
    ·have d6:(x:Int) < k:=by omega
     have d4:=Kh (HT.out.grow h0.out.grown)
     have k7:=j0.out x (by omega)
     have f6:=qF HD.out c6 hx'
     go_wp2_with fail
     refine(trim1_any d4.out c6 hx').mono ?_
     rintro e w5 ⟨rfl,rfl⟩
     obtain⟨y,hy⟩:∃ y,y=nx d s x:=⟨_,rfl⟩
     rw[<- hy]at f6 ⊢
     have HY:=Kh hy
     clear hy
     go_wp2_with fail
     refine(dL W.heap.size wr oN sa sc mv (wY d l q x) y h0.out.num (by omega) (by omega) (by omega)).mono ?_
     rintro e w5 ⟨sa5,sc5,mv5,rfl,H0,h4,b3⟩
     have e5:xA (wY d l q x) y=wY d l q (x+1):=by rw[HY.out,b8.out];rfl
     have e6:(wY d l q (x+1)).idxOf y=(zT d k).idxOf y:=by rw[HY.out,b8.out];exact a9.out.idx HD.out hk' hx'
     rw[e5]at H0
     rw[e5,e6]
     have q0:=h4.size
     have b6:=j6.out.but h4 (fun hf=>h0.out.sep g hf (.inr rfl))
     have l5:=h4.heap h2.out (fun hf=>by
      rcases hf with e|e|e
      ·omega
      ·rw[<- zO sa (wY d l q x).length sc]at e
       exact zS h0.out.num.own h2.out (by decide) e
      ·rcases h0.out.num.map with ⟨e2,_⟩|⟨mb,e2,_,_,_,_,hm⟩
       ·rw[e2]at e;cases e
       ·rw[e2]at e
        have:=Oj e
        subst this
        obtain⟨es,cl,hm⟩:=hm.obj
        rw[h2.out]at hm;simp at hm)
     have k0:=h0.out.num_step H0 h4 b3
     have cg:=b6.nat x (by rw[qX (by omega)];exact hx')
     have fg:=b6.frozen x
     have H8:=b6.nat_set x (by rw[qX (by omega)];exact hx') ((zT d k).idxOf y)
     have a8:(qY d k s x).set x ((zT d k).idxOf y)=qY d k s (x+1):=by rw[HY.out];exact exRow_set hx'
     rw[a8]at H8
     have b9:=Kh H8;have p6:=Kh l5;have p7:=Kh b6;have p0:=Kh k0
     have q4:(nats (qY d k s x)).length=k:=by rw[yB,qX (by omega)]
     obtain⟨I,hI⟩:∃ I,I=(zT d k).idxOf y:=⟨_,rfl⟩
     rw[<- hI]at b9 ⊢
     clear e5 e6 H0 h4 b3 b6 l5 k0 H8 a8 hI
     go_wp2_with fail
     go_roundg (k - (x+1))
     case measure=>have:=c3.out;omega
     case rel =>
      obtain⟨cur,rest,i3,_⟩:=p7.out
      have l0:=zC w5 ⟨g,x,none⟩ (.int .i64 (I:Int))
      exact⟨x+1,sa5,sc5,mv5,by omega,by go_num,b9.out,zA p6.out l0 (fun e=>by have e:g=o0:=Oj e;omega),p0.out.put l0 i3 (.inr rfl) o8.out o6⟩
    ·have n4:x=k:=by have:=c3.out;omega
     subst n4
     have d6:¬ (x:Int) < x:=by omega
     obtain⟨m,hm⟩:∃ m,m=wY d l q x:=⟨_,rfl⟩
     have k7:=j0.out x (by omega)
     have m0:=Kh (a9.out.next HD.out hk')
     have o4:q < m.length:=by
      have:=(uA d l q x).length_le
      rw[hm];omega
     have j1:=Kh (uA d l q x)
     rw[<- hm]at m0 j1 h0 k7
     have HM:=Kh hm
     clear hm
     obtain⟨c0,c1⟩:=vC h0.out.num.box
     obtain⟨d0,d1,d2,d3⟩:=zG h0.out.box
     have f3:=zE h0.out.box 3
     have q5:¬ ((512:Int) < m.length):=by omega
     have H4:Hid (RowX (fun j=>X j\/(X j\/j=g)) 3 wr (.slice (some ⟨g,0,none⟩) x x) (ints (tS (zT d x) (d.next.getD s [])))):=Kh (by
      have e:=exRow_full HD.out (q:=s) (fun a ha=>by rw[b8.out];exact a9.out.done_mem HD.out hk' ha) c6
      have h9:=RowX.of_arr (X:=fun j=>X j\/(X j\/j=g)) j6.out (by rw[yB,qX (Nat.le_refl x)]) (by unfold maxLen;omega) (.inr (.inr rfl))
      rw[show nats (qY d x s x)=ints (zl (qY d x s x)) by simp[nats,ints,zl],e]at h9
      exact h9)
     go_wp2_with (first|(at_builtin;refine qBW rfl _ _ _ rfl kD o2 (.slice sn (exT d x l q).length cn) (exT d x l q).length hs rfl h0.out.ownN (.slice (some ⟨g,0,none⟩) x x) rfl rfl ?a1 ?a2 ?a3 ?_;(case a1=>(unfold maxLen;rw[bH d9];omega));(case a2=>(rw[bH d9];omega));(case a3=>exact Nat.le_of_lt (zH h0.out.box));intro sn6 cn6 w6 H6 c9 n3 f4;(have i7:=zA h0.out.box c9 (zS h0.out.ownN h0.out.box (by decide)));(obtain⟨e0,e1,e2,e3⟩:=zG i7);(have fz6:=zE i7 3))|fail)
     have h8:=Kh (h0.out.pushN rfl H6 c9 H4.out rfl)
     obtain⟨wo,c5⟩:∃ W7,W7=w6.setCell ⟨o2,3,none⟩ (.slice sn6 ((exT d x l q).length+1) cn6):=⟨_,rfl⟩
     rw[<- c5]at h8 ⊢
     have o9:=Kh c5
     have j5:Hid (wo.heap[o0]?=some (.cells #[.int .i64 0,.int .i64 0,.slice none 0 0,.slice none 0 0] 42 (0,0))):=Kh (by
      rw[c5]
      exact zA (zA h2.out c9 (zS h0.out.ownN h2.out (by decide))) (zC w6 ⟨o2,3,none⟩ _) (fun e=>H9 (Oj e).symm))
     have d4:=Kh (HT.out.grow h8.out.grown)
     obtain⟨d0,d1,d2,d3⟩:=zG h8.out.box
     have fz2:=zE h8.out.box 2
     have m6:Hid (∀ w',wo.grownBy w' none->w'.ownsRow o2 4 1 (.slice sf (exF d l q).length cf) (exF d l q).length (bls (exF d l q))/\o2<=w'.heap.size):=Kh (fun w' hg=>⟨zQ h8.out.ownF hg,Nat.le_of_lt (Nat.lt_of_lt_of_le (zH h8.out.box) hg.size)⟩)
     have p5:Hid (∀ w7 w',wo.grownBy w7 none->w7.grownBy w' (Value.slice sf (exF d l q).length cf).ownBlock->w'.frozen? ⟨o2,2,none⟩=false/\w'.cell? ⟨o2,2,none⟩=some (.slice sf (exF d l q).length cf)):=Kh (fun w7 w' h7 hg=>by
      have hb:=zA (zA h8.out.box h7 (by simp)) hg (zS h8.out.ownF h8.out.box (by decide))
      exact⟨zE hb 2,(zG hb).2.2.1⟩)
     have j4:=Kh (qBI (d:=d) d9)
     have k4:=zH h8.out.box
     obtain⟨bf,i5⟩:∃ bf,bf=d.final.getD s false:=⟨_,rfl⟩
     have n0:=Kh i5
     have m9:Hid (∀ w',wo.grownBy w' none->Calls Try.prog 123 #[.int .i64 (s:Int),.pointer (some ⟨P,0,none⟩)] w' fun e w''=>e=.returned (.bool bf)/\w'=w''):=Kh (fun w' hg=>by rw[i5];exact trim2_any (d4.out.grow hg) c6)
     clear i5
     clear c5 n3 f4 H6 c9 i7 e0 e1 e2 e3 fz6
     have H7:Hid (∀ (W1 w':World) (sf':Option Addr) (cf':Nat),w'.ownsRow o2 4 1 (.slice sf' ((exF d l q).length+1) cf') ((exF d l q).length+1) (bls (exF d l q) ++ [.bool bf])->W1.grownBy w' (Value.slice sf (exF d l q).length cf).ownBlock->wo.grownBy W1 none ->
       (∃ (hs:List Value) (X:Nat->Prop) (sa:Option Addr) (sc:Nat) (mv:Option Nat) (sn:Option Addr) (cn:Nat),ExSt W.heap.size W (w'.setCell ⟨o2,2,none⟩ (.slice sf' ((exF d l q).length+1) cf')) oN o2 X X x m (exF d m (q+1)) (exT d x m (q+1)) hs sa sc mv sf' cf' sn cn) /\
       (w'.setCell ⟨o2,2,none⟩ (.slice sf' ((exF d l q).length+1) cf')).heap[o0]?=some (.cells #[.int .i64 0,.int .i64 0,.slice none 0 0,.slice none 0 0] 42 (0,0))/\w'.frozen? ⟨o2,2,none⟩=false/\w'.cell? ⟨o2,2,none⟩=some (.slice sf (exF d l q).length cf)):=Kh (fun W1 w' sf' cf' ho hg h1=>by
      have b7:=h8.out.grow h1
      have l6:=zA b7.box hg (zS b7.ownF b7.box (by decide))
      have hp:=b7.pushF (b:=bf) rfl ho hg rfl
      have eF:exF d l q ++ [bf]=exF d m (q+1):=by rw[exF_next j1.out hk',<- b8.out,<- n0.out]
      have eT:exT d x l q ++ [tS (zT d x) (d.next.getD s [])]=exT d x m (q+1):=by rw[exT_next j1.out hk',<- b8.out]
      rw[eF,eT]at hp
      exact⟨⟨_,_,_,_,_,_,_,hp⟩,zA (zA (zA j5.out h1 (by simp)) hg (zS b7.ownF (zA j5.out h1 (by simp)) (by decide))) (zC w' ⟨o2,2,none⟩ _) (fun e=>H9 (Oj e).symm),zE l6 2,(zG l6).2.2.1⟩)
     have j3:Hid (∀ W1:World,wo.grownBy W1 none->W1.ownsRow o2 4 1 (.slice sf (exF d l q).length cf) (exF d l q).length (bls (exF d l q))/\o2<=W1.heap.size):=m6
     clear m6 p5
     go_region_law (first|(go_simp;go_at_call 123;refine(m9.out _ (by first|exact zL wo none|exact zU wo _ none)).mono ?_;rintro e w' ⟨rfl,rfl⟩)|(refine eV ?g1 (.tmp 61) (.tmp 65) 39 ?g2 cK o2 (.slice sf (exF d l q).length cf) (exF d l q).length (bls (exF d l q)) ?g3 ?g4 (.bool bf) wo.heap.size (0,0) ?g5 ?g6 ?g7 ?g8 ?g9 ?g10 ?_;(case g1=>rfl);(case g2=>rfl);(case g3=>rfl);(case g4=>(refine(j3.out _ ?_).1;exact tQ (o:=.cells #[.bool bf] 4) rfl rfl rfl rfl));(case g5=>rfl);(case g6=>exact heap_alloc_new (wo.drew) _);(case g7=>rfl);(case g8=>(rw[j4.out];unfold maxLen;omega));(case g9=>(rw[j4.out];omega));(case g10=>(refine(j3.out _ ?_).2;exact tQ (o:=.cells #[.bool bf] 4) rfl rfl rfl rfl));intro sf8 cf8 w8 H5 l1;have c8:=H7.out _ _ _ _ H5 l1 (tQ (o:=.cells #[.bool bf] 4) rfl rfl rfl rfl);have i1:=c8.2.2.1;have i2:=c8.2.2.2;have m5:=Kh c8;clear c8 H5 l1)|fail)
     all_goals
      clear H7 j3 m9 j5 n0 o9 d4 h8 d0 d1 d2 d3 fz2 i1 i2 j4 j0 H4 j6 h2
      obtain⟨w9,j9⟩:∃ W9,W9=w8.setCell ⟨o2,2,none⟩ (.slice sf8 ((exF d l q).length+1) cf8):=⟨_,rfl⟩
      rw[<- j9]at m5 ⊢
      clear j9
      go_wp2
      go_roundg (n - (q+1))
      case measure=>have:=m7.out;omega
      case rel =>
       obtain⟨⟨n5,X9,sa9,sc9,mv9,sn9,cn9,d8⟩,i9,_,_⟩:=m5.out
       exact⟨q+1,m,n5,X9,sa9,sc9,mv9,sf8,cf8,sn9,cn9,by have:=m7.out;omega,by go_num,o4,m0.out,i9,d8⟩
  ·have f9:¬ (q:Int) < l.length:=by omega
   have d5:=Kh (a9.out.done hk')
   have m4:Hid (q=l.length):=Kh (by omega)
   obtain⟨d0,d1,d2,d3⟩:=zG h0.out.box
   obtain⟨e0,e1,e2,e3⟩:=zG h2.out
   have f0:=zE h2.out 0
   have f1:=zE h2.out 1
   have f2:=zE h2.out 2
   have f3:=zE h2.out 3
   go_wp2_with fail
   obtain⟨c0,c1⟩:=vC h0.out.num.box
   have o3:o0≠oN:=by omega
   go_region
   all_goals (try go_frame)
   all_goals go_wp2
   obtain⟨i4,g0⟩:=wG h2.out (.int .i64 (k:Int)) (.int .i64 0) (.slice sf (exF d l q).length cf) (.slice sn (exT d k l q).length cn)
   obtain⟨wz,j7⟩:∃ wz,wz=(((wr.setCell ⟨o0,0,none⟩ (.int .i64 (k:Int))).setCell ⟨o0,1,none⟩ (.int .i64 0)).setCell ⟨o0,2,none⟩ (.slice sf (exF d l q).length cf)).setCell ⟨o0,3,none⟩ (.slice sn (exT d k l q).length cn):=⟨_,rfl⟩
   rw[<- j7]at i4 g0 ⊢
   clear j7
   have a0:=zB (row:=some o0) g0 (zL wz none) (by simp)
   have l4:wz.drew.heap[o0]?=some (.cells #[.int .i64 (k:Int),.int .i64 0,.slice sf (exF d l q).length cf,.slice sn (exT d k l q).length cn] 42 (0,0)):=i4
   obtain⟨wf,j8⟩:∃ wf,wf=wz.drew:=⟨_,rfl⟩
   rw[<- j8]at a0 l4 ⊢
   obtain⟨r0,r1,r2,r3⟩:=zG l4
   clear j8 i4 g0
   refine bodyPost_ret (v:=.tuple #[.agg #[.int .i64 (k:Int),.int .i64 0,.slice sf (exF d l q).length cf,.slice sn (exT d k l q).length cn],.slice sa l.length sc,.int .i64 0]) (by simp[results,Try.results121,go_sem,r0,r1,r2,r3]) rfl ?_
   have eF:exF d l q=(xK d k).final:=by
    rw[exF,m4.out,List.take_length,d5.out];rfl
   have eT:exT d k l q=(xK d k).next:=by
    rw[exT,m4.out,List.take_length,d5.out];rfl
   have h3:=h0.out
   have o7:W.grownBy wf none:=zB h3.grown a0 (fun k e=>by have e:o0=k:=Oj e;omega)
   have e4:zY wr 3 o0:=⟨_,_,_,h2.out,by decide⟩
   have f8:(exF d l q).length=(exT d k l q).length:=by rw[qBI (by omega),bH (by omega)]
   have i8:=zA h3.box a0 (fun e=>H9 (Oj e))
   have l9:=h3.ownF.kept a0 (.inr (zS h3.ownF h2.out (by decide)))
   have l8:=h3.ownN.kept a0 (.inr (zS h3.ownN h2.out (by decide)))
   have k3:=(h3.rows.keptT a0 (fun k e=>by have e:o0=k:=Oj e;subst e;exact e4)).rowsT
   have a6:=h3.num.own.kept a0 (.inr (zS h3.num.own h2.out (by decide)))
   have l3:(xK d k).letters=k:=HD.out.hk
   rw[eF]at f8 i8 l9 ⊢
   rw[eT]at f8 i8 l8 k3 ⊢
   refine⟨_,sa,sc,by rw[<- d5.out],?_,by rw[<- d5.out];exact a6,o7⟩
   exact⟨o2,hs,sf,cf,sn,cn,by rw[l3];rfl,b0,by rw[l3];exact i8,l9,l8,k3,f8⟩
end Go.Proofs.Ytjfdomfendbhfaa
