/- Part 48 of the proof: LDia. -/
import Derived.Test.YtjfdomfendbhfaaQe32
import Derived.Test.YtjfdomfendbhfaaQe47
import Derived.Deep.DeepCutAuto
set_option linter.unusedVariables false
set_option linter.unusedSimpArgs false
namespace Go.Proofs.Ytjfdomfendbhfaa
open Go.RowKit Go.Maps
def DgI (np:Nat) (p:Int) (low:Nat) (cs:List ChoV):Prop :=
 low<=cs.length/\xD np cs cs.length/\(∀ i,i < cs.length->p<=(cs.getD i default).p)/\∀ i,i < low->p < (cs.getD i default).p
theorem DgI.next {np low:Nat} {p:Int} {cs:List ChoV} (h:DgI np p low cs):DgI np (p - 1) cs.length cs :=
 ⟨Nat.le_refl _,h.2.1,fun i hi=>by have:=h.2.2.1 i hi;omega,fun i hi=>by have:=h.2.2.1 i hi;omega⟩
theorem DgI.push {np low:Nat} {p y n:Int} {cs:List ChoV} (h:DgI np p low cs) (hp0:0<=p) (hp:p < np) (hy0:0<=y) (hy:y < 2+(low:Int)) (hn0:0<=n) (hn:n < 2+(low:Int)):DgI np p low (cs ++ [⟨p,y,n⟩]):=by
 obtain⟨h1,h2,h3,h4⟩:=h
 have e:∀ j,j < cs.length->(cs ++ [(⟨p,y,n⟩:ChoV)]).getD j default=cs.getD j default:=fun j hj=>sM (List.prefix_append _ _) hj
 have el:(cs ++ [(⟨p,y,n⟩:ChoV)]).getD cs.length default=⟨p,y,n⟩:=by rw[List.getD_eq_getElem?_getD,List.getElem?_append_right (Nat.le_refl _),Nat.sub_self];rfl
 refine⟨by rw[List.length_append];omega,?_,fun i hi=>?_,fun i hi=>?_⟩
 ·rw[List.length_append,List.length_singleton]
  refine oZ (fun i hi=>(eD (List.prefix_append _ _) hi).trans (h2 i hi)) ?_
  simp only[choB,refB,el,Bool.and_eq_true,decide_eq_true_eq]
  have hr:∀ r:Int,0<=r->r < 2+(low:Int)->((0<=r/\r<=1+(cs.length:Int))/\(r < 2\/p < ((cs ++ [(⟨p,y,n⟩:ChoV)]).getD (r.toNat - 2) default).p)):=fun r h0 hr=>by
   refine⟨by omega,?_⟩
   by_cases h2':r < 2
   ·exact .inl h2'
   ·exact .inr (by rw[e _ (by omega)];exact h4 _ (by omega))
  exact⟨⟨hp0,hp⟩,hr y hy0 hy,hr n hn0 hn⟩
 ·rw[List.length_append,List.length_singleton]at hi
  rcases Nat.lt_succ_iff_lt_or_eq.1 hi with hi|rfl
  ·rw[e i hi];exact h3 i hi
  ·rw[el];exact Int.le_refl _
 ·rw[e i (by omega)];exact h4 i hi
theorem rR {w:World} {m e e':Nat} {cs:Array Value} {q:Nat × Nat} (h:w.heap[m]?=some (.cells cs e q)) (hne:e≠e'):∀ j,some m=some j->zY w e' j:=fun j ej=>by
 have ej:m=j:=Oj ej
 subst ej
 exact⟨_,_,_,h,hne⟩
structure DgD (B tb:Nat) (w0:World) (w:World) (k:Nat) (pa ca:Option Addr) (np nc pc cc:Nat) (root:Int) (L:List (List (List Int))) (cs:List ChoV):Prop where
 pats:∃ svs,RowT w.heap.size 28 w (.slice pa np pc) svs/\xS w.heap.size 9 strs w svs L
 np_:np=L.length
 nc_:nc=cs.length
 own:∃ base,w0.heap.size < base/\w.ownsRow base 45 3 (.slice ca nc cc) nc (wJ cs)
 good:∀ p∈L,wQ (k:Int) p
 few:1<=np/\np<=4/\nc<=100
 val:xD np cs cs.length
 root_:0<=root/\root<=1+(nc:Int)
 tape:xB B w tb
 gr:w0.grownBy w (some tb)
def DgRet (B tb:Nat) (w:World) (k:Nat) (e:Ending) (w':World):Prop:=∃ pa ca np nc pc cc root L cs,e=.returned (.agg #[.slice pa np pc,.slice ca nc cc,.int .i64 root])/\DgD B tb w w' k pa ca np nc pc cc root L cs
theorem aV {B tb Q base k np nc pc cc:Nat} {w w5:World} {pa ca:Option Addr} {root:Int} {x0 x1 x2:Value} {svs:List Value} {L:List (List (List Int))} {cs:List ChoV} (hbQ:w5.heap[Q]?=some (.cells #[x0,x1,x2] 25 (0,0))) (hQ:Q=w.heap.size) (hB:base=Q+2) (htQ:tb < Q) (hBQ:B<=Q)
  (hrt:RowT w5.heap.size 28 w5 (.slice pa np pc) svs) (hrs:xS w5.heap.size 9 strs w5 svs L) (h1:np=L.length) (h2:nc=cs.length) (ho:w5.ownsRow base 45 3 (.slice ca nc cc) nc (wJ cs)) (hgd:∀ p∈L,wQ (k:Int) p) (hf:1<=np/\np<=4/\nc<=100) (hv:xD np cs cs.length) (hr:0<=root/\root<=1+(nc:Int)) (hT:xB B w5 tb) (hg:w.grownBy w5 (some tb)) :
  (((w5.setCell ⟨Q,0,none⟩ (.slice pa np pc)).setCell ⟨Q,1,none⟩ (.slice ca nc cc)).setCell ⟨Q,2,none⟩ (.int .i64 root)).heap[Q]?=some (.cells #[.slice pa np pc,.slice ca nc cc,.int .i64 root] 25 (0,0))/\DgD B tb w (((w5.setCell ⟨Q,0,none⟩ (.slice pa np pc)).setCell ⟨Q,1,none⟩ (.slice ca nc cc)).setCell ⟨Q,2,none⟩ (.int .i64 root)) k pa ca np nc pc cc root L cs:=by
 have g1:=zD (zD (zC w5 ⟨Q,0,none⟩ (.slice pa np pc)) (zC _ ⟨Q,1,none⟩ (.slice ca nc cc))) (zC _ ⟨Q,2,none⟩ (.int .i64 root))
 have z1:=heap_setCell_same _ Q 2 _ _ (.int .i64 root) (heap_setCell_same _ Q 1 _ _ (.slice ca nc cc) (heap_setCell_same w5 Q 0 _ _ (.slice pa np pc) hbQ))
 simp only[Array.setIfInBounds,List.size_toArray,List.length_cons,List.length_nil]at z1
 refine⟨z1,⟨svs,(hrt.kept g1 (fun j e=>.inr (rR hbQ (by decide) j e))).mono g1.size,(hrs.kept g1 (fun j e=>.inr (rR hbQ (by decide) j e))).mono g1.size⟩,h1,h2,⟨base,by omega,ho.kept g1 ?_⟩,hgd,hf,hv,hr,hT.kept g1 (fun j e=>by have e:Q=j:=Oj e;omega),yW hg g1 (.inr (.inl rfl)) (.inr (.inr ⟨Q,rfl,by omega⟩))⟩
 rcases hv:(Value.slice ca nc cc).ownBlock with _|j
 ·exact .inl rfl
 ·exact .inr (fun e=>by have e:j=Q:=Oj e;have:=(ho.lt j hv).1;omega)
set_option maxRecDepth 100000 in
set_option maxHeartbeats 1600000 in
theorem ldia_any (B tb:Nat) (w:World) (k:Nat) (hk1:1<=k) (hk6:k<=6) (hT:xB B w tb) :
  Calls Try.prog 26 #[.pointer (some ⟨tb,0,none⟩),.int .i64 (k:Int)] w (DgRet B tb w k):=by
 obtain⟨f1,f0,e9,i7⟩:=mC w #[.slice none 0 0,.slice none 0 0,.int .i64 0] 25 #[.slice none 0 0,.slice none 0 0,.int .i64 0] 25
 obtain⟨wA,g5⟩:∃ wA,wA=(w.alloc (.cells #[.slice none 0 0,.slice none 0 0,.int .i64 0] 25)).alloc (.cells #[.slice none 0 0,.slice none 0 0,.int .i64 0] 25):=⟨_,rfl⟩
 rw[<- g5]at f1 f0 e9 i7
 obtain⟨Q,hQ⟩:∃ Q,Q=w.heap.size:=⟨_,rfl⟩
 obtain⟨P,hP⟩:∃ P,P=w.heap.size+1:=⟨_,rfl⟩
 rw[<- hQ]at f1
 rw[<- hP]at f0
 have b8:=Kh hQ;have g9:Hid (P=Q+1):=Kh (by omega)
 have l1:=hT.lt;have n8:=hT.ge
 have j0:tb < Q:=by omega
 have n7:Q < P:=by omega
 have l9:Hid (wA.heap.size=P+1):=Kh (by omega)
 have m2:=Kh (hT.kept e9 (by simp))
 have n0:=Kh f1;have m9:=Kh f0;have m7:=Kh e9;have m0:=Kh g5
 have o0:=Kh hT
 clear f1 f0 e9 g5 hQ hP i7 l1 hT
 go_enter Try.func26,Try.ntmps26
 go_upto_region 2 with fail
 rw[<- m0.out,<- b8.out,<- g9.out]
 go_wp2_with fail
 refine(uK B tb wA 4 (by omega) m2.out).mono ?_
 rintro e w1 ⟨r,rfl,g3,g1,k2,d6⟩
 replace g1:=g1 (by omega)
 have c7:=Kh (zA n0.out d6 (fun e=>by have:=Oj e;omega))
 have k6:=Kh (zA m9.out d6 (fun e=>by have:=Oj e;omega))
 have k5:=Kh k2
 have n9:Hid (P+1<=w1.heap.size):=Kh (by have:=d6.size;have:=l9.out;omega)
 have k9:Hid (w.grownBy w1 (some tb)):=Kh (zD (yY m7.out) d6)
 obtain⟨n,hn⟩:∃ n:Nat,1+r=(n:Int):=⟨(1+r).toNat,by omega⟩
 have d5:1<=n:=by omega
 have j3:n<=4:=by omega
 clear g3 g1 k2 d6
 have g7:Hid (w1.ownsRow (P+1) 28 1 (.slice none 0 0) 0 []/\xS w1.heap.size 9 strs w1 [] []):=Kh ⟨World.ownsRow_nil _ _ _ _,xS.nil⟩
 go_wp2
 go_loopg [7] n (fun gh v7 wr=>∃ (i cc:Nat) (sa:Option Addr) (svs:List Value) (L:List (List (List Int))),gh+i=n/\v7=.int .i64 (i:Nat)/\L.length=i/\wr.heap[Q]?=some (.cells #[.slice none 0 0,.slice none 0 0,.int .i64 0] 25 (0,0))/\wr.heap[P]?=some (.cells #[.slice sa i cc,.slice none 0 0,.int .i64 0] 25 (0,0)) /\
   wr.ownsRow (P+1) 28 1 (.slice sa i cc) i svs/\xS wr.heap.size 9 strs wr svs L/\(∀ p∈L,wQ (k:Int) p)/\xB B wr tb/\w.grownBy wr (some tb))
 case atStart=>exact⟨0,0,none,[],[],rfl,rfl,rfl,c7.out,k6.out,g7.out.1,g7.out.2,by simp,k5.out,k9.out⟩
 case round =>
  clear g7 c7 k6 k5 k9
  obtain⟨i,cc,sa,svs,L,j8,rfl,k3,b7,h8,ho,H6,j9,hT,hg⟩:=hrel
  have f6:=Kh j8;have i1:=Kh k3;have a0:=Kh b7;have H1:=Kh h8;have HO:=Kh ho;have H8:=Kh H6;have i2:=Kh j9;have HT:=Kh hT;have HG:=Kh hg
  have f3:=zH h8
  clear j8 k3 b7 h8 ho H6 j9 hT hg
  by_cases hi:i < n
  ·have j5:(i:Int) < n:=by omega
   go_upto_region 6 with fail
   refine dg_reg6 (P:=P) (tb:=tb) (B:=B) (base:=P+1) (m:=i) (svs:=svs) (letters:=(k:Int)) (cv:=.slice none 0 0) (rv:=.int .i64 0) H1.out HO.out HT.out ⟨by omega,by omega⟩ (by omega) (by omega) (by omega) (by omega) (by omega) (by omega) ?_
   intro z19 z20 z21 z22 z23 z24 z25 z26 sc' cc' u bs wa wb wc h4 H7 h3 h9 c8 b6 H4 d4 e5
   have d3:=fun j e=>yI H7 (e':=9) (by decide) j e
   have H2:=zA H1.out h4 (fun e=>by have:=Oj e;omega)
   have H0:=zA H2 h3 (fun e=>by have:=(H7.lt P e).1;omega)
   have c1:Hid (xS wc.heap.size 9 strs wc (svs ++ [u]) (L ++ [bs])):=Kh (by
    have h1:=((H8.out.kept h4 (fun j e=>.inr ((wO HT.out) j e).2)).mono h4.size).snoc c8
    have h2:=(h1.kept h3 (fun j e=>.inr (d3 j e))).mono h3.size
    exact(h2.kept h9 (fun j e=>.inr (rR H0 (by decide) j e))).mono h9.size)
   have c5:Hid (wc.heap[Q]?=some (.cells #[.slice none 0 0,.slice none 0 0,.int .i64 0] 25 (0,0))):=Kh (zA (zA (zA a0.out h4 (fun e=>by have:=Oj e;omega)) h3 (fun e=>by have:=(H7.lt Q e).1;omega)) h9 (fun e=>by have:=Oj e;omega))
   have i3:Hid (w.grownBy wc (some tb)):=Kh (by
    refine yW (yW (zD HG.out h4) h3 (.inr (.inl rfl)) ?_) h9 (.inr (.inl rfl)) (.inr (.inr ⟨P,rfl,by have:=b8.out;omega⟩))
    rcases hv:(Value.slice sa i cc).ownBlock with _|j
    ·exact .inl rfl
    ·exact .inr (.inr ⟨j,rfl,by have:=(HO.out.lt j hv).1;have:=b8.out;omega⟩))
   have c6:=Kh H4;have i0:=Kh d4;have g6:=Kh e5;have m6:=Kh b6
   clear h4 H7 h3 h9 c8 b6 H4 d4 e5 d3 H2 H0
   go_wp2
   go_roundg (n - (i+1))
   case measure=>have:=f6.out;omega
   case rel=>exact⟨i+1,cc',sc',svs ++ [u],L ++ [bs],by have:=f6.out;omega,by go_num,by rw[List.length_append,i1.out];rfl,c5.out,c6.out,i0.out,c1.out,fun p hp=>by rcases List.mem_append.1 hp with h|h;exact i2.out p h;(simp only[List.mem_cons,List.not_mem_nil,or_false]at h;subst h;exact m6.out),g6.out,i3.out⟩
  ·have l5:i=n:=by have:=f6.out;omega
   have j5:¬ (i:Int) < n:=by omega
   clear hi
   subst l5
   have h8:=H1.out
   have b3:=Kh (RowT.of_owns HO.out)
   have l0:Hid (wr.ownsRow (P+1) 45 3 (.slice none 0 0) 0 (wJ [])):=Kh (World.ownsRow_nil _ _ _ _)
   have H9:Hid (DgI i ((i:Int) - 1) 0 []):=Kh ⟨Nat.le_refl _,fun j hj=>by simp at hj,fun j hj=>by simp at hj,fun j hj=>by omega⟩
   clear j5 h8
   go_wp2
   go_loopg [8,9,10] i (fun gh v8 v9 v10 wr=>∃ (p:Int) (q cq:Nat) (sq:Option Addr) (cs:List ChoV),v8=.int .i64 p/\-1<=p/\p < i/\(gh:Int)=p+1/\cs.length=q/\DgI i p q cs/\(q:Int)+2 * p<=2 * (i:Int) - 2/\wr.heap[Q]?=some (.cells #[.slice none 0 0,.slice none 0 0,.int .i64 0] 25 (0,0))/\wr.heap[P]?=some (.cells #[.slice sa i cc,.slice sq q cq,.int .i64 0] 25 (0,0)) /\
     RowT wr.heap.size 28 wr (.slice sa i cc) svs/\xS wr.heap.size 9 strs wr svs L/\wr.ownsRow (P+1) 45 3 (.slice sq q cq) q (wJ cs)/\xB B wr tb/\w.grownBy wr (some tb))
   case atStart=>exact⟨(i:Int) - 1,0,0,none,[],by go_num,by omega,by omega,by omega,rfl,H9.out,by omega,a0.out,H1.out,b3.out,H8.out,l0.out,HT.out,HG.out⟩
   case round =>
    clear H9 a0 H1 b3 H8 l0 HT HG HO f6 f3
    obtain⟨p,q,cq,sq,cs,rfl,n6,l4,j7,k0,d8,j1,b7,h8,b9,H6,ho,hT,hg⟩:=hrel
    have m5:=Kh j7;have i5:=Kh k0;have H9:=Kh d8;have c7:=Kh j1;have a0:=Kh b7;have H1:=Kh h8;have b3:=Kh b9;have H8:=Kh H6;have HO:=Kh ho;have HT:=Kh hT;have HG:=Kh hg
    obtain⟨b0,b1,b2⟩:=zJ h8
    have f3:=zH h8
    clear j7 k0 d8 j1 b7 h8 b9 H6 ho hT hg
    by_cases hp:0<=p
    ·go_wp2_with fail
     refine(uK B tb wr 3 (by omega) HT.out).mono ?_
     rintro e w2 ⟨r3,rfl,g3,g2,e4,h0⟩
     replace g2:=g2 (by omega)
     obtain⟨r,hr⟩:∃ r:Nat,r3=(r:Int):=⟨r3.toNat,by omega⟩
     subst hr
     have n1:r<=2:=by omega
     have b5:=Kh (zA a0.out h0 (fun e=>by have:=Oj e;omega))
     have h7:=Kh (zA H1.out h0 (fun e=>by have:=Oj e;omega))
     have a9:=Kh ((b3.out.kept h0 (fun j e=>.inr (wO HT.out j e).1)).mono h0.size)
     have b4:=Kh ((H8.out.kept h0 (fun j e=>.inr (wO HT.out j e).2)).mono h0.size)
     have f5:=Kh (HO.out.kept h0 (by rcases hv:(Value.slice sq q cq).ownBlock with _|j;exact .inl rfl;exact .inr (fun e=>by have e:j=tb:=Oj e;have:=(HO.out.lt j hv).1;omega)))
     have f4:=Kh e4
     have f7:=Kh (zD HG.out h0)
     have e8:Hid (DgI i p q cs):=Kh H9.out
     clear g3 g2 e4 h0 b0 b1 b2 f3
     go_wp2
     go_loopg [10] r (fun gh v10 wr=>∃ (r' q' cq':Nat) (sq':Option Addr) (cs':List ChoV),gh=r'/\v10=.int .i64 (r':Nat)/\cs'.length=q'/\q'+r'<=q+2/\q<=q'/\DgI i p q cs'/\wr.heap[Q]?=some (.cells #[.slice none 0 0,.slice none 0 0,.int .i64 0] 25 (0,0))/\wr.heap[P]?=some (.cells #[.slice sa i cc,.slice sq' q' cq',.int .i64 0] 25 (0,0)) /\
       RowT wr.heap.size 28 wr (.slice sa i cc) svs/\xS wr.heap.size 9 strs wr svs L/\wr.ownsRow (P+1) 45 3 (.slice sq' q' cq') q' (wJ cs')/\xB B wr tb/\w.grownBy wr (some tb))
     case atStart=>exact⟨r,q,cq,sq,cs,rfl,rfl,i5.out,by omega,Nat.le_refl _,e8.out,b5.out,h7.out,a9.out,b4.out,f5.out,f4.out,f7.out⟩
     case round =>
      clear e8 b5 h7 a9 b4 f5 f4 f7 a0 H1 b3 H8 HO HT HG H9
      obtain⟨r',q',cq',sq',cs',j6,rfl,d9,l2,n2,d8,b7,h8,b9,H6,ho,hT,hg⟩:=hrel
      have m4:=Kh j6;have c4:=Kh d9;have H9:=Kh d8;have o1:=Kh l2;have a0:=Kh b7;have H1:=Kh h8;have b3:=Kh b9;have H8:=Kh H6;have HO:=Kh ho;have HT:=Kh hT;have HG:=Kh hg
      have f3:=zH h8
      have n3:q<=6:=by have:=c7.out;omega
      have l3:q'<=8:=by omega
      clear j6 d9 d8 b7 h8 b9 H6 ho hT hg
      by_cases hr':0 < r'
      ·have g4:(0:Int) < r':=by omega
       go_upto_region 14 with fail
       refine dg_reg14 (P:=P) (tb:=tb) (B:=B) (base:=P+1) (m:=q') (cs:=cs') (i:=p) (pv:=.slice sa i cc) (rv:=.int .i64 0) (low:=(q:Int)) H1.out HO.out HT.out ⟨by omega,by omega⟩ (by omega) (by omega) (by omega) (by omega) ⟨by omega,by omega⟩ ?_
       intro z42 z43 z44 z45 z46 z47 z48 z49 z50 z51 z52 z53 z54 z55 z56 sc' cc' y n wa wb wc h4 H7 h3 h9 i9 i8 j4 d5 H4 d4 e5
       have d3:=fun j e=>yI H7 (e':=9) (by decide) j e
       have j2:=fun j e=>yI H7 (e':=28) (by decide) j e
       have H2:=zA H1.out h4 (fun e=>by have:=Oj e;omega)
       have H0:=zA H2 h3 (fun e=>by have:=(H7.lt P e).1;omega)
       have c1:Hid (xS wc.heap.size 9 strs wc svs L):=Kh (by
        have h1:=(H8.out.kept h4 (fun j e=>.inr ((wO HT.out) j e).2)).mono h4.size
        have h2:=(h1.kept h3 (fun j e=>.inr (d3 j e))).mono h3.size
        exact(h2.kept h9 (fun j e=>.inr (rR H0 (by decide) j e))).mono h9.size)
       have g8:Hid (RowT wc.heap.size 28 wc (.slice sa i cc) svs):=Kh (by
        have h1:=(b3.out.kept h4 (fun j e=>.inr ((wO HT.out) j e).1)).mono h4.size
        have h2:=(h1.kept h3 (fun j e=>.inr (j2 j e))).mono h3.size
        exact(h2.kept h9 (fun j e=>.inr (rR H0 (by decide) j e))).mono h9.size)
       have c5:Hid (wc.heap[Q]?=some (.cells #[.slice none 0 0,.slice none 0 0,.int .i64 0] 25 (0,0))):=Kh (zA (zA (zA a0.out h4 (fun e=>by have:=Oj e;omega)) h3 (fun e=>by have:=(H7.lt Q e).1;omega)) h9 (fun e=>by have:=Oj e;omega))
       have i3:Hid (w.grownBy wc (some tb)):=Kh (by
        refine yW (yW (zD HG.out h4) h3 (.inr (.inl rfl)) ?_) h9 (.inr (.inl rfl)) (.inr (.inr ⟨P,rfl,by have:=b8.out;omega⟩))
        rcases hv:(Value.slice sq' q' cq').ownBlock with _|j
        ·exact .inl rfl
        ·exact .inr (.inr ⟨j,rfl,by have:=(HO.out.lt j hv).1;have:=b8.out;omega⟩))
       have m8:Hid (DgI i p q (cs' ++ [⟨p,y,n⟩])):=Kh (H9.out.push hp l4 i9 i8 j4 d5)
       have c6:=Kh H4;have i0:=Kh d4;have g6:=Kh e5
       clear h4 H7 h3 h9 H4 d4 e5 d3 j2 H2 H0 i9 i8 j4 d5
       go_wp2
       go_roundg (r' - 1)
       case measure=>have:=m4.out;omega
       case rel=>exact⟨r' - 1,q'+1,cc',sc',cs' ++ [⟨p,y,n⟩],rfl,by go_num,by rw[List.length_append,c4.out];rfl,by omega,by omega,m8.out,c5.out,c6.out,g8.out,c1.out,i0.out,g6.out,i3.out⟩
      ·have g4:¬ (0:Int) < r':=by omega
       go_wp2
       go_roundg (p.toNat)
       case measure=>have:=m5.out;omega
       case rel=>exact⟨p - 1,q',cq',sq',cs',by go_num,by omega,by omega,by omega,c4.out,by have:=H9.out.next;rw[c4.out]at this;exact this,by have:=c7.out;omega,a0.out,H1.out,b3.out,H8.out,HO.out,HT.out,HG.out⟩
    ·have n5:p = -1:=by omega
     have n4:q<=8:=by have:=c7.out;omega
     go_wp2_with fail
     refine(uK B tb wr (2+(q:Int)) (by omega) HT.out).mono ?_
     rintro e w2 ⟨r5,rfl,c9,c0,e4,h0⟩
     replace c0:=c0 (by omega)
     have m3:Hid (0<=r5/\r5<=1+(q:Int)):=Kh ⟨c9,by omega⟩
     have b5:=Kh (zA a0.out h0 (fun e=>by have:=Oj e;omega))
     have h7:=Kh (zA H1.out h0 (fun e=>by have:=Oj e;omega))
     have a9:=Kh ((b3.out.kept h0 (fun j e=>.inr (wO HT.out j e).1)).mono h0.size)
     have b4:=Kh ((H8.out.kept h0 (fun j e=>.inr (wO HT.out j e).2)).mono h0.size)
     have f5:=Kh (HO.out.kept h0 (by rcases hv:(Value.slice sq q cq).ownBlock with _|j;exact .inl rfl;exact .inr (fun e=>by have e:j=tb:=Oj e;have:=(HO.out.lt j hv).1;omega)))
     have f4:=Kh e4
     have f7:=Kh (zD HG.out h0)
     have SET:Hid (∀ (W:World) (u:Int),W.heap[P]?=some (.cells #[.slice sa i cc,.slice sq q cq,.int .i64 u] 25 (0,0))->W.heap[Q]?=some (.cells #[.slice none 0 0,.slice none 0 0,.int .i64 0] 25 (0,0))->RowT W.heap.size 28 W (.slice sa i cc) svs->xS W.heap.size 9 strs W svs L->W.ownsRow (P+1) 45 3 (.slice sq q cq) q (wJ cs)->xB B W tb->w.grownBy W (some tb)->∀ y:Int,(W.setCell ⟨P,2,none⟩ (.int .i64 y)).heap[P]?=some (.cells #[.slice sa i cc,.slice sq q cq,.int .i64 y] 25 (0,0))/\(W.setCell ⟨P,2,none⟩ (.int .i64 y)).heap[Q]?=some (.cells #[.slice none 0 0,.slice none 0 0,.int .i64 0] 25 (0,0)) /\
       RowT (W.setCell ⟨P,2,none⟩ (.int .i64 y)).heap.size 28 (W.setCell ⟨P,2,none⟩ (.int .i64 y)) (.slice sa i cc) svs/\xS (W.setCell ⟨P,2,none⟩ (.int .i64 y)).heap.size 9 strs (W.setCell ⟨P,2,none⟩ (.int .i64 y)) svs L/\(W.setCell ⟨P,2,none⟩ (.int .i64 y)).ownsRow (P+1) 45 3 (.slice sq q cq) q (wJ cs)/\xB B (W.setCell ⟨P,2,none⟩ (.int .i64 y)) tb/\w.grownBy (W.setCell ⟨P,2,none⟩ (.int .i64 y)) (some tb)):=Kh (fun W u hP hQ b9 H6 ho hT hg y=>by
      have g:=zC W ⟨P,2,none⟩ (.int .i64 y)
      refine⟨heap_setCell_same W P 2 _ _ _ hP,zA hQ g (fun e=>by have e:P=Q:=Oj e;omega),(b9.kept g (fun j e=>.inr (rR hP (by decide) j e))).mono g.size,(H6.kept g (fun j e=>.inr (rR hP (by decide) j e))).mono g.size,ho.kept g ?_,hT.kept g (fun j e=>by have e:P=j:=Oj e;omega),yW hg g (.inr (.inl rfl)) (.inr (.inr ⟨P,rfl,by have:=b8.out;omega⟩))⟩
      rcases hv:(Value.slice sq q cq).ownBlock with _|j
      ·exact .inl rfl
      ·exact .inr (fun e=>by have e:j=P:=Oj e;have:=(ho.lt j hv).1;omega))
     have H3:=Kh (SET.out w2 _ h7.out b5.out a9.out b4.out f5.out f4.out f7.out r5)
     have f2:=zE h7.out 2
     obtain⟨e0,e1,e2⟩:=zJ h7.out
     have l8:=zH h7.out
     clear c9 c0 e4 h0 b0 b1 b2
     go_wp2_with fail
     obtain⟨a1,a2,a3,a4,a5,a6,a7⟩:=H3.out
     refine(uK B tb _ 4 (by omega) a6).mono ?_
     rintro e w4 ⟨r6,rfl,g0,f9,k1,a8⟩
     have h5:=Kh (zA a2 a8 (fun e=>by have:=Oj e;omega))
     have H5:=Kh (zA a1 a8 (fun e=>by have:=Oj e;omega))
     have e6:=Kh ((a3.kept a8 (fun j e=>.inr (wO a6 j e).1)).mono a8.size)
     have e7:=Kh ((a4.kept a8 (fun j e=>.inr (wO a6 j e).2)).mono a8.size)
     have k7:=Kh (a5.kept a8 (by rcases hv:(Value.slice sq q cq).ownBlock with _|j;exact .inl rfl;exact .inr (fun e=>by have e:j=tb:=Oj e;have:=(a5.lt j hv).1;omega)))
     have k4:=Kh k1
     have k8:=Kh (zD a7 a8)
     clear g0 f9 k1 a8 a1 a2 a3 a4 a5 a6 a7 e0 e1 e2 f2 l8
     by_cases h6:0 < r6
     ·have f2:=zE H5.out 2
      obtain⟨e0,e1,e2⟩:=zJ H5.out
      have l7:=zH H5.out
      obtain⟨a1,a2,a3,a4,a5,a6,a7⟩:=SET.out w4 _ H5.out h5.out e6.out e7.out k7.out k4.out k8.out (1+(q:Int))
      obtain⟨w5,f8⟩:∃ w5,w5=w4.setCell ⟨P,2,none⟩ (.int .i64 (1+(q:Int))):=⟨_,rfl⟩
      rw[<- f8]at a1 a2 a3 a4 a5 a6 a7
      have m1:=Kh f8
      have A1:=Kh a1;have A2:=Kh a2;have A3:=Kh a3;have A4:=Kh a4;have A5:=Kh a5;have A6:=Kh a6;have A7:=Kh a7
      clear f8 a1 a2 a3 a4 a5 a6 a7
      go_upto_region 18 with fail
      clear e0 e1 e2 f2 l7
      rw[<- m1.out]
      obtain⟨e0,e1,e2⟩:=zJ A1.out
      have fq0:=zE A2.out 0
      have fq1:=zE A2.out 1
      have fq2:=zE A2.out 2
      obtain⟨d0,d1,d2⟩:=zJ A2.out
      have l6:=zH A2.out
      have c3:Hid (q=cs.length):=Kh i5.out.symm
      have c2:Hid (i=L.length):=Kh i1.out.symm
      obtain⟨e3,d7⟩:=aV (B:=B) (tb:=tb) (w:=w) (k:=k) (root:=1+(q:Int)) (nc:=q) A2.out b8.out (base:=P+1) (by have:=g9.out;omega) j0 (by omega) A3.out A4.out c2.out c3.out A5.out i2.out ⟨d5,j3,by omega⟩ H9.out.2.1 ⟨by omega,by omega⟩ A6.out A7.out
      have i6:=Kh e3;have i4:=Kh d7
      clear e3 d7
      go_wp2
      obtain⟨y0,y1,y2⟩:=zJ i6.out
      refine bodyPost_ret (v:=.agg #[.slice sa i cc,.slice sq q cq,.int .i64 (1+(q:Int))]) (by simp[results,Try.results26,go_sem,y0,y1,y2]) rfl ?_
      exact⟨sa,sq,i,q,cc,cq,_,L,cs,rfl,i4.out⟩
     ·obtain⟨e0,e1,e2⟩:=zJ H5.out
      have fq0:=zE h5.out 0
      have fq1:=zE h5.out 1
      have fq2:=zE h5.out 2
      obtain⟨d0,d1,d2⟩:=zJ h5.out
      have l6:=zH h5.out
      have c3:Hid (q=cs.length):=Kh i5.out.symm
      have c2:Hid (i=L.length):=Kh i1.out.symm
      obtain⟨e3,d7⟩:=aV (B:=B) (tb:=tb) (w:=w) (k:=k) (root:=r5) (nc:=q) h5.out b8.out (base:=P+1) (by have:=g9.out;omega) j0 (by omega) e6.out e7.out c2.out c3.out k7.out i2.out ⟨d5,j3,by omega⟩ H9.out.2.1 m3.out k4.out k8.out
      have i6:=Kh e3;have i4:=Kh d7
      clear e3 d7
      go_wp2
      obtain⟨y0,y1,y2⟩:=zJ i6.out
      refine bodyPost_ret (v:=.agg #[.slice sa i cc,.slice sq q cq,.int .i64 (r5)]) (by simp[results,Try.results26,go_sem,y0,y1,y2]) rfl ?_
      exact⟨sa,sq,i,q,cc,cq,_,L,cs,rfl,i4.out⟩
end Go.Proofs.Ytjfdomfendbhfaa
