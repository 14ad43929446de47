/- Part 14 of the proof. -/
import Derived.Test.YtjfdomfendbhfaaQf13
import Derived.BigRegion
set_option linter.unusedVariables false
set_option linter.unusedSimpArgs false
set_option maxRecDepth 100000
set_option maxHeartbeats 16000000
namespace Go.Proofs.Ytjfdomfendbhfaa
open Go.RowKit Go.Maps
theorem DsO.dfa {B:Nat}{w:World}{g off k:Nat}{ds:List DfaV}(h:DsO B w g off ds)(hok:OkT ds k){i:Nat}(hi:i<ds.length):
  ∃ n fb fo fc b of2 cap RB RO RC,VD (ds.getD i dN) n k/\n<=512/\w.cell? ⟨g,off+i * 4,none⟩=some (.int .i64 (k:Int))/\w.cell? ⟨g,off+i * 4+1,none⟩=some (.int .i64 ((st0 (ds.getD i dN):Nat):Int))/\w.cell? ⟨g,off+i * 4+2,none⟩=some (.slice (some ⟨fb,fo,none⟩) n fc)/\w.cell? ⟨g,off+i * 4+3,none⟩=some (.slice (some ⟨b,of2,none⟩) n cap)/\DAt B w (ds.getD i dN) n k fb fo fc b of2 cap RB RO RC:=by
 obtain⟨n,hv,h5⟩:=hok i hi;obtain⟨f,nx,h1,h2,h3,h4,hd⟩:=h.at_ i hi;obtain⟨fb,fo,fc,b,of2,cap,RB,RO,RC,e,h0⟩:=hd.at hv;rw[dAgg]at e;simp only[Value.agg.injEq]at e;have e:=congrArg Array.toList e;simp only[List.cons.injEq,and_true]at e;obtain⟨e1,e2,e3,e4⟩:=e;exact⟨n,fb,fo,fc,b,of2,cap,RB,RO,RC,hv,h5,by rw[h1,e1],by rw[h2,e2],by rw[h3,e3],by rw[h4,e4],h0⟩
theorem qHP {X:Nat->Prop}{w:World}{g n:Nat}{f:List Nat}(h:Arr w g 3 (nats f))(hn:f.length=n)(hm:n<=maxLen)(hX:X g):RowX X 3 w (.slice (some ⟨g,0,none⟩) n n) (nats f):=RowX.of_new h hn (Nat.le_refl _) hm hX
theorem prod_start {w wr:World}{G np k:Nat}{pv:Value}{x0:List Nat}(hg:w.grownBy wr none)(hG:Arr wr G 3 (nats x0))(hGl:w.heap.size<=G)(hx:x0.length=np)(hnp:np<=4096){w5:World}(hw5:w5=(((wr.alloc (.cells #[.slice (some ⟨G,0,none⟩) np np] 34)).alloc (.cells #[.int .i64 0] 3)).alloc (.cells #[.int .i64 0] 3)).alloc (.cells #[.int .i64 (k:Int),pv,.slice (some ⟨wr.heap.size,0,none⟩) 1 1,.slice none 0 0,.slice (some ⟨wr.heap.size+1,0,none⟩) 1 1,.slice (some ⟨wr.heap.size+1+1,0,none⟩) 1 1] 111)):
  BoxS w.heap.size (fun q=>q=G) (wr.heap.size+1+1+1) 111 w w5 (⟨w.heap.size,34,.slice (some ⟨wr.heap.size,0,none⟩) 1 1,1,[.slice (some ⟨G,0,none⟩) np np],1⟩::⟨w.heap.size,3,.slice none 0 0,0,nats [],1⟩::⟨w.heap.size,3,.slice (some ⟨wr.heap.size+1,0,none⟩) 1 1,1,nats [0],1⟩::⟨w.heap.size,3,.slice (some ⟨wr.heap.size+1+1,0,none⟩) 1 1,1,nats [0],1⟩::[]) #[.int .i64 (k:Int),pv,.slice (some ⟨wr.heap.size,0,none⟩) 1 1,.slice none 0 0,.slice (some ⟨wr.heap.size+1,0,none⟩) 1 1,.slice (some ⟨wr.heap.size+1+1,0,none⟩) 1 1] w5
  /\ uF (fun q=>q=G) 3 nats w5 [.slice (some ⟨G,0,none⟩) np np] [x0]/\w.grownBy w5 none:=by
 obtain⟨w2,h2⟩:∃ w2,w2=wr.alloc (.cells #[.slice (some ⟨G,0,none⟩) np np] 34):=⟨_,rfl⟩;obtain⟨w3,h1⟩:∃ w3,w3=w2.alloc (.cells #[.int .i64 0] 3):=⟨_,rfl⟩;obtain⟨w4,h0⟩:∃ w4,w4=w3.alloc (.cells #[.int .i64 0] 3):=⟨_,rfl⟩;have h4:w2.heap.size=wr.heap.size+1:=by rw[h2,zO]
 have h3:w3.heap.size=wr.heap.size+1+1:=by rw[h1,zO,h4]
 have h8:w4.heap.size=wr.heap.size+1+1+1:=by rw[h0,zO,h3]
 rw[<- h2,<- h1,<- h0]at hw5;have g2:wr.grownBy w2 none:=by rw[h2];exact Ga _ _ _
 have g3:w2.grownBy w3 none:=by rw[h1];exact Ga _ _ _
 have g4:w3.grownBy w4 none:=by rw[h0];exact Ga _ _ _
 have g5:w4.grownBy w5 none:=by rw[hw5];exact Ga _ _ _
 have h7:=hg.size;have h5:1<=maxLen:=by unfold maxLen;omega
 have o2:w2.ownsRow wr.heap.size 34 1 (.slice (some ⟨wr.heap.size,0,none⟩) 1 1) 1 [.slice (some ⟨G,0,none⟩) np np]:=by rw[h2];exact World.ownsRow_lit wr #[_] 1 (Nat.le_refl _) h5 rfl
 have o3:w3.ownsRow w2.heap.size 3 1 (.slice (some ⟨wr.heap.size+1,0,none⟩) 1 1) 1 (nats [0]):=by rw[h1,<- h4];exact World.ownsRow_lit w2 #[_] 1 (Nat.le_refl _) h5 rfl
 have o4:w4.ownsRow w3.heap.size 3 1 (.slice (some ⟨wr.heap.size+1+1,0,none⟩) 1 1) 1 (nats [0]):=by rw[h0,<- h3];exact World.ownsRow_lit w3 #[_] 1 (Nat.le_refl _) h5 rfl
 have m0:EMem (fun q=>q=G) wr []:=⟨fun r hr=>by simp at hr,List.Pairwise.nil,fun r hr=>by simp at hr,fun k hk=>by subst hk;exact hG.lt⟩;have m1:=m0.add g2 (r:=⟨w.heap.size,34,.slice (some ⟨wr.heap.size,0,none⟩) 1 1,1,[.slice (some ⟨G,0,none⟩) np np],1⟩) (xN (base':=w.heap.size) o2 h7) (fun k hk=>(o2.lt k hk).1);have m2:=m1.add (zM w2 none) (r:=⟨w.heap.size,3,.slice none 0 0,0,nats [],1⟩) (World.ownsRow_nil _ _ _ _) (fun k hk=>by simp[Value.ownBlock]at hk);have m3:=m2.add g3 (r:=⟨w.heap.size,3,.slice (some ⟨wr.heap.size+1,0,none⟩) 1 1,1,nats [0],1⟩) (xN (base':=w.heap.size) o3 (by rw[h4];omega)) (fun k hk=>(o3.lt k hk).1);have m4:=m3.add g4 (r:=⟨w.heap.size,3,.slice (some ⟨wr.heap.size+1+1,0,none⟩) 1 1,1,nats [0],1⟩) (xN (base':=w.heap.size) o4 (by rw[h3];omega)) (fun k hk=>(o4.lt k hk).1);have h9:=zB (zB (zB hg g2 (by simp)) g3 (by simp)) g4 (by simp);have h6:=zB h9 g5 (by simp)
 have H0:w5.heap[wr.heap.size+1+1+1]?=some (.cells #[.int .i64 (k:Int),pv,.slice (some ⟨wr.heap.size,0,none⟩) 1 1,.slice none 0 0,.slice (some ⟨wr.heap.size+1,0,none⟩) 1 1,.slice (some ⟨wr.heap.size+1+1,0,none⟩) 1 1] 111 (0,0)):=by
  rw[hw5,<- h8];exact heap_alloc_new w4 _
 have H1:=((((hG.kept g2 (by simp)).kept g3 (by simp)).kept g4 (by simp)).kept g5 (by simp));have H2:=hG.lt;refine⟨⟨m4.grow g5,fun r hr=>?_,H0,fun e=>by have e:wr.heap.size+1+1+1=G:=e;omega,Nat.le_refl _,by omega,by have:=g5.size;omega,h6,vR.refl _ _,Nat.le_refl _⟩,uF.nil.snoc (qHP H1 hx (by unfold maxLen;omega) rfl),h6⟩;simp only[List.nil_append,List.append_assoc,List.cons_append,List.mem_cons,List.not_mem_nil,or_false]at hr;have d1:(34:Nat)≠111:=by decide
 have d2:(3:Nat)≠111:=by decide
 rcases hr with rfl|rfl|rfl|rfl
 ·exact⟨rfl,d1⟩
 ·exact⟨rfl,d2⟩
 ·exact⟨rfl,d2⟩
 ·exact⟨rfl,d2⟩
section
variable {α:Type} {mt kt:TypeId} {V:α->Prop} {kv:α->Value} {w:World}
theorem MapK.upd [DecidableEq α]{w:World}{b n c:Nat}{f:α->Option Nat}(h:MapK kt V kv w b n c f)(K:KeyK mt kt V kv){z:α}{y:Nat}(hn:n<maxLen)(hz:V z)(hy:y<4611686018427387904):
  ∃ w' r,(Instr.mapUpdate mt (.map (some b)) (kv z) (.int .i64 (y:Int))).run Try.prog w=.ok r w'/\MapK kt V kv w' b (n+1) (if (f z).isSome then c else c+1) (fun q=>if q=z then some y else f q)/\w.grownBy w' (some b):=by
 obtain⟨D,h1,h2,h3⟩:=h;obtain⟨kl,h0⟩:=Option.isSome_iff_exists.1 (K.of z hz);obtain⟨w',h4,h5,h7⟩:=h1.update K.key K.und hn h0 (plainElem_int tX (qCD (x:=(y:Int)) ⟨by omega,by omega⟩));refine⟨w',_,h4,⟨_,h5,?_,fun q ql hq hql=>?_⟩,h7⟩
 ·rw[size_put (h1.tidy K.key),(h3 z kl hz h0).1,h2]
 ·by_cases e:q=z
  ·subst e
   rw[h0]at hql;cases hql;refine⟨by rw[has_put_same h1.isMap (K.key.key h0)];simp,?_⟩;simp only[if_pos];rw[atKey_put_same h1.isMap (K.key.key h0)];rfl
  ·have h6:ql≠kl:=fun h=>e (K.inj q z hq hz (K.key.inj (hql.trans (congrArg some h)) h0))
   obtain⟨e1,e2⟩:=h3 q ql hq hql;simp only[if_neg e];exact⟨by rw[has_put_other h6,e1],by rw[atKey_put_other h6,e2]⟩
end
end Go.Proofs.Ytjfdomfendbhfaa
namespace Go.Proofs.Ytjfdomfendbhfaa
open Go.RowKit Go.Maps
section
variable {w0 w w':World} {B o mb k np m q rb:Nat} {pv:Value} {L:List (List Nat)} {nxl fr bl xs:List Nat}
theorem ProdS.open_ (h:ProdS w0 B o mb k np pv L nxl fr bl m q (⟨B,3,.slice (some ⟨rb,0,none⟩) np np,np,nats xs,1⟩::[]) w)(hg:w.grownBy w' (some mb))(hb:∃ es clock,w'.heap[mb]?=some (.map es clock)):
  ∃ X hs sS sN sF sB cS cN cF cB,BoxS B (fun j=>X j\/j=mb) o 111 w0 w' (⟨B,34,.slice sS m cS,m,hs,1⟩::⟨B,3,.slice sN q cN,q,nats nxl,1⟩::⟨B,3,.slice sF m cF,m,nats fr,1⟩::⟨B,3,.slice sB m cB,m,nats bl,1⟩::[]) #[.int .i64 (k:Int),pv,.slice sS m cS,.slice sN q cN,.slice sF m cF,.slice sB m cB] w'/\uF X 3 nats w' (hs++[.slice (some ⟨rb,0,none⟩) np np]) (L++[xs])/\uF X 3 nats w' hs L/\¬ X mb/\w0.heap.size<=mb/\(L.length=m/\nxl.length=q/\fr.length=m/\bl.length=m)/\hs.length=m:=by
 obtain⟨X,hs,sS,sN,sF,sB,cS,cN,cF,cB,u,c,hB,hE,hM,h4,h5,hu,hl,H0⟩:=h
 have h1:o≠mb:=fun e=>by
  obtain⟨es,clock,hb⟩:=hM.obj;have:=hB.box;rw[e,hb]at this;simp at this
 have h0:=hB.far hg (fun r hr=>yX (es:=#[]) (clock:=0) (hB.mem.own r hr) hM.obj) h4 h1 h5;have h9:=h0.kept;have h3:=h0.wk;have h2:=h0.rebase;have H2:RowX (fun j=>X j\/(Value.slice (some ⟨rb,0,none⟩) np np).ownBlock=some j) 3 w' (.slice (some ⟨rb,0,none⟩) np np) (nats xs):=RowX.of_owns (h2.own (r:=⟨B,3,.slice (some ⟨rb,0,none⟩) np np,np,nats xs,1⟩) (by simp)) (fun j hj=>.inr hj);have h6:=BoxS.retire (rs:=(⟨B,34,.slice sS m cS,m,hs,1⟩::⟨B,3,.slice sN q cN,q,nats nxl,1⟩::⟨B,3,.slice sF m cF,m,nats fr,1⟩::⟨B,3,.slice sB m cB,m,nats bl,1⟩::[])) (r:=⟨B,3,.slice (some ⟨rb,0,none⟩) np np,np,nats xs,1⟩) h2;have h8:mb<w'.heap.size:=Nat.lt_of_lt_of_le hM.lt h3;have H1:=h6.stand h8 (fun r hr=>yX (es:=#[]) (clock:=0) (h6.mem.own r hr) hb) h1;have h7:=(hE.kept h9 h3).mono (X':=fun j=>X j\/(Value.slice (some ⟨rb,0,none⟩) np np).ownBlock=some j) (fun j hj=>.inl hj);refine⟨_,hs,sS,sN,sF,sB,cS,cN,cF,cB,H1,h7.snoc H2,h7,fun e=>?_,h5,hl,H0⟩;rcases e with e|e
 ·exact h4 e
 ·exact yX (es:=#[]) (clock:=0) (h2.own (r:=⟨B,3,.slice (some ⟨rb,0,none⟩) np np,np,nats xs,1⟩) (by simp)) hb e
theorem bD {X:Nat->Prop}{wk:World}{hs:List Value}{sS sN sF sB:Option Addr}{cS cN cF cB u c:Nat}(hB:BoxS B (fun j=>X j\/j=mb) o 111 w0 wk (⟨B,34,.slice sS m cS,m,hs,1⟩::⟨B,3,.slice sN q cN,q,nats nxl,1⟩::⟨B,3,.slice sF m cF,m,nats fr,1⟩::⟨B,3,.slice sB m cB,m,nats bl,1⟩::[]) #[.int .i64 (k:Int),pv,.slice sS m cS,.slice sN q cN,.slice sF m cF,.slice sB m cB] w)(hE:uF X 3 nats wk hs L)(hM:MapK 9 (qK np) (fun l=>.string (txtT (kb l))) wk mb u c (numE L))(hmx:¬ X mb)(hmb:w0.heap.size<=mb)(hu:u<=m)(hl:L.length=m/\nxl.length=q/\fr.length=m/\bl.length=m)(hhs:hs.length=m):ProdS w0 B o mb k np pv L nxl fr bl m q [] w :=
 ⟨X,hs,sS,sN,sF,sB,cS,cN,cF,cB,u,c,(hB.less (fun j h=>.inl h)).rebase,hE.kept (fun j hj=>hB.kept j (.inl hj)) hB.wk,hM.of_block (hB.kept mb (.inr rfl)),hmx,hmb,hu,hl,hhs⟩
end
end Go.Proofs.Ytjfdomfendbhfaa
namespace Go.Proofs.Ytjfdomfendbhfaa
open Go.RowKit Go.Maps
def LRow (w:World)(sb i:Nat)(x:List Nat):Prop:=∃ g off cap,w.cell? ⟨sb,i,none⟩=some (.slice (some ⟨g,off,none⟩) x.length cap)/\x.length<=cap/\cap<=maxLen/\∀ j,j<x.length->w.cell? ⟨g,off+j,none⟩=some (.int .i64 ((x.getD j 0:Nat):Int))
theorem LRow.grow {w w':World}{sb i:Nat}{x:List Nat}(h:LRow w sb i x)(hg:w.grownBy w' none):LRow w' sb i x:=by
 obtain⟨g,off,cap,h1,h2,h3,h4⟩:=h;exact⟨g,off,cap,xG h1 hg,h2,h3,fun j hj=>xG (h4 j hj) hg⟩
structure ProdV (w:World)(o k:Nat)(pv:Value)(L:List (List Nat))(nxl fr bl:List Nat)(sb sc nb nc fb fc bb bc:Nat):Prop where
 box:w.heap[o]?=some (.cells #[.int .i64 (k:Int),pv,.slice (some ⟨sb,0,none⟩) L.length sc,.slice (some ⟨nb,0,none⟩) (L.length * k) nc,.slice (some ⟨fb,0,none⟩) L.length fc,.slice (some ⟨bb,0,none⟩) L.length bc] 111 (0,0))
 caps:L.length<=sc/\sc<=maxLen/\L.length * k<=nc/\nc<=maxLen/\L.length<=fc/\fc<=maxLen/\L.length<=bc/\bc<=maxLen
 row:∀ i,i<L.length->L.getD i []≠[]->LRow w sb i (L.getD i [])
 nx:∀ i,i<L.length * k->w.cell? ⟨nb,i,none⟩=some (.int .i64 ((nxl.getD i 0:Nat):Int))
 fr:∀ i,i<L.length->w.cell? ⟨fb,i,none⟩=some (.int .i64 ((fr.getD i 0:Nat):Int))
 by_:∀ i,i<L.length->w.cell? ⟨bb,i,none⟩=some (.int .i64 ((bl.getD i 0:Nat):Int))
 nlt:nb<w.heap.size
section
variable {w w':World} {o k:Nat} {pv:Value} {L:List (List Nat)} {nxl fr bl:List Nat} {sb sc nb nc fb fc bb bc:Nat}
theorem ProdV.grow (h:ProdV w o k pv L nxl fr bl sb sc nb nc fb fc bb bc)(hg:w.grownBy w' none):ProdV w' o k pv L nxl fr bl sb sc nb nc fb fc bb bc :=
 ⟨zA h.box hg (by simp),h.caps,fun i hi hn=>(h.row i hi hn).grow hg,fun i hi=>xG (h.nx i hi) hg,fun i hi=>xG (h.fr i hi) hg,fun i hi=>xG (h.by_ i hi) hg,Nat.lt_of_lt_of_le h.nlt hg.size⟩
theorem ProdV.cells (h:ProdV w o k pv L nxl fr bl sb sc nb nc fb fc bb bc):w.cell? ⟨o,0,none⟩=some (.int .i64 (k:Int))/\w.cell? ⟨o,1,none⟩=some pv/\w.cell? ⟨o,2,none⟩=some (.slice (some ⟨sb,0,none⟩) L.length sc)/\w.cell? ⟨o,3,none⟩=some (.slice (some ⟨nb,0,none⟩) (L.length * k) nc)/\w.cell? ⟨o,4,none⟩=some (.slice (some ⟨fb,0,none⟩) L.length fc)/\w.cell? ⟨o,5,none⟩=some (.slice (some ⟨bb,0,none⟩) L.length bc):=by
 have c0:=zJ h.box 0 (by simp);have c1:=zJ h.box 1 (by simp);have c2:=zJ h.box 2 (by simp);have c3:=zJ h.box 3 (by simp);have c4:=zJ h.box 4 (by simp);have c5:=zJ h.box 5 (by simp);simp only[List.getElem_toArray,List.getElem_cons_zero,List.getElem_cons_succ]at c0 c1 c2 c3 c4 c5;exact⟨c0,c1,c2,c3,c4,c5⟩
theorem ProdS.view {w0:World}{B mb np m q:Nat}(h:ProdS w0 B o mb k np pv L nxl fr bl m q [] w)(h0:0<m)(hq:q=m * k)(hk:0<k):∃ sb sc nb nc fb fc bb bc,ProdV w o k pv L nxl fr bl sb sc nb nc fb fc bb bc:=by
 obtain⟨sS',cS',sN',cN',sF',cF',sB',cB',h6,h5⟩:=h.cells;obtain⟨X,hs,sS,sN,sF,sB,cS,cN,cF,cB,u,c,hB,hE,hM,h8,h9,hu,⟨rfl,H2,H1,H0⟩,H3⟩:=h;have h7:0<q:=by rw[hq];exact Nat.mul_pos h0 hk
 obtain⟨sb,e,h1,h2,h3⟩:=h5 h0;have h4:=hB.box;rw[h6]at h4;simp only[Option.some.injEq,Obj.cells.injEq,and_true]at h4;have h4:=congrArg Array.toList h4;simp only[List.cons.injEq,and_true,true_and,Value.slice.injEq]at h4;obtain⟨⟨rfl,rfl⟩,⟨rfl,rfl⟩,⟨rfl,rfl⟩,⟨rfl,rfl⟩⟩:=h4;subst e;obtain⟨nb,rfl,n1,n2,na⟩:=wQ (hB.own (r:=⟨B,3,.slice sN' q cN',q,nats nxl,1⟩) (by simp)) h7;obtain⟨fb,rfl,f1,f2,fa⟩:=wQ (hB.own (r:=⟨B,3,.slice sF' L.length cF',L.length,nats fr,1⟩) (by simp)) h0;obtain⟨bb,rfl,b1,b2,ba⟩:=wQ (hB.own (r:=⟨B,3,.slice sB' L.length cB',L.length,nats bl,1⟩) (by simp)) h0;subst hq;exact⟨sb,cS',nb,cN',fb,cF',bb,cB',h6,⟨h1,h2,n1,n2,f1,f2,b1,b2⟩,fun i hi hne=>h3 i hi hne,fun i hi=>na.nat i (by omega),fun i hi=>fa.nat i (by omega),fun i hi=>ba.nat i (by omega),na.lt⟩
end
end Go.Proofs.Ytjfdomfendbhfaa
namespace Go.Proofs.Ytjfdomfendbhfaa
open Go.RowKit Go.Maps
def pV (l:List Nat)(np j:Nat):List Nat:=l.take j++List.replicate (np - j) 0
theorem pD {l:List Nat}{np j:Nat}(h:l.length=np)(hj:j<=np):(pV l np j).length=np:=by simp[pV];omega
theorem jL {l:List Nat}{np j:Nat}(h:l.length=np)(hj:j<np):(pV l np j).set j (l.getD j 0)=pV l np (j+1):=by
 have hl:(l.take j).length=j:=by rw[List.length_take];omega
 obtain⟨m,hm⟩:∃ m,np - j=m+1:=⟨np - j - 1,by omega⟩;rw[pV,List.set_append_right _ _ (by omega),hl,Nat.sub_self,hm,List.replicate_succ,List.set_cons_zero,pV,zR (d:=0) (by omega),List.append_assoc,show np - (j+1)=m by omega];rfl
theorem eW {l:List Nat}{np j:Nat}(h:l.length=np)(hj:j=np):pV l np j=l:=by
 subst hj;rw[pV,Nat.sub_self,List.replicate_zero,List.append_nil,List.take_of_length_le (by omega)]
theorem iF (l:List Nat)(np:Nat):pV l np 0=List.replicate np 0:=by simp[pV]
def NxOk (ds:List DfaV)(k:Nat)(L:List (List Nat))(nxl:List Nat)(s a:Nat):Prop :=
 nxl.length=s * k+a/\∀ i b,b<k->(i<s\/(i=s/\b<a))->nxl.getD (i * k+b) 0=L.idxOf (nxtT ds (L.getD i []) b)/\nxtT ds (L.getD i []) b∈L
theorem NxOk.more {ds:List DfaV}{k s a:Nat}{L:List (List Nat)}{nxl:List Nat}(h:NxOk ds k L nxl s a)(hs:s<L.length)(x:List Nat):NxOk ds k (L++[x]) nxl s a:=by
 refine⟨h.1,fun i b hb hi=>?_⟩;have h0:i<L.length:=by rcases hi with hi|⟨hi,_⟩<;>omega
 obtain⟨h1,h2⟩:=h.2 i b hb hi;rw[yY h0];exact⟨by rw[h1,List.idxOf_append,if_pos h2],List.mem_append_left _ h2⟩
theorem NxOk.push {ds:List DfaV}{k s a:Nat}{L:List (List Nat)}{nxl:List Nat}(h:NxOk ds k L nxl s a)(ha:a<k)(hm:nxtT ds (L.getD s []) a∈L):NxOk ds k L (nxl++[L.idxOf (nxtT ds (L.getD s []) a)]) s (a+1):=by
 refine⟨by rw[List.length_append,h.1];rfl,fun i b hb hi=>?_⟩;by_cases e:i=s/\b=a
 ·obtain⟨rfl,rfl⟩:=e
  refine⟨?_,hm⟩;rw[List.getD_eq_getElem?_getD,List.getElem?_append_right (by rw[h.1];exact Nat.le_refl _),h.1,Nat.sub_self];rfl
 ·have h0:i<s\/(i=s/\b<a):=by omega
  obtain⟨h1,h2⟩:=h.2 i b hb h0
  have h3:i * k+b<nxl.length:=by
   rw[h.1];rcases h0 with h0|⟨rfl,hb2⟩
   ·have:i * k+k<=s * k:=by rw[<- Nat.succ_mul];exact Nat.mul_le_mul_right k h0
    omega
   ·omega
  rw[yY h3];exact⟨h1,h2⟩
theorem NxOk.next {ds:List DfaV}{k s:Nat}{L:List (List Nat)}{nxl:List Nat}(h:NxOk ds k L nxl s k):NxOk ds k L nxl (s+1) 0 :=
 ⟨by rw[h.1,Nat.succ_mul];rfl,fun i b hb hi=>h.2 i b hb (by omega)⟩
theorem NxOk.pushNew {ds:List DfaV}{k s a:Nat}{L:List (List Nat)}{nxl:List Nat}(h:NxOk ds k L nxl s a)(hs:s<L.length)(ha:a<k)(hz:nxtT ds (L.getD s []) a ∉ L):NxOk ds k (L++[nxtT ds (L.getD s []) a]) (nxl++[L.length]) s (a+1):=by
 have e1:(L++[nxtT ds (L.getD s []) a]).getD s []=L.getD s []:=yY hs;have h1:=(h.more hs (nxtT ds (L.getD s []) a)).push ha (by rw[e1];simp);rw[e1]at h1;have e2:(L++[nxtT ds (L.getD s []) a]).idxOf (nxtT ds (L.getD s []) a)=L.length:=by rw[List.idxOf_append,if_neg hz];simp
 rw[e2]at h1;exact h1
def dX (ds:List DfaV)(k:Nat)(L:List (List Nat))(fr bl:List Nat):Prop :=
 fr.length=L.length/\bl.length=L.length/\∀ i,0<i->i<L.length->fr.getD i 0<i/\bl.getD i 0<k/\nxtT ds (L.getD (fr.getD i 0) []) (bl.getD i 0)=L.getD i []
theorem dX.push {ds:List DfaV}{k s a:Nat}{L:List (List Nat)}{fr bl:List Nat}(h:dX ds k L fr bl)(hs:s<L.length)(ha:a<k):dX ds k (L++[nxtT ds (L.getD s []) a]) (fr++[s]) (bl++[a]):=by
 refine⟨by simp[h.1],by simp[h.2.1],fun i h0 hi=>?_⟩;rw[List.length_append,List.length_singleton]at hi;by_cases e:i=L.length
 ·subst e
  have e1:(fr++[s]).getD L.length 0=s:=by rw[<- h.1,List.getD_eq_getElem?_getD];simp
  have e2:(bl++[a]).getD L.length 0=a:=by rw[<- h.2.1,List.getD_eq_getElem?_getD];simp
  rw[e1,e2,yY hs];exact⟨hs,ha,by rw[List.getD_eq_getElem?_getD];simp⟩
 ·have h4:i<L.length:=by omega
  obtain⟨h1,h2,h3⟩:=h.2.2 i h0 h4;rw[yY (by rw[h.1];exact h4),yY (by rw[h.2.1];exact h4),yY (by omega),yY h4];exact⟨h1,h2,h3⟩
theorem nats_setM (l:List Nat)(i x:Nat):(nats l).set i (.int .i64 (x:Int))=nats (l.set i x):=by simp[nats]
theorem qHM {ds:List DfaV}{k s a:Nat}{L:List (List Nat)}(h:BfsI (nxtT ds) k (st0T ds) L s a)(ho:OkT ds k)(hs:s<L.length):InT ds (L.getD s []):=by
 obtain⟨u,hu,e⟩:=h.re (L.getD s []) (by rw[zG hs];exact List.getElem_mem hs);rw[<- e];exact ho.walk u ho.in0 hu
theorem qDU {w:World}{p e:Nat}{x0 x1 x2 x3:Value}(h:w.heap[p]?=some (.cells #[x0,x1,x2,x3] e (0,0))):
  w.cell? ⟨p,0,none⟩=some x0/\w.cell? ⟨p,1,none⟩=some x1/\w.cell? ⟨p,2,none⟩=some x2/\w.cell? ⟨p,3,none⟩=some x3:=by
 have c0:=zJ h 0 (by simp);have c1:=zJ h 1 (by simp);have c2:=zJ h 2 (by simp);have c3:=zJ h 3 (by simp);simp only[List.getElem_toArray,List.getElem_cons_zero,List.getElem_cons_succ]at c0 c1 c2 c3;exact⟨c0,c1,c2,c3⟩
def qIW (w:World)(pv:Value)(ds:List DfaV)(k:Nat)(e:Ending)(w':World):Prop :=
 (Over ds k/\e=.returned (.tuple #[.pointer none,.bool false])/\w.grownBy w' none)\/∃ o mb L nxl fr bl,e=.returned (.tuple #[.pointer (some ⟨o,0,none⟩),.bool true])/\ProdS w w.heap.size o mb k ds.length pv L nxl fr bl L.length (L.length * k) [] w'/\BfsD (nxtT ds) k (st0T ds) L/\L.length<=4000/\NxOk ds k L nxl L.length 0/\dX ds k L fr bl/\w.grownBy w' none
theorem iX (Bd:Nat)(w:World)(v:Value)(ds:List DfaV)(k:Nat)(hB:Bd<=w.heap.size)(h:DsIn Bd w v ds)(hok:OkT ds k)(hk1:1<=k)(hk6:k<=6)(hl:ds.length<=400):
  Calls Try.prog 57 #[v,.int .i64 (k:Int)] w (qIW w v ds k):=by
 obtain⟨da,dc,rfl⟩:=h.shape;obtain⟨np,j8⟩:∃ n,n=ds.length:=⟨_,rfl⟩;have h6:=Kh j8;have H:=Kh h;have d1:=Kh hok;have l9:=Kh (key_kb (n:=np) (by omega));have i3:ds.length<=400:=hl;rw[<- j8]at hl H ⊢;have t4:=@run_makeMap Try.prog;clear h hok j8 i3;go_enter Try.func57,Try.ntmps57;go_upto_region 2 with (first|(at_make;refine nD rfl _ _ _ rfl yP rfl .i64 .i64 _ _ np rfl rfl rfl rfl ?b1 ?b2 ?_;(case b1=>omega);(case b2=>(unfold maxLen;omega));intro w1 l0 o3 k3)|fail)
 obtain⟨G,hG⟩:∃ b,b=w.heap.size:=⟨_,rfl⟩;rw[<- hG]at l0 ⊢;have r7:w.heap.size<=G:=by omega
 have x6:=Kh hG;have q6:=Kh l0;have q5:=Kh o3;clear l0 o3 hG k3;have e5:Hid ((st0T ds).length=np):=Kh (by rw[sJ,h6.out]);go_wp2
 go_loopg [7,8,24] np (fun gh a7 a8 i wr=>∃ j:Nat,gh+j=np/\i=.int .i64 j/\Arr wr G 3 (nats (pV (st0T ds) np j))/\w.grownBy wr none)
 case atStart=>exact⟨0,rfl,rfl,by rw[iF,yV];exact q6.out,q5.out⟩
 case round =>
  clear q6 q5;obtain⟨j,g1,rfl,ha,hg⟩:=hrel;have e6:=Kh g1;have t0:=Kh ha;have HG:=Kh hg;clear g1;by_cases hj:j<np
  ·have r0:(j:Int)<np:=by omega
   obtain⟨b,off,cap,e,k7,k6,hd⟩:=(H.out.kept hg (by simp)).head (by rw[<- h6.out];omega);rw[<- h6.out]at e k7;simp only[Value.slice.injEq,true_and]at e;obtain⟨rfl,rfl⟩:=e;have c5:dc<=9223372036854775807:=by unfold maxLen at k6;omega
   obtain⟨n,fb,fo,fc,nb,no,nc,RB,RO,RC,hv,h5,c1,c2,c3,c4,i4⟩:=hd.dfa d1.out (by rw[<- h6.out];exact hj);have h3:=jL e5.out hj;rw[gN (by rw[<- h6.out];exact hj)]at h3;have j3:st0 (ds.getD j dN)<512:=(by have:=qR hv;omega);obtain⟨x,hx⟩:∃ x,x=st0 (ds.getD j dN):=⟨_,rfl⟩;rw[<- hx]at c2 h3 j3;have d0:=Kh h3;have fG:=ha.frozen j;have cG:=Arr.nat ha j (by rw[pD e5.out (by omega)];exact hj);have r6:=ha.lt;clear hd i4 hv hx h3 ha;go_wp2;go_roundg (np - (j+1))
   case measure=>have:=e6.out;omega
   case rel =>
    have r2:=zC wr ⟨G,j,none⟩ (.int .i64 (x:Int));have H6:=Ga (wr.setCell ⟨G,j,none⟩ (.int .i64 (x:Int))) (.cells #[.int .i64 (k:Int),.int .i64 (x:Int),.slice (some ⟨fb,fo,none⟩) n fc,.slice (some ⟨nb,no,none⟩) n nc] 42) none;refine⟨j+1,by have:=e6.out;omega,by go_num,?_,zB (zB HG.out r2 (fun y e=>by have e:G=y:=Oj e;omega)) H6 (by simp)⟩;rw[<- d0.out];exact(t0.out.nat_set j (by rw[pD e5.out (by omega)];exact hj) x).kept H6 (by simp)
  ·have n8:j=np:=by have:=e6.out;omega
   have r0:¬ (j:Int)<np:=(by omega);rw[eW e5.out n8]at ha;have o5:=Kh ha;obtain⟨wo,rfl⟩:∃ wo:World,wo=wr:=⟨_,rfl⟩;obtain⟨w5,a3⟩:∃ w5,w5=(((wo.alloc (.cells #[.slice (some ⟨G,0,none⟩) np np] 34)).alloc (.cells #[.int .i64 0] 3)).alloc (.cells #[.int .i64 0] 3)).alloc (.cells #[.int .i64 (k:Int),.slice da np dc,.slice (some ⟨wo.heap.size,0,none⟩) 1 1,.slice none 0 0,.slice (some ⟨wo.heap.size+1,0,none⟩) 1 1,.slice (some ⟨wo.heap.size+1+1,0,none⟩) 1 1] 111):=⟨_,rfl⟩;obtain⟨k8,n1,o1⟩:=prod_start (k:=k) (pv:=.slice da np dc) hg ha r7 e5.out (by omega) a3;obtain⟨s2,n0⟩:∃ s,s=wo.heap.size:=⟨_,rfl⟩;obtain⟨s3,m9⟩:∃ s,s=wo.heap.size+1:=⟨_,rfl⟩;obtain⟨s4,m8⟩:∃ s,s=wo.heap.size+1+1:=⟨_,rfl⟩;obtain⟨o,ho⟩:∃ s,s=wo.heap.size+1+1+1:=⟨_,rfl⟩;have o7:=Kh a3;have HO:=Kh ho;rw[<- ho,<- m8,<- m9,<- n0]at k8;have j2:=Kh k8;have l5:=Kh n1;have m2:=Kh o1;clear n8 hg ha a3 ho n0 m9 m8 k8 n1 o1;go_upto_region 8 with fail;rw[<- o7.out,<- HO.out];have a6:=Ga w5 (.map #[] 0) none;have k0:=MapK.made 9 (qK np) (fun l=>.string (txtT (kb l))) w5;obtain⟨w6,g8⟩:∃ w6,w6=w5.alloc (.map #[] 0):=⟨_,rfl⟩;obtain⟨mb,a0⟩:∃ b,b=w5.heap.size:=⟨_,rfl⟩;rw[<- g8,<- a0]at k0;rw[<- g8]at a6;have o6:=Kh g8;have d4:=Kh a0;have p9:=Kh a6;have p8:=Kh k0
   have o9:Hid (qK np (st0T ds)):=Kh (by
    refine⟨e5.out,fun x hx=>?_⟩;obtain⟨i,hi,rfl⟩:=List.getElem_of_mem hx;have:=d1.out.small d1.out.in0 i (by rw[sJ]at hi;exact hi)
    rwa [zG hi]at this)
   have H8:Hid (Row w5.heap.size w5 (.slice (some ⟨G,0,none⟩) np np) (nats (st0T ds))):=Kh (l5.out.2 0 (by simp) (by simp)).1.row;have H2:Hid (Calls Try.prog 84 #[.slice (some ⟨G,0,none⟩) np np] w6 fun e w'=>e=.returned (.string (txtT (kb (st0T ds))))/\w6.grownBy w' none):=Kh (qFS w5.heap.size w6 _ (st0T ds) np a6.size (H8.out.kept a6 (by simp)) o9.out (by omega));obtain⟨T0,l1⟩:∃ t,t=txtT (kb (st0T ds)):=⟨_,rfl⟩;rw[<- l1]at H2;have s5:=Kh l1;clear a6 k0 g8 a0 l1;go_wp2_with fail;rw[<- d4.out,<- o6.out];refine H2.out.mono ?_;rintro e w7 ⟨rfl,k4⟩;have l8:=Kh (p8.out.kept k4 (by simp));have g7:=Kh (zB p9.out k4 (by simp));clear k4 H2;obtain⟨w8,r8,f6,d9,g2⟩:=l8.out.upd l9.out (z:=st0T ds) (y:=0) (by unfold maxLen;omega) o9.out (by omega);have f0:Sem.run Try.prog (Instr.mapUpdate 129 (.map (some mb)) (.string T0) (.int .i64 0)) w7=.ok r8 w8:=by rw[s5.out];exact f6
   clear f6;go_wp2;clear f0
   have f8:(fun q=>if q=st0T ds then some 0 else (none:Option Nat))=numE [st0T ds]:=by
    funext q;unfold numE;by_cases e:q=st0T ds
    ·rw[if_pos e,if_pos (by simp[e]),e];simp
    ·rw[if_neg e,if_neg (by simpa using e)]
   have f9:MapK 9 (qK np) (fun l=>.string (txtT (kb l))) w8 mb 1 1 (numE [st0T ds]):=by rw[<- f8];exact d9
   have c6:=j2.out.grow g7.out;have j9:w5.heap.size<=mb:=by rw[d4.out];exact Nat.le_refl _
   have j7:o<w5.heap.size:=zI j2.out.box;have l2:=o5.out.lt;have q7:=j2.out.mem.lt G rfl;have a1:=c6.far g2 (fun r hr=>yX (es:=#[]) (clock:=0) (c6.mem.own r hr) l8.out.obj) (fun e=>by have e:mb=G:=e;omega) (fun e=>by omega) (by have:=m2.out.size;omega);have p7:Hid (ProdS w w.heap.size o mb k np (.slice da np dc) [st0T ds] [] [0] [0] 1 0 [] w8):=Kh ⟨_,_,_,_,_,_,_,_,_,_,1,1,a1.rebase,l5.out.kept a1.kept a1.wk,f9,fun e=>by have e:mb=G:=e;omega,by have:=m2.out.size;omega,by omega,⟨rfl,rfl,rfl,rfl⟩,rfl⟩;clear d9 f9 g2 f8 c6 a1 j2 l5 l8 g7 H8 p8 p9 o6 d4 j9 j7 l2 q7 o7 HO m2 o5
   go_loopg [11,12,13,14,15,16,17,18,57,65] 4000 (fun gh v11 a12 a13 a14 a15 a16 a17 a18 a57 a65 wr=>∃ (s:Nat) (L:List (List Nat)) (nxl fr bl:List Nat),gh+s=4000/\v11=.int .i64 s/\ProdS w w.heap.size o mb k np (.slice da np dc) L nxl fr bl L.length (s * k) [] wr/\BfsI (nxtT ds) k (st0T ds) L s 0/\L.length<=4000/\NxOk ds k L nxl s 0/\dX ds k L fr bl)
   case atStart=>exact⟨0,[st0T ds],[],[0],[0],rfl,rfl,by rw[Nat.zero_mul];exact p7.out,BfsI.start,by simp,⟨by simp,fun i b hb hi=>by omega⟩,⟨rfl,rfl,fun i h0 hi=>by simp at hi;omega⟩⟩
   case round =>
    clear p7;obtain⟨s,L,nxl,fr,bl,g1,rfl,hp,a9,b0,d8,e0⟩:=hrel;have e6:=Kh g1;have HP:=Kh hp;have b4:=Kh a9;have d2:=Kh d8;have d7:=Kh e0;have a4:=a9.le;obtain⟨m,hm⟩:∃ m,m=L.length:=⟨_,rfl⟩;rw[<- hm]at a4 b0 HP;have h8:=Kh hm;obtain⟨sS,cS,sN,cN,sF,cF,sB,cB,h7,_⟩:=HP.out.cells;obtain⟨x0,x1,x2,x3,x4,x5⟩:=iL h7;clear g1 hp a9 d8 e0 hm h7;by_cases hs:s<m
    case neg =>
     have j4:¬ (s:Int)<m:=(by omega);have q8:s=m:=by omega
     have HD:Hid (BfsD (nxtT ds) k (st0T ds) L):=Kh (b4.out.done (by rw[<- h8.out];omega));subst q8;go_wp2;refine bodyPost_ret (v:=.tuple #[.pointer (some ⟨o,0,none⟩),.bool true]) (by simp[results,Try.results57,go_sem]) rfl ?_;refine .inr ⟨o,mb,L,nxl,fr,bl,rfl,?_,HD.out,by rw[<- h8.out];exact b0,?_,d7.out,HP.out.facts.1⟩
     ·have:=HP.out;rw[h8.out,h6.out]at this;rw[<- h6.out];rw[h6.out];exact this
     ·have:=d2.out;rw[h8.out]at this;exact this
    have j4:(s:Int)<m:=(by omega);have o8:Hid (s<L.length):=Kh (by rw[<- h8.out];exact hs);have p6:Hid (ProdS w w.heap.size o mb k np (.slice da np dc) L nxl fr bl L.length (s * k) [] wr):=Kh (by have:=HP.out;rw[h8.out]at this;exact this);have d5:Hid (L.length<=4000):=Kh (by rw[<- h8.out];exact b0);go_wp2;clear x0 x1 x2 x3 x4 x5 hs j4 a4 b0 HP
    go_loopg [12,13,14,15,16,17,18,57,65] k (fun gh b12 b13 b14 b15 b16 b17 b18 b57 b65 w2=>∃ (a:Nat) (L:List (List Nat)) (nxl fr bl:List Nat),gh+a=k/\b57=.int .i64 a/\ProdS w w.heap.size o mb k np (.slice da np dc) L nxl fr bl L.length (s * k+a) [] w2/\BfsI (nxtT ds) k (st0T ds) L s a/\s<L.length/\L.length<=4000/\NxOk ds k L nxl s a/\dX ds k L fr bl)
    case atStart=>exact⟨0,L,nxl,fr,bl,rfl,rfl,p6.out,b4.out,o8.out,d5.out,d2.out,d7.out⟩
    case round =>
     clear p6 b4 d2 d7 h8 o8 d5;obtain⟨w2,rfl⟩:∃ w2:World,w2=wr:=⟨_,rfl⟩;obtain⟨a,L2,nx2,fr2,bl2,H6,rfl,hp,a9,a4,b0,d8,e0⟩:=hrel;have j1:=Kh H6;have HP:=Kh hp;have b4:=Kh a9;have d2:=Kh d8;have d7:=Kh e0;have b3:=Kh a4;have d5:=Kh b0;by_cases ha:a<k
     case neg =>
      have r4:¬ (a:Int)<k:=(by omega);have o4:a=k:=by omega
      have m4:=Kh o4;clear H6 hp a9 a4 b0 d8 e0 o4;go_wp2;go_roundg (4000 - (s+1))
      case measure=>have:=e6.out;have:=b3.out;have:=d5.out;omega
      case rel =>
       have h9:s<4000:=(by have:=b3.out;have:=d5.out;omega);refine⟨s+1,L2,nx2,fr2,bl2,by have:=e6.out;omega,by(refine congrArg _ ?_;rw[IntWalk.wrap64_in _ (by omega)];omega),?_,?_,d5.out,?_,d7.out⟩
       ·rw[Nat.succ_mul];have:=HP.out;rw[m4.out]at this;exact this
       ·have:=b4.out;rw[m4.out]at this;exact this.next b3.out
       ·have:=d2.out;rw[m4.out]at this;exact this.next
     have r4:(a:Int)<k:=(by omega);have d6:=Kh (qHM a9 d1.out a4);obtain⟨x,hx⟩:∃ x,x=L2.getD s []:=⟨_,rfl⟩;rw[<- hx]at d6;have HX:=Kh hx;obtain⟨q0,j6⟩:∃ q,q=s * k+a:=⟨_,rfl⟩;rw[<- j6]at HP;have i5:=Kh j6;obtain⟨m,hm⟩:∃ m,m=L2.length:=⟨_,rfl⟩;rw[<- hm]at HP b0 a4;have h8:=Kh hm;clear H6 hp a9 d8 e0 hx j6 hm;go_upto_region 16 with (first|(at_make;refine make1o rfl _ _ _ rfl yP rfl .i64 .i64 _ _ np rfl rfl rfl rfl ?b1 ?b2 ?_;(case b1=>omega);(case b2=>(unfold maxLen;omega));intro w3 a5 o2 k2)|fail)
     obtain⟨rb,n3⟩:∃ b,b=w2.heap.size:=⟨_,rfl⟩;have i2:=HP.out.addRow o2 a5 (by decide);rw[<- n3]at i2 ⊢;rw[<- yV,<- iF (nxtT ds x a)]at i2;have p5:=Kh i2;have i7:Hid ((nxtT ds x a).length=np):=Kh (by rw[oF,h6.out]);have t9:Hid (w.heap.size<=rb):=Kh (by have:=HP.out.facts;omega);clear a5 o2 k2 i2 n3 HP;go_wp2
     go_loopg [14,15,65] np (fun gh c14 c15 c65 w4=>∃ i:Nat,gh+i=np/\c65=.int .i64 i/\ProdS w w.heap.size o mb k np (.slice da np dc) L2 nx2 fr2 bl2 m q0 [⟨w.heap.size,3,.slice (some ⟨rb,0,none⟩) np np,np,nats (pV (nxtT ds x a) np i),1⟩] w4)
     case atStart=>exact⟨0,rfl,rfl,p5.out⟩
     case round =>
      clear p5;obtain⟨w4,rfl⟩:∃ w4:World,w4=wr:=⟨_,rfl⟩;obtain⟨i,o0,rfl,hp⟩:=hrel;have m1:=Kh o0;have HP:=Kh hp;clear o0;by_cases hi:i<np
      case pos =>
       have r1:(i:Int)<np:=(by omega);obtain⟨b,off,cap,e,k7,k6,hd⟩:=(H.out.kept hp.facts.1 (by simp)).head (by rw[<- h6.out];omega);rw[<- h6.out]at e k7;simp only[Value.slice.injEq,true_and]at e;obtain⟨rfl,rfl⟩:=e;have c5:dc<=9223372036854775807:=by unfold maxLen at k6;omega
       obtain⟨n,fb,fo,fc,nb,no,nc,RB,RO,RC,hv,h5,c1,c2,c3,c4,i4⟩:=hd.dfa d1.out (by rw[<- h6.out];exact hi);have hq:x.getD i 0<n:=(by have:=d6.out.2 i (by rw[<- h6.out];exact hi);rw[hv.hn]at this;exact this);have s9:=Kh i4;have HD:=Kh hd;obtain⟨st,e9⟩:∃ y,y=st0 (ds.getD i dN):=⟨_,rfl⟩;rw[<- e9]at c2;have HQ:=Kh hq;clear hd i4 hv hp e9;go_upto_region 19 with fail;have H6:=Ga w4 (.cells #[.int .i64 (k:Int),.int .i64 (st:Int),.slice (some ⟨fb,fo,none⟩) n fc,.slice (some ⟨nb,no,none⟩) n nc] 42) none;have k9:=heap_alloc_new w4 (.cells #[.int .i64 (k:Int),.int .i64 (st:Int),.slice (some ⟨fb,fo,none⟩) n fc,.slice (some ⟨nb,no,none⟩) n nc] 42);obtain⟨w5,a3⟩:∃ w5,w5=w4.alloc (.cells #[.int .i64 (k:Int),.int .i64 (st:Int),.slice (some ⟨fb,fo,none⟩) n fc,.slice (some ⟨nb,no,none⟩) n nc] 42):=⟨_,rfl⟩;obtain⟨db,k5⟩:∃ b,b=w4.heap.size:=⟨_,rfl⟩;rw[<- a3]at H6;rw[<- a3,<- k5]at k9;rw[<- a3,<- k5];obtain⟨_,_,_,d3⟩:=qDU k9;have i1:=HP.out.grow H6;have s6:=Kh i1;have H7:=s9.out.kept H6 (by simp);have e1:=H7.hd (x.getD i 0) HQ.out;have e2:=H7.el (x.getD i 0) a HQ.out ha;have e3:=H7.cap;have e4:=H7.rcap (x.getD i 0) HQ.out;obtain⟨sS,cS,sN,cN,sF,cF,sB,cB,h7,g9⟩:=i1.cells;obtain⟨x0,x1,x2,x3,x4,x5⟩:=iL h7;obtain⟨sb,rfl,r3,g3,g9⟩:=g9 (by omega);obtain⟨g,go,gc,f1,f2,f3,f4⟩:=g9 s a4 (by rw[<- HX.out];intro e;have:=d6.out.1;rw[e,<- h6.out]at this;simp at this;omega);rw[<- HX.out]at f1 f2 f4;have f5:=f4 i (by rw[d6.out.1,<- h6.out];exact hi);rw[d6.out.1,<- h6.out]at f1 f2;have hR:=i1.arr;have fR:=hR.frozen i;have cR:=Arr.nat hR i (by rw[pD i7.out (by omega)];exact hi);have r5:=hR.lt;have t7:cS<=9223372036854775807:=by unfold maxLen at g3;omega
       have t6:gc<=9223372036854775807:=by unfold maxLen at f3;omega
       have t3:nc<=9223372036854775807:=by unfold maxLen at e3;omega
       have n2:RC (x.getD i 0)<=9223372036854775807:=by unfold maxLen at e4;omega
       have h3:=jL i7.out hi;rw[gQ (by rw[<- h6.out];exact hi)]at h3;obtain⟨qq,j5⟩:∃ q,q=x.getD i 0:=⟨_,rfl⟩;rw[<- j5]at e1 e2 e4 f5 h3 n2;have t2:(qq:Int)<n:=(by rw[j5];have:=HQ.out;omega);obtain⟨rb2,c0⟩:∃ r,r=RB qq:=⟨_,rfl⟩;obtain⟨ro2,b8⟩:∃ r,r=RO qq:=⟨_,rfl⟩;obtain⟨rc2,b9⟩:∃ r,r=RC qq:=⟨_,rfl⟩;obtain⟨y,hy⟩:∃ y,y=nx (ds.getD i dN) qq a:=⟨_,rfl⟩;rw[<- c0,<- b8,<- b9]at e1;rw[<- c0,<- b8,<- hy]at e2;rw[<- b9]at e4 n2;rw[<- hy]at h3;have d0:=Kh h3;obtain⟨e3a,_⟩:=e3;obtain⟨e4a,_⟩:=e4;have j4:(s:Int)<m:=(by omega);clear h3 hy c0 b8 b9 j5 f4 g9 h7 i1 H7 k9 H6 a3 k5 d6 hR g3 f3
       go_region
       all_goals (try go_frame)
       go_wp2;go_roundg (np - (i+1))
       case measure=>have:=m1.out;omega
       case rel =>
        refine⟨i+1,by have:=m1.out;omega,by go_num,?_⟩;rw[<- d0.out,<- nats_setM];exact(s6.out.put hi (.int .i64 (y:Int))).grow (zP _ none)
      case neg =>
       have r1:¬ (i:Int)<np:=(by omega);have n9:i=np:=by have:=m1.out;omega
       rw[eW i7.out n9]at hp;obtain⟨z,hz⟩:∃ z,z=nxtT ds x a:=⟨_,rfl⟩;have e7:z.length=np:=by rw[hz];exact i7.out
       have l4:Hid (qK np z):=Kh (by
        have h1:=d1.out.next d6.out ha;rw[<- hz]at h1;refine⟨e7,fun y hy=>?_⟩;obtain⟨j,hj,rfl⟩:=List.getElem_of_mem hy;have:=d1.out.small h1 j (by rw[<- h6.out,<- e7];exact hj)
        rwa [zG hj]at this)
       rw[<- hz]at hp;have p0:=Kh hp;have H8:Hid (Row w4.heap.size w4 (.slice (some ⟨rb,0,none⟩) np np) (nats z)):=Kh (qHP (X:=fun _=>True) hp.arr e7 (by unfold maxLen;omega) trivial).row;have H2:Hid (Calls Try.prog 84 #[.slice (some ⟨rb,0,none⟩) np np] w4 fun e w'=>e=.returned (.string (txtT (kb z)))/\w4.grownBy w' none):=Kh (qFS w4.heap.size w4 _ z np (Nat.le_refl _) H8.out l4.out (by omega));obtain⟨T,hT⟩:∃ t,t=txtT (kb z):=⟨_,rfl⟩;rw[<- hT]at H2;have HT:=Kh hT;have HZ:=Kh hz;have t8:=Kh e7;clear n9 hp hz hT e7 HP H8;go_wp2_with fail;refine H2.out.mono ?_;rintro e w6 ⟨rfl,a6⟩;have i0:=p0.out.grow a6;obtain⟨u,c,hu,hM⟩:=i0.map;have i6:=Kh i0;have HM:=Kh hM;have HU:=Kh hu;obtain⟨sS,cS,sN,cN,sF,cF,sB,cB,h7,_⟩:=i0.cells;obtain⟨x0,x1,x2,x3,x4,x5⟩:=iL h7;have H1:=hM.lookup l9.out l4.out;clear a6 i0 hM hu h7 H2 p0;have m3:Hid (L2[s]?=some x):=Kh (by rw[HX.out,List.getD_eq_getElem?_getD,List.getElem?_eq_getElem b3.out];rfl);by_cases hmem:z∈L2
       case pos =>
        obtain⟨y,hy⟩:∃ y,y=L2.idxOf z:=⟨_,rfl⟩;have t1:y<m:=by rw[hy,h8.out];exact List.idxOf_lt_length_of_mem hmem
        have i3:Sem.run Try.prog (Instr.lookup 129 (.map (some mb)) (.string T) true) w6=.ok (.tuple #[.int .i64 (y:Int),.bool true]) w6:=by
         rw[eK hmem,<- hy]at H1;rw[HT.out];exact H1
        obtain⟨X,hs,sS,sN,sF,sB,cS,cN,cF,cB,hB,r9,hE,c5,a0,hl,g0⟩:=i6.out.open_ (zM w6 (some mb)) HM.out.obj;obtain⟨X1,c7⟩:∃ X1,X1=fun j=>X j\/j=mb:=⟨_,rfl⟩;rw[<- c7]at hB;have HS:=Kh hB;have HE:=Kh hE;have l7:=Kh c5;have d4:=Kh a0;have HL:=Kh hl;have m0:=Kh g0;have l3:=Kh c7;have HY:=Kh hy;have H5:=Kh hmem;have l6:Hid (q0<=24000):=Kh (by rw[i5.out];have h1:s * k<=3999 * 6:=Nat.mul_le_mul (by omega) hk6;omega);have q9:=l6.out;clear x0 x1 x2 x3 x4 x5 H1 hB r9 hE c5 a0 hl g0 c7 hy hmem;have q1:=zJ HS.out.box 3 (by simp);simp only[List.getElem_toArray,List.getElem_cons_zero,List.getElem_cons_succ]at q1;have f7:=HS.out.own (r:=⟨w.heap.size,3,.slice sN q0 cN,q0,nats nx2,1⟩) (by simp);have e8:=Nat.le_trans HS.out.base HS.out.wk;go_upto_region 32 with (first|(at_builtin;refine uR rfl _ _ _ rfl yP.toN w.heap.size (.slice sN q0 cN) (q0) (nats nx2) rfl f7 [.int .i64 (y:Int)] rfl rfl ?z1 ?z2 ?z3 ?z4 ?_;(case z1=>(intro v hv;simp only[List.mem_cons,List.not_mem_nil,or_false]at hv;subst hv;rfl));(case z2=>(unfold maxLen;omega));(case z3=>(show (q0+1) * 8<=140737488355328;omega));(case z4=>exact e8);intro sn1 cn1 wM1 h2 H4 H3;(have a2:Hid (BoxS w.heap.size X1 o 111 w w6 (⟨w.heap.size,34,.slice sS m cS,m,hs,1⟩::⟨w.heap.size,3,.slice sn1 (q0+1) cn1,(q0+1),nats nx2++[.int .i64 (y:Int)],1⟩::⟨w.heap.size,3,.slice sF m cF,m,nats fr2,1⟩::⟨w.heap.size,3,.slice sB m cB,m,nats bl2,1⟩::[]) #[.int .i64 (k:Int),.slice da np dc,.slice sS m cS,.slice sN q0 cN,.slice sF m cF,.slice sB m cB] wM1):=Kh (HS.out.appAt (j:=1) rfl h2 H4 H3));(have p1:=zJ a2.out.box 3 (by simp));simp only[List.getElem_toArray,List.getElem_cons_zero,List.getElem_cons_succ]at p1;(have f1:=zE a2.out.box 3);clear h2 H4 H3 q1)|fail)
        obtain⟨wZ1,H0⟩:∃ wZ,wZ=wM1.setCell ⟨o,3,none⟩ (.slice sn1 (q0+1) cn1):=⟨_,rfl⟩;have c8:Hid (BoxS w.heap.size X1 o 111 w w6 (⟨w.heap.size,34,.slice sS m cS,m,hs,1⟩::⟨w.heap.size,3,.slice sn1 (q0+1) cn1,(q0+1),nats nx2++[.int .i64 (y:Int)],1⟩::⟨w.heap.size,3,.slice sF m cF,m,nats fr2,1⟩::⟨w.heap.size,3,.slice sB m cB,m,nats bl2,1⟩::[]) #[.int .i64 (k:Int),.slice da np dc,.slice sS m cS,.slice sn1 (q0+1) cn1,.slice sF m cF,.slice sB m cB] wZ1):=Kh (by rw[H0];exact a2.out.set 3 (.slice sn1 (q0+1) cn1));rw[<- H0];clear H0 f7 e8 a2 p1 f1;go_wp2;go_roundg (k - (a+1))
        case measure=>have:=j1.out;omega
        case rel =>
         have H9:z=nxtT ds (L2.getD s []) a:=by rw[HZ.out,HX.out]
         refine⟨a+1,L2,nx2++[y],fr2,bl2,by have:=j1.out;omega,by go_num,?_,b4.out.old m3.out (by rw[<- HX.out]at H9;rw[<- H9];exact H5.out),b3.out,d5.out,?_,d7.out⟩
         ·have e1:s * k+(a+1)=q0+1:=by rw[i5.out];rfl
          rw[e1,<- h8.out];have hb:=c8.out;rw[<- vQ,l3.out]at hb;exact bD hb HE.out HM.out l7.out d4.out HU.out ⟨HL.out.1,by rw[List.length_append,HL.out.2.1];rfl,HL.out.2.2⟩ m0.out
         ·rw[HY.out,H9]
          exact d2.out.push ha (by rw[<- H9];exact H5.out)
       case neg =>
        have i3:Sem.run Try.prog (Instr.lookup 129 (.map (some mb)) (.string T) true) w6=.ok (.tuple #[.int .i64 0,.bool false]) w6:=by
         rw[qET hmem]at H1;rw[HT.out];exact H1
        have H9:z=nxtT ds (L2.getD s []) a:=by rw[HZ.out,HX.out]
        have g4:=Kh H9;have H5:=Kh hmem;by_cases h4:m=4000
        case pos =>
         have s7:Hid (Over ds k):=Kh (b4.out.over (by rw[<- h8.out];exact h4) ha m3.out (by rw[<- HX.out]at H9;rw[<- H9];exact hmem));subst h4;clear H1 H9 hmem;go_wp2;refine bodyPost_ret (v:=.tuple #[.pointer none,.bool false]) (by simp[results,Try.results57,go_sem]) rfl ?_;exact .inl ⟨s7.out,rfl,i6.out.facts.1⟩
        have s0:¬ (m:Int)=4000:=by omega
        clear H1 H9 hmem;go_upto_region 28 with (first|(at_mapUpdate;refine nH l9.out rfl _ _ _ rfl mb u c (numE L2) z m rfl ?k1 rfl HM.out (by have:=HU.out;unfold maxLen;omega) l4.out (by omega) ?_;(case k1=>(show _=Value.string (txtT (kb z));rw[<- HT.out];rfl));intro w8 d9 g2)|fail)
        obtain⟨c9,n7⟩:∃ c9,MapK 9 (qK np) (fun l=>.string (txtT (kb l))) w8 mb (u+1) c9 (numE (L2++[z])):=⟨_,by rw[<- qBY H5.out,<- h8.out];exact d9⟩;obtain⟨X,hs,sS,sN,sF,sB,cS,cN,cF,cB,hB,hE,_,c5,a0,hl,g0⟩:=i6.out.open_ g2 d9.obj;obtain⟨X1,c7⟩:∃ X1,X1=fun j=>X j\/j=mb:=⟨_,rfl⟩;rw[<- c7]at hB;have HS:=Kh hB;have HE:=Kh hE;have l7:=Kh c5;have d4:=Kh a0;have HL:=Kh hl;have m0:=Kh g0;have l3:=Kh c7;have s8:=Kh n7;have l6:Hid (q0<=24000):=Kh (by rw[i5.out];have h1:s * k<=3999 * 6:=Nat.mul_le_mul (by omega) hk6;omega);have q9:=l6.out;have t5:m<4000:=(by omega);clear x0 x1 x2 x3 x4 x5 hB hE c5 a0 hl g0 c7 d9 n7 g2 h4 s0 i3 i6 HM;have q1:=zJ HS.out.box 2 (by simp);simp only[List.getElem_toArray,List.getElem_cons_zero,List.getElem_cons_succ]at q1;have f7:=HS.out.own (r:=⟨w.heap.size,34,.slice sS m cS,m,hs,1⟩) (by simp);have e8:=Nat.le_trans HS.out.base HS.out.wk;go_upto_region 29 with (first|(at_builtin;refine uR rfl _ _ _ rfl uP.toN w.heap.size (.slice sS m cS) (m) (hs) rfl f7 [.slice (some ⟨rb,0,none⟩) np np] rfl rfl ?z1 ?z2 ?z3 ?z4 ?_;(case z1=>(intro v hv;simp only[List.mem_cons,List.not_mem_nil,or_false]at hv;subst hv;rfl));(case z2=>(unfold maxLen;omega));(case z3=>(show (m+1) * 24<=140737488355328;omega));(case z4=>exact e8);intro sn1 cn1 wM1 h2 H4 H3;(have a2:Hid (BoxS w.heap.size X1 o 111 w w8 (⟨w.heap.size,34,.slice sn1 (m+1) cn1,(m+1),hs++[.slice (some ⟨rb,0,none⟩) np np],1⟩::⟨w.heap.size,3,.slice sN q0 cN,q0,nats nx2,1⟩::⟨w.heap.size,3,.slice sF m cF,m,nats fr2,1⟩::⟨w.heap.size,3,.slice sB m cB,m,nats bl2,1⟩::[]) #[.int .i64 (k:Int),.slice da np dc,.slice sS m cS,.slice sN q0 cN,.slice sF m cF,.slice sB m cB] wM1):=Kh (HS.out.appAt (j:=0) rfl h2 H4 H3));(have p1:=zJ a2.out.box 2 (by simp));simp only[List.getElem_toArray,List.getElem_cons_zero,List.getElem_cons_succ]at p1;(have f1:=zE a2.out.box 2);clear h2 H4 H3 q1)|fail)
        obtain⟨wZ1,H0⟩:∃ wZ,wZ=wM1.setCell ⟨o,2,none⟩ (.slice sn1 (m+1) cn1):=⟨_,rfl⟩;have c8:Hid (BoxS w.heap.size X1 o 111 w w8 (⟨w.heap.size,34,.slice sn1 (m+1) cn1,(m+1),hs++[.slice (some ⟨rb,0,none⟩) np np],1⟩::⟨w.heap.size,3,.slice sN q0 cN,q0,nats nx2,1⟩::⟨w.heap.size,3,.slice sF m cF,m,nats fr2,1⟩::⟨w.heap.size,3,.slice sB m cB,m,nats bl2,1⟩::[]) #[.int .i64 (k:Int),.slice da np dc,.slice sn1 (m+1) cn1,.slice sN q0 cN,.slice sF m cF,.slice sB m cB] wZ1):=Kh (by rw[H0];exact a2.out.set 2 (.slice sn1 (m+1) cn1));rw[<- H0];clear H0 f7 e8 a2 p1 f1;have q2:=zJ c8.out.box 4 (by simp);simp only[List.getElem_toArray,List.getElem_cons_zero,List.getElem_cons_succ]at q2;have n6:=c8.out.own (r:=⟨w.heap.size,3,.slice sF m cF,m,nats fr2,1⟩) (by simp);have m7:=Nat.le_trans c8.out.base c8.out.wk;go_upto_region 30 with (first|(at_builtin;refine uR rfl _ _ _ rfl yP.toN w.heap.size (.slice sF m cF) (m) (nats fr2) rfl n6 [.int .i64 (s:Int)] rfl rfl ?z1 ?z2 ?z3 ?z4 ?_;(case z1=>(intro v hv;simp only[List.mem_cons,List.not_mem_nil,or_false]at hv;subst hv;rfl));(case z2=>(unfold maxLen;omega));(case z3=>(show (m+1) * 8<=140737488355328;omega));(case z4=>exact m7);intro sn2 cn2 wM2 h2 H4 H3;(have j0:Hid (BoxS w.heap.size X1 o 111 w w8 (⟨w.heap.size,34,.slice sn1 (m+1) cn1,(m+1),hs++[.slice (some ⟨rb,0,none⟩) np np],1⟩::⟨w.heap.size,3,.slice sN q0 cN,q0,nats nx2,1⟩::⟨w.heap.size,3,.slice sn2 (m+1) cn2,(m+1),nats fr2++[.int .i64 (s:Int)],1⟩::⟨w.heap.size,3,.slice sB m cB,m,nats bl2,1⟩::[]) #[.int .i64 (k:Int),.slice da np dc,.slice sn1 (m+1) cn1,.slice sN q0 cN,.slice sF m cF,.slice sB m cB] wM2):=Kh (c8.out.appAt (j:=2) rfl h2 H4 H3));(have p2:=zJ j0.out.box 4 (by simp));simp only[List.getElem_toArray,List.getElem_cons_zero,List.getElem_cons_succ]at p2;(have f2:=zE j0.out.box 4);clear h2 H4 H3 q2)|fail)
        obtain⟨wZ2,b7⟩:∃ wZ,wZ=wM2.setCell ⟨o,4,none⟩ (.slice sn2 (m+1) cn2):=⟨_,rfl⟩;have g6:Hid (BoxS w.heap.size X1 o 111 w w8 (⟨w.heap.size,34,.slice sn1 (m+1) cn1,(m+1),hs++[.slice (some ⟨rb,0,none⟩) np np],1⟩::⟨w.heap.size,3,.slice sN q0 cN,q0,nats nx2,1⟩::⟨w.heap.size,3,.slice sn2 (m+1) cn2,(m+1),nats fr2++[.int .i64 (s:Int)],1⟩::⟨w.heap.size,3,.slice sB m cB,m,nats bl2,1⟩::[]) #[.int .i64 (k:Int),.slice da np dc,.slice sn1 (m+1) cn1,.slice sN q0 cN,.slice sn2 (m+1) cn2,.slice sB m cB] wZ2):=Kh (by rw[b7];exact j0.out.set 4 (.slice sn2 (m+1) cn2));rw[<- b7];clear b7 n6 m7 j0 p2 f2;have q3:=zJ g6.out.box 5 (by simp);simp only[List.getElem_toArray,List.getElem_cons_zero,List.getElem_cons_succ]at q3;have n5:=g6.out.own (r:=⟨w.heap.size,3,.slice sB m cB,m,nats bl2,1⟩) (by simp);have m6:=Nat.le_trans g6.out.base g6.out.wk;go_upto_region 31 with (first|(at_builtin;refine uR rfl _ _ _ rfl yP.toN w.heap.size (.slice sB m cB) (m) (nats bl2) rfl n5 [.int .i64 (a:Int)] rfl rfl ?z1 ?z2 ?z3 ?z4 ?_;(case z1=>(intro v hv;simp only[List.mem_cons,List.not_mem_nil,or_false]at hv;subst hv;rfl));(case z2=>(unfold maxLen;omega));(case z3=>(show (m+1) * 8<=140737488355328;omega));(case z4=>exact m6);intro sn3 cn3 wM3 h2 H4 H3;(have i9:Hid (BoxS w.heap.size X1 o 111 w w8 (⟨w.heap.size,34,.slice sn1 (m+1) cn1,(m+1),hs++[.slice (some ⟨rb,0,none⟩) np np],1⟩::⟨w.heap.size,3,.slice sN q0 cN,q0,nats nx2,1⟩::⟨w.heap.size,3,.slice sn2 (m+1) cn2,(m+1),nats fr2++[.int .i64 (s:Int)],1⟩::⟨w.heap.size,3,.slice sn3 (m+1) cn3,(m+1),nats bl2++[.int .i64 (a:Int)],1⟩::[]) #[.int .i64 (k:Int),.slice da np dc,.slice sn1 (m+1) cn1,.slice sN q0 cN,.slice sn2 (m+1) cn2,.slice sB m cB] wM3):=Kh (g6.out.appAt (j:=3) rfl h2 H4 H3));(have p3:=zJ i9.out.box 5 (by simp));simp only[List.getElem_toArray,List.getElem_cons_zero,List.getElem_cons_succ]at p3;(have f3:=zE i9.out.box 5);clear h2 H4 H3 q3)|fail)
        obtain⟨wZ3,b6⟩:∃ wZ,wZ=wM3.setCell ⟨o,5,none⟩ (.slice sn3 (m+1) cn3):=⟨_,rfl⟩;have g5:Hid (BoxS w.heap.size X1 o 111 w w8 (⟨w.heap.size,34,.slice sn1 (m+1) cn1,(m+1),hs++[.slice (some ⟨rb,0,none⟩) np np],1⟩::⟨w.heap.size,3,.slice sN q0 cN,q0,nats nx2,1⟩::⟨w.heap.size,3,.slice sn2 (m+1) cn2,(m+1),nats fr2++[.int .i64 (s:Int)],1⟩::⟨w.heap.size,3,.slice sn3 (m+1) cn3,(m+1),nats bl2++[.int .i64 (a:Int)],1⟩::[]) #[.int .i64 (k:Int),.slice da np dc,.slice sn1 (m+1) cn1,.slice sN q0 cN,.slice sn2 (m+1) cn2,.slice sn3 (m+1) cn3] wZ3):=Kh (by rw[b6];exact i9.out.set 5 (.slice sn3 (m+1) cn3));rw[<- b6];clear b6 n5 m6 i9 p3 f3;have q4:=zJ g5.out.box 3 (by simp);simp only[List.getElem_toArray,List.getElem_cons_zero,List.getElem_cons_succ]at q4;have n4:=g5.out.own (r:=⟨w.heap.size,3,.slice sN q0 cN,q0,nats nx2,1⟩) (by simp);have m5:=Nat.le_trans g5.out.base g5.out.wk;go_upto_region 32 with (first|(at_builtin;refine uR rfl _ _ _ rfl yP.toN w.heap.size (.slice sN q0 cN) (q0) (nats nx2) rfl n4 [.int .i64 (m:Int)] rfl rfl ?z1 ?z2 ?z3 ?z4 ?_;(case z1=>(intro v hv;simp only[List.mem_cons,List.not_mem_nil,or_false]at hv;subst hv;rfl));(case z2=>(unfold maxLen;omega));(case z3=>(show (q0+1) * 8<=140737488355328;omega));(case z4=>exact m5);intro sn4 cn4 wM4 h2 H4 H3;(have i8:Hid (BoxS w.heap.size X1 o 111 w w8 (⟨w.heap.size,34,.slice sn1 (m+1) cn1,(m+1),hs++[.slice (some ⟨rb,0,none⟩) np np],1⟩::⟨w.heap.size,3,.slice sn4 (q0+1) cn4,(q0+1),nats nx2++[.int .i64 (m:Int)],1⟩::⟨w.heap.size,3,.slice sn2 (m+1) cn2,(m+1),nats fr2++[.int .i64 (s:Int)],1⟩::⟨w.heap.size,3,.slice sn3 (m+1) cn3,(m+1),nats bl2++[.int .i64 (a:Int)],1⟩::[]) #[.int .i64 (k:Int),.slice da np dc,.slice sn1 (m+1) cn1,.slice sN q0 cN,.slice sn2 (m+1) cn2,.slice sn3 (m+1) cn3] wM4):=Kh (g5.out.appAt (j:=1) rfl h2 H4 H3));(have p4:=zJ i8.out.box 3 (by simp));simp only[List.getElem_toArray,List.getElem_cons_zero,List.getElem_cons_succ]at p4;(have f4:=zE i8.out.box 3);clear h2 H4 H3 q4)|fail)
        obtain⟨wZ4,b5⟩:∃ wZ,wZ=wM4.setCell ⟨o,3,none⟩ (.slice sn4 (q0+1) cn4):=⟨_,rfl⟩;have s1:Hid (BoxS w.heap.size X1 o 111 w w8 (⟨w.heap.size,34,.slice sn1 (m+1) cn1,(m+1),hs++[.slice (some ⟨rb,0,none⟩) np np],1⟩::⟨w.heap.size,3,.slice sn4 (q0+1) cn4,(q0+1),nats nx2++[.int .i64 (m:Int)],1⟩::⟨w.heap.size,3,.slice sn2 (m+1) cn2,(m+1),nats fr2++[.int .i64 (s:Int)],1⟩::⟨w.heap.size,3,.slice sn3 (m+1) cn3,(m+1),nats bl2++[.int .i64 (a:Int)],1⟩::[]) #[.int .i64 (k:Int),.slice da np dc,.slice sn1 (m+1) cn1,.slice sn4 (q0+1) cn4,.slice sn2 (m+1) cn2,.slice sn3 (m+1) cn3] wZ4):=Kh (by rw[b5];exact i8.out.set 3 (.slice sn4 (q0+1) cn4));rw[<- b5];clear b5 n4 m5 i8 p4 f4;go_wp2;go_roundg (k - (a+1))
        case measure=>have:=j1.out;omega
        case rel =>
         refine⟨a+1,L2++[z],nx2++[m],fr2++[s],bl2++[a],by have:=j1.out;omega,by go_num,?_,?_,by rw[List.length_append];have:=b3.out;omega,by rw[List.length_append,<- h8.out];show m+1<=4000;omega,?_,?_⟩
         ·have e1:s * k+(a+1)=q0+1:=by rw[i5.out];rfl
          have e2:(L2++[z]).length=m+1:=by rw[List.length_append,<- h8.out];rfl
          rw[e1,e2];have hb:=s1.out;rw[<- vQ,<- vQ,<- vQ,l3.out]at hb;exact bD hb HE.out s8.out l7.out d4.out (by have:=HU.out;omega) ⟨e2,by rw[List.length_append,HL.out.2.1];rfl,by rw[List.length_append,HL.out.2.2.1];rfl,by rw[List.length_append,HL.out.2.2.2];rfl⟩ (by rw[List.length_append,m0.out];rfl)
         ·have h1:=b4.out.new ha m3.out (by rw[HX.out,<- g4.out];exact H5.out)
          rw[HX.out,<- g4.out]at h1;exact h1
         ·have h1:=d2.out.pushNew b3.out ha (by rw[<- g4.out];exact H5.out)
          rw[<- g4.out,<- h8.out]at h1;exact h1
         ·have h1:=d7.out.push b3.out ha
          rw[<- g4.out]at h1;exact h1
end Go.Proofs.Ytjfdomfendbhfaa
namespace Go.Proofs.Ytjfdomfendbhfaa
def lets (w:List Nat):List Int:=w.map fun(a:Nat)=>97+(a:Int)
end Go.Proofs.Ytjfdomfendbhfaa
namespace Go.Proofs.Ytjfdomfendbhfaa
open Go.RowKit Go.Maps
theorem rC {w:World}{b e sz n g cap i:Nat}{xs:List Value}(h:w.ownsRow b e sz (.slice (some ⟨g,0,none⟩) n cap) n xs)(u:Value):(w.setCell ⟨g,i,none⟩ u).ownsRow b e sz (.slice (some ⟨g,0,none⟩) n cap) n (xs.set i u):=by
 refine⟨by rw[List.length_set];exact h.1,?_⟩;rcases h.2 with ⟨hv,_⟩|⟨g',cap',cur,hv,hb,hg,hnc,hcm,hcs,htake⟩
 ·simp at hv
 ·simp only[Value.slice.injEq,Option.some.injEq,Addr.mk.injEq]at hv
  obtain⟨⟨rfl,_⟩,_,rfl⟩:=hv;have hs:=heap_setCell_same w g i _ _ u hg;refine .inr ⟨g,cap,_,rfl,hb,hs,hnc,hcm,by simpa using hcs,?_⟩;rw[<- htake];simp[List.take_set]
def ltN (t:List Nat):List Nat:=t.map fun b=>97+b
theorem ltN_length (t:List Nat):(ltN t).length=t.length:=by simp[ltN]
theorem qIJ (t:List Nat):zb (ltN t)=lets t:=by simp[zb,ltN,lets]
def RevI (t l:List Nat)(i:Nat):Prop:=l.length=t.length/\∀ p,p<t.length->l.getD p 0=if p<i\/t.length<=p+i then t.getD (t.length - 1 - p) 0 else t.getD p 0
theorem RevI.start (t:List Nat):RevI t t 0:=⟨rfl,fun p hp=>by rw[if_neg (by omega)]⟩
theorem qCU {l:List Nat}{i p x:Nat}(hi:i<l.length):(l.set i x).getD p 0=if p=i then x else l.getD p 0:=by
 simp only[List.getD_eq_getElem?_getD,List.getElem?_set]
 split
 ·rename_i e;subst e;simp[hi]
 ·rename_i e;rw[if_neg (fun h=>e h.symm)]
theorem RevI.step {t l:List Nat}{i j:Nat}(h:RevI t l i)(hj:i+j+1=t.length)(hij:i<j):RevI t ((l.set i (l.getD j 0)).set j (l.getD i 0)) (i+1):=by
 refine⟨by simp[h.1],fun p hp=>?_⟩;rw[qCU (by rw[List.length_set,h.1];omega),qCU (by rw[h.1];omega)];by_cases e1:p=j
 ·subst e1
  rw[if_pos rfl,if_pos (by omega),h.2 i (by omega),if_neg (by omega)];congr 1;omega
 ·rw[if_neg e1]
  by_cases e2:p=i
  ·subst e2
   rw[if_pos rfl,if_pos (by omega),h.2 j (by omega),if_neg (by omega)];congr 1;omega
  ·rw[if_neg e2,h.2 p hp]
   by_cases e3:p<i\/t.length<=p+i
   ·rw[if_pos e3,if_pos (by omega)]
   ·rw[if_neg e3,if_neg (by omega)]
theorem RevI.done {t l:List Nat}{i j:Nat}(h:RevI t l i)(hj:i+j+1=t.length)(hij:j<=i):l=t.reverse:=by
 refine List.ext_getElem (by rw[h.1,List.length_reverse]) fun p h1 h2=>?_;have hp:p<t.length:=by rw[<- h.1];exact h1
 have:=h.2 p hp;rw[zG h1]at this;rw[this,List.getElem_reverse]
 split
 ·rw[zG (by omega)]
 ·have:p=t.length - 1 - p:=by omega
  rw[zG hp];congr 1
theorem RevI.nil {t l:List Nat}(h:RevI t l 0)(h0:t.length=0):l=t.reverse:=by
 have:=List.eq_nil_of_length_eq_zero h0;subst this;have:=List.eq_nil_of_length_eq_zero h.1;rw[this];rfl
def qHR (w:World)(ds:List DfaV)(k:Nat)(L:List (List Nat))(s:Nat)(e:Ending)(w':World):Prop :=
 ∃ u:List Nat,yI k u/\u.length<=s/\sE (nxtT ds) (L.getD 0 []) u=L.getD s []/\e=.returned (.string (strOfNums (lets u)))/\w.grownBy w' none
theorem swap_own {w W:World}{b e n g cap i j:Nat}{t:List Nat}(h:w.ownsRow b e 1 (.slice (some ⟨g,0,none⟩) n cap) n (u8s t))(hij:i≠j)(x y:Nat)(hW:W=(w.setCell ⟨g,i,none⟩ (.int .u8 (x:Int))).setCell ⟨g,j,none⟩ (.int .u8 (y:Int))\/W=(w.setCell ⟨g,j,none⟩ (.int .u8 (y:Int))).setCell ⟨g,i,none⟩ (.int .u8 (x:Int))):
  W.ownsRow b e 1 (.slice (some ⟨g,0,none⟩) n cap) n (u8s ((t.set i x).set j y))/\w.grownBy W (some g):=by
 refine⟨?_,?_⟩
 ·rcases hW with rfl|rfl
  ·have:=rC (i:=j) (rC (i:=i) h (.int .u8 (x:Int))) (.int .u8 (y:Int))
   rwa [fE,fE]at this
  ·have:=rC (i:=i) (rC (i:=j) h (.int .u8 (y:Int))) (.int .u8 (x:Int))
   rw[fE,fE,List.set_comm _ _ (fun e=>hij e.symm)]at this;exact this
 ·rcases hW with rfl|rfl
  ·exact zD (zC w ⟨g,i,none⟩ _) (zC _ ⟨g,j,none⟩ _)
  ·exact zD (zC w ⟨g,j,none⟩ _) (zC _ ⟨g,i,none⟩ _)
theorem pword_any (w:World)(o k:Nat)(pv:Value)(ds:List DfaV)(L:List (List Nat))(nxl fr bl:List Nat)(sb sc nb nc fb fc bb bc s:Nat)(h:ProdV w o k pv L nxl fr bl sb sc nb nc fb fc bb bc)(hf:dX ds k L fr bl)(hk6:k<=6)(hs:s<L.length)(hL:L.length<=4000):
  Calls Try.prog 60 #[.pointer (some ⟨o,0,none⟩),.int .i64 (s:Int)] w (qHR w ds k L s):=by
 obtain⟨m,hm⟩:∃ m,m=L.length:=⟨_,rfl⟩;have H:=Kh h;have HF:=Kh hf;have HM:=Kh hm;rw[<- hm]at hs hL;clear h hf hm;go_enter Try.func60,Try.ntmps60;go_wp2
 go_loopg [1,5] s (fun gh v1 v5 wr=>∃ (q:Nat) (sa:Option Addr) (sc:Nat) (t:List Nat),gh=q/\v1=.int .i64 q/\v5=.slice sa t.length sc/\wr.ownsRow w.heap.size 5 1 (.slice sa t.length sc) t.length (u8s (ltN t))/\BackI ds k L s q t/\w.grownBy wr none)
 case atStart=>exact⟨s,none,0,[],rfl,rfl,rfl,World.ownsRow_nil _ _ _ _,BackI.start _ _ _ _,zM _ _⟩
 case round =>
  obtain⟨q,sa,sd,t,a3,rfl,rfl,h3,H8,hg⟩:=hrel;have b6:=Kh a3;have HO:=Kh h3;have HB:=Kh H8;have HG:=Kh hg;have H5:=H8.len;clear a3 h3 H8;by_cases hq:q=0
  ·subst hq
   obtain⟨n,hn⟩:∃ n,n=t.length:=⟨_,rfl⟩;have HN:=Kh hn;rw[<- hn]at H5 HO ⊢;have H9:=Kh (RevI.start (ltN t));obtain⟨lt,h9⟩:∃ x,x=ltN t:=⟨_,rfl⟩;have h4:lt.length=n:=by rw[h9,ltN_length,hn]
   rw[<- h9]at H9 HO;have a7:=Kh h9;have a0:=Kh h4;clear hn h9 h4 hg;by_cases hn0:n=0
   ·subst hn0
    have H7:=rR 106 5 Try.underlying106 Try.underlying5 9 Try.underlying9 (xs:=zb lt) HO.out;obtain⟨X,hX⟩:∃ X,X=strOfNums (zb lt):=⟨_,rfl⟩;rw[<- hX]at H7;have HX:=Kh hX;clear hX;go_wp2
    go_loopw [6,7] (fun v6 v7 wr2=>v6=.int .i64 0/\v7=.int .i64 (-1)/\wr2=wr) (fun _ _ _=>0)
    case atStart=>exact⟨rfl,rfl,rfl⟩
    case round =>
     obtain⟨rfl,rfl,rfl⟩:=hrel;go_wp2;go_ret;refine⟨t.reverse,fun a ha=>HB.out.ok a (by simpa using ha),by rw[List.length_reverse,<- HN.out];omega,HB.out.walk,?_,HG.out⟩;have h1:t=[]:=List.eq_nil_of_length_eq_zero HN.out.symm;rw[HX.out,a7.out,qIJ,h1];rfl
   ·obtain⟨gb,rfl,c6,b4,h0⟩:=wQ HO.out (by omega)
    have c4:sd<=9223372036854775807:=by unfold maxLen at b4;omega
    clear h0;obtain⟨wo,rfl⟩:∃ wo:World,wo=wr:=⟨_,rfl⟩;go_wp2
    go_loopg [6,7] (n - 1) (fun gh v6 v7 wr=>∃ (i j:Nat) (l:List Nat),gh=j/\v6=.int .i64 i/\v7=.int .i64 j/\i+j+1=n/\RevI lt l i/\wr.ownsRow w.heap.size 5 1 (.slice (some ⟨gb,0,none⟩) n sd) n (u8s l)/\w.grownBy wr none)
    case atStart=>exact⟨0,n - 1,lt,rfl,rfl,by go_num,by omega,H9.out,HO.out,HG.out⟩
    case round =>
     clear HG HO H9;obtain⟨i,j,l,a4,rfl,rfl,a2,H2,h3,hg⟩:=hrel;have b8:=Kh a4;have H1:=Kh a2;have a6:=Kh H2;have HO:=Kh h3;have HG:=Kh hg;have h0:=Arr.of_owns h3;have H4:l.length=n:=by rw[H2.1,a0.out]
     have c7:=Kh H4;clear a4 a2 H2;by_cases h4:i<j
     ·have H3:(i:Int)<j:=by omega
      have c5:j<n:=(by have:=H1.out;omega);have b0:(j:Int)<n:=(by omega);have b1:(i:Int)<n:=(by omega);have c1:=aJ h0 i (by omega);have c2:=aJ h0 j (by omega);have f1:=h0.frozen i;have f2:=h0.frozen j;obtain⟨x,hx⟩:∃ x,x=l.getD i 0:=⟨_,rfl⟩;obtain⟨y,hy⟩:∃ y,y=l.getD j 0:=⟨_,rfl⟩;rw[<- hx]at c1;rw[<- hy]at c2;have h7:=Kh (a6.out.step (by rw[a0.out];exact H1.out) h4);rw[<- hx,<- hy]at h7;have b2:=h0.lt;clear hx hy h0 H4 h3 hg;go_wp2
      go_region
      all_goals
       go_wp2;go_roundg (j - 1)
       case measure=>have:=b8.out;omega
       case rel =>
        obtain⟨h1,h2⟩:=swap_own (W:=_) (zQ HO.out (zP _ none)) (show i≠j by omega) y x (by first|exact .inl rfl|exact .inr rfl);exact⟨i+1,j - 1,_,rfl,by go_num,by go_num,by have:=H1.out;omega,h7.out,h1,zB (zB HG.out (zP _ none) (by simp)) h2 (fun x e=>by have e:gb=x:=Oj e;subst e;exact(HO.out.lt _ rfl).1)⟩
     ·have H3:¬ (i:Int)<j:=by omega
      have a1:=Kh (a6.out.done (by rw[a0.out];exact H1.out) (by omega));have H7:=rR 106 5 Try.underlying106 Try.underlying5 9 Try.underlying9 (xs:=zb l) HO.out;obtain⟨X,hX⟩:∃ X,X=strOfNums (zb l):=⟨_,rfl⟩;rw[<- hX]at H7;have HX:=Kh hX;clear hX h0 h3 hg H4;go_wp2;go_ret;refine⟨t.reverse,fun a ha=>HB.out.ok a (by simpa using ha),by rw[List.length_reverse,<- HN.out];omega,HB.out.walk,?_,HG.out⟩;rw[HX.out,a1.out,a7.out];rw[show (ltN t).reverse=ltN t.reverse by simp[ltN],qIJ];rfl
  ·have hv:=H.out.grow hg
   obtain⟨x0,x1,x2,x3,x4,x5⟩:=hv.cells;have h8:q<m:=(by omega);have c1:=hv.fr q (by rw[<- HM.out];exact h8);have c2:=hv.by_ q (by rw[<- HM.out];exact h8);obtain⟨e1,e2,e3⟩:=HF.out.2.2 q (by omega) (by rw[<- HM.out];exact h8);have h7:=Kh (HB.out.step e2 e1 e3);obtain⟨f,H6⟩:∃ f,f=fr.getD q 0:=⟨_,rfl⟩;obtain⟨b,a5⟩:∃ b,b=bl.getD q 0:=⟨_,rfl⟩;rw[<- H6]at c1 e1 h7;rw[<- a5]at c2 e2 h7;have H0:=hv.caps;rw[<- HM.out]at x4 x5 H0;have k1:fc<=9223372036854775807:=by have:=H0.2.2.2.2.2.1;unfold maxLen at this;omega
   have k2:bc<=9223372036854775807:=by have:=H0.2.2.2.2.2.2.2;unfold maxLen at this;omega
   have c3:((q:Int) != 0)=true:=by rw[bne_iff_ne];omega
   have c0:¬ (q:Int)=0:=by omega
   have a9:(q:Int)<m:=(by omega);have e4:IntKind.u8.wrap (b:Int)=b:=IntWalk.u8_in _ (by omega);have e5:IntKind.u8.wrap (97+(b:Int))=97+(b:Int):=IntWalk.u8_in _ (by omega);have a8:=hg.size
   have b9:Hid (∀ W:World,w.grownBy W none->W.cell? ⟨o,4,none⟩=some (.slice (some ⟨fb,0,none⟩) m fc)/\W.cell? ⟨fb,q,none⟩=some (.int .i64 (f:Int))):=Kh (fun W hW=>by
    have hv:=H.out.grow hW;refine⟨by have:=hv.cells.2.2.2.2.1;rw[<- HM.out]at this;exact this,?_⟩;have:=hv.fr q (by rw[<- HM.out];exact h8)
    rw[<- H6]at this;exact this)
   clear hv H6 a5 H0 e3 hg x0 x1 x2 x3;go_upto_region 3 with (first|(at_builtin;refine dT rfl _ _ _ rfl qAI.toN w.heap.size (.slice sa t.length sd) t.length (u8s (ltN t)) rfl HO.out [.int .u8 (97+(b:Int))] rfl rfl ?z1 ?z2 ?z3 ?z4 ?_;(case z1=>(intro v hv;simp only[List.mem_cons,List.not_mem_nil,or_false]at hv;subst hv;rfl));(case z2=>(unfold maxLen;omega));(case z3=>(show (t.length+1) * 1<=140737488355328;omega));(case z4=>exact a8);intro sn cn wM h5 b3)|fail)
   have h6:=zB HG.out b3 (fun x e=>(HO.out.lt x e).1);obtain⟨d1,d2⟩:=b9.out wM h6;have b5:=Kh h5;have b7:=Kh h6;clear h5 h6 c1 c2 x4 x5;go_wp2;go_roundg f
   case measure=>have:=b6.out;omega
   case rel =>
    refine⟨f,sn,cn,t++[b],rfl,rfl,by rw[List.length_append];rfl,?_,h7.out,b7.out⟩;rw[List.length_append,show u8s (ltN (t++[b]))=u8s (ltN t)++[.int .u8 (97+(b:Int))] by simp[u8s,ltN,zb]];exact b5.out
end Go.Proofs.Ytjfdomfendbhfaa
