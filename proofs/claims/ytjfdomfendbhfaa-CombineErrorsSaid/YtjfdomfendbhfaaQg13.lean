/- Part 13 of the proof. -/
import Derived.Test.YtjfdomfendbhfaaQg12
import Derived.BigQuiet
import Derived.BigRegion
set_option linter.unusedVariables false
set_option linter.unusedSimpArgs false
set_option maxRecDepth 100000
set_option maxHeartbeats 16000000
namespace Go.Proofs.Ytjfdomfendbhfaa
open Go.Maps Go.RowKit
theorem rbox_start {w0 wa:World}{o np:Nat}{pv:Value}{s:Option Addr}{c:Nat}{x0:List Nat}(hg:w0.grownBy wa none)(hown:wa.ownsRow w0.heap.size 3 1 (.slice s np c) np (nats x0))(hb:wa.heap[o]?=some (.cells #[pv,.slice none 0 0,.slice none 0 0] 88 (0,0)))(ho:w0.heap.size<=o){w2:World}(hw2:w2=(wa.alloc (.cells #[.slice s np c] 34)).setCell ⟨o,1,none⟩ (.slice (some ⟨wa.heap.size,0,none⟩) 1 1)):∃ X,BoxS w0.heap.size X o 88 w0 w2 (⟨w0.heap.size,34,.slice (some ⟨wa.heap.size,0,none⟩) 1 1,1,[.slice s np c],1⟩::⟨w0.heap.size,34,.slice none 0 0,0,[],1⟩::[]) #[pv,.slice (some ⟨wa.heap.size,0,none⟩) 1 1,.slice none 0 0] w2/\uE X 3 nats w2 [.slice s np c] [x0]/\(∀ j,X j->w0.heap.size<=j/\j<w2.heap.size):=by
 obtain⟨w1,h1⟩:∃ w1,w1=wa.alloc (.cells #[.slice s np c] 34):=⟨_,rfl⟩;rw[<- h1]at hw2;have g1:wa.grownBy w1 none:=by rw[h1];exact Ga _ _ _
 have h3:1<=maxLen:=by unfold maxLen;omega
 have o1:w1.ownsRow wa.heap.size 34 1 (.slice (some ⟨wa.heap.size,0,none⟩) 1 1) 1 [.slice s np c]:=by rw[h1];exact World.ownsRow_lit wa #[_] 1 (Nat.le_refl _) h3 rfl
 have d1:(34:Nat)≠88:=by decide
 have d2:(3:Nat)≠88:=by decide
 have h2:(Value.slice s np c).ownBlock≠some o:=zQ hown hb d2;have h0:=yR hown g1 (by simp);have m0:EMem (fun j=>(Value.slice s np c).ownBlock=some j) wa []:=⟨fun r hr=>by simp at hr,List.Pairwise.nil,fun r hr=>by simp at hr,fun k hk=>(hown.lt k hk).2⟩;have m1:=m0.add g1 (r:=⟨w0.heap.size,34,.slice (some ⟨wa.heap.size,0,none⟩) 1 1,1,[.slice s np c],1⟩) (xM (base':=w0.heap.size) o1 hg.size) (fun k hk=>(o1.lt k hk).1);have m2:=m1.add (zL w1 none) (r:=⟨w0.heap.size,34,.slice none 0 0,0,[],1⟩) (World.ownsRow_nil _ _ _ _) (fun k hk=>by simp[Value.ownBlock]at hk)
 have hB:BoxS w0.heap.size (fun j=>(Value.slice s np c).ownBlock=some j) o 88 w0 w1 (⟨w0.heap.size,34,.slice (some ⟨wa.heap.size,0,none⟩) 1 1,1,[.slice s np c],1⟩::⟨w0.heap.size,34,.slice none 0 0,0,[],1⟩::[]) #[pv,.slice none 0 0,.slice none 0 0] w1:=by
  refine⟨m2,fun r hr=>?_,zB hb g1 (by simp),h2,Nat.le_refl _,ho,Nat.le_trans hg.size g1.size,zA hg g1 (by simp),vZ.refl _ _,Nat.le_refl _⟩;simp only[List.nil_append,List.cons_append,List.mem_cons,List.not_mem_nil,or_false]at hr;rcases hr with rfl|rfl
  ·exact⟨rfl,d1⟩
  ·exact⟨rfl,d1⟩
 have hS:=hB.set 1 (.slice (some ⟨wa.heap.size,0,none⟩) 1 1);rw[<- hw2]at hS;exact⟨_,hS.rebase,(uE.nil.snoc (RowX.of_owns h0 (fun k hk=>hk))).kept hS.kept hS.wk,fun j hj=>⟨(hown.lt j hj).1,hS.mem.lt j hj⟩⟩
theorem rpr_start {w0 w2 w8:World}{X:Nat->Prop}{o mb np u c:Nat}{pv:Value}{rs:Value}{sb:Nat}{x0:List Nat}(hB:BoxS w0.heap.size X o 88 w0 w2 (⟨w0.heap.size,34,.slice (some ⟨sb,0,none⟩) 1 1,1,[rs],1⟩::⟨w0.heap.size,34,.slice none 0 0,0,[],1⟩::[]) #[pv,.slice (some ⟨sb,0,none⟩) 1 1,.slice none 0 0] w2)(hE:uE X 3 nats w2 [rs] [x0])(hX:∀ j,X j->w0.heap.size<=j/\j<w2.heap.size)(hmb:w2.heap.size<=mb)(hg:w2.grownBy w8 (some mb))(hM:MapK 9 (qD np) KR w8 mb u c (numE [x0]))(hu:u<=2):RPr w0 w0.heap.size o mb np pv [x0] [] 1 0 [] w8:=by
 have h1:=zK hB.box;have h0:¬ X mb:=fun e=>by have:=(hX mb e).2;omega
 have h8:=hB.far hg (fun r hr e=>by have:=(hB.mem.own r hr).lt mb e;omega) h0 (by omega) (by have:=hB.grown.size;omega);exact⟨X,[rs],[],_,_,_,_,u,c,h8.rebase,hE.kept h8.kept h8.wk,uE.nil,hM,h0,by have:=hB.grown.size;omega,by omega,⟨rfl,rfl⟩,⟨rfl,rfl⟩,fun j hj=>(hX j hj).1⟩
def LRow (w:World)(sb i:Nat)(x:List Nat):Prop:=∃ g off cap,w.cell? ⟨sb,i,none⟩=some (.slice (some ⟨g,off,none⟩) x.length cap)/\x.length<=cap/\cap<=maxLen/\∀ j,j<x.length->w.cell? ⟨g,off+j,none⟩=some (.int .i64 ((x.getD j 0:Nat):Int))
theorem LRow.grow {w w':World}{sb i:Nat}{x:List Nat}(h:LRow w sb i x)(hg:w.grownBy w' none):LRow w' sb i x:=by
 obtain⟨g,off,cap,h1,h2,h3,h4⟩:=h;exact⟨g,off,cap,xE h1 hg,h2,h3,fun j hj=>xE (h4 j hj) hg⟩
structure ProdV (w:World)(o k:Nat)(pv:Value)(L:List (List Nat))(nxl fr bl:List Nat)(sb sc nb nc fb fc bb bc:Nat):Prop where
 box:w.heap[o]?=some (.cells #[.int .i64 (k:Int),pv,.slice (some ⟨sb,0,none⟩) L.length sc,.slice (some ⟨nb,0,none⟩) (L.length * k) nc,.slice (some ⟨fb,0,none⟩) L.length fc,.slice (some ⟨bb,0,none⟩) L.length bc] 111 (0,0))
 caps:L.length<=sc/\sc<=maxLen/\L.length * k<=nc/\nc<=maxLen/\L.length<=fc/\fc<=maxLen/\L.length<=bc/\bc<=maxLen
 row:∀ i,i<L.length->L.getD i []≠[]->LRow w sb i (L.getD i [])
 nx:∀ i,i<L.length * k->w.cell? ⟨nb,i,none⟩=some (.int .i64 ((nxl.getD i 0:Nat):Int))
 fr:∀ i,i<L.length->w.cell? ⟨fb,i,none⟩=some (.int .i64 ((fr.getD i 0:Nat):Int))
 by_:∀ i,i<L.length->w.cell? ⟨bb,i,none⟩=some (.int .i64 ((bl.getD i 0:Nat):Int))
 nlt:nb<w.heap.size
section
variable {w w':World} {o k:Nat} {pv:Value} {L:List (List Nat)} {nxl fr bl:List Nat} {sb sc nb nc fb fc bb bc:Nat}
theorem ProdV.grow (h:ProdV w o k pv L nxl fr bl sb sc nb nc fb fc bb bc)(hg:w.grownBy w' none):ProdV w' o k pv L nxl fr bl sb sc nb nc fb fc bb bc :=
 ⟨zB h.box hg (by simp),h.caps,fun i hi hn=>(h.row i hi hn).grow hg,fun i hi=>xE (h.nx i hi) hg,fun i hi=>xE (h.fr i hi) hg,fun i hi=>xE (h.by_ i hi) hg,Nat.lt_of_lt_of_le h.nlt hg.size⟩
theorem ProdV.cells (h:ProdV w o k pv L nxl fr bl sb sc nb nc fb fc bb bc):w.cell? ⟨o,0,none⟩=some (.int .i64 (k:Int))/\w.cell? ⟨o,1,none⟩=some pv/\w.cell? ⟨o,2,none⟩=some (.slice (some ⟨sb,0,none⟩) L.length sc)/\w.cell? ⟨o,3,none⟩=some (.slice (some ⟨nb,0,none⟩) (L.length * k) nc)/\w.cell? ⟨o,4,none⟩=some (.slice (some ⟨fb,0,none⟩) L.length fc)/\w.cell? ⟨o,5,none⟩=some (.slice (some ⟨bb,0,none⟩) L.length bc):=by
 have c0:=zH h.box 0 (by simp);have c1:=zH h.box 1 (by simp);have c2:=zH h.box 2 (by simp);have c3:=zH h.box 3 (by simp);have c4:=zH h.box 4 (by simp);have c5:=zH h.box 5 (by simp);simp only[List.getElem_toArray,List.getElem_cons_zero,List.getElem_cons_succ]at c0 c1 c2 c3 c4 c5;exact⟨c0,c1,c2,c3,c4,c5⟩
theorem ProdS.view {w0:World}{B mb np m q:Nat}(h:ProdS w0 B o mb k np pv L nxl fr bl m q [] w)(h0:0<m)(hq:q=m * k)(hk:0<k):∃ sb sc nb nc fb fc bb bc,ProdV w o k pv L nxl fr bl sb sc nb nc fb fc bb bc:=by
 obtain⟨sS',cS',sN',cN',sF',cF',sB',cB',h6,h5⟩:=h.cells;obtain⟨X,hs,sS,sN,sF,sB,cS,cN,cF,cB,u,c,hB,hE,hM,h8,h9,hu,⟨rfl,H2,H1,H0⟩,H3⟩:=h;have h7:0<q:=by rw[hq];exact Nat.mul_pos h0 hk
 obtain⟨sb,e,h1,h2,h3⟩:=h5 h0;have h4:=hB.box;rw[h6]at h4;simp only[Option.some.injEq,Obj.cells.injEq,and_true]at h4;have h4:=congrArg Array.toList h4;simp only[List.cons.injEq,and_true,true_and,Value.slice.injEq]at h4;obtain⟨⟨rfl,rfl⟩,⟨rfl,rfl⟩,⟨rfl,rfl⟩,⟨rfl,rfl⟩⟩:=h4;subst e;obtain⟨nb,rfl,n1,n2,na⟩:=yW (hB.own (r:=⟨B,3,.slice sN' q cN',q,nats nxl,1⟩) (by simp)) h7;obtain⟨fb,rfl,f1,f2,fa⟩:=yW (hB.own (r:=⟨B,3,.slice sF' L.length cF',L.length,nats fr,1⟩) (by simp)) h0;obtain⟨bb,rfl,b1,b2,ba⟩:=yW (hB.own (r:=⟨B,3,.slice sB' L.length cB',L.length,nats bl,1⟩) (by simp)) h0;subst hq;exact⟨sb,cS',nb,cN',fb,cF',bb,cB',h6,⟨h1,h2,n1,n2,f1,f2,b1,b2⟩,fun i hi hne=>h3 i hi hne,fun i hi=>na.nat i (by omega),fun i hi=>fa.nat i (by omega),fun i hi=>ba.nat i (by omega),na.lt⟩
end
theorem paccepts_any (Bd:Nat)(w:World)(o k:Nat)(pv:Value)(ds:List DfaV)(L:List (List Nat))(nxl fr bl:List Nat)(sb sc nb nc fb fc bb bc s i:Nat)(h:ProdV w o k pv L nxl fr bl sb sc nb nc fb fc bb bc)(hd:DsIn Bd w pv ds)(hok:OkT ds k)(hs:s<L.length)(hi:i<ds.length)(hin:InT ds (L.getD s []))(hl:ds.length<=400)(hL:L.length<=4000):
  Calls Try.prog 69 #[.pointer (some ⟨o,0,none⟩),.int .i64 (s:Int),.int .i64 (i:Int)] w fun e w'=>e=.returned (.bool (accT ds (L.getD s []) i))/\w.grownBy w' none:=by
 obtain⟨b,off,cap,rfl,h9,h7,hd⟩:=hd.head (by omega);obtain⟨n,gb,go,gc,nb2,no2,nc2,RB,RO,RC,hv,h5,c1,c2,c3,c4,h2⟩:=hd.dfa hok hi;obtain⟨x0,x1,x2,x3,x4,x5⟩:=h.cells;have h4:L.getD s []≠[]:=fun e=>by have:=hin.1;rw[e]at this;simp at this;omega
 obtain⟨g,ro,rc,r1,r2,r3,r4⟩:=h.row s hs h4;have h1:=h.caps;rw[hin.1]at r1 r2 r4;have r5:=r4 i hi;have hq:=hin.2 i hi;rw[hv.hn]at hq;obtain⟨q,h0⟩:∃ q,q=(L.getD s []).getD i 0:=⟨_,rfl⟩;have c5:=h2.fin (q:=q) (by rw[h0];exact hq);have h6:=h2.fcap;have hA:accT ds (L.getD s []) i=(ds.getD i dN).final.getD q false:=by rw[accT,h0]
 rw[hA];rw[<- h0]at r5 hq;obtain⟨np,h3⟩:∃ n,n=ds.length:=⟨_,rfl⟩;obtain⟨m,hm⟩:∃ m,m=L.length:=⟨_,rfl⟩;obtain⟨bo,h8⟩:∃ x,x=(ds.getD i dN).final.getD q false:=⟨_,rfl⟩;rw[<- h3]at x1 r1 r2 hi h9 hl;rw[<- hm]at x2 x4 x5 hs hL h1;rw[<- h8]at c5 ⊢;have k1:cap<=9223372036854775807:=by unfold maxLen at h7;omega
 have k2:sc<=9223372036854775807:=by have:=h1.2.1;unfold maxLen at this;omega
 have k3:rc<=9223372036854775807:=by unfold maxLen at r3;omega
 have k4:gc<=9223372036854775807:=by have:=h6.2;unfold maxLen at this;omega
 have H0:(s:Int)<m:=by omega
 have H2:(i:Int)<np:=by omega
 have H1:(q:Int)<n:=by omega
 clear h hd hv h2 hA h0 h3 hm h8 r4 hin h4 x0 x3 x4 x5 c1 c2 c4 h1 h6 h7 r3 hok;go_enter Try.func69,Try.ntmps69;go_upto_region 1 with fail
 go_quiet (fail)
 go_wp2;go_ret
 first|exact⟨rfl,zN _ _ _⟩|exact⟨rfl,zO _ _⟩
structure PrV (w:World)(v pv:Value)(L T:List (List Nat))(sb sc:Nat)(nv:Value):Prop where
 val:v=.agg #[pv,.slice (some ⟨sb,0,none⟩) L.length sc,nv]
 cap:L.length<=sc/\sc<=maxLen
 row:∀ i,i<L.length->L.getD i []≠[]->LRow w sb i (L.getD i [])
theorem PrV.grow {w w':World}{v pv nv:Value}{L T:List (List Nat)}{sb sc:Nat}(h:PrV w v pv L T sb sc nv)(hg:w.grownBy w' none):PrV w' v pv L T sb sc nv:=⟨h.val,h.cap,fun i hi hn=>(h.row i hi hn).grow hg⟩
theorem eX.view {B:Nat}{w:World}{v pv:Value}{L T:List (List Nat)}(h:eX B w v pv L T)(h0:0<L.length):∃ sb sc nv,PrV w v pv L T sb sc nv:=by
 obtain⟨sS,sN,cS,cN,hs,hn,rfl,ho,_,hr,_⟩:=h;obtain⟨sb,rfl,h1,h2,ha⟩:=yW ho h0;refine⟨sb,cS,_,rfl,⟨h1,h2⟩,fun i hi hne=>?_⟩;have h4:i<hs.length:=by have:=hr.1;omega
 have h7:=hr.2 i h4 hi;have h6:L.getD i []=L[i]:=zG hi;rw[h6];have h3:0<(nats L[i]).length:=by rw[zT,<- h6];exact List.length_pos_iff.2 hne
 obtain⟨g,off,cap,e,H0,h5,h9,h8⟩:=h7.row.some_ h3;rw[zT]at e h5;exact⟨g,off,cap,by rw[ha.cell i h4,e],h5,h9,fun j hj=>h8.nat j hj⟩
theorem rfinals_any (Bd:Nat)(w:World)(k0:Nat)(v pv nv:Value)(ds:List DfaV)(L T:List (List Nat))(sb sc i:Nat)(hB:Bd<=w.heap.size)(h:PrV w v pv L T sb sc nv)(hd:DsIn Bd w pv ds)(hok:OkT ds k0)(hi:i<L.length)(hin:InT ds (L.getD i []))(hl:ds.length<=400)(hl0:0<ds.length)(hL:L.length<=4000):
  Calls Try.prog 53 #[v,.int .i64 (i:Int)] w fun e w'=>∃ sa sc,e=.returned (.slice sa ds.length sc)/\w'.ownsRow w.heap.size 4 1 (.slice sa ds.length sc) ds.length (bls (mtsT ds ds.length (L.getD i [])))/\w.grownBy w' none:=by
 obtain⟨rfl,h4,h1⟩:=h;obtain⟨b,off,cap,rfl,d6,c0,b9⟩:=hd.head hl0;obtain⟨g,ro,rc,H8,b5,b4,H7⟩:=h1 i hi (fun e=>by have:=hin.1;rw[e]at this;simp at this;omega);rw[hin.1]at H8 b5 H7;obtain⟨np,a1⟩:∃ n,n=ds.length:=⟨_,rfl⟩;obtain⟨m,hm⟩:∃ m,m=L.length:=⟨_,rfl⟩;have H2:=Kh a1;have f0:=Kh b9;have e6:=Kh hok;have e7:=Kh hin;have c9:=Kh H7;have a7:=Kh H8;rw[<- a1]at d6 hl hl0 a7 b5 ⊢;rw[<- hm]at h4 hi hL ⊢;have k1:cap<=9223372036854775807:=by unfold maxLen at c0;omega
 have k2:sc<=9223372036854775807:=by have:=h4.2;unfold maxLen at this;omega
 have k3:rc<=9223372036854775807:=by unfold maxLen at b4;omega
 obtain⟨wA,a5⟩:∃ wA,wA=w.alloc (.cells #[.slice (some ⟨b,off,none⟩) np cap,.slice (some ⟨sb,0,none⟩) m sc,nv] 88):=⟨_,rfl⟩;have a3:=Ga w (.cells #[.slice (some ⟨b,off,none⟩) np cap,.slice (some ⟨sb,0,none⟩) m sc,nv] 88) none;have h8:=heap_alloc_new w (.cells #[.slice (some ⟨b,off,none⟩) np cap,.slice (some ⟨sb,0,none⟩) m sc,nv] 88);obtain⟨P,hP⟩:∃ P,P=w.heap.size:=⟨_,rfl⟩;rw[<- a5]at a3 h8;rw[<- hP]at h8;obtain⟨p0,p1,p2⟩:=zM h8;have d8:=Kh a5;have e3:=Kh hP;have b0:=Kh a3;have d2:=Kh h8;clear a1 hm b9 hok hin H7 H8 a5 a3 h8 hP h1 h4 c0 b4 hd;go_enter Try.func53,Try.ntmps53;go_upto_region 1 with fail;rw[<- d8.out,<- e3.out];go_wp2;clear p0 p1 p2
 go_loopg [5,6,11] np (fun gh v5 v6 v11 wr=>∃ (k:Nat) (sa:Option Addr) (sd:Nat),gh+k=np/\v11=.int .i64 k/\v5=.slice sa k sd/\wr.ownsRow wA.heap.size 4 1 (.slice sa k sd) k (bls (mtsT ds k (L.getD i [])))/\wA.grownBy wr none)
 case atStart=>exact⟨0,none,0,rfl,rfl,rfl,World.ownsRow_nil _ _ _ _,zL _ _⟩
 case round =>
  obtain⟨k,sa,sd,b7,rfl,rfl,h0,hg⟩:=hrel;have a9:=Kh b7;have HO:=Kh h0;have HG:=Kh hg;have H3:=Kh (zA b0.out hg (by simp));clear b7 h0;by_cases hk:k<np
  ·have d5:(k:Int)<np:=by omega
   obtain⟨n,gb,go,gc,nb2,no2,nc2,RB,RO,RC,hv,h5,c1,c2,c3,c4,H1⟩:=(f0.out.kept H3.out (by simp)).dfa e6.out (by rw[<- H2.out];exact hk);have hq:=e7.out.2 k (by rw[<- H2.out];exact hk);rw[hv.hn]at hq;have r5:=xE (c9.out k (by rw[<- H2.out];exact hk)) H3.out;have r1:=xE a7.out H3.out;obtain⟨q,H9⟩:∃ q,q=(L.getD i []).getD k 0:=⟨_,rfl⟩;rw[<- H9]at hq r5;have c5:=H1.fin (q:=q) hq;have b8:=H1.fcap
   have c8:Hid (bls (mtsT ds (k+1) (L.getD i []))=bls (mtsT ds k (L.getD i []))++[.bool ((ds.getD k dN).final.getD q false)]):=Kh (by
    rw[mtsT,List.range_succ,List.map_append,List.map_singleton,accT,<- H9];simp[bls,mtsT])
   obtain⟨bo,c6⟩:∃ x,x=(ds.getD k dN).final.getD q false:=⟨_,rfl⟩;rw[<- c6]at c5 c8;obtain⟨x0,b2⟩:∃ x:Int,x=((st0 (ds.getD k dN):Nat):Int):=⟨_,rfl⟩;rw[<- b2]at c2;have k4:gc<=9223372036854775807:=by have:=b8.2;unfold maxLen at this;omega
   have f5:(q:Int)<n:=(by omega);have f6:(i:Int)<m:=(by omega);have H0:=heap_alloc_new wr (.cells #[.int .i64 (k0:Int),.int .i64 x0,.slice (some ⟨gb,go,none⟩) n gc,.slice (some ⟨nb2,no2,none⟩) n nc2] 42);have h3:=Ga wr (.cells #[.int .i64 (k0:Int),.int .i64 x0,.slice (some ⟨gb,go,none⟩) n gc,.slice (some ⟨nb2,no2,none⟩) n nc2] 42) none;obtain⟨wR,H5⟩:∃ wR,wR=wr.alloc (.cells #[.int .i64 (k0:Int),.int .i64 x0,.slice (some ⟨gb,go,none⟩) n gc,.slice (some ⟨nb2,no2,none⟩) n nc2] 42):=⟨_,rfl⟩;obtain⟨R,hR⟩:∃ R,R=wr.heap.size:=⟨_,rfl⟩;rw[<- H5]at H0 h3;rw[<- hR]at H0;have d7:=Kh H5;have e0:=Kh hR;have f2:=Kh H0;have d0:=Kh (zA HG.out h3 (by simp));have e4:=Kh (zP HO.out h3);have f3:=Kh (zB d2.out d0.out (by simp));have e9:Hid (gb<w.heap.size):=Kh (Nat.lt_of_lt_of_le H1.flt hB);have f1:=Kh (xE c5 h3);have e1:=Kh (xE r5 h3);have a6:=Kh (xE r1 h3);clear hv H1 H9 c6 b2 b8 H5 hR H0 h3 r5 r1 c5 hg;go_upto_region 5 with fail;rw[<- d7.out,<- e0.out];clear c1 c2 c3 c4;obtain⟨w5,H6⟩:∃ w5,w5=wR.drew:=⟨_,rfl⟩;have h2:wR.grownBy w5 none:=(by rw[H6];exact zO wR none);have d9:=Kh H6;have d1:=Kh (zA d0.out h2 (by simp));have a8:=Kh (zP e4.out h2)
   have b1:Hid (∀ (W:World) (row:Option Nat),w5.grownBy W row->(∀ j,row=some j->(Value.slice sa k sd).ownBlock=some j)->W.cell? ⟨R,2,none⟩=some (.slice (some ⟨gb,go,none⟩) n gc)/\W.cell? ⟨P,1,none⟩=some (.slice (some ⟨sb,0,none⟩) m sc)/\W.cell? ⟨sb,i,none⟩=some (.slice (some ⟨g,ro,none⟩) np rc)/\W.cell? ⟨g,ro+k,none⟩=some (.int .i64 (q:Int))/\W.cell? ⟨gb,go+q,none⟩=some (.bool bo)):=Kh (fun W row hW h1=>by
    have b6:∀ (p:Addr) (u:Value),w5.cell? p=some u->(∀ j,(Value.slice sa k sd).ownBlock=some j->p.block≠j)->W.cell? p=some u:=fun p u hp hj=>by
     refine(World.cell?_of_block (hW.block p.block (World.block_lt_of_cell? w5 p hp) (fun e=>?_))).trans hp;exact hj p.block (h1 _ e.symm) rfl
    have hold:∀ (p:Addr) (u:Value),w5.cell? p=some u->p.block<wA.heap.size->W.cell? p=some u:=fun p u hp hlt=>b6 p u hp (fun j hj e=>by have:=(a8.out.lt j hj).1;omega);have hz:w.heap.size<=wA.heap.size:=b0.out.size;have h7:=zB f2.out h2 (by simp);have a4:=zB f3.out h2 (by simp);have e2:=zH h7 2 (by simp);simp only[List.getElem_toArray,List.getElem_cons_zero,List.getElem_cons_succ]at e2;refine⟨b6 _ _ e2 (fun j hj e=>?_),hold _ _ (zM a4).2.1 ?_,?_,?_,?_⟩
    ·exact zQ a8.out h7 (by decide) (by rw[hj];exact congrArg some e.symm)
    ·exact zK d2.out
    ·exact hold _ _ (xE a6.out h2) (Nat.lt_of_lt_of_le (World.block_lt_of_cell? w _ a7.out) hz)
    ·exact hold _ _ (xE e1.out h2) (Nat.lt_of_lt_of_le (World.block_lt_of_cell? w _ (c9.out k (by rw[<- H2.out];exact hk))) hz)
    ·exact hold _ _ (xE f1.out h2) (Nat.lt_of_lt_of_le e9.out hz))
   have C5:=Kh (b1.out w5 none (zL _ _) (by simp));have f4:=d1.out.size;clear h2 H6;refine wp_region_noPanic ?_;refine wQ (G:=tZ 100 (fun W=>W.cell? ⟨R,2,none⟩=some (.slice (some ⟨gb,go,none⟩) n gc)/\W.cell? ⟨P,1,none⟩=some (.slice (some ⟨sb,0,none⟩) m sc)/\W.cell? ⟨sb,i,none⟩=some (.slice (some ⟨g,ro,none⟩) np rc)/\W.cell? ⟨g,ro+k,none⟩=some (.int .i64 (q:Int))/\W.cell? ⟨gb,go+q,none⟩=some (.bool bo)) (fun _=>True)) (by kernel_rfl) ?_;rw[<- d9.out];refine zW 0 ⟨C5.out,fun _=>trivial⟩ ?_;refine zW 1 ⟨C5.out,fun _=>trivial⟩ ?_;refine zW 2 ⟨C5.out,fun _=>trivial⟩ ?_;refine zW 3 ⟨C5.out,fun _=>trivial⟩ ?_;refine zW 4 ⟨C5.out,fun _=>trivial⟩ ?_;refine zW 5 ⟨C5.out,fun _=>trivial⟩ ?_;refine zW 6 ⟨C5.out,fun _=>trivial⟩ ?_;refine zW 7 ⟨C5.out,fun _=>trivial⟩ ?_;refine zW 8 ⟨C5.out,fun _=>trivial⟩ ?_;refine zW 9 ⟨C5.out,fun _=>trivial⟩ ?_;refine zW 10 ⟨C5.out,fun _=>trivial⟩ ?_;refine zW 11 ⟨C5.out,fun _=>trivial⟩ ?_;refine zW 12 ⟨C5.out,fun _=>trivial⟩ ?_;refine oneG (i:=13) (by kernel_rfl) rfl (fun K hK=>?_);go_simp;have h9:=heap_alloc_new w5 (.cells #[Value.bool bo] 4);have h6:=Ga w5 (.cells #[Value.bool bo] 4) none;have H4:=zJ w5 (.cells #[Value.bool bo] 4);obtain⟨R6,c7⟩:∃ R,R=w5.heap.size:=⟨_,rfl⟩;obtain⟨w6,b3⟩:∃ w6,w6=w5.alloc (.cells #[Value.bool bo] 4):=⟨_,rfl⟩;rw[<- b3]at h9 h6 H4 ⊢;rw[<- c7]at h9 ⊢;refine hK.out _ _ ⟨b1.out w6 none h6 (by simp),fun _=>trivial⟩ ?_;clear hK K
   try simp only[Act.put,sPa,sPb,sPc]
   have a0:=zP a8.out h6;refine oneG (i:=14) (by kernel_rfl) rfl (fun K hK=>?_);refine uX rfl (.tmp 16) (.tmp 29) 39 rfl xW.toN wA.heap.size (.slice sa k sd) k _ rfl a0 [.bool bo] R6 rfl (0,0) rfl h9 ?z1 ?z2 ?z3 ?z4 ?_
   case z1=>intro v hv;simp only[List.mem_cons,List.not_mem_nil,or_false]at hv;subst hv;rfl
   case z2=>unfold maxLen;omega
   case z3=>show (k+1) * 1<=140737488355328;omega
   case z4=>rw[H4];omega
   intro sN cN wM h0 a2 d3;have e5:Hid (wM.ownsRow wA.heap.size 4 1 (.slice sN (k+1) cN) (k+1) (bls (mtsT ds (k+1) (L.getD i [])))):=Kh (by rw[c8.out];exact h0);have e8:=Kh (zA (zA d1.out h6 (by simp)) a2 (fun j e=>(a0.lt j e).1));have CM:=b1.out wM _ (tW h6 a2 (.inl rfl) (.inr (.inl rfl))) (fun j e=>e);refine hK.out _ _ ⟨CM,fun _=>trivial⟩ ?_;clear hK K h0 a2 d3 a0 h9 h6 H4 b3 c7 C5
   try simp only[Act.put,sPa,sPb,sPc]
   refine oneG (i:=15) (by kernel_rfl) rfl (fun K hK=>?_);go_simp;refine hK.out _ _ ⟨CM,fun _=>trivial⟩ ?_;clear hK K
   try simp only[Act.put,sPa,sPb,sPc]
   refine rH (by kernel_rfl) ?_ _;refine NoPanic.normal ?_;go_wp2;go_roundg (np - (k+1))
   case measure=>have:=a9.out;omega
   case rel=>exact⟨k+1,sN,cN,by have:=a9.out;omega,by go_num,rfl,e5.out,e8.out⟩
  ·have d4:k=np:=by have:=a9.out;omega
   have d5:¬ (k:Int)<np:=(by omega);subst d4;go_wp2;go_ret;refine⟨sa,sd,rfl,?_,H3.out⟩;exact xM HO.out b0.out.size
def pQ (l:List Nat)(np j:Nat):List Nat:=l.take j++List.replicate (np - j) 0
theorem qT {l:List Nat}{np j:Nat}(h:l.length=np)(hj:j<=np):(pQ l np j).length=np:=by simp[pQ];omega
theorem jB {l:List Nat}{np j:Nat}(h:l.length=np)(hj:j<np):(pQ l np j).set j (l.getD j 0)=pQ l np (j+1):=by
 have hl:(l.take j).length=j:=by rw[List.length_take];omega
 obtain⟨m,hm⟩:∃ m,np - j=m+1:=⟨np - j - 1,by omega⟩;rw[pQ,List.set_append_right _ _ (by omega),hl,Nat.sub_self,hm,List.replicate_succ,List.set_cons_zero,pQ,zR (d:=0) (by omega),List.append_assoc,show np - (j+1)=m by omega];rfl
theorem fW {l:List Nat}{np j:Nat}(h:l.length=np)(hj:j=np):pQ l np j=l:=by
 subst hj;rw[pQ,Nat.sub_self,List.replicate_zero,List.append_nil,List.take_of_length_le (by omega)]
theorem jU (l:List Nat)(np:Nat):pQ l np 0=List.replicate np 0:=by simp[pQ]
def NxOk (ds:List DfaV)(k:Nat)(L:List (List Nat))(nxl:List Nat)(s a:Nat):Prop :=
 nxl.length=s * k+a/\∀ i b,b<k->(i<s\/(i=s/\b<a))->nxl.getD (i * k+b) 0=L.idxOf (nxtT ds (L.getD i []) b)/\nxtT ds (L.getD i []) b∈L
theorem NxOk.more {ds:List DfaV}{k s a:Nat}{L:List (List Nat)}{nxl:List Nat}(h:NxOk ds k L nxl s a)(hs:s<L.length)(x:List Nat):NxOk ds k (L++[x]) nxl s a:=by
 refine⟨h.1,fun i b hb hi=>?_⟩;have h0:i<L.length:=by rcases hi with hi|⟨hi,_⟩<;>omega
 obtain⟨h1,h2⟩:=h.2 i b hb hi;rw[xN h0];exact⟨by rw[h1,List.idxOf_append,if_pos h2],List.mem_append_left _ h2⟩
theorem NxOk.push {ds:List DfaV}{k s a:Nat}{L:List (List Nat)}{nxl:List Nat}(h:NxOk ds k L nxl s a)(ha:a<k)(hm:nxtT ds (L.getD s []) a∈L):NxOk ds k L (nxl++[L.idxOf (nxtT ds (L.getD s []) a)]) s (a+1):=by
 refine⟨by rw[List.length_append,h.1];rfl,fun i b hb hi=>?_⟩;by_cases e:i=s/\b=a
 ·obtain⟨rfl,rfl⟩:=e
  refine⟨?_,hm⟩;rw[List.getD_eq_getElem?_getD,List.getElem?_append_right (by rw[h.1];exact Nat.le_refl _),h.1,Nat.sub_self];rfl
 ·have h0:i<s\/(i=s/\b<a):=by omega
  obtain⟨h1,h2⟩:=h.2 i b hb h0
  have h3:i * k+b<nxl.length:=by
   rw[h.1];rcases h0 with h0|⟨rfl,hb2⟩
   ·have:i * k+k<=s * k:=by rw[<- Nat.succ_mul];exact Nat.mul_le_mul_right k h0
    omega
   ·omega
  rw[xN h3];exact⟨h1,h2⟩
theorem NxOk.next {ds:List DfaV}{k s:Nat}{L:List (List Nat)}{nxl:List Nat}(h:NxOk ds k L nxl s k):NxOk ds k L nxl (s+1) 0 :=
 ⟨by rw[h.1,Nat.succ_mul];rfl,fun i b hb hi=>h.2 i b hb (by omega)⟩
theorem NxOk.pushNew {ds:List DfaV}{k s a:Nat}{L:List (List Nat)}{nxl:List Nat}(h:NxOk ds k L nxl s a)(hs:s<L.length)(ha:a<k)(hz:nxtT ds (L.getD s []) a ∉ L):NxOk ds k (L++[nxtT ds (L.getD s []) a]) (nxl++[L.length]) s (a+1):=by
 have e1:(L++[nxtT ds (L.getD s []) a]).getD s []=L.getD s []:=xN hs;have h1:=(h.more hs (nxtT ds (L.getD s []) a)).push ha (by rw[e1];simp);rw[e1]at h1;have e2:(L++[nxtT ds (L.getD s []) a]).idxOf (nxtT ds (L.getD s []) a)=L.length:=by rw[List.idxOf_append,if_neg hz];simp
 rw[e2]at h1;exact h1
def dA (ds:List DfaV)(k:Nat)(L:List (List Nat))(fr bl:List Nat):Prop :=
 fr.length=L.length/\bl.length=L.length/\∀ i,0<i->i<L.length->fr.getD i 0<i/\bl.getD i 0<k/\nxtT ds (L.getD (fr.getD i 0) []) (bl.getD i 0)=L.getD i []
theorem dA.push {ds:List DfaV}{k s a:Nat}{L:List (List Nat)}{fr bl:List Nat}(h:dA ds k L fr bl)(hs:s<L.length)(ha:a<k):dA ds k (L++[nxtT ds (L.getD s []) a]) (fr++[s]) (bl++[a]):=by
 refine⟨by simp[h.1],by simp[h.2.1],fun i h0 hi=>?_⟩;rw[List.length_append,List.length_singleton]at hi;by_cases e:i=L.length
 ·subst e
  have e1:(fr++[s]).getD L.length 0=s:=by rw[<- h.1,List.getD_eq_getElem?_getD];simp
  have e2:(bl++[a]).getD L.length 0=a:=by rw[<- h.2.1,List.getD_eq_getElem?_getD];simp
  rw[e1,e2,xN hs];exact⟨hs,ha,by rw[List.getD_eq_getElem?_getD];simp⟩
 ·have h4:i<L.length:=by omega
  obtain⟨h1,h2,h3⟩:=h.2.2 i h0 h4;rw[xN (by rw[h.1];exact h4),xN (by rw[h.2.1];exact h4),xN (by omega),xN h4];exact⟨h1,h2,h3⟩
theorem nats_setM (l:List Nat)(i x:Nat):(nats l).set i (.int .i64 (x:Int))=nats (l.set i x):=by simp[nats]
theorem qGQ {ds:List DfaV}{k s a:Nat}{L:List (List Nat)}(h:BfsI (nxtT ds) k (st0T ds) L s a)(ho:OkT ds k)(hs:s<L.length):InT ds (L.getD s []):=by
 obtain⟨u,hu,e⟩:=h.re (L.getD s []) (by rw[zG hs];exact List.getElem_mem hs);rw[<- e];exact ho.walk u ho.in0 hu
theorem qCV {w:World}{p e:Nat}{x0 x1 x2 x3:Value}(h:w.heap[p]?=some (.cells #[x0,x1,x2,x3] e (0,0))):w.cell? ⟨p,0,none⟩=some x0/\w.cell? ⟨p,1,none⟩=some x1/\w.cell? ⟨p,2,none⟩=some x2/\w.cell? ⟨p,3,none⟩=some x3:=by
 have c0:=zH h 0 (by simp);have c1:=zH h 1 (by simp);have c2:=zH h 2 (by simp);have c3:=zH h 3 (by simp);simp only[List.getElem_toArray,List.getElem_cons_zero,List.getElem_cons_succ]at c0 c1 c2 c3;exact⟨c0,c1,c2,c3⟩
def qIA (w:World)(pv:Value)(ds:List DfaV)(k:Nat)(e:Ending)(w':World):Prop :=
 (Over ds k/\e=.returned (.tuple #[.pointer none,.bool false])/\w.grownBy w' none)\/∃ o mb L nxl fr bl,e=.returned (.tuple #[.pointer (some ⟨o,0,none⟩),.bool true])/\ProdS w w.heap.size o mb k ds.length pv L nxl fr bl L.length (L.length * k) [] w'/\BfsD (nxtT ds) k (st0T ds) L/\L.length<=4000/\NxOk ds k L nxl L.length 0/\dA ds k L fr bl/\w.grownBy w' none
theorem multiply_any (Bd:Nat)(w:World)(v:Value)(ds:List DfaV)(k:Nat)(hB:Bd<=w.heap.size)(h:DsIn Bd w v ds)(hok:OkT ds k)(hk1:1<=k)(hk6:k<=6)(hl:ds.length<=400):Calls Try.prog 57 #[v,.int .i64 (k:Int)] w (qIA w v ds k):=by
 obtain⟨da,dc,rfl⟩:=h.shape;obtain⟨np,j8⟩:∃ n,n=ds.length:=⟨_,rfl⟩;have h6:=Kh j8;have H:=Kh h;have d1:=Kh hok;have l9:=Kh (key_kb (n:=np) (by omega));have i3:ds.length<=400:=hl;rw[<- j8]at hl H ⊢;have t4:=@run_makeMap Try.prog;clear h hok j8 i3;go_enter Try.func57,Try.ntmps57;go_upto_region 2 with (first|(at_make;refine lO rfl _ _ _ rfl yU rfl .i64 .i64 _ _ np rfl rfl rfl rfl ?b1 ?b2 ?_;(case b1=>omega);(case b2=>(unfold maxLen;omega));intro w1 l0 o3 k3)|fail)
 obtain⟨G,hG⟩:∃ b,b=w.heap.size:=⟨_,rfl⟩;rw[<- hG]at l0 ⊢;have r7:w.heap.size<=G:=by omega
 have x6:=Kh hG;have q6:=Kh l0;have q5:=Kh o3;clear l0 o3 hG k3;have e5:Hid ((st0T ds).length=np):=Kh (by rw[sJ,h6.out]);go_wp2
 go_loopg [7,8,24] np (fun gh a7 a8 i wr=>∃ j:Nat,gh+j=np/\i=.int .i64 j/\Arr wr G 3 (nats (pQ (st0T ds) np j))/\w.grownBy wr none)
 case atStart=>exact⟨0,rfl,rfl,by rw[jU,xI];exact q6.out,q5.out⟩
 case round =>
  clear q6 q5;obtain⟨j,g1,rfl,ha,hg⟩:=hrel;have e6:=Kh g1;have t0:=Kh ha;have HG:=Kh hg;clear g1;by_cases hj:j<np
  ·have r0:(j:Int)<np:=by omega
   obtain⟨b,off,cap,e,k7,k6,hd⟩:=(H.out.kept hg (by simp)).head (by rw[<- h6.out];omega);rw[<- h6.out]at e k7;simp only[Value.slice.injEq,true_and]at e;obtain⟨rfl,rfl⟩:=e;have c5:dc<=9223372036854775807:=by unfold maxLen at k6;omega
   obtain⟨n,fb,fo,fc,nb,no,nc,RB,RO,RC,hv,h5,c1,c2,c3,c4,i4⟩:=hd.dfa d1.out (by rw[<- h6.out];exact hj);have h3:=jB e5.out hj;rw[iX (by rw[<- h6.out];exact hj)]at h3;have j3:st0 (ds.getD j dN)<512:=(by have:=oT hv;omega);obtain⟨x,hx⟩:∃ x,x=st0 (ds.getD j dN):=⟨_,rfl⟩;rw[<- hx]at c2 h3 j3;have d0:=Kh h3;have fG:=ha.frozen j;have cG:=Arr.nat ha j (by rw[qT e5.out (by omega)];exact hj);have r6:=ha.lt;clear hd i4 hv hx h3 ha;go_wp2;go_roundg (np - (j+1))
   case measure=>have:=e6.out;omega
   case rel =>
    have r2:=zC wr ⟨G,j,none⟩ (.int .i64 (x:Int));have H6:=Ga (wr.setCell ⟨G,j,none⟩ (.int .i64 (x:Int))) (.cells #[.int .i64 (k:Int),.int .i64 (x:Int),.slice (some ⟨fb,fo,none⟩) n fc,.slice (some ⟨nb,no,none⟩) n nc] 42) none;refine⟨j+1,by have:=e6.out;omega,by go_num,?_,zA (zA HG.out r2 (fun y e=>by have e:G=y:=Oj e;omega)) H6 (by simp)⟩;rw[<- d0.out];exact(t0.out.nat_set j (by rw[qT e5.out (by omega)];exact hj) x).kept H6 (by simp)
  ·have n8:j=np:=by have:=e6.out;omega
   have r0:¬ (j:Int)<np:=(by omega);rw[fW e5.out n8]at ha;have o5:=Kh ha;obtain⟨wo,rfl⟩:∃ wo:World,wo=wr:=⟨_,rfl⟩;obtain⟨w5,a3⟩:∃ w5,w5=(((wo.alloc (.cells #[.slice (some ⟨G,0,none⟩) np np] 34)).alloc (.cells #[.int .i64 0] 3)).alloc (.cells #[.int .i64 0] 3)).alloc (.cells #[.int .i64 (k:Int),.slice da np dc,.slice (some ⟨wo.heap.size,0,none⟩) 1 1,.slice none 0 0,.slice (some ⟨wo.heap.size+1,0,none⟩) 1 1,.slice (some ⟨wo.heap.size+1+1,0,none⟩) 1 1] 111):=⟨_,rfl⟩;obtain⟨k8,n1,o1⟩:=prod_start (k:=k) (pv:=.slice da np dc) hg ha r7 e5.out (by omega) a3;obtain⟨s2,n0⟩:∃ s,s=wo.heap.size:=⟨_,rfl⟩;obtain⟨s3,m9⟩:∃ s,s=wo.heap.size+1:=⟨_,rfl⟩;obtain⟨s4,m8⟩:∃ s,s=wo.heap.size+1+1:=⟨_,rfl⟩;obtain⟨o,ho⟩:∃ s,s=wo.heap.size+1+1+1:=⟨_,rfl⟩;have o7:=Kh a3;have HO:=Kh ho;rw[<- ho,<- m8,<- m9,<- n0]at k8;have j2:=Kh k8;have l5:=Kh n1;have m2:=Kh o1;clear n8 hg ha a3 ho n0 m9 m8 k8 n1 o1;go_upto_region 8 with fail;rw[<- o7.out,<- HO.out];have a6:=Ga w5 (.map #[] 0) none;have k0:=MapK.made 9 (qD np) (fun l=>.string (txtT (kb l))) w5;obtain⟨w6,g8⟩:∃ w6,w6=w5.alloc (.map #[] 0):=⟨_,rfl⟩;obtain⟨mb,a0⟩:∃ b,b=w5.heap.size:=⟨_,rfl⟩;rw[<- g8,<- a0]at k0;rw[<- g8]at a6;have o6:=Kh g8;have d4:=Kh a0;have p9:=Kh a6;have p8:=Kh k0
   have o9:Hid (qD np (st0T ds)):=Kh (by
    refine⟨e5.out,fun x hx=>?_⟩;obtain⟨i,hi,rfl⟩:=List.getElem_of_mem hx;have:=d1.out.small d1.out.in0 i (by rw[sJ]at hi;exact hi)
    rwa [zG hi]at this)
   have H8:Hid (Row w5.heap.size w5 (.slice (some ⟨G,0,none⟩) np np) (nats (st0T ds))):=Kh (l5.out.2 0 (by simp) (by simp)).1.row;have H2:Hid (Calls Try.prog 84 #[.slice (some ⟨G,0,none⟩) np np] w6 fun e w'=>e=.returned (.string (txtT (kb (st0T ds))))/\w6.grownBy w' none):=Kh (qEU w5.heap.size w6 _ (st0T ds) np a6.size (H8.out.kept a6 (by simp)) o9.out (by omega));obtain⟨T0,l1⟩:∃ t,t=txtT (kb (st0T ds)):=⟨_,rfl⟩;rw[<- l1]at H2;have s5:=Kh l1;clear a6 k0 g8 a0 l1;go_wp2_with fail;rw[<- d4.out,<- o6.out];refine H2.out.mono ?_;rintro e w7 ⟨rfl,k4⟩;have l8:=Kh (p8.out.kept k4 (by simp));have g7:=Kh (zA p9.out k4 (by simp));clear k4 H2;obtain⟨w8,r8,f6,d9,g2⟩:=l8.out.upd l9.out (z:=st0T ds) (y:=0) (by unfold maxLen;omega) o9.out (by omega);have f0:Sem.run Try.prog (Instr.mapUpdate 129 (.map (some mb)) (.string T0) (.int .i64 0)) w7=.ok r8 w8:=by rw[s5.out];exact f6
   clear f6;go_wp2;clear f0
   have f8:(fun q=>if q=st0T ds then some 0 else (none:Option Nat))=numE [st0T ds]:=by
    funext q;unfold numE;by_cases e:q=st0T ds
    ·rw[if_pos e,if_pos (by simp[e]),e];simp
    ·rw[if_neg e,if_neg (by simpa using e)]
   have f9:MapK 9 (qD np) (fun l=>.string (txtT (kb l))) w8 mb 1 1 (numE [st0T ds]):=by rw[<- f8];exact d9
   have c6:=j2.out.grow g7.out;have j9:w5.heap.size<=mb:=by rw[d4.out];exact Nat.le_refl _
   have j7:o<w5.heap.size:=zK j2.out.box;have l2:=o5.out.lt;have q7:=j2.out.mem.lt G rfl;have a1:=c6.far g2 (fun r hr=>yD (es:=#[]) (clock:=0) (c6.mem.own r hr) l8.out.obj) (fun e=>by have e:mb=G:=e;omega) (fun e=>by omega) (by have:=m2.out.size;omega);have p7:Hid (ProdS w w.heap.size o mb k np (.slice da np dc) [st0T ds] [] [0] [0] 1 0 [] w8):=Kh ⟨_,_,_,_,_,_,_,_,_,_,1,1,a1.rebase,l5.out.kept a1.kept a1.wk,f9,fun e=>by have e:mb=G:=e;omega,by have:=m2.out.size;omega,by omega,⟨rfl,rfl,rfl,rfl⟩,rfl⟩;clear d9 f9 g2 f8 c6 a1 j2 l5 l8 g7 H8 p8 p9 o6 d4 j9 j7 l2 q7 o7 HO m2 o5
   go_loopg [11,12,13,14,15,16,17,18,57,65] 4000 (fun gh v11 a12 a13 a14 a15 a16 a17 a18 a57 a65 wr=>∃ (s:Nat) (L:List (List Nat)) (nxl fr bl:List Nat),gh+s=4000/\v11=.int .i64 s/\ProdS w w.heap.size o mb k np (.slice da np dc) L nxl fr bl L.length (s * k) [] wr/\BfsI (nxtT ds) k (st0T ds) L s 0/\L.length<=4000/\NxOk ds k L nxl s 0/\dA ds k L fr bl)
   case atStart=>exact⟨0,[st0T ds],[],[0],[0],rfl,rfl,by rw[Nat.zero_mul];exact p7.out,BfsI.start,by simp,⟨by simp,fun i b hb hi=>by omega⟩,⟨rfl,rfl,fun i h0 hi=>by simp at hi;omega⟩⟩
   case round =>
    clear p7;obtain⟨s,L,nxl,fr,bl,g1,rfl,hp,a9,b0,d8,e0⟩:=hrel;have e6:=Kh g1;have HP:=Kh hp;have b4:=Kh a9;have d2:=Kh d8;have d7:=Kh e0;have a4:=a9.le;obtain⟨m,hm⟩:∃ m,m=L.length:=⟨_,rfl⟩;rw[<- hm]at a4 b0 HP;have h8:=Kh hm;obtain⟨sS,cS,sN,cN,sF,cF,sB,cB,h7,_⟩:=HP.out.cells;obtain⟨x0,x1,x2,x3,x4,x5⟩:=jY h7;clear g1 hp a9 d8 e0 hm h7;by_cases hs:s<m
    case neg =>
     have j4:¬ (s:Int)<m:=(by omega);have q8:s=m:=by omega
     have HD:Hid (BfsD (nxtT ds) k (st0T ds) L):=Kh (b4.out.done (by rw[<- h8.out];omega));subst q8;go_wp2;refine bodyPost_ret (v:=.tuple #[.pointer (some ⟨o,0,none⟩),.bool true]) (by simp[results,Try.results57,go_sem]) rfl ?_;refine .inr ⟨o,mb,L,nxl,fr,bl,rfl,?_,HD.out,by rw[<- h8.out];exact b0,?_,d7.out,HP.out.facts.1⟩
     ·have:=HP.out;rw[h8.out,h6.out]at this;rw[<- h6.out];rw[h6.out];exact this
     ·have:=d2.out;rw[h8.out]at this;exact this
    have j4:(s:Int)<m:=(by omega);have o8:Hid (s<L.length):=Kh (by rw[<- h8.out];exact hs);have p6:Hid (ProdS w w.heap.size o mb k np (.slice da np dc) L nxl fr bl L.length (s * k) [] wr):=Kh (by have:=HP.out;rw[h8.out]at this;exact this);have d5:Hid (L.length<=4000):=Kh (by rw[<- h8.out];exact b0);go_wp2;clear x0 x1 x2 x3 x4 x5 hs j4 a4 b0 HP
    go_loopg [12,13,14,15,16,17,18,57,65] k (fun gh b12 b13 b14 b15 b16 b17 b18 b57 b65 w2=>∃ (a:Nat) (L:List (List Nat)) (nxl fr bl:List Nat),gh+a=k/\b57=.int .i64 a/\ProdS w w.heap.size o mb k np (.slice da np dc) L nxl fr bl L.length (s * k+a) [] w2/\BfsI (nxtT ds) k (st0T ds) L s a/\s<L.length/\L.length<=4000/\NxOk ds k L nxl s a/\dA ds k L fr bl)
    case atStart=>exact⟨0,L,nxl,fr,bl,rfl,rfl,p6.out,b4.out,o8.out,d5.out,d2.out,d7.out⟩
    case round =>
     clear p6 b4 d2 d7 h8 o8 d5;obtain⟨w2,rfl⟩:∃ w2:World,w2=wr:=⟨_,rfl⟩;obtain⟨a,L2,nx2,fr2,bl2,H6,rfl,hp,a9,a4,b0,d8,e0⟩:=hrel;have j1:=Kh H6;have HP:=Kh hp;have b4:=Kh a9;have d2:=Kh d8;have d7:=Kh e0;have b3:=Kh a4;have d5:=Kh b0;by_cases ha:a<k
     case neg =>
      have r4:¬ (a:Int)<k:=(by omega);have o4:a=k:=by omega
      have m4:=Kh o4;clear H6 hp a9 a4 b0 d8 e0 o4;go_wp2;go_roundg (4000 - (s+1))
      case measure=>have:=e6.out;have:=b3.out;have:=d5.out;omega
      case rel =>
       have h9:s<4000:=(by have:=b3.out;have:=d5.out;omega);refine⟨s+1,L2,nx2,fr2,bl2,by have:=e6.out;omega,by(refine congrArg _ ?_;rw[IntWalk.wrap64_in _ (by omega)];omega),?_,?_,d5.out,?_,d7.out⟩
       ·rw[Nat.succ_mul];have:=HP.out;rw[m4.out]at this;exact this
       ·have:=b4.out;rw[m4.out]at this;exact this.next b3.out
       ·have:=d2.out;rw[m4.out]at this;exact this.next
     have r4:(a:Int)<k:=(by omega);have d6:=Kh (qGQ a9 d1.out a4);obtain⟨x,hx⟩:∃ x,x=L2.getD s []:=⟨_,rfl⟩;rw[<- hx]at d6;have HX:=Kh hx;obtain⟨q0,j6⟩:∃ q,q=s * k+a:=⟨_,rfl⟩;rw[<- j6]at HP;have i5:=Kh j6;obtain⟨m,hm⟩:∃ m,m=L2.length:=⟨_,rfl⟩;rw[<- hm]at HP b0 a4;have h8:=Kh hm;clear H6 hp a9 d8 e0 hx j6 hm;go_upto_region 16 with (first|(at_make;refine make1o rfl _ _ _ rfl yU rfl .i64 .i64 _ _ np rfl rfl rfl rfl ?b1 ?b2 ?_;(case b1=>omega);(case b2=>(unfold maxLen;omega));intro w3 a5 o2 k2)|fail)
     obtain⟨rb,n3⟩:∃ b,b=w2.heap.size:=⟨_,rfl⟩;have i2:=HP.out.addRow o2 a5 (by decide);rw[<- n3]at i2 ⊢;rw[<- xI,<- jU (nxtT ds x a)]at i2;have p5:=Kh i2;have i7:Hid ((nxtT ds x a).length=np):=Kh (by rw[oF,h6.out]);have t9:Hid (w.heap.size<=rb):=Kh (by have:=HP.out.facts;omega);clear a5 o2 k2 i2 n3 HP;go_wp2
     go_loopg [14,15,65] np (fun gh c14 c15 c65 w4=>∃ i:Nat,gh+i=np/\c65=.int .i64 i/\ProdS w w.heap.size o mb k np (.slice da np dc) L2 nx2 fr2 bl2 m q0 [⟨w.heap.size,3,.slice (some ⟨rb,0,none⟩) np np,np,nats (pQ (nxtT ds x a) np i),1⟩] w4)
     case atStart=>exact⟨0,rfl,rfl,p5.out⟩
     case round =>
      clear p5;obtain⟨w4,rfl⟩:∃ w4:World,w4=wr:=⟨_,rfl⟩;obtain⟨i,o0,rfl,hp⟩:=hrel;have m1:=Kh o0;have HP:=Kh hp;clear o0;by_cases hi:i<np
      case pos =>
       have r1:(i:Int)<np:=(by omega);obtain⟨b,off,cap,e,k7,k6,hd⟩:=(H.out.kept hp.facts.1 (by simp)).head (by rw[<- h6.out];omega);rw[<- h6.out]at e k7;simp only[Value.slice.injEq,true_and]at e;obtain⟨rfl,rfl⟩:=e;have c5:dc<=9223372036854775807:=by unfold maxLen at k6;omega
       obtain⟨n,fb,fo,fc,nb,no,nc,RB,RO,RC,hv,h5,c1,c2,c3,c4,i4⟩:=hd.dfa d1.out (by rw[<- h6.out];exact hi);have hq:x.getD i 0<n:=(by have:=d6.out.2 i (by rw[<- h6.out];exact hi);rw[hv.hn]at this;exact this);have s9:=Kh i4;have HD:=Kh hd;obtain⟨st,e9⟩:∃ y,y=st0 (ds.getD i dN):=⟨_,rfl⟩;rw[<- e9]at c2;have HQ:=Kh hq;clear hd i4 hv hp e9;go_upto_region 19 with fail;have H6:=Ga w4 (.cells #[.int .i64 (k:Int),.int .i64 (st:Int),.slice (some ⟨fb,fo,none⟩) n fc,.slice (some ⟨nb,no,none⟩) n nc] 42) none;have k9:=heap_alloc_new w4 (.cells #[.int .i64 (k:Int),.int .i64 (st:Int),.slice (some ⟨fb,fo,none⟩) n fc,.slice (some ⟨nb,no,none⟩) n nc] 42);obtain⟨w5,a3⟩:∃ w5,w5=w4.alloc (.cells #[.int .i64 (k:Int),.int .i64 (st:Int),.slice (some ⟨fb,fo,none⟩) n fc,.slice (some ⟨nb,no,none⟩) n nc] 42):=⟨_,rfl⟩;obtain⟨db,k5⟩:∃ b,b=w4.heap.size:=⟨_,rfl⟩;rw[<- a3]at H6;rw[<- a3,<- k5]at k9;rw[<- a3,<- k5];obtain⟨_,_,_,d3⟩:=qCV k9;have i1:=HP.out.grow H6;have s6:=Kh i1;have H7:=s9.out.kept H6 (by simp);have e1:=H7.hd (x.getD i 0) HQ.out;have e2:=H7.el (x.getD i 0) a HQ.out ha;have e3:=H7.cap;have e4:=H7.rcap (x.getD i 0) HQ.out;obtain⟨sS,cS,sN,cN,sF,cF,sB,cB,h7,g9⟩:=i1.cells;obtain⟨x0,x1,x2,x3,x4,x5⟩:=jY h7;obtain⟨sb,rfl,r3,g3,g9⟩:=g9 (by omega);obtain⟨g,go,gc,f1,f2,f3,f4⟩:=g9 s a4 (by rw[<- HX.out];intro e;have:=d6.out.1;rw[e,<- h6.out]at this;simp at this;omega);rw[<- HX.out]at f1 f2 f4;have f5:=f4 i (by rw[d6.out.1,<- h6.out];exact hi);rw[d6.out.1,<- h6.out]at f1 f2;have hR:=i1.arr;have fR:=hR.frozen i;have cR:=Arr.nat hR i (by rw[qT i7.out (by omega)];exact hi);have r5:=hR.lt;have t7:cS<=9223372036854775807:=by unfold maxLen at g3;omega
       have t6:gc<=9223372036854775807:=by unfold maxLen at f3;omega
       have t3:nc<=9223372036854775807:=by unfold maxLen at e3;omega
       have n2:RC (x.getD i 0)<=9223372036854775807:=by unfold maxLen at e4;omega
       have h3:=jB i7.out hi;rw[hH (by rw[<- h6.out];exact hi)]at h3;obtain⟨qq,j5⟩:∃ q,q=x.getD i 0:=⟨_,rfl⟩;rw[<- j5]at e1 e2 e4 f5 h3 n2;have t2:(qq:Int)<n:=(by rw[j5];have:=HQ.out;omega);obtain⟨rb2,c0⟩:∃ r,r=RB qq:=⟨_,rfl⟩;obtain⟨ro2,b8⟩:∃ r,r=RO qq:=⟨_,rfl⟩;obtain⟨rc2,b9⟩:∃ r,r=RC qq:=⟨_,rfl⟩;obtain⟨y,hy⟩:∃ y,y=nx (ds.getD i dN) qq a:=⟨_,rfl⟩;rw[<- c0,<- b8,<- b9]at e1;rw[<- c0,<- b8,<- hy]at e2;rw[<- b9]at e4 n2;rw[<- hy]at h3;have d0:=Kh h3;obtain⟨e3a,_⟩:=e3;obtain⟨e4a,_⟩:=e4;have j4:(s:Int)<m:=(by omega);clear h3 hy c0 b8 b9 j5 f4 g9 h7 i1 H7 k9 H6 a3 k5 d6 hR g3 f3
       go_region
       all_goals (try go_frame)
       go_wp2;go_roundg (np - (i+1))
       case measure=>have:=m1.out;omega
       case rel =>
        refine⟨i+1,by have:=m1.out;omega,by go_num,?_⟩;rw[<- d0.out,<- nats_setM];exact(s6.out.put hi (.int .i64 (y:Int))).grow (zO _ none)
      case neg =>
       have r1:¬ (i:Int)<np:=(by omega);have n9:i=np:=by have:=m1.out;omega
       rw[fW i7.out n9]at hp;obtain⟨z,hz⟩:∃ z,z=nxtT ds x a:=⟨_,rfl⟩;have e7:z.length=np:=by rw[hz];exact i7.out
       have l4:Hid (qD np z):=Kh (by
        have h1:=d1.out.next d6.out ha;rw[<- hz]at h1;refine⟨e7,fun y hy=>?_⟩;obtain⟨j,hj,rfl⟩:=List.getElem_of_mem hy;have:=d1.out.small h1 j (by rw[<- h6.out,<- e7];exact hj)
        rwa [zG hj]at this)
       rw[<- hz]at hp;have p0:=Kh hp;have H8:Hid (Row w4.heap.size w4 (.slice (some ⟨rb,0,none⟩) np np) (nats z)):=Kh (qGS (X:=fun _=>True) hp.arr e7 (by unfold maxLen;omega) trivial).row;have H2:Hid (Calls Try.prog 84 #[.slice (some ⟨rb,0,none⟩) np np] w4 fun e w'=>e=.returned (.string (txtT (kb z)))/\w4.grownBy w' none):=Kh (qEU w4.heap.size w4 _ z np (Nat.le_refl _) H8.out l4.out (by omega));obtain⟨T,hT⟩:∃ t,t=txtT (kb z):=⟨_,rfl⟩;rw[<- hT]at H2;have HT:=Kh hT;have HZ:=Kh hz;have t8:=Kh e7;clear n9 hp hz hT e7 HP H8;go_wp2_with fail;refine H2.out.mono ?_;rintro e w6 ⟨rfl,a6⟩;have i0:=p0.out.grow a6;obtain⟨u,c,hu,hM⟩:=i0.map;have i6:=Kh i0;have HM:=Kh hM;have HU:=Kh hu;obtain⟨sS,cS,sN,cN,sF,cF,sB,cB,h7,_⟩:=i0.cells;obtain⟨x0,x1,x2,x3,x4,x5⟩:=jY h7;have H1:=hM.lookup l9.out l4.out;clear a6 i0 hM hu h7 H2 p0;have m3:Hid (L2[s]?=some x):=Kh (by rw[HX.out,List.getD_eq_getElem?_getD,List.getElem?_eq_getElem b3.out];rfl);by_cases hmem:z∈L2
       case pos =>
        obtain⟨y,hy⟩:∃ y,y=L2.idxOf z:=⟨_,rfl⟩;have t1:y<m:=by rw[hy,h8.out];exact List.idxOf_lt_length_of_mem hmem
        have i3:Sem.run Try.prog (Instr.lookup 129 (.map (some mb)) (.string T) true) w6=.ok (.tuple #[.int .i64 (y:Int),.bool true]) w6:=by
         rw[fL hmem,<- hy]at H1;rw[HT.out];exact H1
        obtain⟨X,hs,sS,sN,sF,sB,cS,cN,cF,cB,hB,r9,hE,c5,a0,hl,g0⟩:=i6.out.open_ (zL w6 (some mb)) HM.out.obj;obtain⟨X1,c7⟩:∃ X1,X1=fun j=>X j\/j=mb:=⟨_,rfl⟩;rw[<- c7]at hB;have HS:=Kh hB;have HE:=Kh hE;have l7:=Kh c5;have d4:=Kh a0;have HL:=Kh hl;have m0:=Kh g0;have l3:=Kh c7;have HY:=Kh hy;have H5:=Kh hmem;have l6:Hid (q0<=24000):=Kh (by rw[i5.out];have h1:s * k<=3999 * 6:=Nat.mul_le_mul (by omega) hk6;omega);have q9:=l6.out;clear x0 x1 x2 x3 x4 x5 H1 hB r9 hE c5 a0 hl g0 c7 hy hmem;have q1:=zH HS.out.box 3 (by simp);simp only[List.getElem_toArray,List.getElem_cons_zero,List.getElem_cons_succ]at q1;have f7:=HS.out.own (r:=⟨w.heap.size,3,.slice sN q0 cN,q0,nats nx2,1⟩) (by simp);have e8:=Nat.le_trans HS.out.base HS.out.wk;go_upto_region 32 with (first|(at_builtin;refine vI rfl _ _ _ rfl yU.toN w.heap.size (.slice sN q0 cN) (q0) (nats nx2) rfl f7 [.int .i64 (y:Int)] rfl rfl ?z1 ?z2 ?z3 ?z4 ?_;(case z1=>(intro v hv;simp only[List.mem_cons,List.not_mem_nil,or_false]at hv;subst hv;rfl));(case z2=>(unfold maxLen;omega));(case z3=>(show (q0+1) * 8<=140737488355328;omega));(case z4=>exact e8);intro sn1 cn1 wM1 h2 H4 H3;(have a2:Hid (BoxS w.heap.size X1 o 111 w w6 (⟨w.heap.size,34,.slice sS m cS,m,hs,1⟩::⟨w.heap.size,3,.slice sn1 (q0+1) cn1,(q0+1),nats nx2++[.int .i64 (y:Int)],1⟩::⟨w.heap.size,3,.slice sF m cF,m,nats fr2,1⟩::⟨w.heap.size,3,.slice sB m cB,m,nats bl2,1⟩::[]) #[.int .i64 (k:Int),.slice da np dc,.slice sS m cS,.slice sN q0 cN,.slice sF m cF,.slice sB m cB] wM1):=Kh (HS.out.appAt (j:=1) rfl h2 H4 H3));(have p1:=zH a2.out.box 3 (by simp));simp only[List.getElem_toArray,List.getElem_cons_zero,List.getElem_cons_succ]at p1;(have f1:=zE a2.out.box 3);clear h2 H4 H3 q1)|fail)
        obtain⟨wZ1,H0⟩:∃ wZ,wZ=wM1.setCell ⟨o,3,none⟩ (.slice sn1 (q0+1) cn1):=⟨_,rfl⟩;have c8:Hid (BoxS w.heap.size X1 o 111 w w6 (⟨w.heap.size,34,.slice sS m cS,m,hs,1⟩::⟨w.heap.size,3,.slice sn1 (q0+1) cn1,(q0+1),nats nx2++[.int .i64 (y:Int)],1⟩::⟨w.heap.size,3,.slice sF m cF,m,nats fr2,1⟩::⟨w.heap.size,3,.slice sB m cB,m,nats bl2,1⟩::[]) #[.int .i64 (k:Int),.slice da np dc,.slice sS m cS,.slice sn1 (q0+1) cn1,.slice sF m cF,.slice sB m cB] wZ1):=Kh (by rw[H0];exact a2.out.set 3 (.slice sn1 (q0+1) cn1));rw[<- H0];clear H0 f7 e8 a2 p1 f1;go_wp2;go_roundg (k - (a+1))
        case measure=>have:=j1.out;omega
        case rel =>
         have H9:z=nxtT ds (L2.getD s []) a:=by rw[HZ.out,HX.out]
         refine⟨a+1,L2,nx2++[y],fr2,bl2,by have:=j1.out;omega,by go_num,?_,b4.out.old m3.out (by rw[<- HX.out]at H9;rw[<- H9];exact H5.out),b3.out,d5.out,?_,d7.out⟩
         ·have e1:s * k+(a+1)=q0+1:=by rw[i5.out];rfl
          rw[e1,<- h8.out];have hb:=c8.out;rw[<- vM,l3.out]at hb;exact cE hb HE.out HM.out l7.out d4.out HU.out ⟨HL.out.1,by rw[List.length_append,HL.out.2.1];rfl,HL.out.2.2⟩ m0.out
         ·rw[HY.out,H9]
          exact d2.out.push ha (by rw[<- H9];exact H5.out)
       case neg =>
        have i3:Sem.run Try.prog (Instr.lookup 129 (.map (some mb)) (.string T) true) w6=.ok (.tuple #[.int .i64 0,.bool false]) w6:=by
         rw[qDZ hmem]at H1;rw[HT.out];exact H1
        have H9:z=nxtT ds (L2.getD s []) a:=by rw[HZ.out,HX.out]
        have g4:=Kh H9;have H5:=Kh hmem;by_cases h4:m=4000
        case pos =>
         have s7:Hid (Over ds k):=Kh (b4.out.over (by rw[<- h8.out];exact h4) ha m3.out (by rw[<- HX.out]at H9;rw[<- H9];exact hmem));subst h4;clear H1 H9 hmem;go_wp2;refine bodyPost_ret (v:=.tuple #[.pointer none,.bool false]) (by simp[results,Try.results57,go_sem]) rfl ?_;exact .inl ⟨s7.out,rfl,i6.out.facts.1⟩
        have s0:¬ (m:Int)=4000:=by omega
        clear H1 H9 hmem;go_upto_region 28 with (first|(at_mapUpdate;refine pI l9.out rfl _ _ _ rfl mb u c (numE L2) z m rfl ?k1 rfl HM.out (by have:=HU.out;unfold maxLen;omega) l4.out (by omega) ?_;(case k1=>(show _=Value.string (txtT (kb z));rw[<- HT.out];rfl));intro w8 d9 g2)|fail)
        obtain⟨c9,n7⟩:∃ c9,MapK 9 (qD np) (fun l=>.string (txtT (kb l))) w8 mb (u+1) c9 (numE (L2++[z])):=⟨_,by rw[<- qBC H5.out,<- h8.out];exact d9⟩;obtain⟨X,hs,sS,sN,sF,sB,cS,cN,cF,cB,hB,hE,_,c5,a0,hl,g0⟩:=i6.out.open_ g2 d9.obj;obtain⟨X1,c7⟩:∃ X1,X1=fun j=>X j\/j=mb:=⟨_,rfl⟩;rw[<- c7]at hB;have HS:=Kh hB;have HE:=Kh hE;have l7:=Kh c5;have d4:=Kh a0;have HL:=Kh hl;have m0:=Kh g0;have l3:=Kh c7;have s8:=Kh n7;have l6:Hid (q0<=24000):=Kh (by rw[i5.out];have h1:s * k<=3999 * 6:=Nat.mul_le_mul (by omega) hk6;omega);have q9:=l6.out;have t5:m<4000:=(by omega);clear x0 x1 x2 x3 x4 x5 hB hE c5 a0 hl g0 c7 d9 n7 g2 h4 s0 i3 i6 HM;have q1:=zH HS.out.box 2 (by simp);simp only[List.getElem_toArray,List.getElem_cons_zero,List.getElem_cons_succ]at q1;have f7:=HS.out.own (r:=⟨w.heap.size,34,.slice sS m cS,m,hs,1⟩) (by simp);have e8:=Nat.le_trans HS.out.base HS.out.wk;go_upto_region 29 with (first|(at_builtin;refine vI rfl _ _ _ rfl uP.toN w.heap.size (.slice sS m cS) (m) (hs) rfl f7 [.slice (some ⟨rb,0,none⟩) np np] rfl rfl ?z1 ?z2 ?z3 ?z4 ?_;(case z1=>(intro v hv;simp only[List.mem_cons,List.not_mem_nil,or_false]at hv;subst hv;rfl));(case z2=>(unfold maxLen;omega));(case z3=>(show (m+1) * 24<=140737488355328;omega));(case z4=>exact e8);intro sn1 cn1 wM1 h2 H4 H3;(have a2:Hid (BoxS w.heap.size X1 o 111 w w8 (⟨w.heap.size,34,.slice sn1 (m+1) cn1,(m+1),hs++[.slice (some ⟨rb,0,none⟩) np np],1⟩::⟨w.heap.size,3,.slice sN q0 cN,q0,nats nx2,1⟩::⟨w.heap.size,3,.slice sF m cF,m,nats fr2,1⟩::⟨w.heap.size,3,.slice sB m cB,m,nats bl2,1⟩::[]) #[.int .i64 (k:Int),.slice da np dc,.slice sS m cS,.slice sN q0 cN,.slice sF m cF,.slice sB m cB] wM1):=Kh (HS.out.appAt (j:=0) rfl h2 H4 H3));(have p1:=zH a2.out.box 2 (by simp));simp only[List.getElem_toArray,List.getElem_cons_zero,List.getElem_cons_succ]at p1;(have f1:=zE a2.out.box 2);clear h2 H4 H3 q1)|fail)
        obtain⟨wZ1,H0⟩:∃ wZ,wZ=wM1.setCell ⟨o,2,none⟩ (.slice sn1 (m+1) cn1):=⟨_,rfl⟩;have c8:Hid (BoxS w.heap.size X1 o 111 w w8 (⟨w.heap.size,34,.slice sn1 (m+1) cn1,(m+1),hs++[.slice (some ⟨rb,0,none⟩) np np],1⟩::⟨w.heap.size,3,.slice sN q0 cN,q0,nats nx2,1⟩::⟨w.heap.size,3,.slice sF m cF,m,nats fr2,1⟩::⟨w.heap.size,3,.slice sB m cB,m,nats bl2,1⟩::[]) #[.int .i64 (k:Int),.slice da np dc,.slice sn1 (m+1) cn1,.slice sN q0 cN,.slice sF m cF,.slice sB m cB] wZ1):=Kh (by rw[H0];exact a2.out.set 2 (.slice sn1 (m+1) cn1));rw[<- H0];clear H0 f7 e8 a2 p1 f1;have q2:=zH c8.out.box 4 (by simp);simp only[List.getElem_toArray,List.getElem_cons_zero,List.getElem_cons_succ]at q2;have n6:=c8.out.own (r:=⟨w.heap.size,3,.slice sF m cF,m,nats fr2,1⟩) (by simp);have m7:=Nat.le_trans c8.out.base c8.out.wk;go_upto_region 30 with (first|(at_builtin;refine vI rfl _ _ _ rfl yU.toN w.heap.size (.slice sF m cF) (m) (nats fr2) rfl n6 [.int .i64 (s:Int)] rfl rfl ?z1 ?z2 ?z3 ?z4 ?_;(case z1=>(intro v hv;simp only[List.mem_cons,List.not_mem_nil,or_false]at hv;subst hv;rfl));(case z2=>(unfold maxLen;omega));(case z3=>(show (m+1) * 8<=140737488355328;omega));(case z4=>exact m7);intro sn2 cn2 wM2 h2 H4 H3;(have j0:Hid (BoxS w.heap.size X1 o 111 w w8 (⟨w.heap.size,34,.slice sn1 (m+1) cn1,(m+1),hs++[.slice (some ⟨rb,0,none⟩) np np],1⟩::⟨w.heap.size,3,.slice sN q0 cN,q0,nats nx2,1⟩::⟨w.heap.size,3,.slice sn2 (m+1) cn2,(m+1),nats fr2++[.int .i64 (s:Int)],1⟩::⟨w.heap.size,3,.slice sB m cB,m,nats bl2,1⟩::[]) #[.int .i64 (k:Int),.slice da np dc,.slice sn1 (m+1) cn1,.slice sN q0 cN,.slice sF m cF,.slice sB m cB] wM2):=Kh (c8.out.appAt (j:=2) rfl h2 H4 H3));(have p2:=zH j0.out.box 4 (by simp));simp only[List.getElem_toArray,List.getElem_cons_zero,List.getElem_cons_succ]at p2;(have f2:=zE j0.out.box 4);clear h2 H4 H3 q2)|fail)
        obtain⟨wZ2,b7⟩:∃ wZ,wZ=wM2.setCell ⟨o,4,none⟩ (.slice sn2 (m+1) cn2):=⟨_,rfl⟩;have g6:Hid (BoxS w.heap.size X1 o 111 w w8 (⟨w.heap.size,34,.slice sn1 (m+1) cn1,(m+1),hs++[.slice (some ⟨rb,0,none⟩) np np],1⟩::⟨w.heap.size,3,.slice sN q0 cN,q0,nats nx2,1⟩::⟨w.heap.size,3,.slice sn2 (m+1) cn2,(m+1),nats fr2++[.int .i64 (s:Int)],1⟩::⟨w.heap.size,3,.slice sB m cB,m,nats bl2,1⟩::[]) #[.int .i64 (k:Int),.slice da np dc,.slice sn1 (m+1) cn1,.slice sN q0 cN,.slice sn2 (m+1) cn2,.slice sB m cB] wZ2):=Kh (by rw[b7];exact j0.out.set 4 (.slice sn2 (m+1) cn2));rw[<- b7];clear b7 n6 m7 j0 p2 f2;have q3:=zH g6.out.box 5 (by simp);simp only[List.getElem_toArray,List.getElem_cons_zero,List.getElem_cons_succ]at q3;have n5:=g6.out.own (r:=⟨w.heap.size,3,.slice sB m cB,m,nats bl2,1⟩) (by simp);have m6:=Nat.le_trans g6.out.base g6.out.wk;go_upto_region 31 with (first|(at_builtin;refine vI rfl _ _ _ rfl yU.toN w.heap.size (.slice sB m cB) (m) (nats bl2) rfl n5 [.int .i64 (a:Int)] rfl rfl ?z1 ?z2 ?z3 ?z4 ?_;(case z1=>(intro v hv;simp only[List.mem_cons,List.not_mem_nil,or_false]at hv;subst hv;rfl));(case z2=>(unfold maxLen;omega));(case z3=>(show (m+1) * 8<=140737488355328;omega));(case z4=>exact m6);intro sn3 cn3 wM3 h2 H4 H3;(have i9:Hid (BoxS w.heap.size X1 o 111 w w8 (⟨w.heap.size,34,.slice sn1 (m+1) cn1,(m+1),hs++[.slice (some ⟨rb,0,none⟩) np np],1⟩::⟨w.heap.size,3,.slice sN q0 cN,q0,nats nx2,1⟩::⟨w.heap.size,3,.slice sn2 (m+1) cn2,(m+1),nats fr2++[.int .i64 (s:Int)],1⟩::⟨w.heap.size,3,.slice sn3 (m+1) cn3,(m+1),nats bl2++[.int .i64 (a:Int)],1⟩::[]) #[.int .i64 (k:Int),.slice da np dc,.slice sn1 (m+1) cn1,.slice sN q0 cN,.slice sn2 (m+1) cn2,.slice sB m cB] wM3):=Kh (g6.out.appAt (j:=3) rfl h2 H4 H3));(have p3:=zH i9.out.box 5 (by simp));simp only[List.getElem_toArray,List.getElem_cons_zero,List.getElem_cons_succ]at p3;(have f3:=zE i9.out.box 5);clear h2 H4 H3 q3)|fail)
        obtain⟨wZ3,b6⟩:∃ wZ,wZ=wM3.setCell ⟨o,5,none⟩ (.slice sn3 (m+1) cn3):=⟨_,rfl⟩;have g5:Hid (BoxS w.heap.size X1 o 111 w w8 (⟨w.heap.size,34,.slice sn1 (m+1) cn1,(m+1),hs++[.slice (some ⟨rb,0,none⟩) np np],1⟩::⟨w.heap.size,3,.slice sN q0 cN,q0,nats nx2,1⟩::⟨w.heap.size,3,.slice sn2 (m+1) cn2,(m+1),nats fr2++[.int .i64 (s:Int)],1⟩::⟨w.heap.size,3,.slice sn3 (m+1) cn3,(m+1),nats bl2++[.int .i64 (a:Int)],1⟩::[]) #[.int .i64 (k:Int),.slice da np dc,.slice sn1 (m+1) cn1,.slice sN q0 cN,.slice sn2 (m+1) cn2,.slice sn3 (m+1) cn3] wZ3):=Kh (by rw[b6];exact i9.out.set 5 (.slice sn3 (m+1) cn3));rw[<- b6];clear b6 n5 m6 i9 p3 f3;have q4:=zH g5.out.box 3 (by simp);simp only[List.getElem_toArray,List.getElem_cons_zero,List.getElem_cons_succ]at q4;have n4:=g5.out.own (r:=⟨w.heap.size,3,.slice sN q0 cN,q0,nats nx2,1⟩) (by simp);have m5:=Nat.le_trans g5.out.base g5.out.wk;go_upto_region 32 with (first|(at_builtin;refine vI rfl _ _ _ rfl yU.toN w.heap.size (.slice sN q0 cN) (q0) (nats nx2) rfl n4 [.int .i64 (m:Int)] rfl rfl ?z1 ?z2 ?z3 ?z4 ?_;(case z1=>(intro v hv;simp only[List.mem_cons,List.not_mem_nil,or_false]at hv;subst hv;rfl));(case z2=>(unfold maxLen;omega));(case z3=>(show (q0+1) * 8<=140737488355328;omega));(case z4=>exact m5);intro sn4 cn4 wM4 h2 H4 H3;(have i8:Hid (BoxS w.heap.size X1 o 111 w w8 (⟨w.heap.size,34,.slice sn1 (m+1) cn1,(m+1),hs++[.slice (some ⟨rb,0,none⟩) np np],1⟩::⟨w.heap.size,3,.slice sn4 (q0+1) cn4,(q0+1),nats nx2++[.int .i64 (m:Int)],1⟩::⟨w.heap.size,3,.slice sn2 (m+1) cn2,(m+1),nats fr2++[.int .i64 (s:Int)],1⟩::⟨w.heap.size,3,.slice sn3 (m+1) cn3,(m+1),nats bl2++[.int .i64 (a:Int)],1⟩::[]) #[.int .i64 (k:Int),.slice da np dc,.slice sn1 (m+1) cn1,.slice sN q0 cN,.slice sn2 (m+1) cn2,.slice sn3 (m+1) cn3] wM4):=Kh (g5.out.appAt (j:=1) rfl h2 H4 H3));(have p4:=zH i8.out.box 3 (by simp));simp only[List.getElem_toArray,List.getElem_cons_zero,List.getElem_cons_succ]at p4;(have f4:=zE i8.out.box 3);clear h2 H4 H3 q4)|fail)
        obtain⟨wZ4,b5⟩:∃ wZ,wZ=wM4.setCell ⟨o,3,none⟩ (.slice sn4 (q0+1) cn4):=⟨_,rfl⟩;have s1:Hid (BoxS w.heap.size X1 o 111 w w8 (⟨w.heap.size,34,.slice sn1 (m+1) cn1,(m+1),hs++[.slice (some ⟨rb,0,none⟩) np np],1⟩::⟨w.heap.size,3,.slice sn4 (q0+1) cn4,(q0+1),nats nx2++[.int .i64 (m:Int)],1⟩::⟨w.heap.size,3,.slice sn2 (m+1) cn2,(m+1),nats fr2++[.int .i64 (s:Int)],1⟩::⟨w.heap.size,3,.slice sn3 (m+1) cn3,(m+1),nats bl2++[.int .i64 (a:Int)],1⟩::[]) #[.int .i64 (k:Int),.slice da np dc,.slice sn1 (m+1) cn1,.slice sn4 (q0+1) cn4,.slice sn2 (m+1) cn2,.slice sn3 (m+1) cn3] wZ4):=Kh (by rw[b5];exact i8.out.set 3 (.slice sn4 (q0+1) cn4));rw[<- b5];clear b5 n4 m5 i8 p4 f4;go_wp2;go_roundg (k - (a+1))
        case measure=>have:=j1.out;omega
        case rel =>
         refine⟨a+1,L2++[z],nx2++[m],fr2++[s],bl2++[a],by have:=j1.out;omega,by go_num,?_,?_,by rw[List.length_append];have:=b3.out;omega,by rw[List.length_append,<- h8.out];show m+1<=4000;omega,?_,?_⟩
         ·have e1:s * k+(a+1)=q0+1:=by rw[i5.out];rfl
          have e2:(L2++[z]).length=m+1:=by rw[List.length_append,<- h8.out];rfl
          rw[e1,e2];have hb:=s1.out;rw[<- vM,<- vM,<- vM,l3.out]at hb;exact cE hb HE.out s8.out l7.out d4.out (by have:=HU.out;omega) ⟨e2,by rw[List.length_append,HL.out.2.1];rfl,by rw[List.length_append,HL.out.2.2.1];rfl,by rw[List.length_append,HL.out.2.2.2];rfl⟩ (by rw[List.length_append,m0.out];rfl)
         ·have h1:=b4.out.new ha m3.out (by rw[HX.out,<- g4.out];exact H5.out)
          rw[HX.out,<- g4.out]at h1;exact h1
         ·have h1:=d2.out.pushNew b3.out ha (by rw[<- g4.out];exact H5.out)
          rw[<- g4.out,<- h8.out]at h1;exact h1
         ·have h1:=d7.out.push b3.out ha
          rw[<- g4.out]at h1;exact h1
end Go.Proofs.Ytjfdomfendbhfaa
