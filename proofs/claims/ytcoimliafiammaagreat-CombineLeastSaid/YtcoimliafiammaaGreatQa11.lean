/- Part 11 of the proof. -/
import Derived.Test.YtcoimliafiammaaGreatQa10
import Derived.BigQuiet
import Derived.BigRegion
set_option linter.unusedVariables false
set_option linter.unusedSimpArgs false
set_option maxRecDepth 100000
set_option maxHeartbeats 16000000
namespace Go.Proofs.YtcoimliafiammaaGreat
open Go.Maps Go.RowKit
theorem qMH {w0 wa:World}{o np:Nat}{pv:Value}{s:Option Addr}{c:Nat}{x0:List Nat}(hg:w0.grownBy wa none)(a9:wa.ownsRow w0.heap.size 3 1 (.slice s np c) np (nats x0))(hb:wa.heap[o]?=some (.cells #[pv,.slice none 0 0,.slice none 0 0] 120 (0,0)))(ho:w0.heap.size<=o){w2:World}(a8:w2=(wa.alloc (.cells #[.slice s np c] 22)).setCell ⟨o,1,none⟩ (.slice (some ⟨wa.heap.size,0,none⟩) 1 1)):∃X,BoxS w0.heap.size X o 120 w0 w2 (⟨w0.heap.size,22,.slice (some ⟨wa.heap.size,0,none⟩) 1 1,1,[.slice s np c],1⟩::⟨w0.heap.size,22,.slice none 0 0,0,[],1⟩::[]) #[pv,.slice (some ⟨wa.heap.size,0,none⟩) 1 1,.slice none 0 0] w2/\uX X 3 nats w2 [.slice s np c] [x0]/\(∀j,X j->w0.heap.size<=j/\j<w2.heap.size):=by
 obtain⟨w1,h1⟩:=Nm (wa.alloc (.cells #[.slice s np c] 22));rw[<-h1]at a8;have g1:wa.grownBy w1 none:=by rw[h1];exact Ga _ _ _
 have h3:1<=maxLen:=by unfold maxLen;omega
 have o1:w1.ownsRow wa.heap.size 22 1 (.slice (some ⟨wa.heap.size,0,none⟩) 1 1) 1 [.slice s np c]:=by rw[h1];exact World.ownsRow_lit wa #[_] 1 (Nat.le_refl _) h3 rfl
 have d1:(22:Nat)≠120:=by decide
 have d2:(3:Nat)≠120:=by decide
 have h2:(Value.slice s np c).ownBlock≠some o:=zO a9 hb d2;have h0:=zX a9 g1 (by simp);have m0:EMem (fun j=>(Value.slice s np c).ownBlock=some j) wa []:=⟨fun r hr=>by simp at hr,List.Pairwise.nil,fun r hr=>by simp at hr,fun k hk=>(a9.lt k hk).2⟩;have m1:=m0.add g1 (r:=⟨w0.heap.size,22,.slice (some ⟨wa.heap.size,0,none⟩) 1 1,1,[.slice s np c],1⟩) (yU (base':=w0.heap.size) o1 hg.size) (fun k hk=>(o1.lt k hk).1);have m2:=m1.add (zH w1 none) (r:=⟨w0.heap.size,22,.slice none 0 0,0,[],1⟩) (World.ownsRow_nil _ _ _ _) (fun k hk=>by simp[Value.ownBlock]at hk)
 have hB:BoxS w0.heap.size (fun j=>(Value.slice s np c).ownBlock=some j) o 120 w0 w1 (⟨w0.heap.size,22,.slice (some ⟨wa.heap.size,0,none⟩) 1 1,1,[.slice s np c],1⟩::⟨w0.heap.size,22,.slice none 0 0,0,[],1⟩::[]) #[pv,.slice none 0 0,.slice none 0 0] w1:=by
  refine⟨m2,fun r hr=>?_,zB hb g1,h2,Nat.le_refl _,ho,Nat.le_trans hg.size g1.size,zA hg g1,uH.refl _ _,Nat.le_refl _⟩;simp only[List.nil_append,List.cons_append,List.mem_cons,List.not_mem_nil,or_false]at hr;rcases hr with rfl|rfl
  ·exact⟨rfl,d1⟩
  exact⟨rfl,d1⟩
 have hS:=hB.set 1 (.slice (some ⟨wa.heap.size,0,none⟩) 1 1);rw[<-a8]at hS;exact⟨_,hS.rebase,(uX.nil.snoc (RowX.of_owns h0 (fun k hk=>hk))).kept hS.kept hS.wk,fun j hj=>⟨(a9.lt j hj).1,hS.mem.lt j hj⟩⟩
theorem qPQ {w0 w2 w8:World}{X:Nat->Prop}{o mb np u c:Nat}{pv:Value}{rs:Value}{sb:Nat}{x0:List Nat}(hB:BoxS w0.heap.size X o 120 w0 w2 (⟨w0.heap.size,22,.slice (some ⟨sb,0,none⟩) 1 1,1,[rs],1⟩::⟨w0.heap.size,22,.slice none 0 0,0,[],1⟩::[]) #[pv,.slice (some ⟨sb,0,none⟩) 1 1,.slice none 0 0] w2)(hE:uX X 3 nats w2 [rs] [x0])(hX:∀j,X j->w0.heap.size<=j/\j<w2.heap.size)(a9:w2.heap.size<=mb)(hg:w2.grownBy w8 (some mb))(hM:MapK 9 (pA np) KR w8 mb u c (numE [x0]))(hu:u<=2):RPr w0 w0.heap.size o mb np pv [x0] [] 1 0 [] w8:=by
 have h1:=zM hB.box;have h0:¬X mb:=fun e=>by have:=(hX mb e).2;omega
 have h8:=hB.far hg (fun r hr e=>by have:=(hB.mem.own r hr).lt mb e;omega) h0 (by omega) (by have:=hB.grown.size;omega);exact⟨X,[rs],[],_,_,_,_,u,c,h8.rebase,hE.kept h8.kept h8.wk,uX.nil,hM,h0,by have:=hB.grown.size;omega,by omega,⟨rfl,rfl⟩,⟨rfl,rfl⟩,fun j hj=>(hX j hj).1⟩
def LRow (w:World)(sb i:Nat)(x:List Nat):Prop:=∃g off cap,w.cell? ⟨sb,i,none⟩=some (.slice (some ⟨g,off,none⟩) x.length cap)/\x.length<=cap/\cap<=maxLen/\∀j,j<x.length->w.cell? ⟨g,off+j,none⟩=some (.int .i64 ((x.getD j 0:Nat):Int))
theorem LRow.grow {w w':World}{sb i:Nat}{x:List Nat}(h:LRow w sb i x)(hg:w.grownBy w' none):LRow w' sb i x:=by
 obtain⟨g,off,cap,h1,h2,h3,h4⟩:=h;exact⟨g,off,cap,xG h1 hg,h2,h3,fun j hj=>xG (h4 j hj) hg⟩
structure ProdV (w:World)(o k:Nat)(pv:Value)(L:List (List Nat))(nxl fr bl:List Nat)(sb sc nb nc fb fc bb bc:Nat):Prop where
 box:w.heap[o]?=some (.cells #[.int .i64 (k:Int),pv,.slice (some ⟨sb,0,none⟩) L.length sc,.slice (some ⟨nb,0,none⟩) (L.length*k) nc,.slice (some ⟨fb,0,none⟩) L.length fc,.slice (some ⟨bb,0,none⟩) L.length bc] 106 (0,0))
 caps:L.length<=sc/\sc<=maxLen/\L.length*k<=nc/\nc<=maxLen/\L.length<=fc/\fc<=maxLen/\L.length<=bc/\bc<=maxLen
 row:∀i,i<L.length->L.getD i []≠[]->LRow w sb i (L.getD i [])
 nx:∀i,i<L.length*k->w.cell? ⟨nb,i,none⟩=some (.int .i64 ((nxl.getD i 0:Nat):Int))
 fr:∀i,i<L.length->w.cell? ⟨fb,i,none⟩=some (.int .i64 ((fr.getD i 0:Nat):Int))
 by_:∀i,i<L.length->w.cell? ⟨bb,i,none⟩=some (.int .i64 ((bl.getD i 0:Nat):Int))
 nlt:nb<w.heap.size
section
variable {w w':World} {o k:Nat} {pv:Value} {L:List (List Nat)} {nxl fr bl:List Nat} {sb sc nb nc fb fc bb bc:Nat}
theorem ProdV.grow (h:ProdV w o k pv L nxl fr bl sb sc nb nc fb fc bb bc)(hg:w.grownBy w' none):ProdV w' o k pv L nxl fr bl sb sc nb nc fb fc bb bc :=
 ⟨zB h.box hg,h.caps,fun i hi hn=>(h.row i hi hn).grow hg,fun i hi=>xG (h.nx i hi) hg,fun i hi=>xG (h.fr i hi) hg,fun i hi=>xG (h.by_ i hi) hg,Nat.lt_of_lt_of_le h.nlt hg.size⟩
theorem ProdV.cells (h:ProdV w o k pv L nxl fr bl sb sc nb nc fb fc bb bc):w.cell? ⟨o,0,none⟩=some (.int .i64 (k:Int))/\w.cell? ⟨o,1,none⟩=some pv/\w.cell? ⟨o,2,none⟩=some (.slice (some ⟨sb,0,none⟩) L.length sc)/\w.cell? ⟨o,3,none⟩=some (.slice (some ⟨nb,0,none⟩) (L.length*k) nc)/\w.cell? ⟨o,4,none⟩=some (.slice (some ⟨fb,0,none⟩) L.length fc)/\w.cell? ⟨o,5,none⟩=some (.slice (some ⟨bb,0,none⟩) L.length bc):=by
 have c0:=zJ h.box 0;have c1:=zJ h.box 1;have c2:=zJ h.box 2;have c3:=zJ h.box 3;have c4:=zJ h.box 4;have c5:=zJ h.box 5;simp only[sPd,sPe,sPf]at c0 c1 c2 c3 c4 c5;exact⟨c0,c1,c2,c3,c4,c5⟩
theorem ProdS.view {w0:World}{B mb np m q:Nat}(h:ProdS w0 B o mb k np pv L nxl fr bl m q [] w)(h0:0<m)(hq:q=m*k)(hk:0<k):∃sb sc nb nc fb fc bb bc,ProdV w o k pv L nxl fr bl sb sc nb nc fb fc bb bc:=by
 obtain⟨sS',cS',sN',cN',sF',cF',sB',cB',h6,h5⟩:=h.cells;obtain⟨X,hs,sS,sN,sF,sB,cS,cN,cF,cB,u,c,hB,hE,hM,h8,h9,hu,⟨rfl,H2,H1,H0⟩,H3⟩:=h;have h7:0<q:=by rw[hq];exact Nat.mul_pos h0 hk
 obtain⟨sb,e,h1,h2,h3⟩:=h5 h0;have h4:=hB.box;rw[h6]at h4;simp only[Option.some.injEq,Obj.cells.injEq,and_true]at h4;have h4:=congrArg Array.toList h4;simp only[List.cons.injEq,and_true,true_and,Value.slice.injEq]at h4;obtain⟨⟨rfl,rfl⟩,⟨rfl,rfl⟩,⟨rfl,rfl⟩,⟨rfl,rfl⟩⟩:=h4;subst e;obtain⟨nb,rfl,n1,n2,na⟩:=yH (hB.own (r:=⟨B,3,.slice sN' q cN',q,nats nxl,1⟩) (by simp)) h7;obtain⟨fb,rfl,f1,f2,fa⟩:=yH (hB.own (r:=⟨B,3,.slice sF' L.length cF',L.length,nats fr,1⟩) (by simp)) h0;obtain⟨bb,rfl,b1,b2,ba⟩:=yH (hB.own (r:=⟨B,3,.slice sB' L.length cB',L.length,nats bl,1⟩) (by simp)) h0;subst hq;exact⟨sb,cS',nb,cN',fb,cF',bb,cB',h6,⟨h1,h2,n1,n2,f1,f2,b1,b2⟩,fun i hi hne=>h3 i hi hne,fun i hi=>na.nat i (by omega),fun i hi=>fa.nat i (by omega),fun i hi=>ba.nat i (by omega),na.lt⟩
end
theorem qEE (Bd:Nat)(w:World)(o k:Nat)(pv:Value)(ds:List DfaV)(L:List (List Nat))(a7 fr bl:List Nat)(sb sc nb nc fb fc bb bc s i:Nat)(h:ProdV w o k pv L a7 fr bl sb sc nb nc fb fc bb bc)(hd:DsIn Bd w pv ds)(a8:OkT ds k)(hs:s<L.length)(hi:i<ds.length)(a9:InT ds (L.getD s []))(hl:ds.length<=400)(hL:L.length<=4000):Calls Tryz.prog 67 #[.pointer (some ⟨o,0,none⟩),.int .i64 (s:Int),.int .i64 (i:Int)] w fun e w'=>e=.returned (.bool (accT ds (L.getD s []) i))/\w.grownBy w' none:=by
 obtain⟨b,off,cap,rfl,h9,h7,hd⟩:=hd.head (by omega);obtain⟨n,gb,go,gc,nb2,no2,nc2,RB,RO,RC,hv,h5,c1,c2,c3,c4,h2⟩:=hd.dfa a8 hi;obtain⟨x0,x1,x2,x3,x4,x5⟩:=h.cells;have h4:L.getD s []≠[]:=fun e=>by have:=a9.1;rw[e]at this;simp at this;omega
 obtain⟨g,ro,rc,r1,r2,r3,r4⟩:=h.row s hs h4;have h1:=h.caps;rw[a9.1]at r1 r2 r4;have r5:=r4 i hi;have hq:=a9.2 i hi;rw[hv.hn]at hq;obtain⟨q,h0⟩:=Nm ((L.getD s []).getD i 0);have c5:=h2.fin (q:=q) (by rw[h0];exact hq);have h6:=h2.fcap;have hA:accT ds (L.getD s []) i=(ds.getD i dN).final.getD q false:=by rw[accT,h0]
 rw[hA];rw[<-h0]at r5 hq;obtain⟨np,h3⟩:=Nm ds.length;obtain⟨m,hm⟩:=Nm L.length;obtain⟨bo,h8⟩:=Nm ((ds.getD i dN).final.getD q false);rw[<-h3]at x1 r1 r2 hi h9 hl;rw[<-hm]at x2 x4 x5 hs hL h1;rw[<-h8]at c5⊢;have k1:cap<=9223372036854775807:=by unfold maxLen at h7;omega
 have k2:sc<=9223372036854775807:=by have:=h1.2.1;unfold maxLen at this;omega
 have k3:rc<=9223372036854775807:=by unfold maxLen at r3;omega
 have k4:gc<=9223372036854775807:=by have:=h6.2;unfold maxLen at this;omega
 have H0:(s:Int)<m:=by omega
 have H2:(i:Int)<np:=by omega
 have H1:(q:Int)<n:=by omega
 clear h hd hv h2 hA h0 h3 hm h8 r4 a9 h4 x0 x3 x4 x5 c1 c2 c4 h1 h6 h7 r3 a8;go_enter Tryz.func67,Tryz.ntmps67;go_upto_region 1 with fail
 go_quiet (fail)
 go_wp2;go_ret
 first|exact⟨rfl,zK _ _ _⟩|exact⟨rfl,zN _ _⟩
structure PrV (w:World)(v pv:Value)(L T:List (List Nat))(sb sc:Nat)(nv:Value):Prop where
 val:v=.agg #[pv,.slice (some ⟨sb,0,none⟩) L.length sc,nv]
 cap:L.length<=sc/\sc<=maxLen
 row:∀i,i<L.length->L.getD i []≠[]->LRow w sb i (L.getD i [])
theorem PrV.grow {w w':World}{v pv nv:Value}{L T:List (List Nat)}{sb sc:Nat}(h:PrV w v pv L T sb sc nv)(hg:w.grownBy w' none):PrV w' v pv L T sb sc nv:=⟨h.val,h.cap,fun i hi hn=>(h.row i hi hn).grow hg⟩
theorem bK.view {B:Nat}{w:World}{v pv:Value}{L T:List (List Nat)}(h:bK B w v pv L T)(h0:0<L.length):∃sb sc nv,PrV w v pv L T sb sc nv:=by
 obtain⟨sS,sN,cS,cN,hs,hn,rfl,ho,_,hr,_⟩:=h;obtain⟨sb,rfl,h1,h2,ha⟩:=yH ho h0;refine⟨sb,cS,_,rfl,⟨h1,h2⟩,fun i hi hne=>?_⟩;have h4:i<hs.length:=by have:=hr.1;omega
 have h7:=hr.2 i h4 hi;have h6:L.getD i []=L[i]:=zG hi;rw[h6];have h3:0<(nats L[i]).length:=by rw[zV,<-h6];exact List.length_pos_iff.2 hne
 obtain⟨g,off,cap,e,H0,h5,h9,h8⟩:=h7.row.some_ h3;rw[zV]at e h5;exact⟨g,off,cap,by rw[ha.cell i h4,e],h5,h9,fun j hj=>h8.nat j hj⟩
theorem qGW (Bd:Nat)(w:World)(k0:Nat)(v pv nv:Value)(ds:List DfaV)(L T:List (List Nat))(sb sc i:Nat)(hB:Bd<=w.heap.size)(h:PrV w v pv L T sb sc nv)(hd:DsIn Bd w pv ds)(a8:OkT ds k0)(hi:i<L.length)(a9:InT ds (L.getD i []))(hl:ds.length<=400)(a7:0<ds.length)(hL:L.length<=4000):Calls Tryz.prog 73 #[v,.int .i64 (i:Int)] w fun e w'=>∃sa sc,e=.returned (.slice sa ds.length sc)/\w'.ownsRow w.heap.size 4 1 (.slice sa ds.length sc) ds.length (bls (mtsT ds ds.length (L.getD i [])))/\w.grownBy w' none:=by
 obtain⟨rfl,h4,h1⟩:=h;obtain⟨b,off,cap,rfl,d9,c8,c7⟩:=hd.head a7;obtain⟨g,ro,rc,H8,b8,b7,H7⟩:=h1 i hi (fun e=>by have:=a9.1;rw[e]at this;simp at this;omega);rw[a9.1]at H8 b8 H7;obtain⟨np,a1⟩:=Nm ds.length;obtain⟨m,hm⟩:=Nm L.length;obtain⟨H2,f3,e9,f0,d2,b0⟩:=K6 a1 c7 a8 a9 H7 H8;rw[<-a1]at d9 hl a7 b0 b8⊢;rw[<-hm]at h4 hi hL⊢;have k1:cap<=9223372036854775807:=by unfold maxLen at c8;omega
 have k2:sc<=9223372036854775807:=by have:=h4.2;unfold maxLen at this;omega
 have k3:rc<=9223372036854775807:=by unfold maxLen at b7;omega
 obtain⟨wA,a5⟩:=Nm (w.alloc (.cells #[.slice (some ⟨b,off,none⟩) np cap,.slice (some ⟨sb,0,none⟩) m sc,nv] 120));have a3:=Ga w (.cells #[.slice (some ⟨b,off,none⟩) np cap,.slice (some ⟨sb,0,none⟩) m sc,nv] 120) none;have h8:=heap_alloc_new w (.cells #[.slice (some ⟨b,off,none⟩) np cap,.slice (some ⟨sb,0,none⟩) m sc,nv] 120);obtain⟨P,hP⟩:=Nm w.heap.size;rw[<-a5]at a3 h8;rw[<-hP]at h8;obtain⟨p0,p1,p2⟩:=zQ h8;obtain⟨e1,e6,b3,d5⟩:=K4 a5 hP a3 h8;clear a1 hm c7 a8 a9 H7 H8 a5 a3 h8 hP h1 h4 c8 b7 hd;go_enter Tryz.func73,Tryz.ntmps73;go_upto_region 1 with fail;rw[<-e1.out,<-e6.out];go_wp2;clear p0 p1 p2
 go_loopg [5,6,11] np (fun gh v5 v6 v11 wr=>∃(k:Nat) (sa:Option Addr) (sd:Nat),gh+k=np/\v11=.int .i64 k/\v5=.slice sa k sd/\wr.ownsRow wA.heap.size 4 1 (.slice sa k sd) k (bls (mtsT ds k (L.getD i [])))/\wA.grownBy wr none)
 case atStart=>exact⟨0,none,0,rfl,rfl,rfl,World.ownsRow_nil _ _ _ _,zH _ _⟩
 obtain⟨k,sa,sd,c0,rfl,rfl,h0,hg⟩:=hrel;obtain⟨b2,HO,HG⟩:=K3 c0 h0 hg;have H3:=Kh (zA b3.out hg);clear c0 h0;by_cases hk:k<np
 ·have d8:(k:Int)<np:=by omega
  obtain⟨n,gb,go,gc,nb2,no2,nc2,RB,RO,RC,hv,h5,c1,c2,c3,c4,H1⟩:=(f3.out.kept H3.out (by simp)).dfa e9.out (by rw[<-H2.out];exact hk);have hq:=f0.out.2 k (by rw[<-H2.out];exact hk);rw[hv.hn]at hq;have r5:=xG (d2.out k (by rw[<-H2.out];exact hk)) H3.out;have r1:=xG b0.out H3.out;obtain⟨q,H9⟩:=Nm ((L.getD i []).getD k 0);rw[<-H9]at hq r5;have c5:=H1.fin (q:=q) hq;have c6:=H1.fcap
  have d1:Hid (bls (mtsT ds (k+1) (L.getD i []))=bls (mtsT ds k (L.getD i []))++[.bool ((ds.getD k dN).final.getD q false)]):=Kh (by
   rw[mtsT,List.range_succ,List.map_append,List.map_singleton,accT,<-H9];simp[bls,mtsT])
  obtain⟨bo,c9⟩:=Nm ((ds.getD k dN).final.getD q false);rw[<-c9]at c5 d1;obtain⟨x0,b5⟩:=Nm (((st0 (ds.getD k dN):Nat):Int):Int);rw[<-b5]at c2;have k4:gc<=9223372036854775807:=by have:=c6.2;unfold maxLen at this;omega
  have f8:(q:Int)<n:=(by omega);have f9:(i:Int)<m:=(by omega);have H0:=heap_alloc_new wr (.cells #[.int .i64 (k0:Int),.int .i64 x0,.slice (some ⟨gb,go,none⟩) n gc,.slice (some ⟨nb2,no2,none⟩) n nc2] 30);have h3:=Ga wr (.cells #[.int .i64 (k0:Int),.int .i64 x0,.slice (some ⟨gb,go,none⟩) n gc,.slice (some ⟨nb2,no2,none⟩) n nc2] 30) none;obtain⟨wR,H5⟩:=Nm (wr.alloc (.cells #[.int .i64 (k0:Int),.int .i64 x0,.slice (some ⟨gb,go,none⟩) n gc,.slice (some ⟨nb2,no2,none⟩) n nc2] 30));obtain⟨R,hR⟩:=Nm wr.heap.size;rw[<-H5]at H0 h3;rw[<-hR]at H0;obtain⟨e0,e4,f5⟩:=K3 H5 hR H0;have d3:=Kh (zA HG.out h3);have e7:=Kh (zP HO.out h3);have f6:=Kh (zB d5.out d3.out);have f2:Hid (gb<w.heap.size):=Kh (Nat.lt_of_lt_of_le H1.flt hB);have f4:=Kh (xG c5 h3);have e5:=Kh (xG r5 h3);have a6:=Kh (xG r1 h3);clear hv H1 H9 c9 b5 c6 H5 hR H0 h3 r5 r1 c5 hg;go_upto_region 5 with fail;rw[<-e0.out,<-e4.out];clear c1 c2 c3 c4;obtain⟨w5,H6⟩:=Nm wR.drew;have h2:wR.grownBy w5 none:=(by rw[H6];exact zN wR none);have e3:=Kh H6;have d4:=Kh (zA d3.out h2);have b1:=Kh (zP e7.out h2)
  have b4:Hid (∀(W:World) (row:Option Nat),w5.grownBy W row->(∀j,row=some j->(Value.slice sa k sd).ownBlock=some j)->W.cell? ⟨R,2,none⟩=some (.slice (some ⟨gb,go,none⟩) n gc)/\W.cell? ⟨P,1,none⟩=some (.slice (some ⟨sb,0,none⟩) m sc)/\W.cell? ⟨sb,i,none⟩=some (.slice (some ⟨g,ro,none⟩) np rc)/\W.cell? ⟨g,ro+k,none⟩=some (.int .i64 (q:Int))/\W.cell? ⟨gb,go+q,none⟩=some (.bool bo)):=Kh (fun W row hW h1=>by
   have b9:∀(p:Addr) (u:Value),w5.cell? p=some u->(∀j,(Value.slice sa k sd).ownBlock=some j->p.block≠j)->W.cell? p=some u:=fun p u hp hj=>by
    refine(World.cell?_of_block (hW.block p.block (World.block_lt_of_cell? w5 p hp) (fun e=>?_))).trans hp;exact hj p.block (h1 _ e.symm) rfl
   have hold:∀(p:Addr) (u:Value),w5.cell? p=some u->p.block<wA.heap.size->W.cell? p=some u:=fun p u hp hlt=>b9 p u hp (fun j hj e=>by have:=(b1.out.lt j hj).1;omega);have hz:w.heap.size<=wA.heap.size:=b3.out.size;have h7:=zB f5.out h2;have a4:=zB f6.out h2;have e2:=zJ h7 2;simp only[sPd,sPe,sPf]at e2;refine⟨b9 _ _ e2 (fun j hj e=>?_),hold _ _ (zQ a4).2.1 ?_,?_,?_,?_⟩
   ·exact zO b1.out h7 (by decide) (by rw[hj];exact congrArg some e.symm)
   ·exact zM d5.out
   ·exact hold _ _ (xG a6.out h2) (Nat.lt_of_lt_of_le (World.block_lt_of_cell? w _ b0.out) hz)
   ·exact hold _ _ (xG e5.out h2) (Nat.lt_of_lt_of_le (World.block_lt_of_cell? w _ (d2.out k (by rw[<-H2.out];exact hk))) hz)
   exact hold _ _ (xG f4.out h2) (Nat.lt_of_lt_of_le f2.out hz))
  have C5:=Kh (b4.out w5 none (zH _ _) (by simp));have f7:=d4.out.size;clear h2 H6;refine wp_region_noPanic ?_;refine xE (G:=vU 100 (fun W=>W.cell? ⟨R,2,none⟩=some (.slice (some ⟨gb,go,none⟩) n gc)/\W.cell? ⟨P,1,none⟩=some (.slice (some ⟨sb,0,none⟩) m sc)/\W.cell? ⟨sb,i,none⟩=some (.slice (some ⟨g,ro,none⟩) np rc)/\W.cell? ⟨g,ro+k,none⟩=some (.int .i64 (q:Int))/\W.cell? ⟨gb,go+q,none⟩=some (.bool bo)) (fun _=>True)) (by kernel_rfl) ?_;rw[<-e3.out];refine yG 0 ?_;refine yG 1 ?_;refine yG 2 ?_;refine yG 3 ?_;refine yG 4 ?_;refine yG 5 ?_;refine yG 6 ?_;refine yG 7 ?_;refine yG 8 ?_;refine yG 9 ?_;refine yG 10 ?_;refine yG 11 ?_;refine yG 12 ?_;refine oneG (i:=13) (by kernel_rfl) rfl (fun K hK=>?_);go_simp;have h9:=heap_alloc_new w5 (.cells #[Value.bool bo] 4);have h6:=Ga w5 (.cells #[Value.bool bo] 4) none;have H4:=zL w5 (.cells #[Value.bool bo] 4);obtain⟨R6,d0⟩:=Nm w5.heap.size;obtain⟨w6,b6⟩:=Nm (w5.alloc (.cells #[Value.bool bo] 4));rw[<-b6]at h9 h6 H4⊢;rw[<-d0]at h9⊢;refine hK.out _ _ ⟨b4.out w6 none h6 (by simp),fun _=>trivial⟩ ?_;clear hK K
  try simp only[Act.put,sPa,sPb,sPc]
  have a0:=zP b1.out h6;refine oneG (i:=14) (by kernel_rfl) rfl (fun K hK=>?_);refine qO rfl (.tmp 16) (.tmp 29) 27 rfl xL.toN wA.heap.size (.slice sa k sd) k _ rfl a0 [.bool bo] R6 rfl (0,0) rfl h9 ?z1 ?z2 ?z3 ?z4 ?_
  case z1=>intro v hv;simp only[List.mem_cons,List.not_mem_nil,or_false]at hv;subst hv;rfl
  case z2=>unfold maxLen;omega
  case z3=>show (k+1)*1<=140737488355328;omega
  case z4=>rw[H4];omega
  intro sN cN wM h0 a2 d6;have e8:Hid (wM.ownsRow wA.heap.size 4 1 (.slice sN (k+1) cN) (k+1) (bls (mtsT ds (k+1) (L.getD i [])))):=Kh (by rw[d1.out];exact h0);have f1:=Kh (zA (zA d4.out h6) a2 (fun j e=>(a0.lt j e).1));have CM:=b4.out wM _ (sQ h6 a2 (.inl rfl) (.inr (.inl rfl))) (fun j e=>e);refine hK.out _ _ ⟨CM,fun _=>trivial⟩ ?_;clear hK K h0 a2 d6 a0 h9 h6 H4 b6 d0 C5
  try simp only[Act.put,sPa,sPb,sPc]
  refine oneG (i:=15) (by kernel_rfl) rfl (fun K hK=>?_);go_simp;refine hK.out _ _ ⟨CM,fun _=>trivial⟩ ?_;clear hK K
  try simp only[Act.put,sPa,sPb,sPc]
  refine nO (by kernel_rfl) ?_ _;refine NoPanic.normal ?_;go_wp2;go_roundg (np-(k+1))
  case measure=>have:=b2.out;omega
  exact⟨k+1,sN,cN,by have:=b2.out;omega,by go_num,rfl,e8.out,f1.out⟩
 have d7:k=np:=by have:=b2.out;omega
 have d8:¬(k:Int)<np:=(by omega);subst d7;go_wp2;go_ret;refine⟨sa,sd,rfl,?_,H3.out⟩;exact yU HO.out b3.out.size
end Go.Proofs.YtcoimliafiammaaGreat
namespace Go.Proofs.YtcoimliafiammaaGreat
theorem xT {α:Type}{l m:List α}{i:Nat}{d:α}(h:i<l.length):(l++m).getD i d=l.getD i d:=by
 rw[List.getD_eq_getElem?_getD,List.getElem?_append_left h,<-List.getD_eq_getElem?_getD]
open Go.Maps Go.RowKit
def oP (l:List Nat)(np j:Nat):List Nat:=l.take j++List.replicate (np-j) 0
theorem pU {l:List Nat}{np j:Nat}(h:l.length=np)(hj:j<=np):(oP l np j).length=np:=by simp[oP];omega
theorem iL {l:List Nat}{np j:Nat}(h:l.length=np)(hj:j<np):(oP l np j).set j (l.getD j 0)=oP l np (j+1):=by
 have hl:(l.take j).length=j:=by rw[List.length_take];omega
 obtain⟨m,hm⟩:∃m,np-j=m+1:=⟨np-j-1,by omega⟩;rw[oP,List.set_append_right _ _ (by omega),hl,Nat.sub_self,hm,List.replicate_succ,List.set_cons_zero,oP,zT (d:=0) (by omega),List.append_assoc,show np-(j+1)=m by omega];rfl
theorem cH {l:List Nat}{np j:Nat}(h:l.length=np)(hj:j=np):oP l np j=l:=by
 subst hj;rw[oP,Nat.sub_self,List.replicate_zero,List.append_nil,List.take_of_length_le (by omega)]
theorem gF (l:List Nat)(np:Nat):oP l np 0=List.replicate np 0:=by simp[oP]
def NxOk (ds:List DfaV)(k:Nat)(L:List (List Nat))(nxl:List Nat)(s a:Nat):Prop :=
 nxl.length=s*k+a/\∀i b,b<k->(i<s\/(i=s/\b<a))->nxl.getD (i*k+b) 0=L.idxOf (nxtT ds (L.getD i []) b)/\nxtT ds (L.getD i []) b∈L
theorem NxOk.more {ds:List DfaV}{k s a:Nat}{L:List (List Nat)}{a9:List Nat}(h:NxOk ds k L a9 s a)(hs:s<L.length)(x:List Nat):NxOk ds k (L++[x]) a9 s a:=by
 refine⟨h.1,fun i b hb hi=>?_⟩;have h0:i<L.length:=by rcases hi with hi|⟨hi,_⟩<;>omega
 obtain⟨h1,h2⟩:=h.2 i b hb hi;rw[xT h0];exact⟨by rw[h1,List.idxOf_append,if_pos h2],List.mem_append_left _ h2⟩
theorem NxOk.push {ds:List DfaV}{k s a:Nat}{L:List (List Nat)}{a9:List Nat}(h:NxOk ds k L a9 s a)(ha:a<k)(hm:nxtT ds (L.getD s []) a∈L):NxOk ds k L (a9++[L.idxOf (nxtT ds (L.getD s []) a)]) s (a+1):=by
 refine⟨by rw[List.length_append,h.1];rfl,fun i b hb hi=>?_⟩;by_cases e:i=s/\b=a
 ·obtain⟨rfl,rfl⟩:=e
  refine⟨?_,hm⟩;rw[List.getD_eq_getElem?_getD,List.getElem?_append_right (by rw[h.1];exact Nat.le_refl _),h.1,Nat.sub_self];rfl
 have h0:i<s\/(i=s/\b<a):=by omega
 obtain⟨h1,h2⟩:=h.2 i b hb h0
 have h3:i*k+b<a9.length:=by
  rw[h.1];rcases h0 with h0|⟨rfl,hb2⟩
  ·have:i*k+k<=s*k:=by rw[<-Nat.succ_mul];exact Nat.mul_le_mul_right k h0
   omega
  omega
 rw[xT h3];exact⟨h1,h2⟩
theorem NxOk.next {ds:List DfaV}{k s:Nat}{L:List (List Nat)}{a9:List Nat}(h:NxOk ds k L a9 s k):NxOk ds k L a9 (s+1) 0 :=
 ⟨by rw[h.1,Nat.succ_mul];rfl,fun i b hb hi=>h.2 i b hb (by omega)⟩
theorem NxOk.pushNew {ds:List DfaV}{k s a:Nat}{L:List (List Nat)}{a9:List Nat}(h:NxOk ds k L a9 s a)(hs:s<L.length)(ha:a<k)(hz:nxtT ds (L.getD s []) a ∉ L):NxOk ds k (L++[nxtT ds (L.getD s []) a]) (a9++[L.length]) s (a+1):=by
 have e1:(L++[nxtT ds (L.getD s []) a]).getD s []=L.getD s []:=xT hs;have h1:=(h.more hs (nxtT ds (L.getD s []) a)).push ha (by rw[e1];simp);rw[e1]at h1;have e2:(L++[nxtT ds (L.getD s []) a]).idxOf (nxtT ds (L.getD s []) a)=L.length:=by rw[List.idxOf_append,if_neg hz];simp
 rw[e2]at h1;exact h1
def bL (ds:List DfaV)(k:Nat)(L:List (List Nat))(fr bl:List Nat):Prop :=
 fr.length=L.length/\bl.length=L.length/\∀i,0<i->i<L.length->fr.getD i 0<i/\bl.getD i 0<k/\nxtT ds (L.getD (fr.getD i 0) []) (bl.getD i 0)=L.getD i []
theorem bL.push {ds:List DfaV}{k s a:Nat}{L:List (List Nat)}{fr bl:List Nat}(h:bL ds k L fr bl)(hs:s<L.length)(ha:a<k):bL ds k (L++[nxtT ds (L.getD s []) a]) (fr++[s]) (bl++[a]):=by
 refine⟨by simp[h.1],by simp[h.2.1],fun i h0 hi=>?_⟩;rw[List.length_append,List.length_singleton]at hi;by_cases e:i=L.length
 ·subst e
  have e1:(fr++[s]).getD L.length 0=s:=by rw[<-h.1,List.getD_eq_getElem?_getD];simp
  have e2:(bl++[a]).getD L.length 0=a:=by rw[<-h.2.1,List.getD_eq_getElem?_getD];simp
  rw[e1,e2,xT hs];exact⟨hs,ha,by rw[List.getD_eq_getElem?_getD];simp⟩
 have h4:i<L.length:=by omega
 obtain⟨h1,h2,h3⟩:=h.2.2 i h0 h4;rw[xT (by rw[h.1];exact h4),xT (by rw[h.2.1];exact h4),xT (by omega),xT h4];exact⟨h1,h2,h3⟩
theorem qRG (l:List Nat)(i x:Nat):(nats l).set i (.int .i64 (x:Int))=nats (l.set i x):=by simp[nats]
theorem qTJ {ds:List DfaV}{k s a:Nat}{L:List (List Nat)}(h:BfsI (nxtT ds) k (st0T ds) L s a)(ho:OkT ds k)(hs:s<L.length):InT ds (L.getD s []):=by
 obtain⟨u,hu,e⟩:=h.re (L.getD s []) (by rw[zG hs];exact List.getElem_mem hs);rw[<-e];exact ho.walk u ho.in0 hu
theorem qIL {w:World}{p e:Nat}{x0 x1 x2 x3:Value}(h:w.heap[p]?=some (.cells #[x0,x1,x2,x3] e (0,0))):w.cell? ⟨p,0,none⟩=some x0/\w.cell? ⟨p,1,none⟩=some x1/\w.cell? ⟨p,2,none⟩=some x2/\w.cell? ⟨p,3,none⟩=some x3:=by
 have c0:=zJ h 0;have c1:=zJ h 1;have c2:=zJ h 2;have c3:=zJ h 3;simp only[sPd,sPe,sPf]at c0 c1 c2 c3;exact⟨c0,c1,c2,c3⟩
def qYV (w:World)(pv:Value)(ds:List DfaV)(k:Nat)(e:Ending)(w':World):Prop :=
 (Over ds k/\e=.returned (.tuple #[.pointer none,.bool false])/\w.grownBy w' none)\/∃o mb L nxl fr bl,e=.returned (.tuple #[.pointer (some ⟨o,0,none⟩),.bool true])/\ProdS w w.heap.size o mb k ds.length pv L nxl fr bl L.length (L.length*k) [] w'/\BfsD (nxtT ds) k (st0T ds) L/\L.length<=4000/\NxOk ds k L nxl L.length 0/\bL ds k L fr bl/\w.grownBy w' none
theorem qEP (Bd:Nat)(w:World)(v:Value)(ds:List DfaV)(k:Nat)(hB:Bd<=w.heap.size)(h:DsIn Bd w v ds)(a9:OkT ds k)(a5:1<=k)(a6:k<=6)(hl:ds.length<=400):Calls Tryz.prog 47 #[v,.int .i64 (k:Int)] w (qYV w v ds k):=by
 obtain⟨da,dc,rfl⟩:=h.shape;obtain⟨np,k2⟩:=Nm ds.length;obtain⟨h6,H,d5⟩:=K3 k2 h a9;have m2:=Kh (xBV (n:=np) (by omega));have i6:ds.length<=400:=hl;rw[<-k2]at hl H⊢;have t7:=@run_makeMap Tryz.prog;clear h a9 k2 i6;go_enter Tryz.func47,Tryz.ntmps47;go_upto_region 2 with (first|(at_make;refine kW rfl _ _ _ rfl yP rfl .i64 .i64 _ _ np rfl rfl rfl rfl ?b1 ?b2 ?_;(case b1=>omega);(case b2=>(unfold maxLen;omega));intro w1 l3 o6 k6)|fail);obtain⟨G,hG⟩:=Nm w.heap.size;rw[<-hG]at l3⊢;have s1:w.heap.size<=G:=by omega
 obtain⟨x9,q9,q8⟩:=K3 hG l3 o6;clear l3 o6 hG k6;have e8:Hid ((st0T ds).length=np):=Kh (by rw[rB,h6.out]);go_wp2
 go_loopg [7,8,24] np (fun gh a7 a8 i wr=>∃j:Nat,gh+j=np/\i=.int .i64 j/\Arr wr G 3 (nats (oP (st0T ds) np j))/\w.grownBy wr none)
 case atStart=>exact⟨0,rfl,rfl,by rw[gF,xJ];exact q9.out,q8.out⟩
 clear q9 q8;obtain⟨j,g4,rfl,ha,hg⟩:=hrel;obtain⟨e9,t3,HG⟩:=K3 g4 ha hg;clear g4;by_cases hj:j<np
 ·have r3:(j:Int)<np:=by omega
  obtain⟨b,off,cap,e,l0,k9,hd⟩:=(H.out.kept hg (by simp)).head (by rw[<-h6.out];omega);rw[<-h6.out]at e l0;simp only[Value.slice.injEq,true_and]at e;obtain⟨rfl,rfl⟩:=e;have c8:dc<=9223372036854775807:=by unfold maxLen at k9;omega
  obtain⟨n,fb,fo,fc,nb,no,nc,RB,RO,RC,hv,h5,c1,c2,c3,c4,i7⟩:=hd.dfa d5.out (by rw[<-h6.out];exact hj);have h3:=iL e8.out hj;rw[fT (by rw[<-h6.out];exact hj)]at h3;have j6:st0 (ds.getD j dN)<512:=(by have:=oJ hv;omega);obtain⟨x,hx⟩:=Nm (st0 (ds.getD j dN));rw[<-hx]at c2 h3 j6;have d4:=Kh h3;have fG:=ha.frozen j;have cG:=Arr.nat ha j (by rw[pU e8.out (by omega)];exact hj);have s0:=ha.lt;clear hd i7 hv hx h3 ha;go_wp2;go_roundg (np-(j+1))
  case measure=>have:=e9.out;omega
  have r5:=zD wr ⟨G,j,none⟩ (.int .i64 (x:Int));have H6:=Ga (wr.setCell ⟨G,j,none⟩ (.int .i64 (x:Int))) (.cells #[.int .i64 (k:Int),.int .i64 (x:Int),.slice (some ⟨fb,fo,none⟩) n fc,.slice (some ⟨nb,no,none⟩) n nc] 30) none;refine⟨j+1,by have:=e9.out;omega,by go_num,?_,zA (zY HG.out r5 (by show _<=G;omega)) H6⟩;rw[<-d4.out];exact(t3.out.nat_set j (by rw[pU e8.out (by omega)];exact hj) x).kept H6 (by simp)
 have o1:j=np:=by have:=e9.out;omega
 have r3:¬(j:Int)<np:=(by omega);rw[cH e8.out o1]at ha;have o8:=Kh ha;obtain⟨wo,rfl⟩:=Nm (wr:World);obtain⟨w5,a3⟩:=Nm ((((wo.alloc (.cells #[.slice (some ⟨G,0,none⟩) np np] 22)).alloc (.cells #[.int .i64 0] 3)).alloc (.cells #[.int .i64 0] 3)).alloc (.cells #[.int .i64 (k:Int),.slice da np dc,.slice (some ⟨wo.heap.size,0,none⟩) 1 1,.slice none 0 0,.slice (some ⟨wo.heap.size+1,0,none⟩) 1 1,.slice (some ⟨wo.heap.size+1+1,0,none⟩) 1 1] 106));obtain⟨l1,n4,o4⟩:=qMP (k:=k) (pv:=.slice da np dc) hg ha s1 e8.out (by omega) a3;obtain⟨s2,n3⟩:=Nm wo.heap.size;obtain⟨s3,n2⟩:=Nm (wo.heap.size+1);obtain⟨s4,n1⟩:=Nm (wo.heap.size+1+1);obtain⟨o,ho⟩:=Nm (wo.heap.size+1+1+1);have p0:=Kh a3;have HO:=Kh ho;rw[<-ho,<-n1,<-n2,<-n3]at l1;obtain⟨j5,l8,m5⟩:=K3 l1 n4 o4;clear o1 hg ha a3 ho n3 n2 n1 l1 n4 o4;go_upto_region 8 with fail;rw[<-p0.out,<-HO.out];have b3:=Ga w5 (.map #[] 0) none;have k4:=MapK.made 9 (pA np) (fun l=>.string (txtT (kb l))) w5;obtain⟨w6,i1⟩:=Nm (w5.alloc (.map #[] 0));obtain⟨mb,a0⟩:=Nm w5.heap.size;rw[<-i1,<-a0]at k4;rw[<-i1]at b3;obtain⟨o9,d7,q7,q6⟩:=K4 i1 a0 b3 k4
 have p6:Hid (pA np (st0T ds)):=Kh (by
  refine⟨e8.out,fun x hx=>?_⟩;obtain⟨i,hi,rfl⟩:=List.getElem_of_mem hx;have:=d5.out.small d5.out.in0 i (by rw[rB]at hi;exact hi)
  rwa [zG hi]at this)
 have H8:Hid (Row w5.heap.size w5 (.slice (some ⟨G,0,none⟩) np np) (nats (st0T ds))):=Kh (l8.out.2 0 (by simp) (by simp)).1.row;have H2:Hid (Calls Tryz.prog 65 #[.slice (some ⟨G,0,none⟩) np np] w6 fun e w'=>e=.returned (.string (txtT (kb (st0T ds))))/\w6.grownBy w' none):=Kh (qKZ w5.heap.size w6 _ (st0T ds) np b3.size (H8.out.kept b3 (by simp)) p6.out (by omega));obtain⟨T0,l4⟩:=Nm (txtT (kb (st0T ds)));rw[<-l4]at H2;have s8:=Kh l4;clear b3 k4 i1 a0 l4;go_wp2_with fail;rw[<-d7.out,<-o9.out];refine H2.out.mono ?_;rintro e w7 ⟨rfl,k7⟩;have m1:=Kh (q6.out.kept k7 (by simp));have i0:=Kh (zA q7.out k7);clear k7 H2;obtain⟨w8,r8,f9,e6,g5⟩:=m1.out.upd m2.out (z:=st0T ds) (y:=0) (by unfold maxLen;omega) p6.out (by omega);have f8:Sem.run Tryz.prog (Instr.mapUpdate 108 (.map (some mb)) (.string T0) (.int .i64 0)) w7=.ok r8 w8:=by rw[s8.out];exact f9
 clear f9;go_wp2;clear f8
 have g1:(fun q=>if q=st0T ds then some 0 else (none:Option Nat))=numE [st0T ds]:=by
  funext q;unfold numE;by_cases e:q=st0T ds
  ·rw[if_pos e,if_pos (by simp[e]),e];simp
  rw[if_neg e,if_neg (by simpa using e)]
 have g2:MapK 9 (pA np) (fun l=>.string (txtT (kb l))) w8 mb 1 1 (numE [st0T ds]):=by rw[<-g1];exact e6
 have d0:=j5.out.grow i0.out;have k3:w5.heap.size<=mb:=by rw[d7.out];exact Nat.le_refl _
 have k0:o<w5.heap.size:=zM j5.out.box;have l5:=o8.out.lt;have r0:=j5.out.mem.lt G rfl;have a1:=d0.far g5 (fun r hr=>yL (es:=#[]) (clock:=0) (d0.mem.own r hr) m1.out.obj) (fun e=>by have e:mb=G:=e;omega) (fun e=>by omega) (by have:=m5.out.size;omega);have q5:Hid (ProdS w w.heap.size o mb k np (.slice da np dc) [st0T ds] [] [0] [0] 1 0 [] w8):=Kh ⟨_,_,_,_,_,_,_,_,_,_,1,1,a1.rebase,l8.out.kept a1.kept a1.wk,g2,fun e=>by have e:mb=G:=e;omega,by have:=m5.out.size;omega,by omega,⟨rfl,rfl,rfl,rfl⟩,rfl⟩;clear e6 g2 g5 g1 d0 a1 j5 l8 m1 i0 H8 q6 q7 o9 d7 k3 k0 l5 r0 p0 HO m5 o8
 go_loopg [11,12,13,14,15,16,17,18,57,65] 4000 (fun gh v11 a12 a13 a14 a15 a16 a17 a18 a57 a65 wr=>∃(s:Nat) (L:List (List Nat)) (nxl fr bl:List Nat),gh+s=4000/\v11=.int .i64 s/\ProdS w w.heap.size o mb k np (.slice da np dc) L nxl fr bl L.length (s*k) [] wr/\BfsI (nxtT ds) k (st0T ds) L s 0/\L.length<=4000/\NxOk ds k L nxl s 0/\bL ds k L fr bl)
 case atStart=>exact⟨0,[st0T ds],[],[0],[0],rfl,rfl,by rw[Nat.zero_mul];exact q5.out,BfsI.start,by simp,⟨by simp,fun i b hb hi=>by omega⟩,⟨rfl,rfl,fun i h0 hi=>by simp at hi;omega⟩⟩
 clear q5;obtain⟨s,L,nxl,fr,bl,g4,rfl,hp,b4,b5,e5,e7⟩:=hrel;obtain⟨e9,HP,b7,d6,e0⟩:=K5 g4 hp b4 e5 e7;have a4:=b4.le;obtain⟨m,hm⟩:=Nm L.length;rw[<-hm]at a4 b5 HP;have h8:=Kh hm;obtain⟨sS,cS,sN,cN,sF,cF,sB,cB,h7,_⟩:=HP.out.cells;obtain⟨x0,x1,x2,x3,x4,x5⟩:=gJ h7;clear g4 hp b4 e5 e7 hm h7;by_cases hs:s<m
 case neg =>
  have j7:¬(s:Int)<m:=(by omega);have r1:s=m:=by omega
  have HD:Hid (BfsD (nxtT ds) k (st0T ds) L):=Kh (b7.out.done (by rw[<-h8.out];omega));subst r1;go_wp2;refine bodyPost_ret (v:=.tuple #[.pointer (some ⟨o,0,none⟩),.bool true]) (by simp[results,Tryz.results47,go_sem]) rfl ?_;refine .inr ⟨o,mb,L,nxl,fr,bl,rfl,?_,HD.out,by rw[<-h8.out];exact b5,?_,e0.out,HP.out.facts.1⟩
  ·have:=HP.out;rw[h8.out,h6.out]at this;rw[<-h6.out];rw[h6.out];exact this
  have:=d6.out;rw[h8.out]at this;exact this
 have j7:(s:Int)<m:=(by omega);have p5:Hid (s<L.length):=Kh (by rw[<-h8.out];exact hs);have p9:Hid (ProdS w w.heap.size o mb k np (.slice da np dc) L nxl fr bl L.length (s*k) [] wr):=Kh (by have:=HP.out;rw[h8.out]at this;exact this);have d8:Hid (L.length<=4000):=Kh (by rw[<-h8.out];exact b5);go_wp2;clear x0 x1 x2 x3 x4 x5 hs j7 a4 b5 HP
 go_loopg [12,13,14,15,16,17,18,57,65] k (fun gh b12 b13 b14 b15 b16 b17 b18 b57 b65 w2=>∃(a:Nat) (L:List (List Nat)) (nxl fr bl:List Nat),gh+a=k/\b57=.int .i64 a/\ProdS w w.heap.size o mb k np (.slice da np dc) L nxl fr bl L.length (s*k+a) [] w2/\BfsI (nxtT ds) k (st0T ds) L s a/\s<L.length/\L.length<=4000/\NxOk ds k L nxl s a/\bL ds k L fr bl)
 case atStart=>exact⟨0,L,nxl,fr,bl,rfl,rfl,p9.out,b7.out,p5.out,d8.out,d6.out,e0.out⟩
 clear p9 b7 d6 e0 h8 p5 d8;obtain⟨w2,rfl⟩:=Nm (wr:World);obtain⟨a,L2,nx2,fr2,bl2,H6,rfl,hp,b4,a4,b5,e5,e7⟩:=hrel;obtain⟨j4,HP,b7,d6,e0,b6⟩:=K6 H6 hp b4 e5 e7 a4;have d8:=Kh b5;by_cases ha:a<k
 case neg =>
  have r7:¬(a:Int)<k:=(by omega);have o7:a=k:=by omega
  have m7:=Kh o7;clear H6 hp b4 a4 b5 e5 e7 o7;go_wp2;go_roundg (4000-(s+1))
  case measure=>have:=e9.out;have:=b6.out;have:=d8.out;omega
  have h9:s<4000:=(by have:=b6.out;have:=d8.out;omega);refine⟨s+1,L2,nx2,fr2,bl2,by have:=e9.out;omega,by(refine congrArg _ ?_;rw[IntWalk.wrap64_in _ (by omega)];omega),?_,?_,d8.out,?_,e0.out⟩
  ·rw[Nat.succ_mul];have:=HP.out;rw[m7.out]at this;exact this
  ·have:=b7.out;rw[m7.out]at this;exact this.next b6.out
  have:=d6.out;rw[m7.out]at this;exact this.next
 have r7:(a:Int)<k:=(by omega);have d9:=Kh (qTJ b4 d5.out a4);obtain⟨x,hx⟩:=Nm (L2.getD s []);rw[<-hx]at d9;have HX:=Kh hx;obtain⟨q0,j9⟩:=Nm (s*k+a);rw[<-j9]at HP;have i8:=Kh j9;obtain⟨m,hm⟩:=Nm L2.length;rw[<-hm]at HP b5 a4;have h8:=Kh hm;clear H6 hp b4 e5 e7 hx j9 hm;go_upto_region 16 with (first|(at_make;refine xBQ rfl _ _ _ rfl yP rfl .i64 .i64 _ _ np rfl rfl rfl rfl ?b1 ?b2 ?_;(case b1=>omega);(case b2=>(unfold maxLen;omega));intro w3 b0 o5 k5)|fail);obtain⟨rb,n6⟩:=Nm w2.heap.size;have i5:=HP.out.addRow o5 b0 (by decide);rw[<-n6]at i5⊢;rw[<-xJ,<-gF (nxtT ds x a)]at i5;have p8:=Kh i5;have j0:Hid ((nxtT ds x a).length=np):=Kh (by rw[nG,h6.out]);have x8:Hid (w.heap.size<=rb):=Kh (by have:=HP.out.facts;omega);clear b0 o5 k5 i5 n6 HP;go_wp2
 go_loopg [14,15,65] np (fun gh c14 c15 c65 w4=>∃i:Nat,gh+i=np/\c65=.int .i64 i/\ProdS w w.heap.size o mb k np (.slice da np dc) L2 nx2 fr2 bl2 m q0 [⟨w.heap.size,3,.slice (some ⟨rb,0,none⟩) np np,np,nats (oP (nxtT ds x a) np i),1⟩] w4)
 case atStart=>exact⟨0,rfl,rfl,p8.out⟩
 clear p8;obtain⟨w4,rfl⟩:=Nm (wr:World);obtain⟨i,o3,rfl,hp⟩:=hrel;have m4:=Kh o3;have HP:=Kh hp;clear o3;by_cases hi:i<np
 case pos =>
  have r4:(i:Int)<np:=(by omega);obtain⟨b,off,cap,e,l0,k9,hd⟩:=(H.out.kept hp.facts.1 (by simp)).head (by rw[<-h6.out];omega);rw[<-h6.out]at e l0;simp only[Value.slice.injEq,true_and]at e;obtain⟨rfl,rfl⟩:=e;have c8:dc<=9223372036854775807:=by unfold maxLen at k9;omega
  obtain⟨n,fb,fo,fc,nb,no,nc,RB,RO,RC,hv,h5,c1,c2,c3,c4,i7⟩:=hd.dfa d5.out (by rw[<-h6.out];exact hi);have hq:x.getD i 0<n:=(by have:=d9.out.2 i (by rw[<-h6.out];exact hi);rw[hv.hn]at this;exact this);have t2:=Kh i7;have HD:=Kh hd;obtain⟨st,f7⟩:=Nm (st0 (ds.getD i dN));rw[<-f7]at c2;have HQ:=Kh hq;clear hd i7 hv hp f7;go_upto_region 19 with fail;have H6:=Ga w4 (.cells #[.int .i64 (k:Int),.int .i64 (st:Int),.slice (some ⟨fb,fo,none⟩) n fc,.slice (some ⟨nb,no,none⟩) n nc] 30) none;have l2:=heap_alloc_new w4 (.cells #[.int .i64 (k:Int),.int .i64 (st:Int),.slice (some ⟨fb,fo,none⟩) n fc,.slice (some ⟨nb,no,none⟩) n nc] 30);obtain⟨w5,a3⟩:=Nm (w4.alloc (.cells #[.int .i64 (k:Int),.int .i64 (st:Int),.slice (some ⟨fb,fo,none⟩) n fc,.slice (some ⟨nb,no,none⟩) n nc] 30));obtain⟨db,k8⟩:=Nm w4.heap.size;rw[<-a3]at H6;rw[<-a3,<-k8]at l2;rw[<-a3,<-k8];obtain⟨_,_,_,d3⟩:=qIL l2;have i4:=HP.out.grow H6;have s9:=Kh i4;have H7:=t2.out.kept H6 (by simp);have e1:=H7.hd (x.getD i 0) HQ.out;have e2:=H7.el (x.getD i 0) a HQ.out ha;have e3:=H7.cap;have e4:=H7.rcap (x.getD i 0) HQ.out;obtain⟨sS,cS,sN,cN,sF,cF,sB,cB,h7,i2⟩:=i4.cells;obtain⟨x0,x1,x2,x3,x4,x5⟩:=gJ h7;obtain⟨sb,rfl,r6,g6,i2⟩:=i2 (by omega);obtain⟨g,go,gc,f1,f2,f3,f4⟩:=i2 s a4 (by rw[<-HX.out];intro e;have:=d9.out.1;rw[e,<-h6.out]at this;simp at this;omega);rw[<-HX.out]at f1 f2 f4;have f5:=f4 i (by rw[d9.out.1,<-h6.out];exact hi);rw[d9.out.1,<-h6.out]at f1 f2;have hR:=i4.arr;have fR:=hR.frozen i;have cR:=Arr.nat hR i (by rw[pU j0.out (by omega)];exact hi);have r9:=hR.lt;have x6:cS<=9223372036854775807:=by unfold maxLen at g6;omega
  have t9:gc<=9223372036854775807:=by unfold maxLen at f3;omega
  have t6:nc<=9223372036854775807:=by unfold maxLen at e3;omega
  have n5:RC (x.getD i 0)<=9223372036854775807:=by unfold maxLen at e4;omega
  have h3:=iL j0.out hi;rw[fX (by rw[<-h6.out];exact hi)]at h3;obtain⟨qq,j8⟩:=Nm (x.getD i 0);rw[<-j8]at e1 e2 e4 f5 h3 n5;have t5:(qq:Int)<n:=(by rw[j8];have:=HQ.out;omega);obtain⟨rb2,c7⟩:=Nm (RB qq);obtain⟨ro2,c5⟩:=Nm (RO qq);obtain⟨rc2,c6⟩:=Nm (RC qq);obtain⟨y,hy⟩:=Nm (nx (ds.getD i dN) qq a);rw[<-c7,<-c5,<-c6]at e1;rw[<-c7,<-c5,<-hy]at e2;rw[<-c6]at e4 n5;rw[<-hy]at h3;have d4:=Kh h3;obtain⟨e3a,_⟩:=e3;obtain⟨e4a,_⟩:=e4;have j7:(s:Int)<m:=(by omega);clear h3 hy c7 c5 c6 j8 f4 i2 h7 i4 H7 l2 H6 a3 k8 d9 hR g6 f3
  go_region
  all_goals (try go_frame)
  go_wp2;go_roundg (np-(i+1))
  case measure=>have:=m4.out;omega
  refine⟨i+1,by have:=m4.out;omega,by go_num,?_⟩;rw[<-d4.out,<-qRG];exact(s9.out.put hi (.int .i64 (y:Int))).grow (zN _ none)
 have r4:¬(i:Int)<np:=(by omega);have o2:i=np:=by have:=m4.out;omega
 rw[cH j0.out o2]at hp;obtain⟨z,hz⟩:=Nm (nxtT ds x a);have f0:z.length=np:=by rw[hz];exact j0.out
 have l7:Hid (pA np z):=Kh (by
  have h1:=d5.out.next d9.out ha;rw[<-hz]at h1;refine⟨f0,fun y hy=>?_⟩;obtain⟨j,hj,rfl⟩:=List.getElem_of_mem hy;have:=d5.out.small h1 j (by rw[<-h6.out,<-f0];exact hj)
  rwa [zG hj]at this)
 rw[<-hz]at hp;have p7:=Kh hp;have H8:Hid (Row w4.heap.size w4 (.slice (some ⟨rb,0,none⟩) np np) (nats z)):=Kh (qTM (X:=fun _=>True) hp.arr f0 (by unfold maxLen;omega) trivial).row;have H2:Hid (Calls Tryz.prog 65 #[.slice (some ⟨rb,0,none⟩) np np] w4 fun e w'=>e=.returned (.string (txtT (kb z)))/\w4.grownBy w' none):=Kh (qKZ w4.heap.size w4 _ z np (Nat.le_refl _) H8.out l7.out (by omega));obtain⟨T,hT⟩:=Nm (txtT (kb z));rw[<-hT]at H2;obtain⟨HT,HZ,x7⟩:=K3 hT hz f0;clear o2 hp hz hT f0 HP H8;go_wp2_with fail;refine H2.out.mono ?_;rintro e w6 ⟨rfl,b3⟩;have i3:=p7.out.grow b3;obtain⟨u,c,hu,hM⟩:=i3.map;obtain⟨i9,HM,HU⟩:=K3 i3 hM hu;obtain⟨sS,cS,sN,cN,sF,cF,sB,cB,h7,_⟩:=i3.cells;obtain⟨x0,x1,x2,x3,x4,x5⟩:=gJ h7;have H1:=hM.lookup m2.out l7.out;clear b3 i3 hM hu h7 H2 p7;have m6:Hid (L2[s]?=some x):=Kh (by rw[HX.out,List.getD_eq_getElem?_getD,List.getElem?_eq_getElem b6.out];rfl);by_cases hmem:z∈L2
 case pos =>
  obtain⟨y,hy⟩:=Nm (L2.idxOf z);have t4:y<m:=by rw[hy,h8.out];exact List.idxOf_lt_length_of_mem hmem
  have i6:Sem.run Tryz.prog (Instr.lookup 108 (.map (some mb)) (.string T) true) w6=.ok (.tuple #[.int .i64 (y:Int),.bool true]) w6:=by
   rw[dL hmem,<-hy]at H1;rw[HT.out];exact H1
  obtain⟨X,hs,sS,sN,sF,sB,cS,cN,cF,cB,hB,s5,hE,c8,a0,hl,g3⟩:=i9.out.open_ (zH w6 (some mb)) HM.out.obj;obtain⟨X1,d1⟩:=Nm (fun j=>X j\/j=mb);rw[<-d1]at hB;obtain⟨HS,HE,m0,d7,HL,m3⟩:=K6 hB hE c8 a0 hl g3;obtain⟨l6,HY,H5⟩:=K3 d1 hy hmem;have l9:Hid (q0<=24000):=Kh (by rw[i8.out];have h1:s*k<=3999*6:=Nat.mul_le_mul (by omega) a6;omega);have r2:=l9.out;clear x0 x1 x2 x3 x4 x5 H1 hB s5 hE c8 a0 hl g3 d1 hy hmem;have q1:=zJ HS.out.box 3;simp only[sPd,sPe,sPf]at q1;have g0:=HS.out.own (r:=⟨w.heap.size,3,.slice sN q0 cN,q0,nats nx2,1⟩) (by simp);have f6:=Nat.le_trans HS.out.base HS.out.wk;go_upto_region 32 with (first|(at_builtin;refine vZ rfl _ _ _ rfl yP.toN w.heap.size (.slice sN q0 cN) (q0) (nats nx2) rfl g0 [.int .i64 (y:Int)] rfl rfl ?z1 ?z2 ?z3 ?z4 ?_;(case z1=>(intro v hv;simp only[List.mem_cons,List.not_mem_nil,or_false]at hv;subst hv;rfl));(case z2=>(unfold maxLen;omega));(case z3=>(show (q0+1)*8<=140737488355328;omega));(case z4=>exact f6);intro sn1 cn1 wM1 h2 H4 H3;(have a2:Hid (BoxS w.heap.size X1 o 106 w w6 (⟨w.heap.size,22,.slice sS m cS,m,hs,1⟩::⟨w.heap.size,3,.slice sn1 (q0+1) cn1,(q0+1),nats nx2++[.int .i64 (y:Int)],1⟩::⟨w.heap.size,3,.slice sF m cF,m,nats fr2,1⟩::⟨w.heap.size,3,.slice sB m cB,m,nats bl2,1⟩::[]) #[.int .i64 (k:Int),.slice da np dc,.slice sS m cS,.slice sN q0 cN,.slice sF m cF,.slice sB m cB] wM1):=Kh (HS.out.appAt (j:=1) rfl h2 H4 H3));(have p1:=zJ a2.out.box 3);simp only[sPd,sPe,sPf]at p1;(have f1:=zF a2.out.box 3);clear h2 H4 H3 q1)|fail);obtain⟨wZ1,H0⟩:=Nm (wM1.setCell ⟨o,3,none⟩ (.slice sn1 (q0+1) cn1));have d2:Hid (BoxS w.heap.size X1 o 106 w w6 (⟨w.heap.size,22,.slice sS m cS,m,hs,1⟩::⟨w.heap.size,3,.slice sn1 (q0+1) cn1,(q0+1),nats nx2++[.int .i64 (y:Int)],1⟩::⟨w.heap.size,3,.slice sF m cF,m,nats fr2,1⟩::⟨w.heap.size,3,.slice sB m cB,m,nats bl2,1⟩::[]) #[.int .i64 (k:Int),.slice da np dc,.slice sS m cS,.slice sn1 (q0+1) cn1,.slice sF m cF,.slice sB m cB] wZ1):=Kh (by rw[H0];exact a2.out.set 3 (.slice sn1 (q0+1) cn1));rw[<-H0];clear H0 g0 f6 a2 p1 f1;go_wp2;go_roundg (k-(a+1))
  case measure=>have:=j4.out;omega
  have H9:z=nxtT ds (L2.getD s []) a:=by rw[HZ.out,HX.out]
  refine⟨a+1,L2,nx2++[y],fr2,bl2,by have:=j4.out;omega,by go_num,?_,b7.out.old m6.out (by rw[<-HX.out]at H9;rw[<-H9];exact H5.out),b6.out,d8.out,?_,e0.out⟩
  ·have e1:s*k+(a+1)=q0+1:=by rw[i8.out];rfl
   rw[e1,<-h8.out];have hb:=d2.out;rw[<-uE,l6.out]at hb;exact aK hb HE.out HM.out m0.out d7.out HU.out ⟨HL.out.1,by rw[List.length_append,HL.out.2.1];rfl,HL.out.2.2⟩ m3.out
  rw[HY.out,H9];exact d6.out.push ha (by rw[<-H9];exact H5.out)
 have i6:Sem.run Tryz.prog (Instr.lookup 108 (.map (some mb)) (.string T) true) w6=.ok (.tuple #[.int .i64 0,.bool false]) w6:=by
  rw[qKC hmem]at H1;rw[HT.out];exact H1
 have H9:z=nxtT ds (L2.getD s []) a:=by rw[HZ.out,HX.out]
 have g7:=Kh H9;have H5:=Kh hmem;by_cases h4:m=4000
 case pos =>
  have t0:Hid (Over ds k):=Kh (b7.out.over (by rw[<-h8.out];exact h4) ha m6.out (by rw[<-HX.out]at H9;rw[<-H9];exact hmem));subst h4;clear H1 H9 hmem;go_wp2;refine bodyPost_ret (v:=.tuple #[.pointer none,.bool false]) (by simp[results,Tryz.results47,go_sem]) rfl ?_;exact .inl ⟨t0.out,rfl,i9.out.facts.1⟩
 have s6:¬(m:Int)=4000:=by omega
 clear H1 H9 hmem;go_upto_region 28 with (first|(at_mapUpdate;refine oH m2.out rfl _ _ _ rfl mb u c (numE L2) z m rfl ?k1 rfl HM.out (by have:=HU.out;unfold maxLen;omega) l7.out (by omega) ?_;(case k1=>(show _=Value.string (txtT (kb z));rw[<-HT.out];rfl));intro w8 e6 g5)|fail);obtain⟨c9,o0⟩:∃c9,MapK 9 (pA np) (fun l=>.string (txtT (kb l))) w8 mb (u+1) c9 (numE (L2++[z])):=⟨_,by rw[<-qEN H5.out,<-h8.out];exact e6⟩;obtain⟨X,hs,sS,sN,sF,sB,cS,cN,cF,cB,hB,hE,_,c8,a0,hl,g3⟩:=i9.out.open_ g5 e6.obj;obtain⟨X1,d1⟩:=Nm (fun j=>X j\/j=mb);rw[<-d1]at hB;obtain⟨HS,HE,m0,d7,HL,m3⟩:=K6 hB hE c8 a0 hl g3;have l6:=Kh d1;have t1:=Kh o0;have l9:Hid (q0<=24000):=Kh (by rw[i8.out];have h1:s*k<=3999*6:=Nat.mul_le_mul (by omega) a6;omega);have r2:=l9.out;have t8:m<4000:=(by omega);clear x0 x1 x2 x3 x4 x5 hB hE c8 a0 hl g3 d1 e6 o0 g5 h4 s6 i6 i9 HM;have q1:=zJ HS.out.box 2;simp only[sPd,sPe,sPf]at q1;have g0:=HS.out.own (r:=⟨w.heap.size,22,.slice sS m cS,m,hs,1⟩) (by simp);have f6:=Nat.le_trans HS.out.base HS.out.wk;go_upto_region 29 with (first|(at_builtin;refine vZ rfl _ _ _ rfl vX.toN w.heap.size (.slice sS m cS) (m) (hs) rfl g0 [.slice (some ⟨rb,0,none⟩) np np] rfl rfl ?z1 ?z2 ?z3 ?z4 ?_;(case z1=>(intro v hv;simp only[List.mem_cons,List.not_mem_nil,or_false]at hv;subst hv;rfl));(case z2=>(unfold maxLen;omega));(case z3=>(show (m+1)*24<=140737488355328;omega));(case z4=>exact f6);intro sn1 cn1 wM1 h2 H4 H3;(have a2:Hid (BoxS w.heap.size X1 o 106 w w8 (⟨w.heap.size,22,.slice sn1 (m+1) cn1,(m+1),hs++[.slice (some ⟨rb,0,none⟩) np np],1⟩::⟨w.heap.size,3,.slice sN q0 cN,q0,nats nx2,1⟩::⟨w.heap.size,3,.slice sF m cF,m,nats fr2,1⟩::⟨w.heap.size,3,.slice sB m cB,m,nats bl2,1⟩::[]) #[.int .i64 (k:Int),.slice da np dc,.slice sS m cS,.slice sN q0 cN,.slice sF m cF,.slice sB m cB] wM1):=Kh (HS.out.appAt (j:=0) rfl h2 H4 H3));(have p1:=zJ a2.out.box 2);simp only[sPd,sPe,sPf]at p1;(have f1:=zF a2.out.box 2);clear h2 H4 H3 q1)|fail);obtain⟨wZ1,H0⟩:=Nm (wM1.setCell ⟨o,2,none⟩ (.slice sn1 (m+1) cn1));have d2:Hid (BoxS w.heap.size X1 o 106 w w8 (⟨w.heap.size,22,.slice sn1 (m+1) cn1,(m+1),hs++[.slice (some ⟨rb,0,none⟩) np np],1⟩::⟨w.heap.size,3,.slice sN q0 cN,q0,nats nx2,1⟩::⟨w.heap.size,3,.slice sF m cF,m,nats fr2,1⟩::⟨w.heap.size,3,.slice sB m cB,m,nats bl2,1⟩::[]) #[.int .i64 (k:Int),.slice da np dc,.slice sn1 (m+1) cn1,.slice sN q0 cN,.slice sF m cF,.slice sB m cB] wZ1):=Kh (by rw[H0];exact a2.out.set 2 (.slice sn1 (m+1) cn1));rw[<-H0];clear H0 g0 f6 a2 p1 f1;have q2:=zJ d2.out.box 4;simp only[sPd,sPe,sPf]at q2;have n9:=d2.out.own (r:=⟨w.heap.size,3,.slice sF m cF,m,nats fr2,1⟩) (by simp);have n0:=Nat.le_trans d2.out.base d2.out.wk;go_upto_region 30 with (first|(at_builtin;refine vZ rfl _ _ _ rfl yP.toN w.heap.size (.slice sF m cF) (m) (nats fr2) rfl n9 [.int .i64 (s:Int)] rfl rfl ?z1 ?z2 ?z3 ?z4 ?_;(case z1=>(intro v hv;simp only[List.mem_cons,List.not_mem_nil,or_false]at hv;subst hv;rfl));(case z2=>(unfold maxLen;omega));(case z3=>(show (m+1)*8<=140737488355328;omega));(case z4=>exact n0);intro sn2 cn2 wM2 h2 H4 H3;(have j3:Hid (BoxS w.heap.size X1 o 106 w w8 (⟨w.heap.size,22,.slice sn1 (m+1) cn1,(m+1),hs++[.slice (some ⟨rb,0,none⟩) np np],1⟩::⟨w.heap.size,3,.slice sN q0 cN,q0,nats nx2,1⟩::⟨w.heap.size,3,.slice sn2 (m+1) cn2,(m+1),nats fr2++[.int .i64 (s:Int)],1⟩::⟨w.heap.size,3,.slice sB m cB,m,nats bl2,1⟩::[]) #[.int .i64 (k:Int),.slice da np dc,.slice sn1 (m+1) cn1,.slice sN q0 cN,.slice sF m cF,.slice sB m cB] wM2):=Kh (d2.out.appAt (j:=2) rfl h2 H4 H3));(have p2:=zJ j3.out.box 4);simp only[sPd,sPe,sPf]at p2;(have f2:=zF j3.out.box 4);clear h2 H4 H3 q2)|fail);obtain⟨wZ2,c0⟩:=Nm (wM2.setCell ⟨o,4,none⟩ (.slice sn2 (m+1) cn2));have g9:Hid (BoxS w.heap.size X1 o 106 w w8 (⟨w.heap.size,22,.slice sn1 (m+1) cn1,(m+1),hs++[.slice (some ⟨rb,0,none⟩) np np],1⟩::⟨w.heap.size,3,.slice sN q0 cN,q0,nats nx2,1⟩::⟨w.heap.size,3,.slice sn2 (m+1) cn2,(m+1),nats fr2++[.int .i64 (s:Int)],1⟩::⟨w.heap.size,3,.slice sB m cB,m,nats bl2,1⟩::[]) #[.int .i64 (k:Int),.slice da np dc,.slice sn1 (m+1) cn1,.slice sN q0 cN,.slice sn2 (m+1) cn2,.slice sB m cB] wZ2):=Kh (by rw[c0];exact j3.out.set 4 (.slice sn2 (m+1) cn2));rw[<-c0];clear c0 n9 n0 j3 p2 f2;have q3:=zJ g9.out.box 5;simp only[sPd,sPe,sPf]at q3;have n8:=g9.out.own (r:=⟨w.heap.size,3,.slice sB m cB,m,nats bl2,1⟩) (by simp);have m9:=Nat.le_trans g9.out.base g9.out.wk;go_upto_region 31 with (first|(at_builtin;refine vZ rfl _ _ _ rfl yP.toN w.heap.size (.slice sB m cB) (m) (nats bl2) rfl n8 [.int .i64 (a:Int)] rfl rfl ?z1 ?z2 ?z3 ?z4 ?_;(case z1=>(intro v hv;simp only[List.mem_cons,List.not_mem_nil,or_false]at hv;subst hv;rfl));(case z2=>(unfold maxLen;omega));(case z3=>(show (m+1)*8<=140737488355328;omega));(case z4=>exact m9);intro sn3 cn3 wM3 h2 H4 H3;(have j2:Hid (BoxS w.heap.size X1 o 106 w w8 (⟨w.heap.size,22,.slice sn1 (m+1) cn1,(m+1),hs++[.slice (some ⟨rb,0,none⟩) np np],1⟩::⟨w.heap.size,3,.slice sN q0 cN,q0,nats nx2,1⟩::⟨w.heap.size,3,.slice sn2 (m+1) cn2,(m+1),nats fr2++[.int .i64 (s:Int)],1⟩::⟨w.heap.size,3,.slice sn3 (m+1) cn3,(m+1),nats bl2++[.int .i64 (a:Int)],1⟩::[]) #[.int .i64 (k:Int),.slice da np dc,.slice sn1 (m+1) cn1,.slice sN q0 cN,.slice sn2 (m+1) cn2,.slice sB m cB] wM3):=Kh (g9.out.appAt (j:=3) rfl h2 H4 H3));(have p3:=zJ j2.out.box 5);simp only[sPd,sPe,sPf]at p3;(have f3:=zF j2.out.box 5);clear h2 H4 H3 q3)|fail);obtain⟨wZ3,b9⟩:=Nm (wM3.setCell ⟨o,5,none⟩ (.slice sn3 (m+1) cn3));have g8:Hid (BoxS w.heap.size X1 o 106 w w8 (⟨w.heap.size,22,.slice sn1 (m+1) cn1,(m+1),hs++[.slice (some ⟨rb,0,none⟩) np np],1⟩::⟨w.heap.size,3,.slice sN q0 cN,q0,nats nx2,1⟩::⟨w.heap.size,3,.slice sn2 (m+1) cn2,(m+1),nats fr2++[.int .i64 (s:Int)],1⟩::⟨w.heap.size,3,.slice sn3 (m+1) cn3,(m+1),nats bl2++[.int .i64 (a:Int)],1⟩::[]) #[.int .i64 (k:Int),.slice da np dc,.slice sn1 (m+1) cn1,.slice sN q0 cN,.slice sn2 (m+1) cn2,.slice sn3 (m+1) cn3] wZ3):=Kh (by rw[b9];exact j2.out.set 5 (.slice sn3 (m+1) cn3));rw[<-b9];clear b9 n8 m9 j2 p3 f3;have q4:=zJ g8.out.box 3;simp only[sPd,sPe,sPf]at q4;have n7:=g8.out.own (r:=⟨w.heap.size,3,.slice sN q0 cN,q0,nats nx2,1⟩) (by simp);have m8:=Nat.le_trans g8.out.base g8.out.wk;go_upto_region 32 with (first|(at_builtin;refine vZ rfl _ _ _ rfl yP.toN w.heap.size (.slice sN q0 cN) (q0) (nats nx2) rfl n7 [.int .i64 (m:Int)] rfl rfl ?z1 ?z2 ?z3 ?z4 ?_;(case z1=>(intro v hv;simp only[List.mem_cons,List.not_mem_nil,or_false]at hv;subst hv;rfl));(case z2=>(unfold maxLen;omega));(case z3=>(show (q0+1)*8<=140737488355328;omega));(case z4=>exact m8);intro sn4 cn4 wM4 h2 H4 H3;(have j1:Hid (BoxS w.heap.size X1 o 106 w w8 (⟨w.heap.size,22,.slice sn1 (m+1) cn1,(m+1),hs++[.slice (some ⟨rb,0,none⟩) np np],1⟩::⟨w.heap.size,3,.slice sn4 (q0+1) cn4,(q0+1),nats nx2++[.int .i64 (m:Int)],1⟩::⟨w.heap.size,3,.slice sn2 (m+1) cn2,(m+1),nats fr2++[.int .i64 (s:Int)],1⟩::⟨w.heap.size,3,.slice sn3 (m+1) cn3,(m+1),nats bl2++[.int .i64 (a:Int)],1⟩::[]) #[.int .i64 (k:Int),.slice da np dc,.slice sn1 (m+1) cn1,.slice sN q0 cN,.slice sn2 (m+1) cn2,.slice sn3 (m+1) cn3] wM4):=Kh (g8.out.appAt (j:=1) rfl h2 H4 H3));(have p4:=zJ j1.out.box 3);simp only[sPd,sPe,sPf]at p4;(have f4:=zF j1.out.box 3);clear h2 H4 H3 q4)|fail);obtain⟨wZ4,b8⟩:=Nm (wM4.setCell ⟨o,3,none⟩ (.slice sn4 (q0+1) cn4));have s7:Hid (BoxS w.heap.size X1 o 106 w w8 (⟨w.heap.size,22,.slice sn1 (m+1) cn1,(m+1),hs++[.slice (some ⟨rb,0,none⟩) np np],1⟩::⟨w.heap.size,3,.slice sn4 (q0+1) cn4,(q0+1),nats nx2++[.int .i64 (m:Int)],1⟩::⟨w.heap.size,3,.slice sn2 (m+1) cn2,(m+1),nats fr2++[.int .i64 (s:Int)],1⟩::⟨w.heap.size,3,.slice sn3 (m+1) cn3,(m+1),nats bl2++[.int .i64 (a:Int)],1⟩::[]) #[.int .i64 (k:Int),.slice da np dc,.slice sn1 (m+1) cn1,.slice sn4 (q0+1) cn4,.slice sn2 (m+1) cn2,.slice sn3 (m+1) cn3] wZ4):=Kh (by rw[b8];exact j1.out.set 3 (.slice sn4 (q0+1) cn4));rw[<-b8];clear b8 n7 m8 j1 p4 f4;go_wp2;go_roundg (k-(a+1))
 case measure=>have:=j4.out;omega
 refine⟨a+1,L2++[z],nx2++[m],fr2++[s],bl2++[a],by have:=j4.out;omega,by go_num,?_,?_,by rw[List.length_append];have:=b6.out;omega,by rw[List.length_append,<-h8.out];show m+1<=4000;omega,?_,?_⟩
 ·have e1:s*k+(a+1)=q0+1:=by rw[i8.out];rfl
  have e2:(L2++[z]).length=m+1:=by rw[List.length_append,<-h8.out];rfl
  rw[e1,e2];have hb:=s7.out;rw[<-uE,<-uE,<-uE,l6.out]at hb;exact aK hb HE.out t1.out m0.out d7.out (by have:=HU.out;omega) ⟨e2,by rw[List.length_append,HL.out.2.1];rfl,by rw[List.length_append,HL.out.2.2.1];rfl,by rw[List.length_append,HL.out.2.2.2];rfl⟩ (by rw[List.length_append,m3.out];rfl)
 ·have h1:=b7.out.new ha m6.out (by rw[HX.out,<-g7.out];exact H5.out)
  rw[HX.out,<-g7.out]at h1;exact h1
 ·have h1:=d6.out.pushNew b6.out ha (by rw[<-g7.out];exact H5.out)
  rw[<-g7.out,<-h8.out]at h1;exact h1
 have h1:=e0.out.push b6.out ha;rw[<-g7.out]at h1;exact h1
end Go.Proofs.YtcoimliafiammaaGreat
