/- Part 10 of the proof. -/
import Derived.Test.YtobakifdllameaaGreatQd9
set_option linter.unusedVariables false
set_option linter.unusedSimpArgs false
set_option maxRecDepth 100000
set_option maxHeartbeats 16000000
namespace Go.Proofs.YtobakifdllameaaGreat
open Go.RowKit
theorem qPJ {w:World}{p e:Nat}{z0 z1 z2 z3 z4 z5 z6 z7 z8:Value}(h:w.heap[p]?=some (.cells #[z0,z1,z2,z3,z4,z5,z6,z7,z8] e (0,0)))(x3 x4 x5:Value):(((w.setCell ⟨p,3,none⟩ x3).setCell ⟨p,4,none⟩ x4).setCell ⟨p,5,none⟩ x5).heap[p]?=some (.cells #[z0,z1,z2,x3,x4,x5,z6,z7,z8] e (0,0))/\w.grownBy (((w.setCell ⟨p,3,none⟩ x3).setCell ⟨p,4,none⟩ x4).setCell ⟨p,5,none⟩ x5) (some p):=by
 have s3:=heap_setCell_same w p 3 _ _ x3 h;have s4:=heap_setCell_same _ p 4 _ _ x4 s3;have s5:=heap_setCell_same _ p 5 _ _ x5 s4;refine⟨by rw[s5];simp,?_⟩;have t:=fun(W:World) (i:Nat) (u:Value)=>zF W ⟨p,i,none⟩ u;exact zG (zG (t _ 3 _) (t _ 4 _)) (t _ 5 _)
theorem lB:ElemN Tryz.prog 104 180 2 (.agg #[.string ⟨#[]⟩,.string ⟨#[]⟩]) 32:=⟨Tryz.underlying104,by kernel_rfl,rfl,by decide⟩
theorem qFK {W:World}{g e:Nat}{u v:Value}{m:Nat×Nat}(h:W.heap[g]?=some (.cells #[u,v] e m)):uZ W 2 (.slice (some ⟨g,0,none⟩) 1 1) 1 [u,v]:=by
 have c0:=zH h 0;have c1:=zH h 1;simp only[List.getElem_toArray,List.getElem_cons_zero,List.getElem_cons_succ]at c0 c1;refine .inr ⟨g,0,1,rfl,rfl,by unfold maxLen;omega,fun j u' hj=>?_⟩
 match j,hj with
 | 0,hj=>simp at hj;subst hj;simpa using c0
 | 1,hj=>simp at hj;subst hj;simpa using c1
theorem qCA {X:Nat->Prop}{w:World}{rs:List RowS}{P o j:Nat}{e:Nat}{c c':Array Value}{mm a9:Nat×Nat}(hM:EMem X w rs)(hj:qE rs j)(hr:∀r∈rs,r.base=P/\r.e≠e)(ho:w.heap[o]?=some (.cells c e mm))(hP:w.heap[P]?=some (.cells c' e a9)):P<=j/\¬X j/\j≠o/\j≠P:=by
 obtain⟨r,h1,hk⟩:=hj;have h0:=hM.own r h1;refine⟨by have:=(h0.lt j hk).1;rw[(hr r h1).1]at this;exact this,hM.offX r h1 j hk,fun e1=>?_,fun e1=>?_⟩
 ·subst e1;exact zV h0 ho (hr r h1).2 hk
 subst e1;exact zV h0 hP (hr r h1).2 hk
inductive StartS (B P o n:Nat)(gs:List (List Nat))(vg gv:Value)(w0:World)(x:Nat)(w:World):Prop
 | mk (X:Nat->Prop) (els:List (List Nat)) (pre las:List Int) (m u:Nat) (us hsE:List Value) (sE:Option Addr) (cE:Nat) (sP:Option Addr) (cP:Nat) (sL:Option Addr) (cL:Nat) (sU:Option Addr) (cU:Nat)
  (he:yO gs n x=(els,pre,las)) (hl:els.length=m) (hpl:pre.length=m) (hll:las.length=m) (hm:m<=x+1) (hu:u<=x) (hus:∀v∈us,v.oneCell'=true)
  (hM:EMem X w [⟨P,22,.slice sE m cE,m,hsE,1⟩,⟨P,3,.slice sP m cP,m,ints pre,1⟩,⟨P,3,.slice sL m cL,m,ints las,1⟩,⟨P,180,.slice sU u cU,u,us,2⟩])
  (hE:xU X 3 nats w hsE els) (hG:TX X w gv gs) (hV:TMat B w vg gs) (hX:¬X o/\¬X P)
  (hB:w.heap[o]?=some (.cells #[.int .i64 n,.bool true,gv,.slice sE m cE,.slice sP m cP,.slice sL m cL,.slice none 0 0,.slice sU u cU,.int .i64 0] 106 (0,0)))
  (hBP:w.heap[P]?=some (.cells #[.int .i64 0,.bool false,.slice none 0 0,.slice none 0 0,.slice none 0 0,.slice none 0 0,.slice none 0 0,.slice none 0 0,.int .i64 0] 106 (0,0))) (hg:w0.grownBy w none)
theorem iL {gs:List (List Nat)}{n:Nat}:∀x,x<=gs.length->rT (yO gs n x).2.1 (yO gs n x).2.2 (yO gs n x).1.length gs.length/\(yO gs n x).2.1.length=(yO gs n x).1.length/\(yO gs n x).2.2.length=(yO gs n x).1.length/\1<=(yO gs n x).1.length
 | 0,_=>by
  refine⟨fun i hi=>?_,rfl,rfl,Nat.le_refl _⟩
  have hi:i=0:=by simp[yO]at hi;omega
  subst hi
  exact .inl (by simp[yO])
 | x+1,hx=>by
  obtain⟨h1,h2,h3,h4⟩:=iL (gs:=gs) (n:=n) x (by omega)
  rw[yO]
  split
  ·exact⟨h1,h2,h3,h4⟩
  ·refine⟨fun i hi=>?_,by simp[h2],by simp[h3],by simp⟩
   simp only[List.length_append,List.length_singleton]at hi
   rcases Nat.lt_or_ge i (yO gs n x).1.length with h|h
   ·have e1:((yO gs n x).2.1++[0]).getD i 0=(yO gs n x).2.1.getD i 0:=by rw[List.getD_eq_getElem?_getD,List.getElem?_append_left (by rw[h2];exact h),<-List.getD_eq_getElem?_getD]
    have e2:((yO gs n x).2.2++[(x:Int)]).getD i 0=(yO gs n x).2.2.getD i 0:=by rw[List.getD_eq_getElem?_getD,List.getElem?_append_left (by rw[h3];exact h),<-List.getD_eq_getElem?_getD]
    rw[e1,e2]
    exact h1 i h
   ·have e:i=(yO gs n x).1.length:=by omega
    subst e
    have e1:((yO gs n x).2.1++[0]).getD (yO gs n x).1.length 0=0:=by rw[List.getD_eq_getElem?_getD,List.getElem?_append_right (by rw[h2];exact Nat.le_refl _),h2];simp
    have e2:((yO gs n x).2.2++[(x:Int)]).getD (yO gs n x).1.length 0=x:=by rw[List.getD_eq_getElem?_getD,List.getElem?_append_right (by rw[h3];exact Nat.le_refl _),h3];simp
    rw[e1,e2]
    exact .inr ⟨by omega,by omega,by omega,by omega⟩
def qSC (gs:List (List Nat))(n:Nat)(w:World)(e:Ending)(w':World):Prop :=
 ∃(X:Nat->Prop) (els:List (List Nat)) (pre las:List Int) (m u:Nat) (us hsE:List Value) (gv:Value) (sE:Option Addr) (cE:Nat) (sP:Option Addr) (cP:Nat) (sL:Option Addr) (cL:Nat) (sU:Option Addr) (cU:Nat),
  e=.returned (.tuple #[.agg #[.int .i64 n,.bool true,gv,.slice sE m cE,.slice sP m cP,.slice sL m cL,.slice none 0 0,.slice sU u cU,.int .i64 0],.int .i64 0])/\yO gs n gs.length=(els,pre,las)/\els.length=m/\pre.length=m/\las.length=m/\u<=6/\(∀v∈us,v.oneCell'=true) /\
  EMem X w' [⟨w.heap.size,22,.slice sE m cE,m,hsE,1⟩,⟨w.heap.size,3,.slice sP m cP,m,ints pre,1⟩,⟨w.heap.size,3,.slice sL m cL,m,ints las,1⟩,⟨w.heap.size,180,.slice sU u cU,u,us,2⟩]/\xU X 3 nats w' hsE els/\TX X w' gv gs/\w.grownBy w' none
theorem qDV (B:Nat)(w:World)(v0:Value)(gs:List (List Nat))(n:Nat)(hB:B<=w.heap.size)(h:TMat B w v0 gs)(a8:∀g∈gs,IsT n g)(h1:1<=n)(a7:n<=32)(a6:1<=gs.length)(a9:gs.length<=6):Calls Tryz.prog 90 #[v0,.bool true] w (qSC gs n w):=by
 obtain⟨b0,o0,c0,rfl,D1,z7,D3,D2,b7⟩:=h.head (by omega);have z6:c0<=9223372036854775807:=by unfold maxLen at z7;omega
 obtain⟨P,hP⟩:=Nm w.heap.size;have b5:=Kh hP;obtain⟨wA,m4⟩:=Nm (w.alloc (.cells #[.int .i64 0,.bool false,.slice none 0 0,.slice none 0 0,.slice none 0 0,.slice none 0 0,.slice none 0 0,.slice none 0 0,.int .i64 0] 106));have l2:=heap_alloc_new w (.cells #[.int .i64 0,.bool false,.slice none 0 0,.slice none 0 0,.slice none 0 0,.slice none 0 0,.slice none 0 0,.slice none 0 0,.int .i64 0] 106);have j9:=Ga w (.cells #[.int .i64 0,.bool false,.slice none 0 0,.slice none 0 0,.slice none 0 0,.slice none 0 0,.slice none 0 0,.slice none 0 0,.int .i64 0] 106) none;have o2:=zW w (.cells #[.int .i64 0,.bool false,.slice none 0 0,.slice none 0 0,.slice none 0 0,.slice none 0 0,.slice none 0 0,.slice none 0 0,.int .i64 0] 106);rw[<-m4]at l2 j9 o2;rw[<-hP]at l2 o2 hB;have n0:=Kh (h.kept j9 (by simp));obtain⟨j0,B0,A7,A2,l5⟩:=K5 h l2 j9 m4 a8;clear l2 j9 m4 h a8 b7;go_enter Tryz.func90,Tryz.ntmps90;go_upto_region 1 with fail;rw[<-A2.out,<-b5.out];clear hP;have y7:¬(gs.length:Int)<1:=by omega
 have y6:¬6<(gs.length:Int):=by omega
 go_wp2_with fail;refine(qEI B wA (.slice (some ⟨b0,o0,none⟩) gs.length c0) gs n n0.out l5.out h1 a7 a6 a9).mono ?_;rintro e w1 ⟨rfl,rfl⟩;obtain⟨w5,m0⟩:=Nm wA.drew;have g5:wA.grownBy w5 none:=by rw[m0];exact zS wA none
 have t1:=Kh m0;have l4:=Kh (n0.out.kept g5 (by simp));have x1:=Kh (zB B0.out g5);have t8:=Kh (zC A7.out g5);have x9:=g5.size;have x0:Hid (∀W:World,w5.grownBy W none->Calls Tryz.prog 123 #[.slice (some ⟨b0,o0,none⟩) gs.length c0] W (dG W gs)):=Kh (fun W hg=>qLO B W _ gs (by have:=hg.size;omega) (l4.out.kept hg (by simp)) (by omega) (fun t ht=>by rw[(l5.out t ht).1];omega));obtain⟨b0',o0',c0',e0,_,_,_,_,b7⟩:=l4.out.head (by omega);have e0:b0=b0'/\o0=o0':=by simpa using And.intro (congrArg (fun v=>match v with|Value.slice (some a) _ _=>a.block|_=>0) e0) (congrArg (fun v=>match v with|Value.slice (some a) _ _=>a.off|_=>0) e0)
 obtain⟨rfl,rfl⟩:=e0;obtain⟨ha,hc,h2,_⟩:=b7 0 (by omega);have y5:(gs.getD 0 []).length=n:=(l5.out _ (uW (by omega))).1;rw[y5,Nat.add_zero]at h2;have C:=Kh h2;have D0:(0:Int)<(gs.length:Int):=by omega
 have y8:0<gs.length:=by omega
 clear m0 g5 h2 b7 n0;go_upto_region 5 with fail;refine wp_region_noPanic ?_;refine yM (G:=wH 9 (fun _=>True) (fun W=>W.cell? ⟨b0,o0,none⟩=some (.slice ha n hc))) (by kernel_rfl) ?_;rw[<-t1.out];refine zO 0 ⟨trivial,fun _=>C.out⟩ ?_;refine zO 1 ⟨trivial,fun _=>C.out⟩ ?_;refine yY 2 ⟨trivial,fun _=>C.out⟩ ?_;refine zO 3 ⟨trivial,fun _=>C.out⟩ ?_;refine zO 4 ⟨trivial,fun _=>C.out⟩ ?_;refine zO 5 ⟨trivial,fun _=>C.out⟩ ?_;refine uR (fun Wp hWp a0 ha0=>?_);subst hWp
 try simp only[Act.put,sPd,sPe,sPf,sPa,sPb,sPc]at ha0
 have n8:=Kh ha0;refine uQ (I:=start5I n b0 o0 gs (.slice ha n hc) (.slice (some ⟨b0,o0,none⟩) gs.length c0) w5 a0) (fun l a w h=>qMW C.out h) (qBH ha0 x0.out) (by kernel_rfl) ?hend (by decide +kernel) ?hinit
 case hinit =>
  clear ha0;refine⟨a0.tmps.getD 30 undef,a0.tmps.getD 31 undef,a0.tmps.getD 6 undef,0,(vX (by simp)).symm,by decide +kernel,Kh (fun h=>absurd h (by decide +kernel)),Kh (fun h=>absurd h (by decide +kernel)),Kh (fun h=>absurd h (by decide +kernel)),Kh (fun h=>absurd h (by decide +kernel)),Kh (fun h=>absurd h (by decide +kernel)),zU _ _⟩
 clear ha0;intro l a w6 h h0;obtain⟨x30,x31,x6,o,ha,HR,H6,H7,H8,B1,B2,HG⟩:=h;obtain⟨sa,sc,rfl,e9⟩:=H6.out (h0 6 (by decide));obtain⟨_,rfl⟩:=H7.out (h0 7 (by decide));obtain⟨rfl,C6⟩:=H8.out (h0 8 (by decide));obtain⟨_,_,i1⟩:=B2.out (h0 9 (by decide));clear H6 H7 H8 B1 B2 HR;subst ha;rw[n8.out];simp only[zP,List.foldl_cons,List.foldl_nil,Act.put,sPa,sPb,sPc];refine NoPanic.normal ?_;have C5:P<o:=by have:=b5.out;omega
 have l1:=zB x1.out HG;obtain⟨y0,f9,j6,y4⟩:=e9
 have r6:TX (fun j=>j<w6.heap.size/\j≠o/\j≠P) w6 (.slice sa gs.length sc) gs:=by
  refine⟨y0,⟨RowT.of_owns f9,fun j hj=>⟨(f9.lt j hj).2,fun e=>zV f9 i1 (by decide) (e ▸ hj),fun e=>zV f9 l1 (by decide) (e ▸ hj)⟩⟩,j6.1,fun i h3 h4=>⟨j6.2 i h3 h4,fun j hj=>?_⟩⟩;rcases j6.2 i h3 h4 with ⟨e,_⟩|⟨b,off,cap,cur,m,e,e2,e3,e4,e5,e6⟩
  ·rw[e]at hj;simp[Value.ownBlock]at hj
  rw[e]at hj;have hj:b=j:=by simpa [Value.ownBlock] using hj
  subst hj;refine⟨zR e5,fun e7=>?_,fun e7=>?_⟩
  ·subst e7;rw[i1]at e5;simp at e5
  subst e7;rw[l1]at e5;simp at e5
 have s0:EMem (fun j=>j<w6.heap.size/\j≠o/\j≠P) w6 []:=⟨fun r hr=>by simp at hr,List.Pairwise.nil,fun r hr=>by simp at hr,fun j hj=>hj.1⟩;obtain⟨t3,n2,j4,j3⟩:=K4 r6 s0 i1 l1;have t2:=Kh (l4.out.kept HG (by simp));have t7:=Kh (zC t8.out HG);have x8:=HG.size;obtain⟨d0,d1,d2,d3,d4,d5,d6,d7,d8⟩:=zZ i1;clear l1 f9 j6 y4 r6 s0 HG i1 l4 x1 t8 t1 C x0 d1 d2 d3 d4 d5 d6 d7 d8;go_wp2_with fail;refine(qDA w6 n (by omega)).mono ?_;rintro e w7 ⟨g,rfl,hg,m7,a2⟩;have g4:=Ga w7 (.cells #[.slice (some ⟨g,0,none⟩) n n] 22) none;have r5:=heap_alloc_new w7 (.cells #[.slice (some ⟨g,0,none⟩) n n] 22);have x5:=zW w7 (.cells #[.slice (some ⟨g,0,none⟩) n n] 22);have g2:=Ga (w7.alloc (.cells #[.slice (some ⟨g,0,none⟩) n n] 22)) (.cells #[.int .i64 (-1)] 3) none;have b9:=heap_alloc_new (w7.alloc (.cells #[.slice (some ⟨g,0,none⟩) n n] 22)) (.cells #[.int .i64 (-1)] 3);have x4:=zW (w7.alloc (.cells #[.slice (some ⟨g,0,none⟩) n n] 22)) (.cells #[.int .i64 (-1)] 3);have g3:=Ga ((w7.alloc (.cells #[.slice (some ⟨g,0,none⟩) n n] 22)).alloc (.cells #[.int .i64 (-1)] 3)) (.cells #[.int .i64 (-1)] 3) none;have m3:=heap_alloc_new ((w7.alloc (.cells #[.slice (some ⟨g,0,none⟩) n n] 22)).alloc (.cells #[.int .i64 (-1)] 3)) (.cells #[.int .i64 (-1)] 3);have c8:=zB (zB (zB (zB j4.out a2) g4) g2) g3;rw[List.length_range]at *;obtain⟨k0,k1,k2,k3,k4,k5,k6,k7,k8⟩:=zZ c8;have f3:=zA c8 3;have f4:=zA c8 4;have f5:=zA c8 5;have b1:=Kh c8;clear c8 k0 k1 k2 k6 k7 k8;go_wp2;rw[zW]at b9;rw[zW,zW]at m3;have r9:=n2.out.fresh a2 (Y:=fun j=>j=g) (fun j e=>by subst e;exact⟨hg,m7.lt⟩);have z9:P<=w7.heap.size:=by have:=a2.size;omega
 have b4:=r9.add g4 (r:=⟨P,22,.slice (some ⟨w7.heap.size,0,none⟩) 1 1,1,[.slice (some ⟨g,0,none⟩) n n],1⟩) (qAC r5 z9 rfl (by unfold maxLen;omega)) (fun j e=>Nat.le_of_eq (by simpa [Value.ownBlock] using e));have i6:=b4.add g2 (r:=⟨P,3,.slice (some ⟨w7.heap.size+1,0,none⟩) 1 1,1,ints [-1],1⟩) (qAC b9 (show P<=_ by omega) rfl (by unfold maxLen;omega)) (fun j e=>Nat.le_of_eq (by rw[zW];simpa [Value.ownBlock] using e));have i5:=i6.add g3 (r:=⟨P,3,.slice (some ⟨w7.heap.size+1+1,0,none⟩) 1 1,1,ints [-1],1⟩) (qAC m3 (show P<=_ by omega) rfl (by unfold maxLen;omega)) (fun j e=>Nat.le_of_eq (by rw[zW,zW];simpa [Value.ownBlock] using e));have h9:=i5.add (zU _ none) (r:=⟨P,180,.slice none 0 0,0,[],2⟩) (World.ownsRow_nil _ _ _ _) (fun j e=>by simp[Value.ownBlock]at e);have g0:=zC (zC (zC a2 g4) g2) g3;have g79:=zC (zC g4 g2) g3;have m6:=m7.kept g79 (by simp);obtain⟨wL,o3⟩:=Nm (((w7.alloc (.cells #[.slice (some ⟨g,0,none⟩) n n] 22)).alloc (.cells #[.int .i64 (-1)] 3)).alloc (.cells #[.int .i64 (-1)] 3));rw[<-o3]at h9 g0 m6 b1⊢;obtain⟨r4,h7⟩:=qPJ b1.out (.slice (some ⟨w7.heap.size,0,none⟩) 1 1) (.slice (some ⟨w7.heap.size+1,0,none⟩) 1 1) (.slice (some ⟨w7.heap.size+1+1,0,none⟩) 1 1)
 have i4:=h9.far h7 (fun r hr=>zV (h9.own r hr) b1.out (by
  simp only[List.nil_append,List.cons_append,List.mem_cons,List.not_mem_nil,or_false]at hr
  rcases hr with rfl|rfl|rfl|rfl<;>simp))
 have z8:∀j,(j<w6.heap.size/\j≠o/\j≠P)->j≠o:=fun j h=>h.2.1;have k1:xV (fun j=>j<w6.heap.size/\j≠o/\j≠P) w6 wL:=n2.out.keep g0;have i2:=(t3.out.kept k1 g0.size).mono (X':=fun j=>(j<w6.heap.size/\j≠o/\j≠P)\/j=g) (fun j h=>.inl h)
 have k2:xV (fun j=>(j<w6.heap.size/\j≠o/\j≠P)\/j=g) wL _:=xV.of_grown h9.lt h7 (fun j e hx=>by
  have e:o=j:=Oj e;have:=zR j4.out;rcases hx with hx|hx
  ·exact hx.2.1 e.symm
  omega)
 have s9:xU (fun j=>(j<w6.heap.size/\j≠o/\j≠P)\/j=g) 3 nats wL [.slice (some ⟨g,0,none⟩) n n] [List.range n]:=by
  refine xU.nil.snoc (hs:=[]) (ts:=[]) ⟨?_,fun j e=>?_⟩
  ·have:=m6.rowT' (cap:=n) (by simp[nats]) (by unfold maxLen;omega)
   rwa [zT,List.length_range]at this
  have e:g=j:=by simpa [Value.ownBlock] using e
  exact .inr e.symm
 have r7:StartS B P o n gs (.slice (some ⟨b0,o0,none⟩) gs.length c0) (.slice sa gs.length sc) w 0 _:=.mk _ [List.range n] [-1] [-1] 1 0 [] _ _ _ _ _ _ _ _ _ rfl rfl rfl rfl (by omega) (by omega) (fun v hv=>by simp at hv) i4 (s9.kept k2 h7.size) (i2.kept k2 h7.size) ((t2.out.kept g0 (by simp)).kept h7 (fun j e=>by have e:o=j:=Oj e;omega)) ⟨fun hx=>by
   have:=zR j4.out;rcases hx with hx|hx
   ·exact hx.2.1 rfl
   ·omega,fun hx=>by
   have:=zR j4.out;rcases hx with hx|hx
   ·exact hx.2.2 rfl
   omega⟩ r4 (zB (zB j3.out g0) h7 (by simp;omega)) (yG (zC t7.out g0) h7 (by show _<=o;have:=b5.out;omega))
 have t4:=Kh r7;clear r7;clear s9 k2 i2 k1 z8 i4 h7 r4 o3 m6 g79 g0 h9 i5 i6 b4 r9 g3 g2 g4 m3 b9 r5 k3 k4 k5 f3 f4 f5 m7 a2 x4 x5 t3 n2 j4 j3 t2 t7 b1 d0
 go_loopg [8,9,10,44] gs.length (fun gh v8 v9 v10 i wr=>∃x:Nat,gh+x=gs.length/\i=.int .i64 x/\StartS B P o n gs (.slice (some ⟨b0,o0,none⟩) gs.length c0) (.slice sa gs.length sc) w x wr)
 case atStart=>exact⟨0,by omega,rfl,t4.out⟩
 obtain⟨x,q9,rfl,hS⟩:=hrel;have n4:=Kh q9;have HS:=Kh hS;obtain⟨X,els,pre,las,m,u,us,H9,sE,cE,sP,cP,sL,cL,sU,cU,he,hl,e8,g1,hm,hu,o5,hM,hE,hG,hV,hX,H1,h8,j7⟩:=hS;have m9:=Kh o5;clear o5;clear q9 t4;by_cases hx:x<gs.length
 ·have C3:(x:Int)<gs.length:=by omega
  obtain⟨b0',o0',c0',e0,_,_,_,_,b7⟩:=hV.head (by omega);have e0:b0=b0'/\o0=o0':=by simpa using And.intro (congrArg (fun v=>match v with|Value.slice (some a) _ _=>a.block|_=>0) e0) (congrArg (fun v=>match v with|Value.slice (some a) _ _=>a.off|_=>0) e0)
  obtain⟨rfl,rfl⟩:=e0;obtain⟨fa,fc,h2,g7⟩:=b7 x hx;have l0:=l5.out _ (uW (d:=[]) hx);obtain⟨f,hf⟩:=Nm (gs.getD x []);rw[<-hf]at h2 g7 l0;rw[l0.1]at h2 g7;obtain⟨HF,A8,n7,c2⟩:=K4 hf l0 g7 he;have b2:=eS wr.heap.size B wr (.slice sE m cE) (.slice fa n fc) els f (qDT (hM.own _ (List.mem_cons_self)) hE) g7.row;have A9:=Kh b2;obtain⟨q0,q1,q2,q3,q4,q5,q6,q7,q8⟩:=zZ H1;obtain⟨HM,HE,d9,HV,HX,b1⟩:=K6 hM hE hG hV hX H1;have c7:=Kh h8;have c9:=Kh j7;clear b7 hf l0 g7 he b2 hM hE hG hV hX H1 h8 j7 q0 q1 q2 q4 q5 q6 q7 q8;go_wp2_with fail;refine A9.out.mono ?_;rintro e w2 ⟨rfl,md,rfl⟩;by_cases hin:f∈els
  ·have y3:els.idxOf f<els.length:=List.idxOf_lt_length_of_mem hin
   have g8:mX els f=((els.idxOf f:Nat):Int):=by unfold mX;rw[if_pos hin]
   rw[g8];obtain⟨i0,p9⟩:=Nm (els.idxOf f);rw[<-p9]at y3⊢;have z5:(0:Int)<=(i0:Int):=by omega
   clear g8 p9;obtain⟨w4,b6⟩:=Nm ((wr.drewN md).drew);have h5:wr.grownBy w4 none:=(by rw[b6];exact zC (zQ wr md none) (zS _ none));have m8:=Kh b6;have a3:=Kh (HM.out.grow h5);have H3:=Kh (zB b1.out h5);have k4:=HM.out.keep h5;have l7:=Kh (HE.out.kept k4 h5.size);have a5:=Kh (d9.out.kept k4 h5.size);have A3:=Kh (HV.out.kept h5 (by simp));have h6:=Kh (zB c7.out h5);have a4:=Kh (zC c9.out h5);have l9:x<26:=(by omega);have A6:=fun W=>Kh (iU W x l9);have j5:=iL (gs:=gs) (n:=n) x (by omega);rw[c2.out]at j5;have D4:=Kh j5
   have o9:rT pre las m gs.length:=by
    have:=j5.1;simp only at this;rw[hl]at this;exact this
   have A1:Hid (∀W:World,w4.grownBy W none->Calls Tryz.prog 62 #[.agg #[.int .i64 n,.bool true,.slice sa gs.length sc,.slice sE m cE,.slice sP m cP,.slice sL m cL,.slice none 0 0,.slice sU u cU,.int .i64 0],.int .i64 (i0:Int)] W fun e w'=>e=.returned (.string (strOfNums (lets (vK pre las i0))))/\W.grownBy w' none):=Kh (fun W hg=>by
    have r8:=a3.out.grow hg
    exact lL W.heap.size W.heap.size W _ _ _ _ _ _ _ _ _ pre las m gs.length i0 (Nat.le_refl _) (Nat.le_refl _) (Row.of_owns (r8.own ⟨P,3,.slice sP m cP,m,ints pre,1⟩ (by simp))) (Row.of_owns (r8.own ⟨P,3,.slice sL m cL,m,ints las,1⟩ (by simp))) e8 g1 o9 a9 (by omega) (by omega))
   clear b6 h5 k4 HM b1 HE d9 HV c7 c9 q3 j5 o9 n7;obtain⟨q0,q1,q2,q3,q4,q5,q6,q7,q8⟩:=zZ H3.out;have C:=Kh (And.intro q0 (And.intro q1 (And.intro q2 (And.intro q3 (And.intro q4 (And.intro q5 (And.intro q6 (And.intro q7 q8))))))));clear q0 q1 q2 q3 q4 q5 q6 q7 q8;go_upto_region 15 with fail;refine wp_region_noPanic ?_;refine yM (G:=wH 11 (fun _=>True) (fun W=>W.cell? ⟨o,0,none⟩=some (.int .i64 n)/\W.cell? ⟨o,1,none⟩=some (.bool true)/\W.cell? ⟨o,2,none⟩=some (.slice sa gs.length sc)/\W.cell? ⟨o,3,none⟩=some (.slice sE m cE)/\W.cell? ⟨o,4,none⟩=some (.slice sP m cP)/\W.cell? ⟨o,5,none⟩=some (.slice sL m cL)/\W.cell? ⟨o,6,none⟩=some (.slice none 0 0)/\W.cell? ⟨o,7,none⟩=some (.slice sU u cU)/\W.cell? ⟨o,8,none⟩=some (.int .i64 0))) (by kernel_rfl) ?_;rw[<-m8.out];refine zO 0 ⟨trivial,fun _=>C.out⟩ ?_;refine yY 1 ⟨trivial,fun _=>C.out⟩ ?_;refine zO 2 ⟨trivial,fun _=>C.out⟩ ?_;refine yY 4 ⟨trivial,fun _=>C.out⟩ ?_;refine zO 5 ⟨trivial,fun _=>C.out⟩ ?_;refine oneG (i:=3) (by kernel_rfl) rfl (fun K hK=>?_);go_simp
   go_at_call 92
   refine(A6 _).out.mono ?_;rintro e w7 ⟨rfl,a2⟩
   have C7:Hid (w7.cell? ⟨o,0,none⟩=some (.int .i64 n)/\w7.cell? ⟨o,1,none⟩=some (.bool true)/\w7.cell? ⟨o,2,none⟩=some (.slice sa gs.length sc)/\w7.cell? ⟨o,3,none⟩=some (.slice sE m cE)/\w7.cell? ⟨o,4,none⟩=some (.slice sP m cP)/\w7.cell? ⟨o,5,none⟩=some (.slice sL m cL)/\w7.cell? ⟨o,6,none⟩=some (.slice none 0 0)/\w7.cell? ⟨o,7,none⟩=some (.slice sU u cU)/\w7.cell? ⟨o,8,none⟩=some (.int .i64 0)):=Kh (by
    obtain⟨q0,q1,q2,q3,q4,q5,q6,q7,q8⟩:=zZ (zB H3.out a2)
    exact⟨q0,q1,q2,q3,q4,q5,q6,q7,q8⟩)
   have n6:=Kh a2;refine hK.out _ _ ⟨trivial,fun _=>C7.out⟩ ?_;clear hK K a2 C
   try simp only[Act.put,sPa,sPb,sPc]
   refine oneG (i:=6) (by kernel_rfl) rfl (fun K hK=>?_);go_simp
   go_at_call 62
   refine(A1.out w7 n6.out).mono ?_;rintro e w8 ⟨rfl,r3⟩;have n5:=Kh (zC n6.out r3);have t0:=zB H3.out n5.out
   have C8:Hid (w8.cell? ⟨o,0,none⟩=some (.int .i64 n)/\w8.cell? ⟨o,1,none⟩=some (.bool true)/\w8.cell? ⟨o,2,none⟩=some (.slice sa gs.length sc)/\w8.cell? ⟨o,3,none⟩=some (.slice sE m cE)/\w8.cell? ⟨o,4,none⟩=some (.slice sP m cP)/\w8.cell? ⟨o,5,none⟩=some (.slice sL m cL)/\w8.cell? ⟨o,6,none⟩=some (.slice none 0 0)/\w8.cell? ⟨o,7,none⟩=some (.slice sU u cU)/\w8.cell? ⟨o,8,none⟩=some (.int .i64 0)):=Kh (by
    obtain⟨q0,q1,q2,q3,q4,q5,q6,q7,q8⟩:=zZ t0
    exact⟨q0,q1,q2,q3,q4,q5,q6,q7,q8⟩)
   refine hK.out _ _ ⟨trivial,fun _=>C8.out⟩ ?_;clear hK K r3 C7 t0 n6
   try simp only[Act.put,sPa,sPb,sPc]
   obtain⟨s1,o8⟩:=Nm (strOfNums [97+(x:Int)]);obtain⟨s2,o7⟩:=Nm (strOfNums (lets (vK pre las i0)));rw[<-o8,<-o7];clear o8 o7;refine zO 7 ⟨trivial,fun _=>C8.out⟩ ?_;refine oneG (i:=8) (by kernel_rfl) rfl (fun K hK=>?_);go_simp;have j8:=heap_alloc_new w8 (.cells #[.string s1,.string s2] 180);have r2:=Ga w8 (.cells #[.string s1,.string s2] 180) none;have H0:=Kh (zC n5.out r2);obtain⟨gR,r0⟩:=Nm w8.heap.size;obtain⟨w9,o4⟩:=Nm (w8.alloc (.cells #[.string s1,.string s2] 180));rw[<-r0]at j8⊢;rw[<-o4]at j8 H0⊢;have H1:=zB H3.out H0.out
   have C9:Hid (w9.cell? ⟨o,0,none⟩=some (.int .i64 n)/\w9.cell? ⟨o,1,none⟩=some (.bool true)/\w9.cell? ⟨o,2,none⟩=some (.slice sa gs.length sc)/\w9.cell? ⟨o,3,none⟩=some (.slice sE m cE)/\w9.cell? ⟨o,4,none⟩=some (.slice sP m cP)/\w9.cell? ⟨o,5,none⟩=some (.slice sL m cL)/\w9.cell? ⟨o,6,none⟩=some (.slice none 0 0)/\w9.cell? ⟨o,7,none⟩=some (.slice sU u cU)/\w9.cell? ⟨o,8,none⟩=some (.int .i64 0)):=Kh (by
    obtain⟨q0,q1,q2,q3,q4,q5,q6,q7,q8⟩:=zZ H1
    exact⟨q0,q1,q2,q3,q4,q5,q6,q7,q8⟩)
   refine hK.out _ _ ⟨trivial,fun _=>C9.out⟩ ?_;clear hK K r2 C8 r0 o4 n5
   try simp only[Act.put,sPa,sPb,sPc]
   have b4:=a3.out.grow H0.out;have e1:uZ w9 2 (.slice (some ⟨gR,0,none⟩) 1 1) 1 [.string s1,.string s2]:=qFK j8;refine oneG (i:=9) (by kernel_rfl) rfl (fun K hK=>?_);refine oF rfl (.tmp 56) (.tmp 63) 104 rfl lB 3 _ rfl ⟨_,_,_,_,_,b4.many (qE _) (fun _ h=>h),⟨P,180,.slice sU u cU,u,us,2⟩,1,u+1,_,rfl,rfl,rfl,rfl,e1,?z1,rfl,?z2,?z3,?z4,?_⟩
   case z1=>intro v hv;simp only[List.mem_cons,List.not_mem_nil,or_false]at hv;rcases hv with rfl|rfl<;>rfl
   case z2=>unfold maxLen;omega
   case z3=>show (u+1)*32<=140737488355328;omega
   case z4=>show P<=w9.heap.size;have:=H0.out.size;have:=zR h6.out;omega
   intro sU' cU' wM b3
   have a1:∀j,qE [⟨P,22,.slice sE m cE,m,H9,1⟩,⟨P,3,.slice sP m cP,m,ints pre,1⟩,⟨P,3,.slice sL m cL,m,ints las,1⟩,⟨P,180,.slice sU u cU,u,us,2⟩] j->P<=j/\¬X j/\j≠o/\j≠P:=fun j hj=>qCA b4 hj (fun r hr=>by
    simp only[List.mem_cons,List.not_mem_nil,or_false]at hr
    rcases hr with rfl|rfl|rfl|rfl<;>simp) H1 (zB h6.out H0.out)
   have s8:=b4.after b3 (fun j hj=>(a1 j hj).2.1);have kM:=b4.keepMany b3 (fun j hj=>(a1 j hj).2.1);have m5:=b3.but.heap H1 (fun hj=>(a1 o hj).2.2.1 rfl);have i9:=b3.but.heap (zB h6.out H0.out) (fun hj=>(a1 P hj).2.2.2 rfl);have r1:w.grownBy wM none:=b3.but.grown (zC a4.out H0.out) (fun j hj=>.inr (by have:=(a1 j hj).1;have:=b5.out;omega))
   have CM:Hid (wM.cell? ⟨o,0,none⟩=some (.int .i64 n)/\wM.cell? ⟨o,1,none⟩=some (.bool true)/\wM.cell? ⟨o,2,none⟩=some (.slice sa gs.length sc)/\wM.cell? ⟨o,3,none⟩=some (.slice sE m cE)/\wM.cell? ⟨o,4,none⟩=some (.slice sP m cP)/\wM.cell? ⟨o,5,none⟩=some (.slice sL m cL)/\wM.cell? ⟨o,6,none⟩=some (.slice none 0 0)/\wM.cell? ⟨o,7,none⟩=some (.slice sU u cU)/\wM.cell? ⟨o,8,none⟩=some (.int .i64 0)):=Kh (by
    obtain⟨q0,q1,q2,q3,q4,q5,q6,q7,q8⟩:=zZ m5
    exact⟨q0,q1,q2,q3,q4,q5,q6,q7,q8⟩)
   refine hK.out _ _ ⟨trivial,fun _=>CM.out⟩ ?_;have k9:=a3.out.keep H0.out;have s5:=(l7.out.kept k9 H0.out.size).kept kM b3.but.size;have s3:=(a5.out.kept k9 H0.out.size).kept kM b3.but.size;obtain⟨l6,t9,t5,l8,j2,t6⟩:=K6 s8 s5 s3 m5 i9 r1;clear hK K C9 b4 b3 a1 s8 kM m5 i9 r1 k9 s5 s3 H1 e1 j8 a3 l7 a5 A3 h6 a4 H0 H3
   try simp only[Act.put,sPa,sPb,sPc]
   refine zO 10 ⟨trivial,fun _=>CM.out⟩ ?_;refine oneG (i:=11) (by kernel_rfl) rfl (fun K hK=>?_);have q7:=CM.out.2.2.2.2.2.2.2.1;have f7:=zA l8.out 7;go_simp;have o6:=heap_setCell_same wM o 7 _ _ (.slice sU' (u+1) cU') l8.out;have b8:=zF wM ⟨o,7,none⟩ (.slice sU' (u+1) cU');refine hK.out _ _ ⟨trivial,fun h=>by simp at h⟩ ?_;clear hK K q7 f7 CM
   try simp only[Act.put,sPa,sPb,sPc]
   refine tT (by kernel_rfl) ?_ _;refine NoPanic.normal ?_;have kS:xV X wM _:=xV.of_grown l6.out.lt b8 (fun j e hx=>by have e:o=j:=Oj e;subst e;exact HX.out.1 hx);have m1:=yG t6.out b8 (by show _<=o;have:=b5.out;omega)
   have i3:StartS B P o n gs (.slice (some ⟨b0,o0,none⟩) gs.length c0) (.slice sa gs.length sc) w (x+1) (wM.setCell ⟨o,7,none⟩ (.slice sU' (u+1) cU')):=by
    refine .mk X els pre las m (u+1) (us++[Value.string s1,Value.string s2]) H9 sE cE sP cP sL cL sU' cU' ?_ hl e8 g1 (by omega) (by omega) (fun v hv=>by
     rcases List.mem_append.1 hv with hv|hv
     ·exact m9.out v hv
     ·simp only[List.mem_cons,List.not_mem_nil,or_false]at hv;rcases hv with rfl|rfl<;>rfl) (l6.out.far b8 (fun r hr=>zV (l6.out.own r hr) l8.out (by
     simp only[List.set_cons_zero,List.set_cons_succ,List.mem_cons,List.not_mem_nil,or_false]at hr
     rcases hr with rfl|rfl|rfl|rfl<;>simp))) (t9.out.kept kS b8.size) (t5.out.kept kS b8.size) (j0.out.kept m1 (by simp)) HX.out (by simpa using o6) (zB j2.out b8 (by simp;omega)) m1
    rw[yO,if_pos (by rw[c2.out,<-HF.out];exact hin)];exact c2.out
   have n1:=Kh i3;clear i3 kS m1 o6 b8 l6 t9 t5 l8 j2 t6;go_wp2;go_roundg (gs.length-(x+1))
   case measure=>have:=n4.out;omega
   exact⟨x+1,by omega,by go_num,n1.out⟩
  have g8:mX els f = -1:=by unfold mX;rw[if_neg hin]
  rw[g8];clear g8;obtain⟨w4,b6⟩:=Nm ((wr.drewN md).drew);have h5:wr.grownBy w4 none:=(by rw[b6];exact zC (zQ wr md none) (zS _ none));have m8:=Kh b6;have a3:=Kh (HM.out.grow h5);have H3:=Kh (zB b1.out h5);have k4:=HM.out.keep h5;have l7:=Kh (HE.out.kept k4 h5.size);have a5:=Kh (d9.out.kept k4 h5.size);have h6:=Kh (zB c7.out h5);have a4:=Kh (zC c9.out h5);have g6:=n7.out.kept h5 (by simp);obtain⟨FF,l3⟩:∃FF:Nat->Prop,FF=fun j=>qE [⟨P,22,.slice sE m cE,m,H9,1⟩,⟨P,3,.slice sP m cP,m,ints pre,1⟩,⟨P,3,.slice sL m cL,m,ints las,1⟩,⟨P,180,.slice sU u cU,u,us,2⟩] j\/j=o:=⟨_,rfl⟩
  have a1:∀j,FF j->P<=j/\¬X j/\j≠P:=fun j hj=>by
   rw[l3]at hj;rcases hj with hj|hj
   ·have:=qCA a3.out hj (fun r hr=>by
     simp only[List.mem_cons,List.not_mem_nil,or_false]at hr
     rcases hr with rfl|rfl|rfl|rfl<;>simp) H3.out h6.out
    exact⟨this.1,this.2.1,this.2.2.2⟩
   subst hj;exact⟨by omega,HX.out.1,by omega⟩
  have j1:=Kh a1;have A0:Hid (FF o):=Kh (by rw[l3];exact .inr rfl);have y1:Hid (o<w4.heap.size):=Kh (zR H3.out);have g9:Hid (P<=w4.heap.size):=Kh (Nat.le_of_lt (zR h6.out))
  have A4:Hid (∀W:World,GrownBut w4 W FF->uZ W 1 (.slice fa n fc) n (nats f)):=Kh (fun W hg=>by
   rcases g6 with ⟨e,e2⟩|⟨b,off,cap,cur,mm,e,e2,e3,e4,e5,e6⟩
   ·simp only[Value.slice.injEq]at e
    exact .inl ⟨fa,fc,by rw[e.2.1],e.2.1,e2⟩
   have hl:(nats f).length=n:=by rw[zT];exact A8.out.1
   rw[hl]at e e3;refine .inr ⟨b,off,cap,e,by omega,by omega,fun j u' hj=>?_⟩;obtain⟨z0,y9⟩:=List.getElem?_eq_some_iff.1 hj;refine hg.cell ?_ (fun hb=>by have:=(j1.out b hb).1;omega)
   rw[cell_of_row w4 b (off+j) _ _ _ e5,e6 j z0,y9])
  have A5:Hid (Many w4 FF w4 [⟨P,22,.slice sE m cE,m,H9,1⟩,⟨P,3,.slice sP m cP,m,ints pre,1⟩,⟨P,3,.slice sL m cL,m,ints las,1⟩,⟨P,180,.slice sU u cU,u,us,2⟩,⟨P,3,.slice none 0 0,0,[],1⟩] [] []):=Kh ((a3.out.add (zU _ none) (r:=⟨P,3,.slice none 0 0,0,[],1⟩) (World.ownsRow_nil _ _ _ _) (fun j e=>by simp[Value.ownBlock]at e)).many FF (fun j hj=>by
   obtain⟨r,hr,hk⟩:=hj;rw[l3];simp only[List.cons_append,List.nil_append,List.mem_cons,List.not_mem_nil,or_false]at hr;rcases hr with rfl|rfl|rfl|rfl|rfl
   ·exact .inl ⟨_,by simp,hk⟩
   ·exact .inl ⟨_,List.Mem.tail _ (List.Mem.head _),hk⟩
   ·exact .inl ⟨_,List.Mem.tail _ (List.Mem.tail _ (List.Mem.head _)),hk⟩
   ·exact .inl ⟨_,List.Mem.tail _ (List.Mem.tail _ (List.Mem.tail _ (List.Mem.head _))),hk⟩
   simp[Value.ownBlock]at hk))
  obtain⟨q0,q1,q2,q3,q4,q5,q6,q7,q8⟩:=zZ H3.out;have C:=Kh (And.intro q3 (And.intro q4 q5));clear b6 h5 k4 HM b1 HE d9 HV c7 c9 q0 q1 q2 q3 q4 q5 q6 q7 q8 l3 a1 g6 n7;go_upto_region 16 with fail;refine wp_region_noPanic ?_;refine yM (G:=wH 18 (fun _=>True) (fun W=>W.cell? ⟨o,3,none⟩=some (.slice sE m cE)/\W.cell? ⟨o,4,none⟩=some (.slice sP m cP)/\W.cell? ⟨o,5,none⟩=some (.slice sL m cL))) (by kernel_rfl) ?_;rw[<-m8.out];refine zO 0 ⟨trivial,fun _=>C.out⟩ ?_;refine yY 1 ⟨trivial,fun _=>C.out⟩ ?_;refine zO 3 ⟨trivial,fun _=>C.out⟩ ?_;refine zO 7 ⟨trivial,fun _=>C.out⟩ ?_;refine yY 8 ⟨trivial,fun _=>C.out⟩ ?_;refine zO 9 ⟨trivial,fun _=>C.out⟩ ?_;refine zO 12 ⟨trivial,fun _=>C.out⟩ ?_;refine yY 13 ⟨trivial,fun _=>C.out⟩ ?_;refine zO 14 ⟨trivial,fun _=>C.out⟩ ?_;refine uR (fun Wp hWp a0 ha0=>?_);subst hWp
  try simp only[Act.put,sPd,sPe,sPf,sPa,sPb,sPc]at ha0
  have n8:=Kh ha0;refine uQ (I:=start16I n P o m u x f pre las us H9 sE cE sP cP sL cL sU cU (.slice sa gs.length sc) w4 FF a0) (fun l a w h=>qIV h) (aF ha0 a7 (by omega) g9.out A0.out y1.out A4.out) (by kernel_rfl) ?hend9 (by decide +kernel) ?hinit9
  case hinit9 =>
   clear ha0;refine⟨a0.tmps.getD 68 undef,a0.tmps.getD 70 undef,a0.tmps.getD 71 undef,a0.tmps.getD 72 undef,a0.tmps.getD 76 undef,a0.tmps.getD 77 undef,a0.tmps.getD 81 undef,a0.tmps.getD 82 undef,a0.tmps.getD 83 undef,a0.tmps.getD 84 undef,a0.tmps.getD 85 undef,.slice sE m cE,m,H9,.slice sP m cP,m,ints pre,.slice sL m cL,m,ints las,.slice none 0 0,0,[],[],.slice sE m cE,.slice sP m cP,.slice sL m cL,(vX (by simp)).symm,by decide +kernel,Kh (fun _=>⟨rfl,rfl,rfl⟩),Kh (fun h=>absurd h (by decide +kernel)),Kh (fun h=>absurd h (by decide +kernel)),Kh (fun h=>absurd h (by decide +kernel)),Kh (fun _=>⟨rfl,rfl,rfl⟩),Kh (fun h=>absurd h (by decide +kernel)),Kh (fun h=>absurd h (by decide +kernel)),Kh (fun _=>⟨rfl,rfl,rfl⟩),Kh (fun h=>absurd h (by decide +kernel)),Kh (fun h=>absurd h (by decide +kernel)),Kh (fun _=>⟨rfl,rfl,rfl⟩),Kh (fun h=>absurd h (by decide +kernel)),Kh (fun h=>absurd h (by decide +kernel)),Kh (fun h=>absurd h (by decide +kernel)),Kh (fun h=>absurd h (by decide +kernel)),Kh (fun _=>rfl),Kh (fun h=>absurd h (by decide +kernel)),Kh (fun _=>rfl),Kh (fun h=>absurd h (by decide +kernel)),Kh (fun _=>rfl),Kh (fun h=>absurd h (by decide +kernel)),H3.out,A5.out⟩
  clear ha0;intro l a w6 h h0;obtain⟨x68,x70,x71,x72,x76,x77,x81,x82,x83,x84,x85,vE,nE,xE,vP,nP,xP,vL,nL,xL,vF,nF,xF,ls,c3,c4,c5,ha,HR,B7,H2,H4,H5,B6,H6,C2,o1,x3,C1,n9,x2,C0,B9,B8,B3n,B3,B4n,B4,B5n,B5,HB,HM⟩:=h;obtain⟨_,s4,c4',rfl,rfl,y2,rfl⟩:=H4.out (h0 4 (by decide));obtain⟨_,s6,c6,rfl,rfl,rfl,rfl⟩:=H6.out (h0 6 (by decide));obtain⟨_,s11,c11,rfl,rfl,rfl,rfl⟩:=x3.out (h0 11 (by decide));obtain⟨_,s16,c16,rfl,rfl,rfl,rfl⟩:=x2.out (h0 16 (by decide));have e3:=(B3.out (h0 18 (by decide))).2.2;have e4:=(B4.out (h0 20 (by decide))).2.2;have e5:=(B5.out (h0 22 (by decide))).2.2;subst y2;rw[e3,e4,e5]at HB;clear B7 H2 H4 H5 B6 H6 C2 o1 x3 C1 n9 x2 C0 B9 B8 B3n B3 B4n B4 B5n B5 HR e3 e4 e5;subst ha;rw[n8.out];simp only[zP,List.foldl_cons,List.foldl_nil,Act.put,sPa,sPb,sPc];refine NoPanic.normal ?_;have i8:EMem X w6 ([⟨P,22,.slice s6 (m+1) c6,m+1,H9++[.slice s4 n c4'],1⟩,⟨P,3,.slice s11 (m+1) c11,m+1,ints pre++[.int .i64 0],1⟩,⟨P,3,.slice s16 (m+1) c16,m+1,ints las++[.int .i64 (x:Int)],1⟩,⟨P,180,.slice sU u cU,u,us,2⟩]++[⟨P,3,.slice s4 n c4',n,nats f,1⟩]):=a3.out.after HM (fun j hj=>(j1.out j hj).2.1);have s7:=i8.retire;have kM:=a3.out.keepMany HM (fun j hj=>(j1.out j hj).2.1);have i7:=HM.own 4 _ rfl;simp only at i7;have c1:=HM.but.heap h6.out (fun hj=>(j1.out P hj).2.2 rfl);have m2:w.grownBy w6 none:=HM.but.grown a4.out (fun j hj=>.inr (by have:=(j1.out j hj).1;have:=b5.out;omega))
  have i3:StartS B P o n gs (.slice (some ⟨b0,o0,none⟩) gs.length c0) (.slice sa gs.length sc) w (x+1) w6:=by
   refine .mk (fun j=>X j\/(Value.slice s4 n c4').ownBlock=some j) (els++[f]) (pre++[0]) (las++[(x:Int)]) (m+1) u us (H9++[Value.slice s4 n c4']) s6 c6 s11 c11 s16 c16 sU cU ?_ (by simp[hl]) (by simp[e8]) (by simp[g1]) (by omega) (by omega) m9.out ?_ (((l7.out.kept kM HM.but.size).mono (fun j hj=>.inl hj)).snoc (RowX.of_owns i7 (fun j hj=>.inr hj))) ((a5.out.kept kM HM.but.size).mono (fun j hj=>.inl hj)) (j0.out.kept m2 (by simp)) ⟨fun hx=>?_,fun hx=>?_⟩ HB c1 m2
   ·rw[yO,if_neg (by rw[c2.out,<-HF.out];exact hin),c2.out,<-HF.out]
   ·rw[show ints (pre++[0])=ints pre++[.int .i64 0] by simp[ints],show ints (las++[(x:Int)])=ints las++[.int .i64 (x:Int)] by simp[ints]]
    exact s7
   ·rcases hx with hx|hx
    ·exact HX.out.1 hx
    exact zV i7 HB (by decide) hx
   rcases hx with hx|hx
   ·exact HX.out.2 hx
   exact zV i7 c1 (by decide) hx
  have n1:=Kh i3;clear i3 i8 s7 kM i7 c1 m2 HM HB;go_wp2;go_roundg (gs.length-(x+1))
  case measure=>have:=n4.out;omega
  exact⟨x+1,by omega,by go_num,n1.out⟩
 have x7:x=gs.length:=by have:=n4.out;omega
 subst x7;obtain⟨q0,q1,q2,q3,q4,q5,q6,q7,q8⟩:=zZ H1;obtain⟨p0,p1,p2,p3,p4,p5,p6,p7,p8⟩:=zZ h8;have f0:=zA h8 0;have f1:=zA h8 1;have f2:=zA h8 2;have f3:=zA h8 3;have f4:=zA h8 4;have f5:=zA h8 5;have f6:=zA h8 6;have f7:=zA h8 7;have f8:=zA h8 8;obtain⟨c2,HM,HE,d9,HX,c7⟩:=K6 he hM hE hG hX h8;have c9:=Kh j7;have n3:=Kh (And.intro hl (And.intro e8 g1));clear he hM hE hG hV hX H1 h8 j7 hl e8 g1;go_wp2;refine bodyPost_ret (v:=.tuple #[.agg #[.int .i64 n,.bool true,.slice sa gs.length sc,.slice sE m cE,.slice sP m cP,.slice sL m cL,.slice none 0 0,.slice sU u cU,.int .i64 0],.int .i64 0]) (by simp[results,Tryz.results90,go_sem,p0,p1,p2,p3,p4,p5,p6,p7,p8]) rfl ?_;obtain⟨C4,h7⟩:=rZ c7.out (.int .i64 n) (.bool true) (.slice sa gs.length sc) (.slice sE m cE) (.slice sP m cP) (.slice sL m cL) (.slice none 0 0) (.slice sU u cU) (.int .i64 0);have kk:xV X wr _:=xV.of_grown HM.out.lt h7 (fun j e hx=>by have e:P=j:=Oj e;subst e;exact HX.out.2 hx);refine⟨X,els,pre,las,m,u,us,H9,.slice sa gs.length sc,sE,cE,sP,cP,sL,cL,sU,cU,rfl,c2.out,n3.out.1,n3.out.2.1,n3.out.2.2,by omega,m9.out,?_,HE.out.kept kk h7.size,d9.out.kept kk h7.size,yG c9.out h7 (by show _<=P;have:=b5.out;omega)⟩;rw[<-b5.out]
 exact HM.out.far h7 (fun r hr=>zV (HM.out.own r hr) c7.out (by
  simp only[List.mem_cons,List.not_mem_nil,or_false]at hr
  rcases hr with rfl|rfl|rfl|rfl<;>simp))
theorem Many.farNew {w0 W W':World}{F:Nat->Prop}{rs:List RowS}(h:Many w0 F W rs [] []){r:Nat}(hg:W.grownBy W' (some r))(hr:w0.heap.size<=r)(a9:∀(j:Nat) (s:RowS),rs[j]?=some s->s.v.ownBlock≠some r):Many w0 F W' rs [] [] where
 own:=fun j s hs=>(h.own j s hs).kept hg (.inr (a9 j s hs))
 mine:=h.mine
 apart:=h.apart
 lit:=fun p hp=>by cases hp
 pre:=fun p hp=>by cases hp
 but:=h.but.step hg (fun k e=>.inr (by have e:=Oj e;omega))
inductive proc1I (n P P2 m u:Nat)(pre las:List Int)(us hsE:List Value)(sE:Option Addr)(cE:Nat)(sP:Option Addr)(cP:Nat)(sL:Option Addr)(cL:Nat)(sU:Option Addr)(cU:Nat)(gA:Option Addr)(gN gC:Nat)(w5:World)(a0:Act)(l:Array Bool)(a:Act)(w:World):Prop
 | mk (x24:Value) (x27:Value) (x28:Value) (x31:Value) (x32:Value) (x35:Value) (x36:Value) (x39:Value) (x40:Value) (x43:Value) (x46:Value) (x6:Value) (vE:Value) (nE:Nat) (yE:List Value) (vP:Value) (nP:Nat) (yP:List Value) (vL:Value) (nL:Nat) (yL:List Value) (vR:Value) (nR:Nat) (yR:List Value) (vU:Value) (nU:Nat) (yU:List Value) (o:Nat) (ha:a=zP a0 [(24,x24),(27,x27),(28,x28),(31,x31),(32,x32),(35,x35),(36,x36),(39,x39),(40,x40),(43,x43),(46,x46),(6,x6)]) (HR:∀j∈[0,1,2,3,4,5,7,8,11,12,15,16,19,20,23,24,26,27],l.getD j true=true) (H6n:Hid (l.getD 6 true=false->vE=.slice none 0 0/\nE=0/\yE=[])) (H6:Hid (l.getD 6 true=true->(l.getD 9 true=false->∃g,x24=.slice (some ⟨g,0,none⟩) 0 0/\vE=.slice (some ⟨g,0,none⟩) 0 0/\nE=0/\yE=[]))) (H9:Hid (l.getD 9 true=true->l.getD 6 true=true/\∃sa sc,x27=.slice sa m sc/\vE=.slice sa m sc/\m=nE/\hsE=yE)) (H10n:Hid (l.getD 10 true=false->vP=.slice none 0 0/\nP=0/\yP=[])) (H10:Hid (l.getD 10 true=true->(l.getD 13 true=false->∃g,x28=.slice (some ⟨g,0,none⟩) 0 0/\vP=.slice (some ⟨g,0,none⟩) 0 0/\nP=0/\yP=[]))) (H13:Hid (l.getD 13 true=true->l.getD 10 true=true/\∃sa sc,x31=.slice sa m sc/\vP=.slice sa m sc/\m=nP/\yP=ints pre)) (H14n:Hid (l.getD 14 true=false->vL=.slice none 0 0/\nL=0/\yL=[])) (H14:Hid (l.getD 14 true=true->(l.getD 17 true=false->∃g,x32=.slice (some ⟨g,0,none⟩) 0 0/\vL=.slice (some ⟨g,0,none⟩) 0 0/\nL=0/\yL=[]))) (H17:Hid (l.getD 17 true=true->l.getD 14 true=true/\∃sa sc,x35=.slice sa m sc/\vL=.slice sa m sc/\m=nL/\yL=ints las)) (H18n:Hid (l.getD 18 true=false->vR=.slice none 0 0/\nR=0/\yR=[])) (H18:Hid (l.getD 18 true=true->(l.getD 21 true=false->∃g,x36=.slice (some ⟨g,0,none⟩) 0 0/\vR=.slice (some ⟨g,0,none⟩) 0 0/\nR=0/\yR=[]))) (H21:Hid (l.getD 21 true=true->l.getD 18 true=true/\∃sa sc,x39=.slice sa 0 sc/\vR=.slice sa 0 sc/\nR=0/\yR=[])) (H22n:Hid (l.getD 22 true=false->vU=.slice none 0 0/\nU=0/\yU=[])) (H22:Hid (l.getD 22 true=true->(l.getD 25 true=false->∃g,x40=.slice (some ⟨g,0,none⟩) 0 0/\vU=.slice (some ⟨g,0,none⟩) 0 0/\nU=0/\yU=[]))) (H25:Hid (l.getD 25 true=true->l.getD 22 true=true/\∃sa sc,x43=.slice sa u sc/\vU=.slice sa u sc/\u=nU/\us=yU)) (H28:Hid (l.getD 28 true=true->l.getD 6 true=true/\l.getD 10 true=true/\l.getD 14 true=true/\l.getD 18 true=true/\l.getD 22 true=true/\l.getD 9 true=true/\l.getD 13 true=true/\l.getD 17 true=true/\l.getD 21 true=true/\l.getD 25 true=true/\x46=.agg #[.int .i64 n,.bool true,(.slice gA gN gC),vE,vP,vL,vR,vU,.int .i64 0])) (H29:Hid (l.getD 29 true=true->x6=.pointer (some ⟨o,0,none⟩)/\w5.heap.size<=o)) (B1:Hid (l.getD 29 true=true->(l.getD 30 true=false->w.heap[o]?=some (.cells #[.int .i64 0,.bool false,.slice none 0 0,.slice none 0 0,.slice none 0 0,.slice none 0 0,.slice none 0 0,.slice none 0 0,.int .i64 0] 106 (0,0))))) (B2:Hid (l.getD 30 true=true->l.getD 6 true=true/\l.getD 10 true=true/\l.getD 14 true=true/\l.getD 18 true=true/\l.getD 22 true=true/\l.getD 9 true=true/\l.getD 13 true=true/\l.getD 17 true=true/\l.getD 21 true=true/\l.getD 25 true=true/\l.getD 28 true=true/\l.getD 29 true=true/\w.heap[o]?=some (.cells #[.int .i64 n,.bool true,(.slice gA gN gC),vE,vP,vL,vR,vU,.int .i64 0] 106 (0,0)))) (HM:(Many w5 (fun _=>False) w [⟨P,22,vE,nE,yE,1⟩,⟨P,3,vP,nP,yP,1⟩,⟨P,3,vL,nL,yL,1⟩,⟨P,22,vR,nR,yR,1⟩,⟨P,180,vU,nU,yU,2⟩] [] []))
theorem qRB {n P P2 m u:Nat}{pre a9:List Int}{us a8:List Value}{sE:Option Addr}{cE:Nat}{sP:Option Addr}{cP:Nat}{sL:Option Addr}{cL:Nat}{sU:Option Addr}{cU:Nat}{gA:Option Addr}{gN gC:Nat}{w5:World}{a0:Act}{l:Array Bool}{a:Act}{w:World}(a7:w5.heap[P2]?=some (.cells #[.int .i64 n,.bool true,.slice gA gN gC,.slice sE m cE,.slice sP m cP,.slice sL m cL,.slice none 0 0,.slice sU u cU,.int .i64 0] 106 (0,0)))(h:proc1I n P P2 m u pre a9 us a8 sE cE sP cP sL cL sU cU gA gN gC w5 a0 l a w):wH 99 (fun W=>W.cell? ⟨P2,0,none⟩=some (.int .i64 n)/\W.cell? ⟨P2,1,none⟩=some (.bool true)/\W.cell? ⟨P2,2,none⟩=some (.slice gA gN gC)/\W.cell? ⟨P2,3,none⟩=some (.slice sE m cE)/\W.cell? ⟨P2,4,none⟩=some (.slice sP m cP)/\W.cell? ⟨P2,5,none⟩=some (.slice sL m cL)/\W.cell? ⟨P2,6,none⟩=some (.slice none 0 0)/\W.cell? ⟨P2,7,none⟩=some (.slice sU u cU)/\W.cell? ⟨P2,8,none⟩=some (.int .i64 0)) (fun _=>True) l w:=by
 obtain⟨x24,x27,x28,x31,x32,x35,x36,x39,x40,x43,x46,x6,vE,nE,yE,vP,nP,yP,vL,nL,yL,vR,nR,yR,vU,nU,yU,o,ha,HR,h4,H6,H9,h3,H4,H3,h2,H2,H1,h1,H0,h9,h0,h8,h7,h6,h5,B1,B2,HM⟩:=h;have hg:w5.grownBy w none:=HM.but.grown (zU w5 none) (fun k hk=>hk.elim);obtain⟨q0,q1,q2,q3,q4,q5,q6,q7,q8⟩:=zZ (zB a7 hg);exact⟨⟨q0,q1,q2,q3,q4,q5,q6,q7,q8⟩,fun _=>trivial⟩
theorem tE {n P P2 m u:Nat}{pre a9:List Int}{us a8:List Value}{sE:Option Addr}{cE:Nat}{sP:Option Addr}{cP:Nat}{sL:Option Addr}{cL:Nat}{sU:Option Addr}{cU:Nat}{gA:Option Addr}{gN gC:Nat}{w5:World}{a0:Act}{l:Array Bool}{a:Act}{w:World}(h:proc1I n P P2 m u pre a9 us a8 sE cE sP cP sL cL sU cU gA gN gC w5 a0 l a w):∀j∈[0,1,2,3,4,5,7,8,11,12,15,16,19,20,23,24,26,27],l.getD j true=true:=by
 obtain⟨x24,x27,x28,x31,x32,x35,x36,x39,x40,x43,x46,x6,vE,nE,yE,vP,nP,yP,vL,nL,yL,vR,nR,yR,vU,nU,yU,o,ha,HR,h4,H6,H9,h3,H4,H3,h2,H2,H1,h1,H0,h9,h0,h8,h7,h6,h5,B1,B2,HM⟩:=h;exact HR
theorem qDZ {n P P2 m u:Nat}{pre a7:List Int}{us a6:List Value}{sE:Option Addr}{cE:Nat}{sP:Option Addr}{cP:Nat}{sL:Option Addr}{cL:Nat}{sU:Option Addr}{cU:Nat}{gA:Option Addr}{gN gC:Nat}{w5:World}{v0 v1 v3 v4 v5 v6 v7 v8 v9 y8 y9 x0 x1 x2 x3 x4 x5 x7 x8 x9 t0 t1 t2 t3 t4 t5 t6 t7 t8 t9 r0 r1 r2 r3 r4 r5 r6 r7 r8 r9 q0 q1 q2 q3 q4 q5 q6 q7 q8 q9 p0 p1 p2 p3 p4 p5 p6 p7 p8 p9 o0 o1 o2 o3 o4 o5 o6 o7 o8 o9 n0 n1 n2 n3 n4 n5 n6 n7 n8 n9 m0 m3 m4 m5 m6 m7 m8 m9 l0 l1 l2 l3 l4 l5 l6 l7 l8 l9 k9 j0 j1 j2 j3 j4 j5 j6 j7 j8 j9 i0 i1 i2 i3 i4 i5 i7 i8 g0 g1 g3 g4 g5 g6 g7 g8 g9 f9 e0 e1 e2 e3 e4 e5 e6 e7 e8 e9 d0 d1 d2 d3 d4 d5 d6 d7 d8 d9 c0 c1 c2 c3 c4 c5 c6 c7 c8 c9 b0 b1 b2 b3 b4 b5 b6 b7 b8 b9 a1 a2 a3 a4 a5:Value}{dd:_}{a0:Act}(a8:a0=⟨#[v0,v1,.pointer (some ⟨P2,0,none⟩),v3,v4,v5,v6,v7,v8,v9,y8,y9,x0,x1,x2,x3,x4,x5,.pointer (some ⟨P2,0,none⟩),.int .i64 n,.pointer (some ⟨P2,1,none⟩),.bool true,.pointer (some ⟨P2,2,none⟩),.slice gA gN gC,x7,.pointer (some ⟨P2,3,none⟩),.slice sE m cE,x8,x9,.pointer (some ⟨P2,4,none⟩),.slice sP m cP,t0,t1,.pointer (some ⟨P2,5,none⟩),.slice sL m cL,t2,t3,.pointer (some ⟨P2,6,none⟩),.slice none 0 0,t4,t5,.pointer (some ⟨P2,7,none⟩),.slice sU u cU,t6,.pointer (some ⟨P2,8,none⟩),.int .i64 0,t7,t8,t9,r0,r1,r2,r3,r4,r5,r6,r7,r8,r9,q0,q1,q2,q3,q4,q5,q6,q7,q8,q9,p0,p1,p2,p3,p4,p5,p6,p7,p8,p9,o0,o1,o2,o3,o4,o5,o6,o7,o8,o9,n0,n1,n2,n3,n4,n5,n6,n7,n8,n9,m0,m3,m4,m5,m6,m7,m8,m9,l0,l1,l2,l3,l4,l5,l6,l7,l8,l9,k9,j0,j1,j2,j3,j4,j5,j6,j7,j8,j9,i0,i1,i2,i3,i4,i5,i7,i8,g0,g1,g3,g4,g5,g6,g7,g8,g9,f9,e0,e1,e2,e3,e4,e5,e6,e7,e8,e9,d0,d1,d2,d3,d4,d5,d6,d7,d8,d9,c0,c1,c2,c3,c4,c5,c6,c7,c8,c9,b0,b1,b2,b3,b4,b5,b6,b7,b8,b9,a1,a2,a3,a4,a5],dd⟩)(z8:m<=2000)(hu:u<=2000)(a9:P<=w5.heap.size)(m1:∀W:World,GrownBut w5 W (fun _=>False)->uZ W 1 (.slice sE m cE) m a6)(y5:∀W:World,GrownBut w5 W (fun _=>False)->uZ W 1 (.slice sP m cP) m (ints pre))(y4:∀W:World,GrownBut w5 W (fun _=>False)->uZ W 1 (.slice sL m cL) m (ints a7))(y6:∀W:World,GrownBut w5 W (fun _=>False)->uZ W 1 (.slice none 0 0) 0 [])(y7:∀W:World,GrownBut w5 W (fun _=>False)->uZ W 2 (.slice sU u cU) u us)(z9:∀v∈a6,v.oneCell'=true)(y1:∀v∈ints pre,v.oneCell'=true)(y0:∀v∈ints a7,v.oneCell'=true)(y2:∀v∈([]:List Value),v.oneCell'=true)(y3:∀v∈us,v.oneCell'=true)(m2:Array Oper)(Q7:Exit->Act->World->Prop):pU (iJ Tryz.prog .any m2 Q7 (proc1I n P P2 m u pre a7 us a6 sE cE sP cP sL cL sU cU gA gN gC w5 a0)) 0 (qD Tryz.f91 1).toList:=by
 refine⟨?s0,?s1,?s2,?s3,?s4,?s5,?s6,?s7,?s8,?s9,?s10,?s11,?s12,?s13,?s14,?s15,?s16,?s17,?s18,?s19,?s20,?s21,?s22,?s23,?s24,?s25,?s26,?s27,?s28,?s29,?s30,trivial⟩
 case s0 =>
  exact fun l a w h h0=>absurd (tE h 0 (by simp)) (by rw[h0];simp)
 case s1 =>
  exact fun l a w h h0=>absurd (tE h 1 (by simp)) (by rw[h0];simp)
 case s2 =>
  exact fun l a w h h0=>absurd (tE h 2 (by simp)) (by rw[h0];simp)
 case s3 =>
  exact fun l a w h h0=>absurd (tE h 3 (by simp)) (by rw[h0];simp)
 case s4 =>
  exact fun l a w h h0=>absurd (tE h 4 (by simp)) (by rw[h0];simp)
 case s5 =>
  exact fun l a w h h0=>absurd (tE h 5 (by simp)) (by rw[h0];simp)
 case s6 =>
  intro l a w h h0 h1 K hK;obtain⟨x24,x27,x28,x31,x32,x35,x36,x39,x40,x43,x46,x6,vE,nE,yE,vP,nP,yP,vL,nL,yL,vR,nR,yR,vU,nU,yU,o,ha,HR,H5,H6,H9,h6,z1,H4,h5,z0,H3,h3,H8,H2,h2,H7,H1,h7,H0,B1,B2,HM⟩:=h;obtain⟨rfl,rfl,rfl⟩:=H5.out h0;subst ha;rw[a8];simp only[zP,List.foldl_cons,List.foldl_nil,Act.put,sPa,sPb,sPc];go_simp;have h8:=HM.lit0 (j:=0) rfl a9;refine hK.out _ _ ?_;refine⟨(.slice (some ⟨w.heap.size,0,none⟩) 0 0),x27,x28,x31,x32,x35,x36,x39,x40,x43,x46,x6,(.slice (some ⟨w.heap.size,0,none⟩) 0 0),0,[],vP,nP,yP,vL,nL,yL,vR,nR,yR,vU,nU,yU,o,?fa6,fun j hj=>zD (HR j hj),Kh (fun h=>yF h),Kh (fun _ _=>⟨w.heap.size,rfl,rfl,rfl,rfl⟩),(hs7A H9 h0),(hs7N h6),Kh (fun h h4=>z1.out (zE (by decide) h) (zI h4)),(hs7Q H4),(hs7N h5),Kh (fun h h4=>z0.out (zE (by decide) h) (zI h4)),(hs7Q H3),(hs7N h3),Kh (fun h h4=>H8.out (zE (by decide) h) (zI h4)),(hs7Q H2),(hs7N h2),Kh (fun h h4=>H7.out (zE (by decide) h) (zI h4)),(hs7Q H1),(hs7A h7 h0),(hs7P H0),Kh (fun h h9=>zB (B1.out (zE (by decide) h) (zI h9)) (Ga w (.cells #[] 22) none)),(hs7A B2 h0),h8⟩
  case fa6=>rw[a8];simp only[zP,List.foldl_cons,List.foldl_nil,Act.put,sPa,sPb,sPc]
 case s7 =>
  exact fun l a w h h0=>absurd (tE h 7 (by simp)) (by rw[h0];simp)
 case s8 =>
  exact fun l a w h h0=>absurd (tE h 8 (by simp)) (by rw[h0];simp)
 case s9 =>
  intro l a w h h0 h1 K hK;obtain⟨x24,x27,x28,x31,x32,x35,x36,x39,x40,x43,x46,x6,vE,nE,yE,vP,nP,yP,vL,nL,yL,vR,nR,yR,vU,nU,yU,o,ha,HR,H5,H6,H9,h6,z1,H4,h5,z0,H3,h3,H8,H2,h2,H7,H1,h7,H0,B1,B2,HM⟩:=h;have DH6:=H6.out (zM (h1 ⟨6,.data⟩ (by simp) rfl));obtain⟨g2,rfl,rfl,rfl,rfl⟩:=DH6 h0;have z2:=zM (h1 ⟨6,.data⟩ (by simp) rfl);subst ha;rw[a8];simp only[zP,List.foldl_cons,List.foldl_nil,Act.put,sPa,sPb,sPc];refine rO (by simp[Region.wanted]) (.tmp 24) (.tmp 26) 27 rfl wG.toN 0 _ rfl HM rfl rfl rfl rfl (m1 w HM.but) ?g19 (Nat.zero_add _) ?g29 ?g39 a9 ?_
  case g19=>exact z9
  case g29=>unfold maxLen;omega
  case g39=>omega
  intro sa sc w6 h8 A0;rw[List.nil_append]at h8;refine hK.out _ _ ?_;refine⟨(.slice (some ⟨g2,0,none⟩) 0 0),(.slice sa m sc),x28,x31,x32,x35,x36,x39,x40,x43,x46,x6,(.slice sa m sc),m,(a6),vP,nP,yP,vL,nL,yL,vR,nR,yR,vU,nU,yU,o,?fa9,fun j hj=>zD (HR j hj),Kh (fun h=>absurd (zD z2) (by rw[h];simp)),Kh (fun _ h4=>yF h4),Kh (fun _=>⟨zD z2,sa,sc,rfl,rfl,rfl,rfl⟩),(hs7N h6),Kh (fun h h4=>z1.out (zE (by decide) h) (zI h4)),(hs7Q H4),(hs7N h5),Kh (fun h h4=>z0.out (zE (by decide) h) (zI h4)),(hs7Q H3),(hs7N h3),Kh (fun h h4=>H8.out (zE (by decide) h) (zI h4)),(hs7Q H2),(hs7N h2),Kh (fun h h4=>H7.out (zE (by decide) h) (zI h4)),(hs7Q H1),Kh (fun h=>absurd (h7.out (zE (by decide) h)).2.2.2.2.2.1 (by rw[h0];simp)),(hs7P H0),Kh (fun h h9=>zB (B1.out (zE (by decide) h) (zI h9)) A0 (fun e=>HM.not_type (B1.out (zE (by decide) h) (zI h9)) (by simp) 0 _ rfl e)),Kh (fun h=>absurd (B2.out (zE (by decide) h)).2.2.2.2.2.1 (by rw[h0];simp)),h8⟩
  case fa9=>rw[a8];simp only[zP,List.foldl_cons,List.foldl_nil,Act.put,sPa,sPb,sPc]
 case s10 =>
  intro l a w h h0 h1 K hK;obtain⟨x24,x27,x28,x31,x32,x35,x36,x39,x40,x43,x46,x6,vE,nE,yE,vP,nP,yP,vL,nL,yL,vR,nR,yR,vU,nU,yU,o,ha,HR,H5,H6,H9,h6,z1,H4,h5,z0,H3,h3,H8,H2,h2,H7,H1,h7,H0,B1,B2,HM⟩:=h;obtain⟨rfl,rfl,rfl⟩:=h6.out h0;subst ha;rw[a8];simp only[zP,List.foldl_cons,List.foldl_nil,Act.put,sPa,sPb,sPc];go_simp;have h8:=HM.lit0 (j:=1) rfl a9;refine hK.out _ _ ?_;refine⟨x24,x27,(.slice (some ⟨w.heap.size,0,none⟩) 0 0),x31,x32,x35,x36,x39,x40,x43,x46,x6,vE,nE,yE,(.slice (some ⟨w.heap.size,0,none⟩) 0 0),0,[],vL,nL,yL,vR,nR,yR,vU,nU,yU,o,?fa10,fun j hj=>zD (HR j hj),(hs7N H5),Kh (fun h h4=>H6.out (zE (by decide) h) (zI h4)),(hs7Q H9),Kh (fun h=>yF h),Kh (fun _ _=>⟨w.heap.size,rfl,rfl,rfl,rfl⟩),(hs7A H4 h0),(hs7N h5),Kh (fun h h4=>z0.out (zE (by decide) h) (zI h4)),(hs7Q H3),(hs7N h3),Kh (fun h h4=>H8.out (zE (by decide) h) (zI h4)),(hs7Q H2),(hs7N h2),Kh (fun h h4=>H7.out (zE (by decide) h) (zI h4)),(hs7Q H1),(hs7B h7 h0),(hs7P H0),Kh (fun h h9=>zB (B1.out (zE (by decide) h) (zI h9)) (Ga w (.cells #[] 3) none)),(hs7B B2 h0),h8⟩
  case fa10=>rw[a8];simp only[zP,List.foldl_cons,List.foldl_nil,Act.put,sPa,sPb,sPc]
 case s11 =>
  exact fun l a w h h0=>absurd (tE h 11 (by simp)) (by rw[h0];simp)
 case s12 =>
  exact fun l a w h h0=>absurd (tE h 12 (by simp)) (by rw[h0];simp)
 case s13 =>
  intro l a w h h0 h1 K hK;obtain⟨x24,x27,x28,x31,x32,x35,x36,x39,x40,x43,x46,x6,vE,nE,yE,vP,nP,yP,vL,nL,yL,vR,nR,yR,vU,nU,yU,o,ha,HR,H5,H6,H9,h6,z1,H4,h5,z0,H3,h3,H8,H2,h2,H7,H1,h7,H0,B1,B2,HM⟩:=h;have DH10:=z1.out (zM (h1 ⟨10,.data⟩ (by simp) rfl));obtain⟨g2,rfl,rfl,rfl,rfl⟩:=DH10 h0;have z2:=zM (h1 ⟨10,.data⟩ (by simp) rfl);subst ha;rw[a8];simp only[zP,List.foldl_cons,List.foldl_nil,Act.put,sPa,sPb,sPc];refine rO (by simp[Region.wanted]) (.tmp 28) (.tmp 30) 22 rfl yH.toN 1 _ rfl HM rfl rfl rfl rfl (y5 w HM.but) ?g113 (Nat.zero_add _) ?g213 ?g313 a9 ?_
  case g113=>exact y1
  case g213=>unfold maxLen;omega
  case g313=>omega
  intro sa sc w6 h8 A0;rw[List.nil_append]at h8;refine hK.out _ _ ?_;refine⟨x24,x27,(.slice (some ⟨g2,0,none⟩) 0 0),(.slice sa m sc),x32,x35,x36,x39,x40,x43,x46,x6,vE,nE,yE,(.slice sa m sc),m,(ints pre),vL,nL,yL,vR,nR,yR,vU,nU,yU,o,?fa13,fun j hj=>zD (HR j hj),(hs7N H5),Kh (fun h h4=>H6.out (zE (by decide) h) (zI h4)),(hs7Q H9),Kh (fun h=>absurd (zD z2) (by rw[h];simp)),Kh (fun _ h4=>yF h4),Kh (fun _=>⟨zD z2,sa,sc,rfl,rfl,rfl,rfl⟩),(hs7N h5),Kh (fun h h4=>z0.out (zE (by decide) h) (zI h4)),(hs7Q H3),(hs7N h3),Kh (fun h h4=>H8.out (zE (by decide) h) (zI h4)),(hs7Q H2),(hs7N h2),Kh (fun h h4=>H7.out (zE (by decide) h) (zI h4)),(hs7Q H1),Kh (fun h=>absurd (h7.out (zE (by decide) h)).2.2.2.2.2.2.1 (by rw[h0];simp)),(hs7P H0),Kh (fun h h9=>zB (B1.out (zE (by decide) h) (zI h9)) A0 (fun e=>HM.not_type (B1.out (zE (by decide) h) (zI h9)) (by simp) 1 _ rfl e)),Kh (fun h=>absurd (B2.out (zE (by decide) h)).2.2.2.2.2.2.1 (by rw[h0];simp)),h8⟩
  case fa13=>rw[a8];simp only[zP,List.foldl_cons,List.foldl_nil,Act.put,sPa,sPb,sPc]
 case s14 =>
  intro l a w h h0 h1 K hK;obtain⟨x24,x27,x28,x31,x32,x35,x36,x39,x40,x43,x46,x6,vE,nE,yE,vP,nP,yP,vL,nL,yL,vR,nR,yR,vU,nU,yU,o,ha,HR,H5,H6,H9,h6,z1,H4,h5,z0,H3,h3,H8,H2,h2,H7,H1,h7,H0,B1,B2,HM⟩:=h;obtain⟨rfl,rfl,rfl⟩:=h5.out h0;subst ha;rw[a8];simp only[zP,List.foldl_cons,List.foldl_nil,Act.put,sPa,sPb,sPc];go_simp;have h8:=HM.lit0 (j:=2) rfl a9;refine hK.out _ _ ?_;refine⟨x24,x27,x28,x31,(.slice (some ⟨w.heap.size,0,none⟩) 0 0),x35,x36,x39,x40,x43,x46,x6,vE,nE,yE,vP,nP,yP,(.slice (some ⟨w.heap.size,0,none⟩) 0 0),0,[],vR,nR,yR,vU,nU,yU,o,?fa14,fun j hj=>zD (HR j hj),(hs7N H5),Kh (fun h h4=>H6.out (zE (by decide) h) (zI h4)),(hs7Q H9),(hs7N h6),Kh (fun h h4=>z1.out (zE (by decide) h) (zI h4)),(hs7Q H4),Kh (fun h=>yF h),Kh (fun _ _=>⟨w.heap.size,rfl,rfl,rfl,rfl⟩),(hs7A H3 h0),(hs7N h3),Kh (fun h h4=>H8.out (zE (by decide) h) (zI h4)),(hs7Q H2),(hs7N h2),Kh (fun h h4=>H7.out (zE (by decide) h) (zI h4)),(hs7Q H1),Kh (fun h=>absurd (h7.out (zE (by decide) h)).2.2.1 (by rw[h0];simp)),(hs7P H0),Kh (fun h h9=>zB (B1.out (zE (by decide) h) (zI h9)) (Ga w (.cells #[] 3) none)),Kh (fun h=>absurd (B2.out (zE (by decide) h)).2.2.1 (by rw[h0];simp)),h8⟩
  case fa14=>rw[a8];simp only[zP,List.foldl_cons,List.foldl_nil,Act.put,sPa,sPb,sPc]
 case s15 =>
  exact fun l a w h h0=>absurd (tE h 15 (by simp)) (by rw[h0];simp)
 case s16 =>
  exact fun l a w h h0=>absurd (tE h 16 (by simp)) (by rw[h0];simp)
 case s17 =>
  intro l a w h h0 h1 K hK;obtain⟨x24,x27,x28,x31,x32,x35,x36,x39,x40,x43,x46,x6,vE,nE,yE,vP,nP,yP,vL,nL,yL,vR,nR,yR,vU,nU,yU,o,ha,HR,H5,H6,H9,h6,z1,H4,h5,z0,H3,h3,H8,H2,h2,H7,H1,h7,H0,B1,B2,HM⟩:=h;have DH14:=z0.out (zM (h1 ⟨14,.data⟩ (by simp) rfl));obtain⟨g2,rfl,rfl,rfl,rfl⟩:=DH14 h0;have z2:=zM (h1 ⟨14,.data⟩ (by simp) rfl);subst ha;rw[a8];simp only[zP,List.foldl_cons,List.foldl_nil,Act.put,sPa,sPb,sPc];refine rO (by simp[Region.wanted]) (.tmp 32) (.tmp 34) 22 rfl yH.toN 2 _ rfl HM rfl rfl rfl rfl (y4 w HM.but) ?g117 (Nat.zero_add _) ?g217 ?g317 a9 ?_
  case g117=>exact y0
  case g217=>unfold maxLen;omega
  case g317=>omega
  intro sa sc w6 h8 A0;rw[List.nil_append]at h8;refine hK.out _ _ ?_;refine⟨x24,x27,x28,x31,(.slice (some ⟨g2,0,none⟩) 0 0),(.slice sa m sc),x36,x39,x40,x43,x46,x6,vE,nE,yE,vP,nP,yP,(.slice sa m sc),m,(ints a7),vR,nR,yR,vU,nU,yU,o,?fa17,fun j hj=>zD (HR j hj),(hs7N H5),Kh (fun h h4=>H6.out (zE (by decide) h) (zI h4)),(hs7Q H9),(hs7N h6),Kh (fun h h4=>z1.out (zE (by decide) h) (zI h4)),(hs7Q H4),Kh (fun h=>absurd (zD z2) (by rw[h];simp)),Kh (fun _ h4=>yF h4),Kh (fun _=>⟨zD z2,sa,sc,rfl,rfl,rfl,rfl⟩),(hs7N h3),Kh (fun h h4=>H8.out (zE (by decide) h) (zI h4)),(hs7Q H2),(hs7N h2),Kh (fun h h4=>H7.out (zE (by decide) h) (zI h4)),(hs7Q H1),Kh (fun h=>absurd (h7.out (zE (by decide) h)).2.2.2.2.2.2.2.1 (by rw[h0];simp)),(hs7P H0),Kh (fun h h9=>zB (B1.out (zE (by decide) h) (zI h9)) A0 (fun e=>HM.not_type (B1.out (zE (by decide) h) (zI h9)) (by simp) 2 _ rfl e)),Kh (fun h=>absurd (B2.out (zE (by decide) h)).2.2.2.2.2.2.2.1 (by rw[h0];simp)),h8⟩
  case fa17=>rw[a8];simp only[zP,List.foldl_cons,List.foldl_nil,Act.put,sPa,sPb,sPc]
 case s18 =>
  intro l a w h h0 h1 K hK;obtain⟨x24,x27,x28,x31,x32,x35,x36,x39,x40,x43,x46,x6,vE,nE,yE,vP,nP,yP,vL,nL,yL,vR,nR,yR,vU,nU,yU,o,ha,HR,H5,H6,H9,h6,z1,H4,h5,z0,H3,h3,H8,H2,h2,H7,H1,h7,H0,B1,B2,HM⟩:=h;obtain⟨rfl,rfl,rfl⟩:=h3.out h0;subst ha;rw[a8];simp only[zP,List.foldl_cons,List.foldl_nil,Act.put,sPa,sPb,sPc];go_simp;have h8:=HM.lit0 (j:=3) rfl a9;refine hK.out _ _ ?_;refine⟨x24,x27,x28,x31,x32,x35,(.slice (some ⟨w.heap.size,0,none⟩) 0 0),x39,x40,x43,x46,x6,vE,nE,yE,vP,nP,yP,vL,nL,yL,(.slice (some ⟨w.heap.size,0,none⟩) 0 0),0,[],vU,nU,yU,o,?fa18,fun j hj=>zD (HR j hj),(hs7N H5),Kh (fun h h4=>H6.out (zE (by decide) h) (zI h4)),(hs7Q H9),(hs7N h6),Kh (fun h h4=>z1.out (zE (by decide) h) (zI h4)),(hs7Q H4),(hs7N h5),Kh (fun h h4=>z0.out (zE (by decide) h) (zI h4)),(hs7Q H3),Kh (fun h=>yF h),Kh (fun _ _=>⟨w.heap.size,rfl,rfl,rfl,rfl⟩),(hs7A H2 h0),(hs7N h2),Kh (fun h h4=>H7.out (zE (by decide) h) (zI h4)),(hs7Q H1),Kh (fun h=>absurd (h7.out (zE (by decide) h)).2.2.2.1 (by rw[h0];simp)),(hs7P H0),Kh (fun h h9=>zB (B1.out (zE (by decide) h) (zI h9)) (Ga w (.cells #[] 22) none)),Kh (fun h=>absurd (B2.out (zE (by decide) h)).2.2.2.1 (by rw[h0];simp)),h8⟩
  case fa18=>rw[a8];simp only[zP,List.foldl_cons,List.foldl_nil,Act.put,sPa,sPb,sPc]
 case s19 =>
  exact fun l a w h h0=>absurd (tE h 19 (by simp)) (by rw[h0];simp)
 case s20 =>
  exact fun l a w h h0=>absurd (tE h 20 (by simp)) (by rw[h0];simp)
 case s21 =>
  intro l a w h h0 h1 K hK;obtain⟨x24,x27,x28,x31,x32,x35,x36,x39,x40,x43,x46,x6,vE,nE,yE,vP,nP,yP,vL,nL,yL,vR,nR,yR,vU,nU,yU,o,ha,HR,H5,H6,H9,h6,z1,H4,h5,z0,H3,h3,H8,H2,h2,H7,H1,h7,H0,B1,B2,HM⟩:=h;have DH18:=H8.out (zM (h1 ⟨18,.data⟩ (by simp) rfl));obtain⟨g2,rfl,rfl,rfl,rfl⟩:=DH18 h0;have z2:=zM (h1 ⟨18,.data⟩ (by simp) rfl);subst ha;rw[a8];simp only[zP,List.foldl_cons,List.foldl_nil,Act.put,sPa,sPb,sPc];refine rO (by simp[Region.wanted]) (.tmp 36) (.tmp 38) 27 rfl wG.toN 3 _ rfl HM rfl rfl rfl rfl (y6 w HM.but) ?g121 (Nat.zero_add _) ?g221 ?g321 a9 ?_
  case g121=>exact y2
  case g221=>unfold maxLen;omega
  case g321=>omega
  intro sa sc w6 h8 A0;rw[List.nil_append]at h8;refine hK.out _ _ ?_;refine⟨x24,x27,x28,x31,x32,x35,(.slice (some ⟨g2,0,none⟩) 0 0),(.slice sa 0 sc),x40,x43,x46,x6,vE,nE,yE,vP,nP,yP,vL,nL,yL,(.slice sa 0 sc),0,([]),vU,nU,yU,o,?fa21,fun j hj=>zD (HR j hj),(hs7N H5),Kh (fun h h4=>H6.out (zE (by decide) h) (zI h4)),(hs7Q H9),(hs7N h6),Kh (fun h h4=>z1.out (zE (by decide) h) (zI h4)),(hs7Q H4),(hs7N h5),Kh (fun h h4=>z0.out (zE (by decide) h) (zI h4)),(hs7Q H3),Kh (fun h=>absurd (zD z2) (by rw[h];simp)),Kh (fun _ h4=>yF h4),Kh (fun _=>⟨zD z2,sa,sc,rfl,rfl,rfl,rfl⟩),(hs7N h2),Kh (fun h h4=>H7.out (zE (by decide) h) (zI h4)),(hs7Q H1),Kh (fun h=>absurd (h7.out (zE (by decide) h)).2.2.2.2.2.2.2.2.1 (by rw[h0];simp)),(hs7P H0),Kh (fun h h9=>zB (B1.out (zE (by decide) h) (zI h9)) A0 (fun e=>HM.not_type (B1.out (zE (by decide) h) (zI h9)) (by simp) 3 _ rfl e)),Kh (fun h=>absurd (B2.out (zE (by decide) h)).2.2.2.2.2.2.2.2.1 (by rw[h0];simp)),h8⟩
  case fa21=>rw[a8];simp only[zP,List.foldl_cons,List.foldl_nil,Act.put,sPa,sPb,sPc]
 case s22 =>
  intro l a w h h0 h1 K hK;obtain⟨x24,x27,x28,x31,x32,x35,x36,x39,x40,x43,x46,x6,vE,nE,yE,vP,nP,yP,vL,nL,yL,vR,nR,yR,vU,nU,yU,o,ha,HR,H5,H6,H9,h6,z1,H4,h5,z0,H3,h3,H8,H2,h2,H7,H1,h7,H0,B1,B2,HM⟩:=h;obtain⟨rfl,rfl,rfl⟩:=h2.out h0;subst ha;rw[a8];simp only[zP,List.foldl_cons,List.foldl_nil,Act.put,sPa,sPb,sPc];go_simp;have h8:=HM.lit0 (j:=4) rfl a9;refine hK.out _ _ ?_;refine⟨x24,x27,x28,x31,x32,x35,x36,x39,(.slice (some ⟨w.heap.size,0,none⟩) 0 0),x43,x46,x6,vE,nE,yE,vP,nP,yP,vL,nL,yL,vR,nR,yR,(.slice (some ⟨w.heap.size,0,none⟩) 0 0),0,[],o,?fa22,fun j hj=>zD (HR j hj),(hs7N H5),Kh (fun h h4=>H6.out (zE (by decide) h) (zI h4)),(hs7Q H9),(hs7N h6),Kh (fun h h4=>z1.out (zE (by decide) h) (zI h4)),(hs7Q H4),(hs7N h5),Kh (fun h h4=>z0.out (zE (by decide) h) (zI h4)),(hs7Q H3),(hs7N h3),Kh (fun h h4=>H8.out (zE (by decide) h) (zI h4)),(hs7Q H2),Kh (fun h=>yF h),Kh (fun _ _=>⟨w.heap.size,rfl,rfl,rfl,rfl⟩),(hs7A H1 h0),Kh (fun h=>absurd (h7.out (zE (by decide) h)).2.2.2.2.1 (by rw[h0];simp)),(hs7P H0),Kh (fun h h9=>zB (B1.out (zE (by decide) h) (zI h9)) (Ga w (.cells #[] 180) none)),Kh (fun h=>absurd (B2.out (zE (by decide) h)).2.2.2.2.1 (by rw[h0];simp)),h8⟩
  case fa22=>rw[a8];simp only[zP,List.foldl_cons,List.foldl_nil,Act.put,sPa,sPb,sPc]
 case s23 =>
  exact fun l a w h h0=>absurd (tE h 23 (by simp)) (by rw[h0];simp)
 case s24 =>
  exact fun l a w h h0=>absurd (tE h 24 (by simp)) (by rw[h0];simp)
 case s25 =>
  intro l a w h h0 h1 K hK;obtain⟨x24,x27,x28,x31,x32,x35,x36,x39,x40,x43,x46,x6,vE,nE,yE,vP,nP,yP,vL,nL,yL,vR,nR,yR,vU,nU,yU,o,ha,HR,H5,H6,H9,h6,z1,H4,h5,z0,H3,h3,H8,H2,h2,H7,H1,h7,H0,B1,B2,HM⟩:=h;have DH22:=H7.out (zM (h1 ⟨22,.data⟩ (by simp) rfl));obtain⟨g2,rfl,rfl,rfl,rfl⟩:=DH22 h0;have z2:=zM (h1 ⟨22,.data⟩ (by simp) rfl);subst ha;rw[a8];simp only[zP,List.foldl_cons,List.foldl_nil,Act.put,sPa,sPb,sPc];refine rO (by simp[Region.wanted]) (.tmp 40) (.tmp 42) 104 rfl lB 4 _ rfl HM rfl rfl rfl rfl (y7 w HM.but) ?g125 (Nat.zero_add _) ?g225 ?g325 a9 ?_
  case g125=>exact y3
  case g225=>unfold maxLen;omega
  case g325=>omega
  intro sa sc w6 h8 A0;rw[List.nil_append]at h8;refine hK.out _ _ ?_;refine⟨x24,x27,x28,x31,x32,x35,x36,x39,(.slice (some ⟨g2,0,none⟩) 0 0),(.slice sa u sc),x46,x6,vE,nE,yE,vP,nP,yP,vL,nL,yL,vR,nR,yR,(.slice sa u sc),u,(us),o,?fa25,fun j hj=>zD (HR j hj),(hs7N H5),Kh (fun h h4=>H6.out (zE (by decide) h) (zI h4)),(hs7Q H9),(hs7N h6),Kh (fun h h4=>z1.out (zE (by decide) h) (zI h4)),(hs7Q H4),(hs7N h5),Kh (fun h h4=>z0.out (zE (by decide) h) (zI h4)),(hs7Q H3),(hs7N h3),Kh (fun h h4=>H8.out (zE (by decide) h) (zI h4)),(hs7Q H2),Kh (fun h=>absurd (zD z2) (by rw[h];simp)),Kh (fun _ h4=>yF h4),Kh (fun _=>⟨zD z2,sa,sc,rfl,rfl,rfl,rfl⟩),Kh (fun h=>absurd (h7.out (zE (by decide) h)).2.2.2.2.2.2.2.2.2.1 (by rw[h0];simp)),(hs7P H0),Kh (fun h h9=>zB (B1.out (zE (by decide) h) (zI h9)) A0 (fun e=>HM.not_type (B1.out (zE (by decide) h) (zI h9)) (by simp) 4 _ rfl e)),Kh (fun h=>absurd (B2.out (zE (by decide) h)).2.2.2.2.2.2.2.2.2.1 (by rw[h0];simp)),h8⟩
  case fa25=>rw[a8];simp only[zP,List.foldl_cons,List.foldl_nil,Act.put,sPa,sPb,sPc]
 case s26 =>
  exact fun l a w h h0=>absurd (tE h 26 (by simp)) (by rw[h0];simp)
 case s27 =>
  exact fun l a w h h0=>absurd (tE h 27 (by simp)) (by rw[h0];simp)
 case s28 =>
  intro l a w h h0 h1 K hK;obtain⟨x24,x27,x28,x31,x32,x35,x36,x39,x40,x43,x46,x6,vE,nE,yE,vP,nP,yP,vL,nL,yL,vR,nR,yR,vU,nU,yU,o,ha,HR,H5,H6,H9,h6,z1,H4,h5,z0,H3,h3,H8,H2,h2,H7,H1,h7,H0,B1,B2,HM⟩:=h;have DH9:=H9.out (zM (h1 ⟨9,.data⟩ (by simp) rfl));have DH13:=H4.out (zM (h1 ⟨13,.data⟩ (by simp) rfl));have DH17:=H3.out (zM (h1 ⟨17,.data⟩ (by simp) rfl));have DH21:=H2.out (zM (h1 ⟨21,.data⟩ (by simp) rfl));have DH25:=H1.out (zM (h1 ⟨25,.data⟩ (by simp) rfl));obtain⟨z7,sE',cE',rfl,rfl,rfl,rfl⟩:=DH9;have A5:=zM (h1 ⟨9,.data⟩ (by simp) rfl);obtain⟨z5,sP',cP',rfl,rfl,rfl,rfl⟩:=DH13;have A3:=zM (h1 ⟨13,.data⟩ (by simp) rfl);obtain⟨z6,sL',cL',rfl,rfl,rfl,rfl⟩:=DH17;have A4:=zM (h1 ⟨17,.data⟩ (by simp) rfl);obtain⟨z4,sR',cR',rfl,rfl,rfl,rfl⟩:=DH21;have A2:=zM (h1 ⟨21,.data⟩ (by simp) rfl);obtain⟨z3,sU',cU',rfl,rfl,rfl,rfl⟩:=DH25;have A1:=zM (h1 ⟨25,.data⟩ (by simp) rfl);subst ha;rw[a8];simp only[zP,List.foldl_cons,List.foldl_nil,Act.put,sPa,sPb,sPc];go_simp;refine hK.out _ _ ?_;refine⟨x24,(Value.slice sE' m cE'),x28,(Value.slice sP' m cP'),x32,(Value.slice sL' m cL'),x36,(Value.slice sR' 0 cR'),x40,(Value.slice sU' u cU'),(.agg #[.int .i64 n,.bool true,(.slice gA gN gC),(Value.slice sE' m cE'),(Value.slice sP' m cP'),(Value.slice sL' m cL'),(Value.slice sR' 0 cR'),(Value.slice sU' u cU'),.int .i64 0]),x6,(Value.slice sE' m cE'),m,(a6),(Value.slice sP' m cP'),m,(ints pre),(Value.slice sL' m cL'),m,(ints a7),(Value.slice sR' 0 cR'),0,([]),(Value.slice sU' u cU'),u,(us),o,?fa28,fun j hj=>zD (HR j hj),Kh (fun h=>absurd (zD z7) (by rw[h];simp)),Kh (fun h h4=>absurd (zD A5) (by rw[h4];simp)),Kh (fun _=>⟨zD z7,sE',cE',rfl,rfl,rfl,rfl⟩),Kh (fun h=>absurd (zD z5) (by rw[h];simp)),Kh (fun h h4=>absurd (zD A3) (by rw[h4];simp)),Kh (fun _=>⟨zD z5,sP',cP',rfl,rfl,rfl,rfl⟩),Kh (fun h=>absurd (zD z6) (by rw[h];simp)),Kh (fun h h4=>absurd (zD A4) (by rw[h4];simp)),Kh (fun _=>⟨zD z6,sL',cL',rfl,rfl,rfl,rfl⟩),Kh (fun h=>absurd (zD z4) (by rw[h];simp)),Kh (fun h h4=>absurd (zD A2) (by rw[h4];simp)),Kh (fun _=>⟨zD z4,sR',cR',rfl,rfl,rfl,rfl⟩),Kh (fun h=>absurd (zD z3) (by rw[h];simp)),Kh (fun h h4=>absurd (zD A1) (by rw[h4];simp)),Kh (fun _=>⟨zD z3,sU',cU',rfl,rfl,rfl,rfl⟩),Kh (fun _=>⟨zD z7,zD z5,zD z6,zD z4,zD z3,zD A5,zD A3,zD A4,zD A2,zD A1,rfl⟩),(hs7P H0),Kh (fun h h9=>B1.out (zE (by decide) h) (zI h9)),Kh (fun h=>absurd (B2.out (zE (by decide) h)).2.2.2.2.2.2.2.2.2.2.1 (by rw[h0];simp)),HM⟩
  case fa28=>rw[a8];simp only[zP,List.foldl_cons,List.foldl_nil,Act.put,sPa,sPb,sPc]
 case s29 =>
  intro l a w h h0 h1 K hK;obtain⟨x24,x27,x28,x31,x32,x35,x36,x39,x40,x43,x46,x6,vE,nE,yE,vP,nP,yP,vL,nL,yL,vR,nR,yR,vU,nU,yU,o,ha,HR,H5,H6,H9,h6,z1,H4,h5,z0,H3,h3,H8,H2,h2,H7,H1,h7,H0,B1,B2,HM⟩:=h;subst ha;rw[a8];simp only[zP,List.foldl_cons,List.foldl_nil,Act.put,sPa,sPb,sPc];go_simp;refine hK.out _ _ ?_;refine⟨x24,x27,x28,x31,x32,x35,x36,x39,x40,x43,x46,(.pointer (some ⟨w.heap.size,0,none⟩)),vE,nE,yE,vP,nP,yP,vL,nL,yL,vR,nR,yR,vU,nU,yU,w.heap.size,?fa29,fun j hj=>zD (HR j hj),(hs7N H5),Kh (fun h h4=>H6.out (zE (by decide) h) (zI h4)),(hs7Q H9),(hs7N h6),Kh (fun h h4=>z1.out (zE (by decide) h) (zI h4)),(hs7Q H4),(hs7N h5),Kh (fun h h4=>z0.out (zE (by decide) h) (zI h4)),(hs7Q H3),(hs7N h3),Kh (fun h h4=>H8.out (zE (by decide) h) (zI h4)),(hs7Q H2),(hs7N h2),Kh (fun h h4=>H7.out (zE (by decide) h) (zI h4)),(hs7Q H1),Kh (fun h=>⟨zD (h7.out (zE (by decide) h)).1,zD (h7.out (zE (by decide) h)).2.1,zD (h7.out (zE (by decide) h)).2.2.1,zD (h7.out (zE (by decide) h)).2.2.2.1,zD (h7.out (zE (by decide) h)).2.2.2.2.1,zD (h7.out (zE (by decide) h)).2.2.2.2.2.1,zD (h7.out (zE (by decide) h)).2.2.2.2.2.2.1,zD (h7.out (zE (by decide) h)).2.2.2.2.2.2.2.1,zD (h7.out (zE (by decide) h)).2.2.2.2.2.2.2.2.1,zD (h7.out (zE (by decide) h)).2.2.2.2.2.2.2.2.2.1,(h7.out (zE (by decide) h)).2.2.2.2.2.2.2.2.2.2⟩),Kh (fun _=>⟨rfl,HM.but.size⟩),Kh (fun _ _=>heap_alloc_new w _),Kh (fun h=>absurd (B2.out (zE (by decide) h)).2.2.2.2.2.2.2.2.2.2.2.1 (by rw[h0];simp)),(HM.alloc (.cells #[.int .i64 0,.bool false,.slice none 0 0,.slice none 0 0,.slice none 0 0,.slice none 0 0,.slice none 0 0,.slice none 0 0,.int .i64 0] 106)).lits (by simp)⟩
  case fa29=>rw[a8];simp only[zP,List.foldl_cons,List.foldl_nil,Act.put,sPa,sPb,sPc]
 intro l a w h h0 h1 K hK;obtain⟨x24,x27,x28,x31,x32,x35,x36,x39,x40,x43,x46,x6,vE,nE,yE,vP,nP,yP,vL,nL,yL,vR,nR,yR,vU,nU,yU,o,ha,HR,H5,H6,H9,h6,z1,H4,h5,z0,H3,h3,H8,H2,h2,H7,H1,h7,H0,B1,B2,HM⟩:=h;have DH29:=H0.out (zM (h1 ⟨29,.data⟩ (by simp) rfl));have DB1:=B1.out (zM (h1 ⟨29,.data⟩ (by simp) rfl));have DH28:=h7.out (zM (h1 ⟨28,.data⟩ (by simp) rfl));obtain⟨rfl,ho⟩:=DH29;have hb:=DB1 h0;obtain⟨i6,i10,i14,i18,i22,i9,i13,i17,i21,i25,rfl⟩:=DH28;have A9:=zM (h1 ⟨28,.data⟩ (by simp) rfl);have A8:=zM (h1 ⟨29,.data⟩ (by simp) rfl);obtain⟨z7,sE',cE',rfl,rfl,rfl,rfl⟩:=H9.out i9;obtain⟨z5,sP',cP',rfl,rfl,rfl,rfl⟩:=H4.out i13;obtain⟨z6,sL',cL',rfl,rfl,rfl,rfl⟩:=H3.out i17;obtain⟨z4,sR',cR',rfl,rfl,rfl,rfl⟩:=H2.out i21;obtain⟨z3,sU',cU',rfl,rfl,rfl,rfl⟩:=H1.out i25;subst ha;rw[a8];simp only[zP,List.foldl_cons,List.foldl_nil,Act.put,sPa,sPb,sPc];obtain⟨k0,k1,k2,k3,k4,k5,k6,k7,k8⟩:=zZ hb;have f0:=zA hb 0;have f1:=zA hb 1;have f2:=zA hb 2;have f3:=zA hb 3;have f4:=zA hb 4;have f5:=zA hb 5;have f6:=zA hb 6;have f7:=zA hb 7;have f8:=zA hb 8;go_simp;obtain⟨A6,A7⟩:=rZ hb (.int .i64 n) (.bool true) (.slice gA gN gC) (Value.slice sE' m cE') (Value.slice sP' m cP') (Value.slice sL' m cL') (Value.slice sR' 0 cR') (Value.slice sU' u cU') (.int .i64 0);refine hK.out _ _ ?_;refine⟨x24,(Value.slice sE' m cE'),x28,(Value.slice sP' m cP'),x32,(Value.slice sL' m cL'),x36,(Value.slice sR' 0 cR'),x40,(Value.slice sU' u cU'),(.agg #[.int .i64 n,.bool true,(.slice gA gN gC),(Value.slice sE' m cE'),(Value.slice sP' m cP'),(Value.slice sL' m cL'),(Value.slice sR' 0 cR'),(Value.slice sU' u cU'),.int .i64 0]),(.pointer (some ⟨o,0,none⟩)),(Value.slice sE' m cE'),m,(a6),(Value.slice sP' m cP'),m,(ints pre),(Value.slice sL' m cL'),m,(ints a7),(Value.slice sR' 0 cR'),0,([]),(Value.slice sU' u cU'),u,(us),o,?fa30,fun j hj=>zD (HR j hj),Kh (fun h=>absurd (zD z7) (by rw[h];simp)),Kh (fun h h4=>absurd (zD i9) (by rw[h4];simp)),Kh (fun _=>⟨zD z7,sE',cE',rfl,rfl,rfl,rfl⟩),Kh (fun h=>absurd (zD z5) (by rw[h];simp)),Kh (fun h h4=>absurd (zD i13) (by rw[h4];simp)),Kh (fun _=>⟨zD z5,sP',cP',rfl,rfl,rfl,rfl⟩),Kh (fun h=>absurd (zD z6) (by rw[h];simp)),Kh (fun h h4=>absurd (zD i17) (by rw[h4];simp)),Kh (fun _=>⟨zD z6,sL',cL',rfl,rfl,rfl,rfl⟩),Kh (fun h=>absurd (zD z4) (by rw[h];simp)),Kh (fun h h4=>absurd (zD i21) (by rw[h4];simp)),Kh (fun _=>⟨zD z4,sR',cR',rfl,rfl,rfl,rfl⟩),Kh (fun h=>absurd (zD z3) (by rw[h];simp)),Kh (fun h h4=>absurd (zD i25) (by rw[h4];simp)),Kh (fun _=>⟨zD z3,sU',cU',rfl,rfl,rfl,rfl⟩),Kh (fun _=>⟨zD i6,zD i10,zD i14,zD i18,zD i22,zD i9,zD i13,zD i17,zD i21,zD i25,rfl⟩),Kh (fun _=>⟨rfl,ho⟩),Kh (fun _ h9=>yF h9),Kh (fun _=>⟨zD i6,zD i10,zD i14,zD i18,zD i22,zD i9,zD i13,zD i17,zD i21,zD i25,zD A9,zD A8,A6⟩),HM.farNew A7 ho (HM.not_type hb (by simp))⟩
 case fa30=>rw[a8];simp only[zP,List.foldl_cons,List.foldl_nil,Act.put,sPa,sPb,sPc]
end Go.Proofs.YtobakifdllameaaGreat
