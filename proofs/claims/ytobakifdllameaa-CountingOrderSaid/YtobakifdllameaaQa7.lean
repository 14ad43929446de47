/- Part 7 of the proof. -/
import Derived.Test.YtobakifdllameaaQa6
set_option linter.unusedVariables false
set_option linter.unusedSimpArgs false
set_option maxRecDepth 100000
set_option maxHeartbeats 16000000
namespace Go.Proofs.Ytobakifdllameaa
open Go.RowKit
theorem qKY {w:World}{p e:Nat}{z0 z1 z2 z3 z4 z5 z6 z7 z8:Value}(h:w.heap[p]?=some (.cells #[z0,z1,z2,z3,z4,z5,z6,z7,z8] e (0,0)))(x3 x4 x5:Value):(((w.setCell ⟨p,3,none⟩ x3).setCell ⟨p,4,none⟩ x4).setCell ⟨p,5,none⟩ x5).heap[p]?=some (.cells #[z0,z1,z2,x3,x4,x5,z6,z7,z8] e (0,0))/\w.grownBy (((w.setCell ⟨p,3,none⟩ x3).setCell ⟨p,4,none⟩ x4).setCell ⟨p,5,none⟩ x5) (some p):=by
 have s3:=heap_setCell_same w p 3 _ _ x3 h;have s4:=heap_setCell_same _ p 4 _ _ x4 s3;have s5:=heap_setCell_same _ p 5 _ _ x5 s4;refine⟨by rw[s5];simp,?_⟩;have t:=fun(W:World) (i:Nat) (u:Value)=>zG W ⟨p,i,none⟩ u;exact zH (zH (t _ 3 _) (t _ 4 _)) (t _ 5 _)
theorem nO:ElemN Try.prog 88 135 2 (.agg #[.string ⟨#[]⟩,.string ⟨#[]⟩]) 32:=⟨Try.underlying88,by kernel_rfl,rfl,by decide⟩
theorem qCD {W:World}{g e:Nat}{u v:Value}{m:Nat×Nat}(h:W.heap[g]?=some (.cells #[u,v] e m)):uQ W 2 (.slice (some ⟨g,0,none⟩) 1 1) 1 [u,v]:=by
 have c0:=zF h 0;have c1:=zF h 1;simp only[List.getElem_toArray,List.getElem_cons_zero,List.getElem_cons_succ]at c0 c1;refine .inr ⟨g,0,1,rfl,rfl,by unfold maxLen;omega,fun j u' hj=>?_⟩
 match j,hj with
 | 0,hj=>simp at hj;subst hj;simpa using c0
 | 1,hj=>simp at hj;subst hj;simpa using c1
theorem aF {X:Nat->Prop}{w:World}{rs:List RowS}{P o j:Nat}{e:Nat}{c c':Array Value}{mm a9:Nat×Nat}(hM:EMem X w rs)(hj:rJ rs j)(hr:∀r∈rs,r.base=P/\r.e≠e)(ho:w.heap[o]?=some (.cells c e mm))(hP:w.heap[P]?=some (.cells c' e a9)):P<=j/\¬X j/\j≠o/\j≠P:=by
 obtain⟨r,h1,hk⟩:=hj;have h0:=hM.own r h1;refine⟨by have:=(h0.lt j hk).1;rw[(hr r h1).1]at this;exact this,hM.offX r h1 j hk,fun e1=>?_,fun e1=>?_⟩
 ·subst e1;exact zS h0 ho (hr r h1).2 hk
 subst e1;exact zS h0 hP (hr r h1).2 hk
inductive StartS (B P o n:Nat)(gs:List (List Nat))(vg gv:Value)(w0:World)(x:Nat)(w:World):Prop
 | mk (X:Nat->Prop) (els:List (List Nat)) (pre las:List Int) (m u:Nat) (us hsE:List Value) (sE:Option Addr) (cE:Nat) (sP:Option Addr) (cP:Nat) (sL:Option Addr) (cL:Nat) (sU:Option Addr) (cU:Nat)
  (he:yJ gs n x=(els,pre,las)) (hl:els.length=m) (hpl:pre.length=m) (hll:las.length=m) (hm:m<=x+1) (hu:u<=x) (hus:∀v∈us,v.oneCell'=true)
  (hM:EMem X w [⟨P,22,.slice sE m cE,m,hsE,1⟩,⟨P,3,.slice sP m cP,m,ints pre,1⟩,⟨P,3,.slice sL m cL,m,ints las,1⟩,⟨P,135,.slice sU u cU,u,us,2⟩])
  (hE:xO X 3 nats w hsE els) (hG:TX X w gv gs) (hV:TMat B w vg gs) (hX:¬X o/\¬X P)
  (hB:w.heap[o]?=some (.cells #[.int .i64 n,.bool true,gv,.slice sE m cE,.slice sP m cP,.slice sL m cL,.slice none 0 0,.slice sU u cU,.int .i64 0] 90 (0,0)))
  (hBP:w.heap[P]?=some (.cells #[.int .i64 0,.bool false,.slice none 0 0,.slice none 0 0,.slice none 0 0,.slice none 0 0,.slice none 0 0,.slice none 0 0,.int .i64 0] 90 (0,0))) (hg:w0.grownBy w none)
theorem kG {gs:List (List Nat)}{n:Nat}:∀x,x<=gs.length->sY (yJ gs n x).2.1 (yJ gs n x).2.2 (yJ gs n x).1.length gs.length/\(yJ gs n x).2.1.length=(yJ gs n x).1.length/\(yJ gs n x).2.2.length=(yJ gs n x).1.length/\1<=(yJ gs n x).1.length
 | 0,_=>by
  refine⟨fun i hi=>?_,rfl,rfl,Nat.le_refl _⟩
  have hi:i=0:=by simp[yJ]at hi;omega
  subst hi
  exact .inl (by simp[yJ])
 | x+1,hx=>by
  obtain⟨h1,h2,h3,h4⟩:=kG (gs:=gs) (n:=n) x (by omega)
  rw[yJ]
  split
  ·exact⟨h1,h2,h3,h4⟩
  ·refine⟨fun i hi=>?_,by simp[h2],by simp[h3],by simp⟩
   simp only[List.length_append,List.length_singleton]at hi
   rcases Nat.lt_or_ge i (yJ gs n x).1.length with h|h
   ·have e1:((yJ gs n x).2.1++[0]).getD i 0=(yJ gs n x).2.1.getD i 0:=by rw[List.getD_eq_getElem?_getD,List.getElem?_append_left (by rw[h2];exact h),<-List.getD_eq_getElem?_getD]
    have e2:((yJ gs n x).2.2++[(x:Int)]).getD i 0=(yJ gs n x).2.2.getD i 0:=by rw[List.getD_eq_getElem?_getD,List.getElem?_append_left (by rw[h3];exact h),<-List.getD_eq_getElem?_getD]
    rw[e1,e2]
    exact h1 i h
   ·have e:i=(yJ gs n x).1.length:=by omega
    subst e
    have e1:((yJ gs n x).2.1++[0]).getD (yJ gs n x).1.length 0=0:=by rw[List.getD_eq_getElem?_getD,List.getElem?_append_right (by rw[h2];exact Nat.le_refl _),h2];simp
    have e2:((yJ gs n x).2.2++[(x:Int)]).getD (yJ gs n x).1.length 0=x:=by rw[List.getD_eq_getElem?_getD,List.getElem?_append_right (by rw[h3];exact Nat.le_refl _),h3];simp
    rw[e1,e2]
    exact .inr ⟨by omega,by omega,by omega,by omega⟩
def qNJ (gs:List (List Nat))(n:Nat)(w:World)(e:Ending)(w':World):Prop :=
 ∃(X:Nat->Prop) (els:List (List Nat)) (pre las:List Int) (m u:Nat) (us hsE:List Value) (gv:Value) (sE:Option Addr) (cE:Nat) (sP:Option Addr) (cP:Nat) (sL:Option Addr) (cL:Nat) (sU:Option Addr) (cU:Nat),
  e=.returned (.tuple #[.agg #[.int .i64 n,.bool true,gv,.slice sE m cE,.slice sP m cP,.slice sL m cL,.slice none 0 0,.slice sU u cU,.int .i64 0],.int .i64 0])/\yJ gs n gs.length=(els,pre,las)/\els.length=m/\pre.length=m/\las.length=m/\u<=6/\(∀v∈us,v.oneCell'=true) /\
  EMem X w' [⟨w.heap.size,22,.slice sE m cE,m,hsE,1⟩,⟨w.heap.size,3,.slice sP m cP,m,ints pre,1⟩,⟨w.heap.size,3,.slice sL m cL,m,ints las,1⟩,⟨w.heap.size,135,.slice sU u cU,u,us,2⟩]/\xO X 3 nats w' hsE els/\TX X w' gv gs/\w.grownBy w' none
theorem qAO (B:Nat)(w:World)(v0:Value)(gs:List (List Nat))(n:Nat)(hB:B<=w.heap.size)(h:TMat B w v0 gs)(a8:∀g∈gs,IsT n g)(h1:1<=n)(a7:n<=32)(a6:1<=gs.length)(a9:gs.length<=6):Calls Try.prog 82 #[v0,.bool true] w (qNJ gs n w):=by
 obtain⟨b0,o0,c0,rfl,D1,z7,D3,D2,b7⟩:=h.head (by omega);have z6:c0<=9223372036854775807:=by unfold maxLen at z7;omega
 obtain⟨P,hP⟩:=Nm w.heap.size;have b5:=Kh hP;obtain⟨wA,m4⟩:=Nm (w.alloc (.cells #[.int .i64 0,.bool false,.slice none 0 0,.slice none 0 0,.slice none 0 0,.slice none 0 0,.slice none 0 0,.slice none 0 0,.int .i64 0] 90));have l2:=heap_alloc_new w (.cells #[.int .i64 0,.bool false,.slice none 0 0,.slice none 0 0,.slice none 0 0,.slice none 0 0,.slice none 0 0,.slice none 0 0,.int .i64 0] 90);have j9:=Ga w (.cells #[.int .i64 0,.bool false,.slice none 0 0,.slice none 0 0,.slice none 0 0,.slice none 0 0,.slice none 0 0,.slice none 0 0,.int .i64 0] 90) none;have o2:=zW w (.cells #[.int .i64 0,.bool false,.slice none 0 0,.slice none 0 0,.slice none 0 0,.slice none 0 0,.slice none 0 0,.slice none 0 0,.int .i64 0] 90);rw[<-m4]at l2 j9 o2;rw[<-hP]at l2 o2 hB;have n0:=Kh (h.kept j9 (by simp));obtain⟨j0,B0,A7,A2,l5⟩:=K5 h l2 j9 m4 a8;clear l2 j9 m4 h a8 b7;go_enter Try.func82,Try.ntmps82;go_upto_region 1 with fail;rw[<-A2.out,<-b5.out];clear hP;have y7:¬(gs.length:Int)<1:=by omega
 have y6:¬6<(gs.length:Int):=by omega
 go_wp2_with fail;refine(qBC B wA (.slice (some ⟨b0,o0,none⟩) gs.length c0) gs n n0.out l5.out h1 a7 a6 a9).mono ?_;rintro e w1 ⟨rfl,rfl⟩;obtain⟨w5,m0⟩:=Nm wA.drew;have g5:wA.grownBy w5 none:=by rw[m0];exact zY wA none
 have t1:=Kh m0;have l4:=Kh (n0.out.kept g5 (by simp));have x1:=Kh (zB B0.out g5);have t8:=Kh (zC A7.out g5);have x9:=g5.size;have x0:Hid (∀W:World,w5.grownBy W none->Calls Try.prog 104 #[.slice (some ⟨b0,o0,none⟩) gs.length c0] W (gV W gs)):=Kh (fun W hg=>qIA B W _ gs (by have:=hg.size;omega) (l4.out.kept hg (by simp)) (by omega) (fun t ht=>by rw[(l5.out t ht).1];omega));obtain⟨b0',o0',c0',e0,_,_,_,_,b7⟩:=l4.out.head (by omega);have e0:b0=b0'/\o0=o0':=by simpa using And.intro (congrArg (fun v=>match v with|Value.slice (some a) _ _=>a.block|_=>0) e0) (congrArg (fun v=>match v with|Value.slice (some a) _ _=>a.off|_=>0) e0)
 obtain⟨rfl,rfl⟩:=e0;obtain⟨ha,hc,h2,_⟩:=b7 0 (by omega);have y5:(gs.getD 0 []).length=n:=(l5.out _ (uP (by omega))).1;rw[y5,Nat.add_zero]at h2;have C:=Kh h2;have D0:(0:Int)<(gs.length:Int):=by omega
 have y8:0<gs.length:=by omega
 clear m0 g5 h2 b7 n0;go_upto_region 5 with fail;refine wp_region_noPanic ?_;refine yK (G:=xU 9 (fun _=>True) (fun W=>W.cell? ⟨b0,o0,none⟩=some (.slice ha n hc))) (by kernel_rfl) ?_;rw[<-t1.out];refine zL 0 ⟨trivial,fun _=>C.out⟩ ?_;refine zL 1 ⟨trivial,fun _=>C.out⟩ ?_;refine yV 2 ⟨trivial,fun _=>C.out⟩ ?_;refine zL 3 ⟨trivial,fun _=>C.out⟩ ?_;refine zL 4 ⟨trivial,fun _=>C.out⟩ ?_;refine zL 5 ⟨trivial,fun _=>C.out⟩ ?_;refine uG (fun Wp hWp a0 ha0=>?_);subst hWp
 try simp only[Act.put,sPd,sPe,sPf,sPa,sPb,sPc]at ha0
 have n8:=Kh ha0;refine uF (I:=start5I n b0 o0 gs (.slice ha n hc) (.slice (some ⟨b0,o0,none⟩) gs.length c0) w5 a0) (fun l a w h=>qJG C.out h) (bM ha0 x0.out) (by kernel_rfl) ?hend (by decide +kernel) ?hinit
 case hinit =>
  clear ha0;refine⟨a0.tmps.getD 30 undef,a0.tmps.getD 31 undef,a0.tmps.getD 6 undef,0,(vG (by simp)).symm,by decide +kernel,Kh (fun h=>absurd h (by decide +kernel)),Kh (fun h=>absurd h (by decide +kernel)),Kh (fun h=>absurd h (by decide +kernel)),Kh (fun h=>absurd h (by decide +kernel)),Kh (fun h=>absurd h (by decide +kernel)),yD _ _⟩
 clear ha0;intro l a w6 h h0;obtain⟨x30,x31,x6,o,ha,HR,H6,H7,H8,B1,B2,HG⟩:=h;obtain⟨sa,sc,rfl,e9⟩:=H6.out (h0 6 (by decide));obtain⟨_,rfl⟩:=H7.out (h0 7 (by decide));obtain⟨rfl,C6⟩:=H8.out (h0 8 (by decide));obtain⟨_,_,i1⟩:=B2.out (h0 9 (by decide));clear H6 H7 H8 B1 B2 HR;subst ha;rw[n8.out];simp only[zM,List.foldl_cons,List.foldl_nil,Act.put,sPa,sPb,sPc];refine NoPanic.normal ?_;have C5:P<o:=by have:=b5.out;omega
 have l1:=zB x1.out HG;obtain⟨y0,f9,j6,y4⟩:=e9
 have r6:TX (fun j=>j<w6.heap.size/\j≠o/\j≠P) w6 (.slice sa gs.length sc) gs:=by
  refine⟨y0,⟨RowT.of_owns f9,fun j hj=>⟨(f9.lt j hj).2,fun e=>zS f9 i1 (by decide) (e ▸ hj),fun e=>zS f9 l1 (by decide) (e ▸ hj)⟩⟩,j6.1,fun i h3 h4=>⟨j6.2 i h3 h4,fun j hj=>?_⟩⟩;rcases j6.2 i h3 h4 with ⟨e,_⟩|⟨b,off,cap,cur,m,e,e2,e3,e4,e5,e6⟩
  ·rw[e]at hj;simp[Value.ownBlock]at hj
  rw[e]at hj;have hj:b=j:=by simpa [Value.ownBlock] using hj
  subst hj;refine⟨zR e5,fun e7=>?_,fun e7=>?_⟩
  ·subst e7;rw[i1]at e5;simp at e5
  subst e7;rw[l1]at e5;simp at e5
 have s0:EMem (fun j=>j<w6.heap.size/\j≠o/\j≠P) w6 []:=⟨fun r hr=>by simp at hr,List.Pairwise.nil,fun r hr=>by simp at hr,fun j hj=>hj.1⟩;obtain⟨t3,n2,j4,j3⟩:=K4 r6 s0 i1 l1;have t2:=Kh (l4.out.kept HG (by simp));have t7:=Kh (zC t8.out HG);have x8:=HG.size;obtain⟨d0,d1,d2,d3,d4,d5,d6,d7,d8⟩:=zU i1;clear l1 f9 j6 y4 r6 s0 HG i1 l4 x1 t8 t1 C x0 d1 d2 d3 d4 d5 d6 d7 d8;go_wp2_with fail;refine(aV w6 n (by omega)).mono ?_;rintro e w7 ⟨g,rfl,hg,m7,a2⟩;have g4:=Ga w7 (.cells #[.slice (some ⟨g,0,none⟩) n n] 22) none;have r5:=heap_alloc_new w7 (.cells #[.slice (some ⟨g,0,none⟩) n n] 22);have x5:=zW w7 (.cells #[.slice (some ⟨g,0,none⟩) n n] 22);have g2:=Ga (w7.alloc (.cells #[.slice (some ⟨g,0,none⟩) n n] 22)) (.cells #[.int .i64 (-1)] 3) none;have b9:=heap_alloc_new (w7.alloc (.cells #[.slice (some ⟨g,0,none⟩) n n] 22)) (.cells #[.int .i64 (-1)] 3);have x4:=zW (w7.alloc (.cells #[.slice (some ⟨g,0,none⟩) n n] 22)) (.cells #[.int .i64 (-1)] 3);have g3:=Ga ((w7.alloc (.cells #[.slice (some ⟨g,0,none⟩) n n] 22)).alloc (.cells #[.int .i64 (-1)] 3)) (.cells #[.int .i64 (-1)] 3) none;have m3:=heap_alloc_new ((w7.alloc (.cells #[.slice (some ⟨g,0,none⟩) n n] 22)).alloc (.cells #[.int .i64 (-1)] 3)) (.cells #[.int .i64 (-1)] 3);have c8:=zB (zB (zB (zB j4.out a2) g4) g2) g3;rw[List.length_range]at *;obtain⟨k0,k1,k2,k3,k4,k5,k6,k7,k8⟩:=zU c8;have f3:=zA c8 3;have f4:=zA c8 4;have f5:=zA c8 5;have b1:=Kh c8;clear c8 k0 k1 k2 k6 k7 k8;go_wp2;rw[zW]at b9;rw[zW,zW]at m3;have r9:=n2.out.fresh a2 (Y:=fun j=>j=g) (fun j e=>by subst e;exact⟨hg,m7.lt⟩);have z9:P<=w7.heap.size:=by have:=a2.size;omega
 have b4:=r9.add g4 (r:=⟨P,22,.slice (some ⟨w7.heap.size,0,none⟩) 1 1,1,[.slice (some ⟨g,0,none⟩) n n],1⟩) (dU r5 z9 rfl (by unfold maxLen;omega)) (fun j e=>Nat.le_of_eq (by simpa [Value.ownBlock] using e));have i6:=b4.add g2 (r:=⟨P,3,.slice (some ⟨w7.heap.size+1,0,none⟩) 1 1,1,ints [-1],1⟩) (dU b9 (show P<=_ by omega) rfl (by unfold maxLen;omega)) (fun j e=>Nat.le_of_eq (by rw[zW];simpa [Value.ownBlock] using e));have i5:=i6.add g3 (r:=⟨P,3,.slice (some ⟨w7.heap.size+1+1,0,none⟩) 1 1,1,ints [-1],1⟩) (dU m3 (show P<=_ by omega) rfl (by unfold maxLen;omega)) (fun j e=>Nat.le_of_eq (by rw[zW,zW];simpa [Value.ownBlock] using e));have h9:=i5.add (yD _ none) (r:=⟨P,135,.slice none 0 0,0,[],2⟩) (World.ownsRow_nil _ _ _ _) (fun j e=>by simp[Value.ownBlock]at e);have g0:=zC (zC (zC a2 g4) g2) g3;have g79:=zC (zC g4 g2) g3;have m6:=m7.kept g79 (by simp);obtain⟨wL,o3⟩:=Nm (((w7.alloc (.cells #[.slice (some ⟨g,0,none⟩) n n] 22)).alloc (.cells #[.int .i64 (-1)] 3)).alloc (.cells #[.int .i64 (-1)] 3));rw[<-o3]at h9 g0 m6 b1⊢;obtain⟨r4,h7⟩:=qKY b1.out (.slice (some ⟨w7.heap.size,0,none⟩) 1 1) (.slice (some ⟨w7.heap.size+1,0,none⟩) 1 1) (.slice (some ⟨w7.heap.size+1+1,0,none⟩) 1 1)
 have i4:=h9.far h7 (fun r hr=>zS (h9.own r hr) b1.out (by
  simp only[List.nil_append,List.cons_append,List.mem_cons,List.not_mem_nil,or_false]at hr
  rcases hr with rfl|rfl|rfl|rfl<;>simp))
 have z8:∀j,(j<w6.heap.size/\j≠o/\j≠P)->j≠o:=fun j h=>h.2.1;have k1:xQ (fun j=>j<w6.heap.size/\j≠o/\j≠P) w6 wL:=n2.out.keep g0;have i2:=(t3.out.kept k1 g0.size).mono (X':=fun j=>(j<w6.heap.size/\j≠o/\j≠P)\/j=g) (fun j h=>.inl h)
 have k2:xQ (fun j=>(j<w6.heap.size/\j≠o/\j≠P)\/j=g) wL _:=xQ.of_grown h9.lt h7 (fun j e hx=>by
  have e:o=j:=Oj e;have:=zR j4.out;rcases hx with hx|hx
  ·exact hx.2.1 e.symm
  omega)
 have s9:xO (fun j=>(j<w6.heap.size/\j≠o/\j≠P)\/j=g) 3 nats wL [.slice (some ⟨g,0,none⟩) n n] [List.range n]:=by
  refine xO.nil.snoc (hs:=[]) (ts:=[]) ⟨?_,fun j e=>?_⟩
  ·have:=m6.rowT' (cap:=n) (by simp[nats]) (by unfold maxLen;omega)
   rwa [zQ,List.length_range]at this
  have e:g=j:=by simpa [Value.ownBlock] using e
  exact .inr e.symm
 have r7:StartS B P o n gs (.slice (some ⟨b0,o0,none⟩) gs.length c0) (.slice sa gs.length sc) w 0 _:=.mk _ [List.range n] [-1] [-1] 1 0 [] _ _ _ _ _ _ _ _ _ rfl rfl rfl rfl (by omega) (by omega) (fun v hv=>by simp at hv) i4 (s9.kept k2 h7.size) (i2.kept k2 h7.size) ((t2.out.kept g0 (by simp)).kept h7 (fun j e=>by have e:o=j:=Oj e;omega)) ⟨fun hx=>by
   have:=zR j4.out;rcases hx with hx|hx
   ·exact hx.2.1 rfl
   ·omega,fun hx=>by
   have:=zR j4.out;rcases hx with hx|hx
   ·exact hx.2.2 rfl
   omega⟩ r4 (zB (zB j3.out g0) h7 (by simp;omega)) (yN (zC t7.out g0) h7 (by show _<=o;have:=b5.out;omega))
 have t4:=Kh r7;clear r7;clear s9 k2 i2 k1 z8 i4 h7 r4 o3 m6 g79 g0 h9 i5 i6 b4 r9 g3 g2 g4 m3 b9 r5 k3 k4 k5 f3 f4 f5 m7 a2 x4 x5 t3 n2 j4 j3 t2 t7 b1 d0
 go_loopg [8,9,10,44] gs.length (fun gh v8 v9 v10 i wr=>∃x:Nat,gh+x=gs.length/\i=.int .i64 x/\StartS B P o n gs (.slice (some ⟨b0,o0,none⟩) gs.length c0) (.slice sa gs.length sc) w x wr)
 case atStart=>exact⟨0,by omega,rfl,t4.out⟩
 obtain⟨x,q9,rfl,hS⟩:=hrel;have n4:=Kh q9;have HS:=Kh hS;obtain⟨X,els,pre,las,m,u,us,H9,sE,cE,sP,cP,sL,cL,sU,cU,he,hl,e8,g1,hm,hu,o5,hM,hE,hG,hV,hX,H1,h8,j7⟩:=hS;have m9:=Kh o5;clear o5;clear q9 t4;by_cases hx:x<gs.length
 ·have C3:(x:Int)<gs.length:=by omega
  obtain⟨b0',o0',c0',e0,_,_,_,_,b7⟩:=hV.head (by omega);have e0:b0=b0'/\o0=o0':=by simpa using And.intro (congrArg (fun v=>match v with|Value.slice (some a) _ _=>a.block|_=>0) e0) (congrArg (fun v=>match v with|Value.slice (some a) _ _=>a.off|_=>0) e0)
  obtain⟨rfl,rfl⟩:=e0;obtain⟨fa,fc,h2,g7⟩:=b7 x hx;have l0:=l5.out _ (uP (d:=[]) hx);obtain⟨f,hf⟩:=Nm (gs.getD x []);rw[<-hf]at h2 g7 l0;rw[l0.1]at h2 g7;obtain⟨HF,A8,n7,c2⟩:=K4 hf l0 g7 he;have b2:=gF wr.heap.size B wr (.slice sE m cE) (.slice fa n fc) els f (qAM (hM.own _ (List.mem_cons_self)) hE) g7.row;have A9:=Kh b2;obtain⟨q0,q1,q2,q3,q4,q5,q6,q7,q8⟩:=zU H1;obtain⟨HM,HE,d9,HV,HX,b1⟩:=K6 hM hE hG hV hX H1;have c7:=Kh h8;have c9:=Kh j7;clear b7 hf l0 g7 he b2 hM hE hG hV hX H1 h8 j7 q0 q1 q2 q4 q5 q6 q7 q8;go_wp2_with fail;refine A9.out.mono ?_;rintro e w2 ⟨rfl,md,rfl⟩;by_cases hin:f∈els
  ·have y3:els.idxOf f<els.length:=List.idxOf_lt_length_of_mem hin
   have g8:nK els f=((els.idxOf f:Nat):Int):=by unfold nK;rw[if_pos hin]
   rw[g8];obtain⟨i0,p9⟩:=Nm (els.idxOf f);rw[<-p9]at y3⊢;have z5:(0:Int)<=(i0:Int):=by omega
   clear g8 p9;obtain⟨w4,b6⟩:=Nm ((wr.drewN md).drew);have h5:wr.grownBy w4 none:=(by rw[b6];exact zC (zT wr md none) (zY _ none));have m8:=Kh b6;have a3:=Kh (HM.out.grow h5);have H3:=Kh (zB b1.out h5);have k4:=HM.out.keep h5;have l7:=Kh (HE.out.kept k4 h5.size);have a5:=Kh (d9.out.kept k4 h5.size);have A3:=Kh (HV.out.kept h5 (by simp));have h6:=Kh (zB c7.out h5);have a4:=Kh (zC c9.out h5);have l9:x<26:=(by omega);have A6:=fun W=>Kh (kO W x l9);have j5:=kG (gs:=gs) (n:=n) x (by omega);rw[c2.out]at j5;have D4:=Kh j5
   have o9:sY pre las m gs.length:=by
    have:=j5.1;simp only at this;rw[hl]at this;exact this
   have A1:Hid (∀W:World,w4.grownBy W none->Calls Try.prog 63 #[.agg #[.int .i64 n,.bool true,.slice sa gs.length sc,.slice sE m cE,.slice sP m cP,.slice sL m cL,.slice none 0 0,.slice sU u cU,.int .i64 0],.int .i64 (i0:Int)] W fun e w'=>e=.returned (.string (strOfNums (lets (wQ pre las i0))))/\W.grownBy w' none):=Kh (fun W hg=>by
    have r8:=a3.out.grow hg
    exact nY W.heap.size W.heap.size W _ _ _ _ _ _ _ _ _ pre las m gs.length i0 (Nat.le_refl _) (Nat.le_refl _) (Row.of_owns (r8.own ⟨P,3,.slice sP m cP,m,ints pre,1⟩ (by simp))) (Row.of_owns (r8.own ⟨P,3,.slice sL m cL,m,ints las,1⟩ (by simp))) e8 g1 o9 a9 (by omega) (by omega))
   clear b6 h5 k4 HM b1 HE d9 HV c7 c9 q3 j5 o9 n7;obtain⟨q0,q1,q2,q3,q4,q5,q6,q7,q8⟩:=zU H3.out;have C:=Kh (And.intro q0 (And.intro q1 (And.intro q2 (And.intro q3 (And.intro q4 (And.intro q5 (And.intro q6 (And.intro q7 q8))))))));clear q0 q1 q2 q3 q4 q5 q6 q7 q8;go_upto_region 15 with fail;refine wp_region_noPanic ?_;refine yK (G:=xU 11 (fun _=>True) (fun W=>W.cell? ⟨o,0,none⟩=some (.int .i64 n)/\W.cell? ⟨o,1,none⟩=some (.bool true)/\W.cell? ⟨o,2,none⟩=some (.slice sa gs.length sc)/\W.cell? ⟨o,3,none⟩=some (.slice sE m cE)/\W.cell? ⟨o,4,none⟩=some (.slice sP m cP)/\W.cell? ⟨o,5,none⟩=some (.slice sL m cL)/\W.cell? ⟨o,6,none⟩=some (.slice none 0 0)/\W.cell? ⟨o,7,none⟩=some (.slice sU u cU)/\W.cell? ⟨o,8,none⟩=some (.int .i64 0))) (by kernel_rfl) ?_;rw[<-m8.out];refine zL 0 ⟨trivial,fun _=>C.out⟩ ?_;refine yV 1 ⟨trivial,fun _=>C.out⟩ ?_;refine zL 2 ⟨trivial,fun _=>C.out⟩ ?_;refine yV 4 ⟨trivial,fun _=>C.out⟩ ?_;refine zL 5 ⟨trivial,fun _=>C.out⟩ ?_;refine oneG (i:=3) (by kernel_rfl) rfl (fun K hK=>?_);go_simp
   go_at_call 84
   refine(A6 _).out.mono ?_;rintro e w7 ⟨rfl,a2⟩
   have C7:Hid (w7.cell? ⟨o,0,none⟩=some (.int .i64 n)/\w7.cell? ⟨o,1,none⟩=some (.bool true)/\w7.cell? ⟨o,2,none⟩=some (.slice sa gs.length sc)/\w7.cell? ⟨o,3,none⟩=some (.slice sE m cE)/\w7.cell? ⟨o,4,none⟩=some (.slice sP m cP)/\w7.cell? ⟨o,5,none⟩=some (.slice sL m cL)/\w7.cell? ⟨o,6,none⟩=some (.slice none 0 0)/\w7.cell? ⟨o,7,none⟩=some (.slice sU u cU)/\w7.cell? ⟨o,8,none⟩=some (.int .i64 0)):=Kh (by
    obtain⟨q0,q1,q2,q3,q4,q5,q6,q7,q8⟩:=zU (zB H3.out a2)
    exact⟨q0,q1,q2,q3,q4,q5,q6,q7,q8⟩)
   have n6:=Kh a2;refine hK.out _ _ ⟨trivial,fun _=>C7.out⟩ ?_;clear hK K a2 C
   try simp only[Act.put,sPa,sPb,sPc]
   refine oneG (i:=6) (by kernel_rfl) rfl (fun K hK=>?_);go_simp
   go_at_call 63
   refine(A1.out w7 n6.out).mono ?_;rintro e w8 ⟨rfl,r3⟩;have n5:=Kh (zC n6.out r3);have t0:=zB H3.out n5.out
   have C8:Hid (w8.cell? ⟨o,0,none⟩=some (.int .i64 n)/\w8.cell? ⟨o,1,none⟩=some (.bool true)/\w8.cell? ⟨o,2,none⟩=some (.slice sa gs.length sc)/\w8.cell? ⟨o,3,none⟩=some (.slice sE m cE)/\w8.cell? ⟨o,4,none⟩=some (.slice sP m cP)/\w8.cell? ⟨o,5,none⟩=some (.slice sL m cL)/\w8.cell? ⟨o,6,none⟩=some (.slice none 0 0)/\w8.cell? ⟨o,7,none⟩=some (.slice sU u cU)/\w8.cell? ⟨o,8,none⟩=some (.int .i64 0)):=Kh (by
    obtain⟨q0,q1,q2,q3,q4,q5,q6,q7,q8⟩:=zU t0
    exact⟨q0,q1,q2,q3,q4,q5,q6,q7,q8⟩)
   refine hK.out _ _ ⟨trivial,fun _=>C8.out⟩ ?_;clear hK K r3 C7 t0 n6
   try simp only[Act.put,sPa,sPb,sPc]
   obtain⟨s1,o8⟩:=Nm (strOfNums [97+(x:Int)]);obtain⟨s2,o7⟩:=Nm (strOfNums (lets (wQ pre las i0)));rw[<-o8,<-o7];clear o8 o7;refine zL 7 ⟨trivial,fun _=>C8.out⟩ ?_;refine oneG (i:=8) (by kernel_rfl) rfl (fun K hK=>?_);go_simp;have j8:=heap_alloc_new w8 (.cells #[.string s1,.string s2] 135);have r2:=Ga w8 (.cells #[.string s1,.string s2] 135) none;have H0:=Kh (zC n5.out r2);obtain⟨gR,r0⟩:=Nm w8.heap.size;obtain⟨w9,o4⟩:=Nm (w8.alloc (.cells #[.string s1,.string s2] 135));rw[<-r0]at j8⊢;rw[<-o4]at j8 H0⊢;have H1:=zB H3.out H0.out
   have C9:Hid (w9.cell? ⟨o,0,none⟩=some (.int .i64 n)/\w9.cell? ⟨o,1,none⟩=some (.bool true)/\w9.cell? ⟨o,2,none⟩=some (.slice sa gs.length sc)/\w9.cell? ⟨o,3,none⟩=some (.slice sE m cE)/\w9.cell? ⟨o,4,none⟩=some (.slice sP m cP)/\w9.cell? ⟨o,5,none⟩=some (.slice sL m cL)/\w9.cell? ⟨o,6,none⟩=some (.slice none 0 0)/\w9.cell? ⟨o,7,none⟩=some (.slice sU u cU)/\w9.cell? ⟨o,8,none⟩=some (.int .i64 0)):=Kh (by
    obtain⟨q0,q1,q2,q3,q4,q5,q6,q7,q8⟩:=zU H1
    exact⟨q0,q1,q2,q3,q4,q5,q6,q7,q8⟩)
   refine hK.out _ _ ⟨trivial,fun _=>C9.out⟩ ?_;clear hK K r2 C8 r0 o4 n5
   try simp only[Act.put,sPa,sPb,sPc]
   have b4:=a3.out.grow H0.out;have e1:uQ w9 2 (.slice (some ⟨gR,0,none⟩) 1 1) 1 [.string s1,.string s2]:=qCD j8;refine oneG (i:=9) (by kernel_rfl) rfl (fun K hK=>?_);refine pG rfl (.tmp 56) (.tmp 63) 88 rfl nO 3 _ rfl ⟨_,_,_,_,_,b4.many (rJ _) (fun _ h=>h),⟨P,135,.slice sU u cU,u,us,2⟩,1,u+1,_,rfl,rfl,rfl,rfl,e1,?z1,rfl,?z2,?z3,?z4,?_⟩
   case z1=>intro v hv;simp only[List.mem_cons,List.not_mem_nil,or_false]at hv;rcases hv with rfl|rfl<;>rfl
   case z2=>unfold maxLen;omega
   case z3=>show (u+1)*32<=140737488355328;omega
   case z4=>show P<=w9.heap.size;have:=H0.out.size;have:=zR h6.out;omega
   intro sU' cU' wM b3
   have a1:∀j,rJ [⟨P,22,.slice sE m cE,m,H9,1⟩,⟨P,3,.slice sP m cP,m,ints pre,1⟩,⟨P,3,.slice sL m cL,m,ints las,1⟩,⟨P,135,.slice sU u cU,u,us,2⟩] j->P<=j/\¬X j/\j≠o/\j≠P:=fun j hj=>aF b4 hj (fun r hr=>by
    simp only[List.mem_cons,List.not_mem_nil,or_false]at hr
    rcases hr with rfl|rfl|rfl|rfl<;>simp) H1 (zB h6.out H0.out)
   have s8:=b4.after b3 (fun j hj=>(a1 j hj).2.1);have kM:=b4.keepMany b3 (fun j hj=>(a1 j hj).2.1);have m5:=b3.but.heap H1 (fun hj=>(a1 o hj).2.2.1 rfl);have i9:=b3.but.heap (zB h6.out H0.out) (fun hj=>(a1 P hj).2.2.2 rfl);have r1:w.grownBy wM none:=b3.but.grown (zC a4.out H0.out) (fun j hj=>.inr (by have:=(a1 j hj).1;have:=b5.out;omega))
   have CM:Hid (wM.cell? ⟨o,0,none⟩=some (.int .i64 n)/\wM.cell? ⟨o,1,none⟩=some (.bool true)/\wM.cell? ⟨o,2,none⟩=some (.slice sa gs.length sc)/\wM.cell? ⟨o,3,none⟩=some (.slice sE m cE)/\wM.cell? ⟨o,4,none⟩=some (.slice sP m cP)/\wM.cell? ⟨o,5,none⟩=some (.slice sL m cL)/\wM.cell? ⟨o,6,none⟩=some (.slice none 0 0)/\wM.cell? ⟨o,7,none⟩=some (.slice sU u cU)/\wM.cell? ⟨o,8,none⟩=some (.int .i64 0)):=Kh (by
    obtain⟨q0,q1,q2,q3,q4,q5,q6,q7,q8⟩:=zU m5
    exact⟨q0,q1,q2,q3,q4,q5,q6,q7,q8⟩)
   refine hK.out _ _ ⟨trivial,fun _=>CM.out⟩ ?_;have k9:=a3.out.keep H0.out;have s5:=(l7.out.kept k9 H0.out.size).kept kM b3.but.size;have s3:=(a5.out.kept k9 H0.out.size).kept kM b3.but.size;obtain⟨l6,t9,t5,l8,j2,t6⟩:=K6 s8 s5 s3 m5 i9 r1;clear hK K C9 b4 b3 a1 s8 kM m5 i9 r1 k9 s5 s3 H1 e1 j8 a3 l7 a5 A3 h6 a4 H0 H3
   try simp only[Act.put,sPa,sPb,sPc]
   refine zL 10 ⟨trivial,fun _=>CM.out⟩ ?_;refine oneG (i:=11) (by kernel_rfl) rfl (fun K hK=>?_);have q7:=CM.out.2.2.2.2.2.2.2.1;have f7:=zA l8.out 7;go_simp;have o6:=heap_setCell_same wM o 7 _ _ (.slice sU' (u+1) cU') l8.out;have b8:=zG wM ⟨o,7,none⟩ (.slice sU' (u+1) cU');refine hK.out _ _ ⟨trivial,fun h=>by simp at h⟩ ?_;clear hK K q7 f7 CM
   try simp only[Act.put,sPa,sPb,sPc]
   refine tY (by kernel_rfl) ?_ _;refine NoPanic.normal ?_;have kS:xQ X wM _:=xQ.of_grown l6.out.lt b8 (fun j e hx=>by have e:o=j:=Oj e;subst e;exact HX.out.1 hx);have m1:=yN t6.out b8 (by show _<=o;have:=b5.out;omega)
   have i3:StartS B P o n gs (.slice (some ⟨b0,o0,none⟩) gs.length c0) (.slice sa gs.length sc) w (x+1) (wM.setCell ⟨o,7,none⟩ (.slice sU' (u+1) cU')):=by
    refine .mk X els pre las m (u+1) (us++[Value.string s1,Value.string s2]) H9 sE cE sP cP sL cL sU' cU' ?_ hl e8 g1 (by omega) (by omega) (fun v hv=>by
     rcases List.mem_append.1 hv with hv|hv
     ·exact m9.out v hv
     ·simp only[List.mem_cons,List.not_mem_nil,or_false]at hv;rcases hv with rfl|rfl<;>rfl) (l6.out.far b8 (fun r hr=>zS (l6.out.own r hr) l8.out (by
     simp only[List.set_cons_zero,List.set_cons_succ,List.mem_cons,List.not_mem_nil,or_false]at hr
     rcases hr with rfl|rfl|rfl|rfl<;>simp))) (t9.out.kept kS b8.size) (t5.out.kept kS b8.size) (j0.out.kept m1 (by simp)) HX.out (by simpa using o6) (zB j2.out b8 (by simp;omega)) m1
    rw[yJ,if_pos (by rw[c2.out,<-HF.out];exact hin)];exact c2.out
   have n1:=Kh i3;clear i3 kS m1 o6 b8 l6 t9 t5 l8 j2 t6;go_wp2;go_roundg (gs.length-(x+1))
   case measure=>have:=n4.out;omega
   exact⟨x+1,by omega,by go_num,n1.out⟩
  have g8:nK els f = -1:=by unfold nK;rw[if_neg hin]
  rw[g8];clear g8;obtain⟨w4,b6⟩:=Nm ((wr.drewN md).drew);have h5:wr.grownBy w4 none:=(by rw[b6];exact zC (zT wr md none) (zY _ none));have m8:=Kh b6;have a3:=Kh (HM.out.grow h5);have H3:=Kh (zB b1.out h5);have k4:=HM.out.keep h5;have l7:=Kh (HE.out.kept k4 h5.size);have a5:=Kh (d9.out.kept k4 h5.size);have h6:=Kh (zB c7.out h5);have a4:=Kh (zC c9.out h5);have g6:=n7.out.kept h5 (by simp);obtain⟨FF,l3⟩:∃FF:Nat->Prop,FF=fun j=>rJ [⟨P,22,.slice sE m cE,m,H9,1⟩,⟨P,3,.slice sP m cP,m,ints pre,1⟩,⟨P,3,.slice sL m cL,m,ints las,1⟩,⟨P,135,.slice sU u cU,u,us,2⟩] j\/j=o:=⟨_,rfl⟩
  have a1:∀j,FF j->P<=j/\¬X j/\j≠P:=fun j hj=>by
   rw[l3]at hj;rcases hj with hj|hj
   ·have:=aF a3.out hj (fun r hr=>by
     simp only[List.mem_cons,List.not_mem_nil,or_false]at hr
     rcases hr with rfl|rfl|rfl|rfl<;>simp) H3.out h6.out
    exact⟨this.1,this.2.1,this.2.2.2⟩
   subst hj;exact⟨by omega,HX.out.1,by omega⟩
  have j1:=Kh a1;have A0:Hid (FF o):=Kh (by rw[l3];exact .inr rfl);have y1:Hid (o<w4.heap.size):=Kh (zR H3.out);have g9:Hid (P<=w4.heap.size):=Kh (Nat.le_of_lt (zR h6.out))
  have A4:Hid (∀W:World,GrownBut w4 W FF->uQ W 1 (.slice fa n fc) n (nats f)):=Kh (fun W hg=>by
   rcases g6 with ⟨e,e2⟩|⟨b,off,cap,cur,mm,e,e2,e3,e4,e5,e6⟩
   ·simp only[Value.slice.injEq]at e
    exact .inl ⟨fa,fc,by rw[e.2.1],e.2.1,e2⟩
   have hl:(nats f).length=n:=by rw[zQ];exact A8.out.1
   rw[hl]at e e3;refine .inr ⟨b,off,cap,e,by omega,by omega,fun j u' hj=>?_⟩;obtain⟨z0,y9⟩:=List.getElem?_eq_some_iff.1 hj;refine hg.cell ?_ (fun hb=>by have:=(j1.out b hb).1;omega)
   rw[cell_of_row w4 b (off+j) _ _ _ e5,e6 j z0,y9])
  have A5:Hid (Many w4 FF w4 [⟨P,22,.slice sE m cE,m,H9,1⟩,⟨P,3,.slice sP m cP,m,ints pre,1⟩,⟨P,3,.slice sL m cL,m,ints las,1⟩,⟨P,135,.slice sU u cU,u,us,2⟩,⟨P,3,.slice none 0 0,0,[],1⟩] [] []):=Kh ((a3.out.add (yD _ none) (r:=⟨P,3,.slice none 0 0,0,[],1⟩) (World.ownsRow_nil _ _ _ _) (fun j e=>by simp[Value.ownBlock]at e)).many FF (fun j hj=>by
   obtain⟨r,hr,hk⟩:=hj;rw[l3];simp only[List.cons_append,List.nil_append,List.mem_cons,List.not_mem_nil,or_false]at hr;rcases hr with rfl|rfl|rfl|rfl|rfl
   ·exact .inl ⟨_,by simp,hk⟩
   ·exact .inl ⟨_,List.Mem.tail _ (List.Mem.head _),hk⟩
   ·exact .inl ⟨_,List.Mem.tail _ (List.Mem.tail _ (List.Mem.head _)),hk⟩
   ·exact .inl ⟨_,List.Mem.tail _ (List.Mem.tail _ (List.Mem.tail _ (List.Mem.head _))),hk⟩
   simp[Value.ownBlock]at hk))
  obtain⟨q0,q1,q2,q3,q4,q5,q6,q7,q8⟩:=zU H3.out;have C:=Kh (And.intro q3 (And.intro q4 q5));clear b6 h5 k4 HM b1 HE d9 HV c7 c9 q0 q1 q2 q3 q4 q5 q6 q7 q8 l3 a1 g6 n7;go_upto_region 16 with fail;refine wp_region_noPanic ?_;refine yK (G:=xU 18 (fun _=>True) (fun W=>W.cell? ⟨o,3,none⟩=some (.slice sE m cE)/\W.cell? ⟨o,4,none⟩=some (.slice sP m cP)/\W.cell? ⟨o,5,none⟩=some (.slice sL m cL))) (by kernel_rfl) ?_;rw[<-m8.out];refine zL 0 ⟨trivial,fun _=>C.out⟩ ?_;refine yV 1 ⟨trivial,fun _=>C.out⟩ ?_;refine zL 3 ⟨trivial,fun _=>C.out⟩ ?_;refine zL 7 ⟨trivial,fun _=>C.out⟩ ?_;refine yV 8 ⟨trivial,fun _=>C.out⟩ ?_;refine zL 9 ⟨trivial,fun _=>C.out⟩ ?_;refine zL 12 ⟨trivial,fun _=>C.out⟩ ?_;refine yV 13 ⟨trivial,fun _=>C.out⟩ ?_;refine zL 14 ⟨trivial,fun _=>C.out⟩ ?_;refine uG (fun Wp hWp a0 ha0=>?_);subst hWp
  try simp only[Act.put,sPd,sPe,sPf,sPa,sPb,sPc]at ha0
  have n8:=Kh ha0;refine uF (I:=start16I n P o m u x f pre las us H9 sE cE sP cP sL cL sU cU (.slice sa gs.length sc) w4 FF a0) (fun l a w h=>qFK h) (dC ha0 a7 (by omega) g9.out A0.out y1.out A4.out) (by kernel_rfl) ?hend9 (by decide +kernel) ?hinit9
  case hinit9 =>
   clear ha0;refine⟨a0.tmps.getD 68 undef,a0.tmps.getD 70 undef,a0.tmps.getD 71 undef,a0.tmps.getD 72 undef,a0.tmps.getD 76 undef,a0.tmps.getD 77 undef,a0.tmps.getD 81 undef,a0.tmps.getD 82 undef,a0.tmps.getD 83 undef,a0.tmps.getD 84 undef,a0.tmps.getD 85 undef,.slice sE m cE,m,H9,.slice sP m cP,m,ints pre,.slice sL m cL,m,ints las,.slice none 0 0,0,[],[],.slice sE m cE,.slice sP m cP,.slice sL m cL,(vG (by simp)).symm,by decide +kernel,Kh (fun _=>⟨rfl,rfl,rfl⟩),Kh (fun h=>absurd h (by decide +kernel)),Kh (fun h=>absurd h (by decide +kernel)),Kh (fun h=>absurd h (by decide +kernel)),Kh (fun _=>⟨rfl,rfl,rfl⟩),Kh (fun h=>absurd h (by decide +kernel)),Kh (fun h=>absurd h (by decide +kernel)),Kh (fun _=>⟨rfl,rfl,rfl⟩),Kh (fun h=>absurd h (by decide +kernel)),Kh (fun h=>absurd h (by decide +kernel)),Kh (fun _=>⟨rfl,rfl,rfl⟩),Kh (fun h=>absurd h (by decide +kernel)),Kh (fun h=>absurd h (by decide +kernel)),Kh (fun h=>absurd h (by decide +kernel)),Kh (fun h=>absurd h (by decide +kernel)),Kh (fun _=>rfl),Kh (fun h=>absurd h (by decide +kernel)),Kh (fun _=>rfl),Kh (fun h=>absurd h (by decide +kernel)),Kh (fun _=>rfl),Kh (fun h=>absurd h (by decide +kernel)),H3.out,A5.out⟩
  clear ha0;intro l a w6 h h0;obtain⟨x68,x70,x71,x72,x76,x77,x81,x82,x83,x84,x85,vE,nE,xE,vP,nP,xP,vL,nL,xL,vF,nF,xF,ls,c3,c4,c5,ha,HR,B7,H2,H4,H5,B6,H6,C2,o1,x3,C1,n9,x2,C0,B9,B8,B3n,B3,B4n,B4,B5n,B5,HB,HM⟩:=h;obtain⟨_,s4,c4',rfl,rfl,y2,rfl⟩:=H4.out (h0 4 (by decide));obtain⟨_,s6,c6,rfl,rfl,rfl,rfl⟩:=H6.out (h0 6 (by decide));obtain⟨_,s11,c11,rfl,rfl,rfl,rfl⟩:=x3.out (h0 11 (by decide));obtain⟨_,s16,c16,rfl,rfl,rfl,rfl⟩:=x2.out (h0 16 (by decide));have e3:=(B3.out (h0 18 (by decide))).2.2;have e4:=(B4.out (h0 20 (by decide))).2.2;have e5:=(B5.out (h0 22 (by decide))).2.2;subst y2;rw[e3,e4,e5]at HB;clear B7 H2 H4 H5 B6 H6 C2 o1 x3 C1 n9 x2 C0 B9 B8 B3n B3 B4n B4 B5n B5 HR e3 e4 e5;subst ha;rw[n8.out];simp only[zM,List.foldl_cons,List.foldl_nil,Act.put,sPa,sPb,sPc];refine NoPanic.normal ?_;have i8:EMem X w6 ([⟨P,22,.slice s6 (m+1) c6,m+1,H9++[.slice s4 n c4'],1⟩,⟨P,3,.slice s11 (m+1) c11,m+1,ints pre++[.int .i64 0],1⟩,⟨P,3,.slice s16 (m+1) c16,m+1,ints las++[.int .i64 (x:Int)],1⟩,⟨P,135,.slice sU u cU,u,us,2⟩]++[⟨P,3,.slice s4 n c4',n,nats f,1⟩]):=a3.out.after HM (fun j hj=>(j1.out j hj).2.1);have s7:=i8.retire;have kM:=a3.out.keepMany HM (fun j hj=>(j1.out j hj).2.1);have i7:=HM.own 4 _ rfl;simp only at i7;have c1:=HM.but.heap h6.out (fun hj=>(j1.out P hj).2.2 rfl);have m2:w.grownBy w6 none:=HM.but.grown a4.out (fun j hj=>.inr (by have:=(j1.out j hj).1;have:=b5.out;omega))
  have i3:StartS B P o n gs (.slice (some ⟨b0,o0,none⟩) gs.length c0) (.slice sa gs.length sc) w (x+1) w6:=by
   refine .mk (fun j=>X j\/(Value.slice s4 n c4').ownBlock=some j) (els++[f]) (pre++[0]) (las++[(x:Int)]) (m+1) u us (H9++[Value.slice s4 n c4']) s6 c6 s11 c11 s16 c16 sU cU ?_ (by simp[hl]) (by simp[e8]) (by simp[g1]) (by omega) (by omega) m9.out ?_ (((l7.out.kept kM HM.but.size).mono (fun j hj=>.inl hj)).snoc (RowX.of_owns i7 (fun j hj=>.inr hj))) ((a5.out.kept kM HM.but.size).mono (fun j hj=>.inl hj)) (j0.out.kept m2 (by simp)) ⟨fun hx=>?_,fun hx=>?_⟩ HB c1 m2
   ·rw[yJ,if_neg (by rw[c2.out,<-HF.out];exact hin),c2.out,<-HF.out]
   ·rw[show ints (pre++[0])=ints pre++[.int .i64 0] by simp[ints],show ints (las++[(x:Int)])=ints las++[.int .i64 (x:Int)] by simp[ints]]
    exact s7
   ·rcases hx with hx|hx
    ·exact HX.out.1 hx
    exact zS i7 HB (by decide) hx
   rcases hx with hx|hx
   ·exact HX.out.2 hx
   exact zS i7 c1 (by decide) hx
  have n1:=Kh i3;clear i3 i8 s7 kM i7 c1 m2 HM HB;go_wp2;go_roundg (gs.length-(x+1))
  case measure=>have:=n4.out;omega
  exact⟨x+1,by omega,by go_num,n1.out⟩
 have x7:x=gs.length:=by have:=n4.out;omega
 subst x7;obtain⟨q0,q1,q2,q3,q4,q5,q6,q7,q8⟩:=zU H1;obtain⟨p0,p1,p2,p3,p4,p5,p6,p7,p8⟩:=zU h8;have f0:=zA h8 0;have f1:=zA h8 1;have f2:=zA h8 2;have f3:=zA h8 3;have f4:=zA h8 4;have f5:=zA h8 5;have f6:=zA h8 6;have f7:=zA h8 7;have f8:=zA h8 8;obtain⟨c2,HM,HE,d9,HX,c7⟩:=K6 he hM hE hG hX h8;have c9:=Kh j7;have n3:=Kh (And.intro hl (And.intro e8 g1));clear he hM hE hG hV hX H1 h8 j7 hl e8 g1;go_wp2;refine bodyPost_ret (v:=.tuple #[.agg #[.int .i64 n,.bool true,.slice sa gs.length sc,.slice sE m cE,.slice sP m cP,.slice sL m cL,.slice none 0 0,.slice sU u cU,.int .i64 0],.int .i64 0]) (by simp[results,Try.results82,go_sem,p0,p1,p2,p3,p4,p5,p6,p7,p8]) rfl ?_;obtain⟨C4,h7⟩:=rE c7.out (.int .i64 n) (.bool true) (.slice sa gs.length sc) (.slice sE m cE) (.slice sP m cP) (.slice sL m cL) (.slice none 0 0) (.slice sU u cU) (.int .i64 0);have kk:xQ X wr _:=xQ.of_grown HM.out.lt h7 (fun j e hx=>by have e:P=j:=Oj e;subst e;exact HX.out.2 hx);refine⟨X,els,pre,las,m,u,us,H9,.slice sa gs.length sc,sE,cE,sP,cP,sL,cL,sU,cU,rfl,c2.out,n3.out.1,n3.out.2.1,n3.out.2.2,by omega,m9.out,?_,HE.out.kept kk h7.size,d9.out.kept kk h7.size,yN c9.out h7 (by show _<=P;have:=b5.out;omega)⟩;rw[<-b5.out]
 exact HM.out.far h7 (fun r hr=>zS (HM.out.own r hr) c7.out (by
  simp only[List.mem_cons,List.not_mem_nil,or_false]at hr
  rcases hr with rfl|rfl|rfl|rfl<;>simp))
end Go.Proofs.Ytobakifdllameaa
