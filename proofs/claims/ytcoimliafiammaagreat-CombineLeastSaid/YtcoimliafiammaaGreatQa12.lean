/- Part 12 of the proof. -/
import Derived.Test.YtcoimliafiammaaGreatQa11
import Derived.BigRegion
import Derived.BigQuiet
set_option linter.unusedVariables false
set_option linter.unusedSimpArgs false
set_option maxRecDepth 100000
set_option maxHeartbeats 16000000
namespace Go.Proofs.YtcoimliafiammaaGreat
open Go.Maps Go.RowKit
def RwOk (ds:List DfaV)(L:List (List Nat))(x row:List Nat)(a:Nat):Prop:=row.length=a/\∀b,b<a->row.getD b 0=L.idxOf (nxtT ds x b)/\nxtT ds x b∈L
theorem RwOk.more {ds:List DfaV}{L:List (List Nat)}{x row:List Nat}{a:Nat}(h:RwOk ds L x row a)(z:List Nat):RwOk ds (L++[z]) x row a :=
 ⟨h.1,fun b hb=>by
  obtain⟨h1,h2⟩:=h.2 b hb
  exact⟨by rw[h1,List.idxOf_append,if_pos h2],List.mem_append_left _ h2⟩⟩
theorem RwOk.push {ds:List DfaV}{L:List (List Nat)}{x row:List Nat}{a:Nat}(h:RwOk ds L x row a)(hm:nxtT ds x a∈L):RwOk ds L x (row++[L.idxOf (nxtT ds x a)]) (a+1):=by
 refine⟨by rw[List.length_append,h.1];rfl,fun b hb=>?_⟩;by_cases e:b=a
 ·subst e
  refine⟨?_,hm⟩;rw[List.getD_eq_getElem?_getD,List.getElem?_append_right (by rw[h.1];exact Nat.le_refl _),h.1,Nat.sub_self];rfl
 rw[xT (by rw[h.1];omega)];exact h.2 b (by omega)
def TOk (ds:List DfaV)(k:Nat)(L T:List (List Nat))(i:Nat):Prop:=T.length=i/\∀j,j<i->RwOk ds L (L.getD j []) (T.getD j []) k
theorem TOk.more {ds:List DfaV}{k i:Nat}{L T:List (List Nat)}(h:TOk ds k L T i)(hi:i<=L.length)(z:List Nat):TOk ds k (L++[z]) T i:=⟨h.1,fun j hj=>by
 rw[xT (by omega)]
 exact(h.2 j hj).more z⟩
theorem TOk.push {ds:List DfaV}{k i:Nat}{L T:List (List Nat)}{row:List Nat}(h:TOk ds k L T i)(hr:RwOk ds L (L.getD i []) row k):TOk ds k L (T++[row]) (i+1):=by
 refine⟨by rw[List.length_append,h.1];rfl,fun j hj=>?_⟩;by_cases e:j=i
 ·subst e
  have e1:(T++[row]).getD j []=row:=by rw[List.getD_eq_getElem?_getD,List.getElem?_append_right (by rw[h.1];exact Nat.le_refl _),h.1,Nat.sub_self];rfl
  rw[e1];exact hr
 rw[xT (by rw[h.1];omega)];exact h.2 j (by omega)
def xAV (w:World)(pv:Value)(ds:List DfaV)(k:Nat)(e:Ending)(w':World):Prop :=
 (Over ds k/\e=.returned (.tuple #[.agg #[.slice none 0 0,.slice none 0 0,.slice none 0 0],.int .i64 3])/\w.grownBy w' none)\/∃B v L T,e=.returned (.tuple #[v,.int .i64 0])/\w.heap.size<=B/\bK B w' v pv L T/\BfsD (nxtT ds) k (st0T ds) L/\L.length<=4000/\TOk ds k L T L.length/\w.grownBy w' none
theorem gU (Bd:Nat)(w:World)(v:Value)(ds:List DfaV)(k:Nat)(hB:Bd<=w.heap.size)(h:DsIn Bd w v ds)(a8:OkT ds k)(a5:1<=k)(a6:k<=6)(hl:ds.length<=400):Calls Tryz.prog 71 #[v,.int .i64 (k:Int)] w (xAV w v ds k):=by
 obtain⟨da,dc,rfl⟩:=h.shape;obtain⟨np,l8⟩:=Nm ds.length;obtain⟨H0,H,e7⟩:=K3 l8 h a8;have o1:=Kh (xAB (n:=np) (by omega));have k0:ds.length<=400:=hl;rw[<-l8]at hl H⊢;have t9:=@run_makeMap Tryz.prog;clear h a8 l8 k0;have m9:Hid ((st0T ds).length=np):=Kh (by rw[rB,H0.out]);go_enter Tryz.func71,Tryz.ntmps71;go_upto_region 3 with fail;obtain⟨wA,f8⟩:=Nm (w.alloc (.cells #[.slice none 0 0,.slice none 0 0,.slice none 0 0] 120));rw[<-f8];have j7:wA.heap.size=w.heap.size+1:=by rw[f8,zL]
 obtain⟨o,ho⟩:=Nm (w.heap.size+1);have d9:=heap_alloc_new wA (.cells #[.slice da np dc,.slice none 0 0,.slice none 0 0] 120);have k2:=Ga wA (.cells #[.slice da np dc,.slice none 0 0,.slice none 0 0] 120) none;obtain⟨wB,l2⟩:=Nm (wA.alloc (.cells #[.slice da np dc,.slice none 0 0,.slice none 0 0] 120));have o4:wB.heap.size=w.heap.size+1+1:=by rw[l2,zL,j7]
 rw[<-l2]at d9 k2⊢;rw[j7,<-ho]at d9;have b3:=Ga wB (.cells #[] 3) none;have d4:=heap_alloc_new wB (.cells #[] 3);obtain⟨wC,o5⟩:=Nm (wB.alloc (.cells #[] 3));rw[<-o5]at b3 d4⊢;have h0:=qR (base:=wA.heap.size) d4 k2.size;have a1:=Kh (zB d9 b3);have r4:=Kh (zA k2 b3);have h7:=Kh h0;have t1:=Kh f8;have HO:Hid (wA.heap.size=o):=Kh (by rw[j7,ho]);have j4:Hid (w.grownBy wA none):=Kh (by rw[f8];exact Ga _ _ _);obtain⟨g0,m3⟩:=Nm (w.heap.size+1+1);rw[<-m3];rw[<-ho];rw[o4,<-m3]at h7;clear f8 ho d9 k2 l2 b3 d4 o5 h0 m3 j7 o4;go_wp2
 go_loopg [7,9,24] np (fun gh a7 a9 a24 wr=>∃(j:Nat) (s:Option Addr) (c:Nat),gh+j=np/\a24=.int .i64 j/\a7=.slice s j c/\wr.ownsRow wA.heap.size 3 1 (.slice s j c) j (nats ((st0T ds).take j))/\wr.heap[o]?=some (.cells #[.slice da np dc,.slice none 0 0,.slice none 0 0] 120 (0,0))/\wA.grownBy wr none)
 case atStart=>exact⟨0,some ⟨g0,0,none⟩,0,rfl,rfl,rfl,h7.out,a1.out,r4.out⟩
 clear h7 a1 r4;obtain⟨j,s,c,i9,rfl,rfl,h0,d9,hg⟩:=hrel;obtain⟨f7,h7,a1,HG⟩:=K4 i9 h0 d9 hg;obtain⟨w3,rfl⟩:=Nm (wr:World);clear i9 d9;by_cases hj:j<np
 ·have m2:(j:Int)<np:=by omega
  obtain⟨b,off,cap,e,m5,m4,hd⟩:=(H.out.kept (zA j4.out hg) (by simp)).head (by rw[<-H0.out];omega);rw[<-H0.out]at e m5;simp only[Value.slice.injEq,true_and]at e;obtain⟨rfl,rfl⟩:=e;have s3:dc<=9223372036854775807:=by unfold maxLen at m4;omega
  obtain⟨n,fb,fo,fc,nb,no,nc,RB,RO,RC,hv,h5,c1,c2,c3,c4,k3⟩:=hd.dfa e7.out (by rw[<-H0.out];exact hj);obtain⟨x,hx⟩:=Nm (st0 (ds.getD j dN));rw[<-hx]at c2;have HX:=Kh hx;clear hd k3 hv hx h0 hg;go_upto_region 6 with fail;have H4:=Ga w3 (.cells #[.int .i64 (k:Int),.int .i64 (x:Int),.slice (some ⟨fb,fo,none⟩) n fc,.slice (some ⟨nb,no,none⟩) n nc] 30) none;have e0:=heap_alloc_new w3 (.cells #[.int .i64 (k:Int),.int .i64 (x:Int),.slice (some ⟨fb,fo,none⟩) n fc,.slice (some ⟨nb,no,none⟩) n nc] 30);obtain⟨w5,H6⟩:=Nm (w3.alloc (.cells #[.int .i64 (k:Int),.int .i64 (x:Int),.slice (some ⟨fb,fo,none⟩) n fc,.slice (some ⟨nb,no,none⟩) n nc] 30));obtain⟨db,d6⟩:=Nm w3.heap.size;rw[<-H6]at H4;rw[<-H6,<-d6]at e0;rw[<-H6,<-d6];obtain⟨_,d1,_,_⟩:=qIL e0;have p2:=zX h7.out H4 (by simp);have p7:=zB a1.out H4;have p5:=zA HG.out H4;obtain⟨n8,r9,r5⟩:=K3 p2 p7 p5;clear c1 c2 c3 c4 H6 d6 H4 e0 p2 p7 p5 h7 a1 HG;go_upto_region 7 with (first|(at_builtin;refine vZ rfl _ _ _ rfl yP.toN wA.heap.size (.slice s j c) j _ rfl n8.out [.int .i64 (x:Int)] rfl rfl ?z1 ?z2 ?z3 ?z4 ?_;(case z1=>(intro v hv;simp only[List.mem_cons,List.not_mem_nil,or_false]at hv;subst hv;rfl));(case z2=>(unfold maxLen;omega));(case z3=>(show (j+1)*8<=140737488355328;omega));(case z4=>exact r5.out.size);intro sn cn wM h0 H5 H7;(have t4:=Kh h0);(have r3:=Kh H5);clear h0 H5 H7)|fail);go_wp2;go_roundg (np-(j+1))
  case measure=>have:=f7.out;omega
  refine⟨j+1,sn,cn,by have:=f7.out;omega,by go_num,rfl,?_,?_,?_⟩
  ·have h1:=t4.out
   rw[<-uE,HX.out,<-fT (by rw[<-H0.out];exact hj),<-zT (by rw[m9.out];exact hj)]at h1;exact h1
  ·exact zB r9.out r3.out (zO n8.out r9.out (by decide))
  exact zA r5.out r3.out (fun y e=>(n8.out.lt y e).1)
 have m1:np=j:=by have:=f7.out;omega
 have m2:¬(j:Int)<np:=(by omega);rw[List.take_of_length_le (by rw[m9.out];omega)]at h0;subst m1;have b8:=Kh h0;have r6:=Kh hg;have p1:=zJ a1.out 1;have f1:=zF a1.out 1;have p0:=zM a1.out;simp only[sPd,sPe,sPf]at p1;clear h0 hg h7 HG hj;go_upto_region 9 with fail;rw[<-World.setCell_alloc_past _ _ _ _ p0];obtain⟨w5,H6⟩:=Nm ((w3.alloc (.cells #[.slice s np c] 22)).setCell ⟨o,1,none⟩ (.slice (some ⟨w3.heap.size,0,none⟩) 1 1));rw[<-H6];obtain⟨X,d8,l4,p8⟩:=qMH r6.out b8.out a1.out (by have:=HO.out;omega) H6;obtain⟨sb,o7⟩:=Nm w3.heap.size;rw[<-o7]at d8;obtain⟨r7,q7,p9⟩:=K3 d8 l4 p8;have a4:=Ga w5 (.map #[] 0) none;have m0:=MapK.made 9 (pA np) KR w5;obtain⟨w6,j8⟩:=Nm (w5.alloc (.map #[] 0));obtain⟨mb,l9⟩:=Nm w5.heap.size;rw[<-j8,<-l9]at m0;rw[<-j8]at a4;obtain⟨q3,o0,k9,r2⟩:=K4 j8 l9 a4 m0
 have q6:Hid (pA np (st0T ds)):=Kh (by
  refine⟨m9.out,fun x hx=>?_⟩;obtain⟨i,hi,rfl⟩:=List.getElem_of_mem hx;have:=e7.out.small e7.out.in0 i (by rw[rB]at hi;exact hi)
  rwa [zG hi]at this)
 have a0:Hid (Row w5.heap.size w5 (.slice s np c) (nats (st0T ds))):=Kh (l4.2 0 (by simp) (by simp)).1.row;have H3:Hid (Calls Tryz.prog 89 #[.slice s np c] w6 fun e w'=>e=.returned (.string (txtT (kbR (st0T ds))))/\w6.grownBy w' none):=Kh (aH w5.heap.size w6 _ (st0T ds) np a4.size (a0.out.kept a4 (by simp)) q6.out (by omega));obtain⟨T0,m6⟩:=Nm (txtT (kbR (st0T ds)));rw[<-m6]at H3;have t2:=Kh m6;clear a4 m0 j8 l9 m6 H6 d8 l4 p8 o7 p1 f1 p0 b8 r6 a1;go_wp2_with fail;rw[<-o0.out,<-q3.out];refine H3.out.mono ?_;rintro e w7 ⟨rfl,d5⟩;have k8:=Kh (r2.out.kept d5 (by simp));have j5:=Kh (zA k9.out d5);clear d5 H3;obtain⟨w8,r8,i1,i8,b4⟩:=k8.out.upd o1.out (z:=st0T ds) (y:=0) (by unfold maxLen;omega) q6.out (by omega);have i0:Sem.run Tryz.prog (Instr.mapUpdate 108 (.map (some mb)) (.string T0) (.int .i64 0)) w7=.ok r8 w8:=by rw[t2.out];exact i1
 clear i1;go_wp2;clear i0
 have i5:(fun q=>if q=st0T ds then some 0 else (none:Option Nat))=numE [st0T ds]:=by
  funext q;unfold numE;by_cases e:q=st0T ds
  ·rw[if_pos e,if_pos (by simp[e]),e];simp
  rw[if_neg e,if_neg (by simpa using e)]
 have i7:MapK 9 (pA np) KR w8 mb 1 1 (numE [st0T ds]):=(by rw[<-i5];exact i8);have r1:Hid (RPr wA wA.heap.size o mb np (.slice da np dc) [st0T ds] [] 1 0 [] w8):=Kh (qPQ r7.out q7.out p9.out (by rw[o0.out];exact Nat.le_refl _) (sQ j5.out b4 (.inl rfl) (.inr (.inl rfl))) i7 (by omega));clear i8 i7 b4 i5 r7 q7 p9 k8 j5 a0 r2 k9 q3 o0;have n1:Hid (wA.heap[w.heap.size]?=some (.cells #[.slice none 0 0,.slice none 0 0,.slice none 0 0] 120 (0,0))):=Kh (by rw[t1.out];exact heap_alloc_new w _)
 go_loopg [11,12,13,14,15,16,17,18,56] 4000 (fun gh v11 a12 a13 a14 a15 a16 a17 a18 a56 wr=>∃(s:Nat) (L T:List (List Nat)),gh+s=4000/\v11=.int .i64 s/\RPr wA wA.heap.size o mb np (.slice da np dc) L T L.length s [] wr/\BfsI (nxtT ds) k (st0T ds) L s 0/\L.length<=4000/\TOk ds k L T s)
 case atStart=>exact⟨0,[st0T ds],[],rfl,rfl,r1.out,BfsI.start,by simp,⟨rfl,fun j hj=>by omega⟩⟩
 clear r1;obtain⟨wo,rfl⟩:=Nm (wr:World);obtain⟨i,L,T,i9,rfl,hp,b6,b7,e8⟩:=hrel;obtain⟨e5,f7,HP,b9⟩:=K4 e8 i9 hp b6;have b1:=b6.le;obtain⟨m,hm⟩:=Nm L.length;rw[<-hm]at b1 b7 HP;have H1:=Kh hm;obtain⟨sS,cS,sN,cN,h9,_⟩:=HP.out.cells;obtain⟨x0,x1,x2⟩:=zQ h9;clear i9 hp b6 hm e8;by_cases hs:i<m
 case neg =>
  have o8:¬(i:Int)<m:=(by omega);have s1:m=i:=by omega
  have HD:Hid (BfsD (nxtT ds) k (st0T ds) L):=Kh (b9.out.done (by rw[<-H1.out];omega));have a3:=zB n1.out HP.out.facts.1;obtain⟨y0,y1,y2⟩:=zQ a3;have f40:=zF a3 0;have f41:=zF a3 1;have f42:=zF a3 2;have s4:=zM a3;obtain⟨tS,tN,dS,dN',j2,c5⟩:=HP.out.val;have d7:=j2.symm.trans h9;simp only[Option.some.injEq,Obj.cells.injEq,and_true]at d7;have j1:=congrArg Array.toList d7;simp only[List.cons.injEq,true_and,and_true]at j1;obtain⟨e1,e2⟩:=j1;rw[e1,e2]at c5;have m7:=Kh c5;clear j2 d7 e1 e2 c5;subst s1;go_wp2;have g1:=zC (zC (zD wo ⟨w.heap.size,0,none⟩ (.slice da np dc)) (zD _ ⟨w.heap.size,1,none⟩ (.slice sS m cS))) (zD _ ⟨w.heap.size,2,none⟩ (.slice sN m cN));have z1:=heap_setCell_same _ w.heap.size 2 _ _ (.slice sN m cN) (heap_setCell_same _ w.heap.size 1 _ _ (.slice sS m cS) (heap_setCell_same wo w.heap.size 0 _ _ (.slice da np dc) a3));obtain⟨w9,l3⟩:=Nm (((wo.setCell ⟨w.heap.size,0,none⟩ (.slice da np dc)).setCell ⟨w.heap.size,1,none⟩ (.slice sS m cS)).setCell ⟨w.heap.size,2,none⟩ (.slice sN m cN));rw[<-l3]at g1 z1⊢;simp only[Array.setIfInBounds,List.size_toArray,List.length_cons,List.length_nil]at z1;obtain⟨q0,q1,q2⟩:=zQ z1;refine bodyPost_ret (v:=.tuple #[.agg #[.slice da np dc,.slice sS m cS,.slice sN m cN],.int .i64 0]) (by simp[results,Tryz.results71,go_sem,q0,q1,q2,Result.andThen]) rfl ?_;refine .inr ⟨wA.heap.size,_,L,T,rfl,j4.out.size,m7.out w9 (some w.heap.size) g1 (fun j e=>by have e:w.heap.size=j:=Oj e;have:=zM n1.out;omega),HD.out,by rw[<-H1.out];exact b7,by rw[<-H1.out];exact e5.out,zA (zA j4.out HP.out.facts.1) g1 (fun j e=>by have e:w.heap.size=j:=Oj e;omega)⟩
 have o8:(i:Int)<m:=(by omega);have q5:Hid (i<L.length):=Kh (by rw[<-H1.out];exact hs);have r0:Hid (RPr wA wA.heap.size o mb np (.slice da np dc) L T L.length i (⟨wA.heap.size,3,.slice none 0 0,0,nats [],1⟩::[]) wo):=Kh (by have h1:=HP.out.addRow (zH wo none) (World.ownsRow_nil _ _ _ _) (e:=3) (sz:=1) (by decide);rw[<-H1.out];exact h1);have f0:Hid (L.length<=4000):=Kh (by rw[<-H1.out];exact b7);go_wp2;clear x0 x1 x2 hs o8 b1 b7 HP
 go_loopg [12,13,14,15,16,17,18,56] k (fun gh b12 b13 b14 b15 b16 b17 b18 b56 w2=>∃(a:Nat) (L:List (List Nat)) (row:List Nat) (sr:Option Addr) (cr:Nat),gh+a=k/\b13=.int .i64 a/\b12=.slice sr a cr/\RPr wA wA.heap.size o mb np (.slice da np dc) L T L.length i (⟨wA.heap.size,3,.slice sr a cr,a,nats row,1⟩::[]) w2/\BfsI (nxtT ds) k (st0T ds) L i a/\i<L.length/\L.length<=4000/\TOk ds k L T i/\RwOk ds L (L.getD i []) row a)
 case atStart=>exact⟨0,L,[],none,0,rfl,rfl,rfl,r0.out,b9.out,q5.out,f0.out,e5.out,⟨rfl,fun b hb=>by omega⟩⟩
 clear r0 b9 e5 H1 q5 f0;obtain⟨w2,rfl⟩:=Nm (wr:World);obtain⟨a,L2,row,sr,cr,H4,rfl,rfl,hp,b6,b1,b7,e8,l5⟩:=hrel;obtain⟨b0,HP,b9,e5,k5,e6⟩:=K6 H4 hp b6 e8 l5 b1;have f0:=Kh b7;by_cases ha:a<k
 case neg =>
  have s7:¬(a:Int)<k:=(by omega);have s6:k=a:=by omega
  clear H4 hp b6 b1 b7 e8 l5;subst s6;obtain⟨hs,sN,cN,h0,d8,hz,h8⟩:=HP.out.pushN;have h7:=Kh h0;have n4:=Kh h8;have x4:i<4000:=(by have:=e6.out;have:=f0.out;omega);clear h0 h8;go_upto_region 12 with (first|(at_builtin;refine vZ rfl _ _ _ rfl vX.toN wA.heap.size (.slice sN i cN) i hs rfl h7.out [.slice sr k cr] rfl rfl ?z1 ?z2 ?z3 ?z4 ?_;(case z1=>(intro v hv;simp only[List.mem_cons,List.not_mem_nil,or_false]at hv;subst hv;rfl));(case z2=>(unfold maxLen;omega));(case z3=>(show (i+1)*24<=140737488355328;omega));(case z4=>exact hz);intro sn cn wM h0 H5 H7;obtain⟨p1,f1,i2⟩:=n4.out wM sn cn h0 H5 H7;(have n2:=Kh i2);clear h0 H5 H7 i2 d8)|fail);go_wp2;go_roundg (4000-(i+1))
  case measure=>have:=f7.out;omega
  exact⟨i+1,L2,T++[row],by have:=f7.out;omega,by(first|go_num|(refine congrArg _ ?_;rw[IntWalk.wrap64_in _ (by omega)];omega)),n2.out,b9.out.next e6.out,f0.out,e5.out.push k5.out⟩
 have s7:(a:Int)<k:=(by omega);have f6:=Kh (qTJ b6 e7.out b1);obtain⟨x,hx⟩:=Nm (L2.getD i []);rw[<-hx]at f6 k5;have HX:=Kh hx;obtain⟨m,hm⟩:=Nm L2.length;rw[<-hm]at HP b7 b1;have H1:=Kh hm;clear H4 hp b6 e8 l5 hx hm;go_upto_region 18 with fail;have b3:=Ga w2 (.cells #[] 3) none;have d4:=heap_alloc_new w2 (.cells #[] 3);obtain⟨w3,o6⟩:=Nm (w2.alloc (.cells #[] 3));obtain⟨g1,p6⟩:=Nm w2.heap.size;rw[<-o6]at b3 d4⊢;have l7:=HP.out.addRow b3 (qR (base:=w2.heap.size) d4 (Nat.le_refl _)) (by decide);rw[<-p6]at l7⊢;have q9:=Kh l7;have n9:Hid ((nxtT ds x a).length=np):=Kh (by rw[nG,H0.out]);clear b3 d4 o6 p6 l7 HP;go_wp2
 go_loopg [14,15,16,56] np (fun gh c14 c15 c16 c56 w4=>∃(j:Nat) (s':Option Addr) (c':Nat),gh+j=np/\c56=.int .i64 j/\c14=.slice s' j c'/\RPr wA wA.heap.size o mb np (.slice da np dc) L2 T m i (⟨wA.heap.size,3,.slice sr a cr,a,nats row,1⟩::⟨wA.heap.size,3,.slice s' j c',j,nats ((nxtT ds x a).take j),1⟩::[]) w4)
 case atStart=>exact⟨0,some ⟨g1,0,none⟩,0,rfl,rfl,rfl,q9.out⟩
 clear q9;obtain⟨w4,rfl⟩:=Nm (wr:World);obtain⟨j,s',c',p4,rfl,rfl,hp⟩:=hrel;have o2:=Kh p4;have HP:=Kh hp;clear p4;by_cases hj:j<np
 case pos =>
  have m2:(j:Int)<np:=(by omega);obtain⟨b,off,cap,e,m5,m4,hd⟩:=(H.out.kept (zA j4.out hp.facts.1) (by simp)).head (by rw[<-H0.out];omega);rw[<-H0.out]at e m5;simp only[Value.slice.injEq,true_and]at e;obtain⟨rfl,rfl⟩:=e;have s3:dc<=9223372036854775807:=by unfold maxLen at m4;omega
  obtain⟨n,fb,fo,fc,nb,no,nc,RB,RO,RC,hv,h5,c1,c2,c3,c4,k3⟩:=hd.dfa e7.out (by rw[<-H0.out];exact hj);have hq:x.getD j 0<n:=(by have:=f6.out.2 j (by rw[<-H0.out];exact hj);rw[hv.hn]at this;exact this);have t5:=Kh k3;have HD:=Kh hd;obtain⟨st,f9⟩:=Nm (st0 (ds.getD j dN));rw[<-f9]at c2;have HQ:=Kh hq;clear hd k3 hv hp f9;go_upto_region 21 with fail;have H4:=Ga w4 (.cells #[.int .i64 (k:Int),.int .i64 (st:Int),.slice (some ⟨fb,fo,none⟩) n fc,.slice (some ⟨nb,no,none⟩) n nc] 30) none;have e0:=heap_alloc_new w4 (.cells #[.int .i64 (k:Int),.int .i64 (st:Int),.slice (some ⟨fb,fo,none⟩) n fc,.slice (some ⟨nb,no,none⟩) n nc] 30);obtain⟨w5,H6⟩:=Nm (w4.alloc (.cells #[.int .i64 (k:Int),.int .i64 (st:Int),.slice (some ⟨fb,fo,none⟩) n fc,.slice (some ⟨nb,no,none⟩) n nc] 30));obtain⟨db,d6⟩:=Nm w4.heap.size;rw[<-H6]at H4;rw[<-H6,<-d6]at e0;rw[<-H6,<-d6];obtain⟨_,_,_,d3⟩:=qIL e0;have i3:=HP.out.grow H4;have q8:=Kh i3;have H9:=t5.out.kept H4 (by simp);have e1:=H9.hd (x.getD j 0) HQ.out;have e2:=H9.el (x.getD j 0) a HQ.out ha;have e3:=H9.cap;have e4:=H9.rcap (x.getD j 0) HQ.out;obtain⟨sS,cS,sN,cN,h9,j9⟩:=i3.cells;obtain⟨x0,x1,x2⟩:=zQ h9;obtain⟨sb,rfl,s5,j0,j9⟩:=j9 (by omega);obtain⟨g,go,gc,f1,f2,f3,f4⟩:=j9 i b1 (by rw[<-HX.out];intro e;have:=f6.out.1;rw[e,<-H0.out]at this;simp at this;omega);rw[<-HX.out]at f1 f2 f4;have f5:=f4 j (by rw[f6.out.1,<-H0.out];exact hj);rw[f6.out.1,<-H0.out]at f1 f2;have x9:=Kh (i3.own (r:=⟨wA.heap.size,3,.slice s' j c',j,nats ((nxtT ds x a).take j),1⟩) (by simp));have t0:=Kh i3.facts.2.1;have x7:cS<=9223372036854775807:=by unfold maxLen at j0;omega
  have x6:gc<=9223372036854775807:=by unfold maxLen at f3;omega
  have t8:nc<=9223372036854775807:=by unfold maxLen at e3;omega
  have o9:RC (x.getD j 0)<=9223372036854775807:=by unfold maxLen at e4;omega
  have a2:nx (ds.getD j dN) (x.getD j 0) a=(nxtT ds x a).getD j 0:=(fX (by rw[<-H0.out];exact hj)).symm;obtain⟨qq,l6⟩:=Nm (x.getD j 0);rw[<-l6]at e1 e2 e4 f5 a2 o9;have t7:(qq:Int)<n:=(by rw[l6];have:=HQ.out;omega);obtain⟨rb2,d0⟩:=Nm (RB qq);obtain⟨ro2,c6⟩:=Nm (RO qq);obtain⟨rc2,c7⟩:=Nm (RC qq);obtain⟨y,hy⟩:=Nm (nx (ds.getD j dN) qq a);rw[<-d0,<-c6,<-c7]at e1;rw[<-d0,<-c6,<-hy]at e2;rw[<-c7]at e4 o9;rw[<-hy]at a2;have n0:=Kh a2;obtain⟨e3a,_⟩:=e3;obtain⟨e4a,_⟩:=e4;have x5:(i:Int)<m:=(by omega);clear a2 hy d0 c6 c7 l6 f4 j9 h9 i3 H9 e0 H4 H6 d6 j0 f3;have j3:Hid (∀W1:World,w5.grownBy W1 none->W1.ownsRow wA.heap.size 3 1 (.slice s' j c') j (nats ((nxtT ds x a).take j))/\wA.heap.size<=W1.heap.size):=Kh (fun W1 hW=>⟨(q8.out.grow hW).own (r:=⟨wA.heap.size,3,.slice s' j c',j,nats ((nxtT ds x a).take j),1⟩) (by simp),Nat.le_trans t0.out hW.size⟩)
  have n3:Hid (∀(W1 wM:World) (s2:Option Addr) (c2:Nat),wM.ownsRow wA.heap.size 3 1 (.slice s2 (j+1) c2) (j+1) (nats ((nxtT ds x a).take j)++[.int .i64 (y:Int)])->W1.grownBy wM (Value.slice s' j c').ownBlock->pG W1 wM (.slice s' j c') (.slice s2 (j+1) c2)->w5.grownBy W1 none->RPr wA wA.heap.size o mb np (.slice (some ⟨b,off,none⟩) np dc) L2 T m i (⟨wA.heap.size,3,.slice sr a cr,a,nats row,1⟩::⟨wA.heap.size,3,.slice s2 (j+1) c2,j+1,nats ((nxtT ds x a).take (j+1)),1⟩::[]) wM):=Kh (fun W1 wM s2 c2 h1 h2 h3 h4=>by
   have h6:=(q8.out.grow h4).app (j:=1) (r:=⟨wA.heap.size,3,.slice s' j c',j,nats ((nxtT ds x a).take j),1⟩) rfl h1 h2 h3;rw[n0.out,<-uE,<-zT (by rw[n9.out];exact hj)]at h6
   exact h6)
  go_region_law (first|(refine qO ?g1 (.tmp 61) (.tmp 77) 22 ?g2 yP.toN wA.heap.size (.slice s' j c') j (nats ((nxtT ds x a).take j)) ?g3 ?g4 [.int .i64 (y:Int)] w5.heap.size ?g5 (0,0) ?g6 ?g7 ?g7b ?g8 ?g9 ?g10 ?_;(case g1=>rfl);(case g2=>rfl);(case g3=>rfl);(case g4=>(refine(j3.out _ ?_).1;exact vI (o:=.cells #[.int .i64 (y:Int)] 3) rfl rfl rfl rfl));(case g5=>rfl);(case g6=>rfl);(case g7=>exact heap_alloc_new (w5.drew) _);(case g7b=>(intro u hu;simp at hu;subst hu;rfl));(case g8=>(unfold maxLen;omega));(case g9=>omega);(case g10=>(refine(j3.out _ ?_).2;exact vI (o:=.cells #[.int .i64 (y:Int)] 3) rfl rfl rfl rfl));intro s8 c8 w8 b2 b4 i6;have d2:=n3.out _ _ _ _ b2 b4 i6 (vI (o:=.cells #[.int .i64 (y:Int)] 3) rfl rfl rfl rfl);have k6:=Kh d2;clear d2 b2 b4 i6)|fail)
  all_goals
   go_wp2;go_roundg (np-(j+1))
   case measure=>have:=o2.out;omega
   exact⟨j+1,_,_,by have:=o2.out;omega,by go_num,rfl,k6.out⟩
 have m2:¬(j:Int)<np:=(by omega);have m1:np=j:=by have:=o2.out;omega
 rw[List.take_of_length_le (by rw[n9.out];omega)]at hp;obtain⟨z,hz⟩:=Nm (nxtT ds x a);have j6:z.length=np:=by rw[hz];exact n9.out
 have m8:Hid (pA np z):=Kh (by
  have h1:=e7.out.next f6.out ha;rw[<-hz]at h1;refine⟨j6,fun y hy=>?_⟩;obtain⟨q,hq,rfl⟩:=List.getElem_of_mem hy;have:=e7.out.small h1 q (by rw[<-H0.out,<-j6];exact hq)
  rwa [zG hq]at this)
 rw[<-hz]at hp;clear HP;subst m1;have k7:=Kh hp;have a0:Hid (Row w4.heap.size w4 (.slice s' np c') (nats z)):=Kh (RowX.of_owns (X:=fun _=>True) (hp.own (r:=⟨wA.heap.size,3,.slice s' np c',np,nats z,1⟩) (by simp)) (fun _ _=>trivial)).row;have H3:Hid (∀W:World,w4.grownBy W none->Calls Tryz.prog 89 #[.slice s' np c'] W fun e w'=>e=.returned (.string (txtT (kbR z)))/\W.grownBy w' none):=Kh (fun W hW=>aH w4.heap.size W _ z np hW.size (a0.out.kept hW (by simp)) m8.out (by omega));obtain⟨U,hU⟩:=Nm (txtT (kbR z));rw[<-hU]at H3;obtain⟨HU,HZ,x8⟩:=K3 hU hz j6;clear hp hz hU j6 a0 hj;go_wp2_with fail;refine(H3.out _ (zH _ _)).mono ?_;rintro e w6 ⟨rfl,a4⟩;have d2:=k7.out.grow a4;obtain⟨u,c9,hu,hM⟩:=d2.map;obtain⟨k6,HM,q4,k9⟩:=K4 d2 hM hu a4;obtain⟨sS,cS,sN,cN,h9,_⟩:=d2.cells;obtain⟨x0,x1,x2⟩:=zQ h9;have H8:=hM.lookup o1.out m8.out;clear a4 d2 hM hu h9 k7;have o3:Hid (L2[i]?=some x):=Kh (by rw[HX.out,List.getD_eq_getElem?_getD,List.getElem?_eq_getElem e6.out];rfl);have l0:z=nxtT ds (L2.getD i []) a:=by rw[HZ.out,HX.out]
 have k4:=Kh l0;by_cases hmem:z∈L2
 case pos =>
  obtain⟨y,hy⟩:=Nm (L2.idxOf z);have t6:y<m:=by rw[hy,H1.out];exact List.idxOf_lt_length_of_mem hmem
  have k0:Sem.run Tryz.prog (Instr.lookup 108 (.map (some mb)) (.string U) true) w6=.ok (.tuple #[.int .i64 (y:Int),.bool true]) w6:=by
   rw[dL hmem,<-hy]at H8;rw[HU.out];exact H8
  have n6:=Kh (RPr.drop (tl:=⟨wA.heap.size,3,.slice sr a cr,a,nats row,1⟩::[]) k6.out);have n7:=Kh (n6.out.own (r:=⟨wA.heap.size,3,.slice sr a cr,a,nats row,1⟩) (by simp));have c0:=n6.out.facts.2.1;have HY:=Kh hy;have H2:=Kh hmem;clear H8 hy hmem l0 x0 x1 x2;go_upto_region 16 with (first|(at_builtin;refine vZ rfl _ _ _ rfl yP.toN wA.heap.size (.slice sr a cr) a (nats row) rfl n7.out [.int .i64 (y:Int)] rfl rfl ?z1 ?z2 ?z3 ?z4 ?_;(case z1=>(intro v hv;simp only[List.mem_cons,List.not_mem_nil,or_false]at hv;subst hv;rfl));(case z2=>(unfold maxLen;omega));(case z3=>(show (a+1)*8<=140737488355328;omega));(case z4=>exact c0);intro sn cn wM h0 H5 H7;(have n5:=Kh (n6.out.app (j:=0) rfl h0 H5 H7));clear h0 H5 H7)|fail);go_wp2;go_roundg (k-(a+1))
  case measure=>have:=b0.out;omega
  have h1:=n5.out;rw[<-uE]at h1;refine⟨a+1,L2,row++[y],sn,cn,by have:=b0.out;omega,by go_num,rfl,?_,b9.out.old o3.out (by rw[HX.out,<-k4.out];exact H2.out),e6.out,f0.out,e5.out,?_⟩
  ·rw[<-H1.out];exact h1
  have h2:=k5.out.push (by rw[<-HZ.out];exact H2.out);rw[<-HZ.out,<-HY.out,HX.out]at h2;exact h2
 have k0:Sem.run Tryz.prog (Instr.lookup 108 (.map (some mb)) (.string U) true) w6=.ok (.tuple #[.int .i64 0,.bool false]) w6:=by
  rw[qKC hmem]at H8;rw[HU.out];exact H8
 have H2:=Kh hmem;clear H8 l0 hmem;go_wp2_with fail;refine(H3.out _ k9.out).mono ?_;rintro e w7 ⟨rfl,d5⟩;have k8:=Kh (HM.out.kept d5 (by simp));have k7:=Kh (k6.out.grow d5);clear d5 k0 x0 x1 x2;go_upto_region 27 with (first|(at_mapUpdate;refine oH o1.out rfl _ _ _ rfl mb u c9 (numE L2) z m rfl ?k1 rfl k8.out (by have:=q4.out;unfold maxLen;omega) m8.out (by omega) ?_;(case k1=>(show _=Value.string (txtT (kbR z));rw[<-HU.out];rfl));intro w8 i8 b4)|fail);obtain⟨c10,p3⟩:∃c10,MapK 9 (pA np) KR w8 mb (u+1) c10 (numE (L2++[z])):=⟨_,by rw[<-qEN H2.out,<-H1.out];exact i8⟩;obtain⟨hs,sS,cS,h0,d8,s0,h8⟩:=k7.out.pushS b4 p3 (by have:=q4.out;omega);have h7:=Kh h0;have n4:=Kh h8;clear h0 h8 i8 p3 b4;go_upto_region 28 with (first|(at_builtin;refine vZ rfl _ _ _ rfl vX.toN wA.heap.size (.slice sS m cS) m hs rfl h7.out [.slice s' np c'] rfl rfl ?z1 ?z2 ?z3 ?z4 ?_;(case z1=>(intro v hv;simp only[List.mem_cons,List.not_mem_nil,or_false]at hv;subst hv;rfl));(case z2=>(unfold maxLen;omega));(case z3=>(show (m+1)*24<=140737488355328;omega));(case z4=>exact s0);intro sn cn wM h0 H5 H7;obtain⟨p1,f1,i2⟩:=n4.out wM sn cn h0 H5 H7;(have n2:=Kh i2);clear h0 H5 H7 i2 d8)|fail);obtain⟨wZ,l1⟩:=Nm (wM.setCell ⟨o,1,none⟩ (.slice sn (m+1) cn));rw[<-l1];have e9:Hid (RPr wA wA.heap.size o mb np (.slice da np dc) (L2++[z]) T (m+1) i (⟨wA.heap.size,3,.slice sr a cr,a,nats row,1⟩::[]) wZ):=Kh (by rw[l1];exact n2.out);obtain⟨tS,tC,tN,tD,b5,_⟩:=e9.out.cells;obtain⟨y0,y1,y2⟩:=zQ b5;clear l1 b5 p1 f1;by_cases h4:m=4000
 case pos =>
  have s9:(4000:Int)<(m:Int)+1:=(by omega);have t3:Hid (Over ds k):=Kh (b9.out.over (by rw[<-H1.out];exact h4) ha o3.out (by rw[HX.out,<-k4.out];exact H2.out));have a3:=zB n1.out e9.out.facts.1;obtain⟨f40,f41,f42,s4,v0,v1,v2⟩:=wK a3;subst h4;go_wp2;have g1:=zC (zC (zD wZ ⟨w.heap.size,0,none⟩ (.slice none 0 0)) (zD _ ⟨w.heap.size,1,none⟩ (.slice none 0 0))) (zD _ ⟨w.heap.size,2,none⟩ (.slice none 0 0));have z1:=heap_setCell_same _ w.heap.size 2 _ _ (.slice none 0 0) (heap_setCell_same _ w.heap.size 1 _ _ (.slice none 0 0) (heap_setCell_same wZ w.heap.size 0 _ _ (.slice none 0 0) a3));obtain⟨w9,l3⟩:=Nm (((wZ.setCell ⟨w.heap.size,0,none⟩ (.slice none 0 0)).setCell ⟨w.heap.size,1,none⟩ (.slice none 0 0)).setCell ⟨w.heap.size,2,none⟩ (.slice none 0 0));rw[<-l3]at g1 z1⊢;simp only[Array.setIfInBounds,List.size_toArray,List.length_cons,List.length_nil]at z1;obtain⟨q0,q1,q2⟩:=zQ z1;refine bodyPost_ret (v:=.tuple #[.agg #[.slice none 0 0,.slice none 0 0,.slice none 0 0],.int .i64 3]) (by simp[results,Tryz.results71,go_sem,q0,q1,q2,Result.andThen]) rfl ?_;exact .inl ⟨t3.out,rfl,zA (zA j4.out e9.out.facts.1) g1 (fun j e=>by have e:w.heap.size=j:=Oj e;omega)⟩
 have s9:¬(4000:Int)<(m:Int)+1:=(by omega);have n7:=Kh (e9.out.own (r:=⟨wA.heap.size,3,.slice sr a cr,a,nats row,1⟩) (by simp));have c0:=e9.out.facts.2.1;have x3:m<4000:=(by omega);clear h4;go_upto_region 16 with (first|(at_builtin;refine vZ rfl _ _ _ rfl yP.toN wA.heap.size (.slice sr a cr) a (nats row) rfl n7.out [.int .i64 (m:Int)] rfl rfl ?z1 ?z2 ?z3 ?z4 ?_;(case z1=>(intro v hv;simp only[List.mem_cons,List.not_mem_nil,or_false]at hv;subst hv;rfl));(case z2=>(unfold maxLen;omega));(case z3=>(show (a+1)*8<=140737488355328;omega));(case z4=>exact c0);intro sn2 cn2 wM2 h0 H5 H7;(have n5:=Kh (e9.out.app (j:=0) rfl h0 H5 H7));clear h0 H5 H7)|fail);go_wp2;go_roundg (k-(a+1))
 case measure=>have:=b0.out;omega
 have h1:=n5.out;rw[<-uE]at h1;have e2:(L2++[z]).length=m+1:=by rw[List.length_append,<-H1.out];rfl
 have i4:=b9.out.new ha o3.out (by rw[HX.out,<-k4.out];exact H2.out);rw[HX.out,<-k4.out]at i4;have e3:(L2++[z]).getD i []=x:=by rw[xT e6.out,HX.out]
 refine⟨a+1,L2++[z],row++[m],sn2,cn2,by have:=b0.out;omega,by go_num,rfl,?_,i4,by rw[e2];have:=e6.out;have:=H1.out;omega,by rw[e2];omega,e5.out.more (Nat.le_of_lt e6.out) z,?_⟩
 ·rw[e2];exact h1
 rw[e3];have h2:=(k5.out.more z).push (by rw[<-HZ.out];simp);have e4:(L2++[z]).idxOf z=m:=by rw[List.idxOf_append,if_neg H2.out,H1.out];simp
 rw[<-HZ.out,e4]at h2;exact h2
theorem qDU:Tryz.prog.underlying 152=some (.map 154 3):=by kernel_rfl
theorem qQF:Keyed Tryz.prog 154:=Keyed.of_law (deep_law_laid (m:=5) (by kernel_rfl) (by decide) (of_decide_eq_true (by kernel_rfl)) (by kernel_rfl) (by kernel_rfl))
def posV (x:Nat×Nat):Value:=.agg #[.int .i64 (x.1:Int),.int .i64 (x.2:Int)]
def qOH (x:Nat×Nat):Prop:=x.1<4611686018427387904/\x.2<4611686018427387904
theorem qDV:Tryz.prog.cellsOf 154=2:=by kernel_rfl
theorem qVB {x0 x1:Nat}(h0:x0<4611686018427387904)(h1:x1<4611686018427387904):(keyOf Tryz.prog 154 (.agg #[.int .i64 (x0:Int),.int .i64 (x1:Int)])).isSome=true:=by
 have hk:Tryz.prog.keyType 154=true:=by kernel_rfl
 unfold keyOf;rw[Tryz.underlying154];simp only[hk,Bool.true_and]
 have hf:(Value.agg #[.int .i64 (x0:Int),.int .i64 (x1:Int)]).formed Tryz.prog 154=true:=by
  simp[Value.formed,Tryz.underlying154,qDV]
 rw[if_pos hf]
 have hl:Tryz.prog.keyLits (Tryz.prog.types.size+1) 154 (Value.agg #[.int .i64 (x0:Int),.int .i64 (x1:Int)]).cells.toList=some [.int .i64 (x0:Int),.int .i64 (x1:Int)]:=by
  have hz:Tryz.prog.types.size=(Tryz.prog.types.size-1)+1:=by kernel_rfl
  rw[hz];unfold Program.keyLits;rw[Tryz.underlying154];simp[Value.cells,qDV,dW,tV _ h0,tV _ h1]
 rw[hl];rfl
theorem qQG:KeyK 152 154 qOH posV where
 key:=qQF
 und:=qDU
 of:=fun x h=>qVB h.1 h.2
 inj:=fun x y hx hy e=>by
  simp only[posV,Value.agg.injEq]at e
  have e:=congrArg Array.toList e
  simp only[List.cons.injEq,Value.int.injEq,true_and,and_true]at e
  exact Prod.ext (by omega) (by omega)
end Go.Proofs.YtcoimliafiammaaGreat
namespace Go.Proofs.YtcoimliafiammaaGreat
def posL:Nat->List (List Nat)->List (Nat×Nat)
 | _,[]=>[]
 | i,u::us=>(List.range (u.length+1)).map (fun k=>(i,k))++posL (i+1) us
def wL (bs:List (List Nat)):List (Nat×Nat):=posL 0 bs
def offP (bs:List (List Nat))(i:Nat):Nat:=yQ (bs.take i)+i
def lenP (bs:List (List Nat))(i:Nat):Nat:=(bs.getD i []).length
theorem rC:∀(bs:List (List Nat)) (i:Nat),(posL i bs).length=yQ bs+bs.length
 | [],i=>rfl
 | u::us,i=>by
  rw[posL,List.length_append,List.length_map,List.length_range,rC us,uM,List.length_cons];omega
theorem tA (bs:List (List Nat)):offP bs 0=0:=by simp[offP,yQ]
theorem qEJ (u:List Nat)(us:List (List Nat))(i:Nat):offP (u::us) (i+1)=u.length+1+offP us i:=by
 simp only[offP,List.take_succ_cons,uM];omega
theorem qEI {bs:List (List Nat)}{i:Nat}(h:i<bs.length):offP bs (i+1)=offP bs i+lenP bs i+1:=by
 unfold offP lenP;rw[List.take_succ_eq_append_getElem h,iG,zG h];simp[yQ];omega
theorem qJR:∀(bs:List (List Nat)) (j i k:Nat),i<bs.length->k<=lenP bs i->(posL j bs)[offP bs i+k]?=some (j+i,k)
 | [],j,i,k,h,_=>by simp at h
 | u::us,j,0,k,h,hk=>by
  have hk':k<u.length+1:=by unfold lenP at hk;simp at hk;omega
  rw[tA,Nat.zero_add,posL,List.getElem?_append_left (by simpa using hk')]
  simp[hk']
 | u::us,j,i+1,k,h,hk=>by
  have:=qJR us (j+1) i k (by simpa using h) (by unfold lenP at hk⊢;simpa using hk)
  rw[qEJ,posL,List.getElem?_append_right (by simp;omega),List.length_map,List.length_range,show u.length+1+offP us i+k-(u.length+1)=offP us i+k by omega,this]
  congr 2;omega
theorem mK {bs:List (List Nat)}{i k:Nat}(hi:i<bs.length)(hk:k<=lenP bs i):(wL bs)[offP bs i+k]?=some (i,k):=by
 have:=qJR bs 0 i k hi hk
 rwa [Nat.zero_add]at this
theorem rY {bs:List (List Nat)}{i k:Nat}(hi:i<bs.length)(hk:k<=lenP bs i):offP bs i+k<(wL bs).length:=(List.getElem?_eq_some_iff.1 (mK hi hk)).1
theorem aO:∀(bs:List (List Nat)) (j p:Nat),p<(posL j bs).length->∃i k,i<bs.length/\k<=lenP bs i/\p=offP bs i+k
 | [],j,p,h=>by simp[posL]at h
 | u::us,j,p,h=>by
  by_cases hp:p<u.length+1
  ·exact⟨0,p,by simp,by unfold lenP;simp;omega,by rw[tA];omega⟩
  ·rw[rC,uM,List.length_cons]at h
   obtain⟨i,k,hi,hk,e⟩:=aO us (j+1) (p-(u.length+1)) (by rw[rC];omega)
   exact⟨i+1,k,by simpa using hi,by unfold lenP at hk⊢;simpa using hk,by rw[qEJ];omega⟩
theorem qHD {bs:List (List Nat)}{p:Nat}(h:p<(wL bs).length):∃i k,i<bs.length/\k<=lenP bs i/\p=offP bs i+k:=aO bs 0 p h
theorem qQJ:∀(bs:List (List Nat)) (j:Nat),∀x∈posL j bs,j<=x.1
 | [],j,x,hx=>by simp[posL]at hx
 | u::us,j,x,hx=>by
  rcases List.mem_append.1 hx with hx|hx
  ·obtain⟨k,_,rfl⟩:=List.mem_map.1 hx;exact Nat.le_refl _
  ·have:=qQJ us (j+1) x hx;omega
theorem aN:∀(bs:List (List Nat)) (j:Nat),(posL j bs).Nodup
 | [],j=>by simp[posL]
 | u::us,j=>by
  rw[posL,List.nodup_append]
  refine⟨?_,aN us (j+1),fun x hx y hy e=>?_⟩
  ·rw[List.Nodup,List.pairwise_map]
   exact(List.nodup_range (n:=u.length+1)).imp fun hne e=>hne (by simpa using e)
  ·obtain⟨k,_,rfl⟩:=List.mem_map.1 hx
   have:=qQJ us (j+1) y hy
   rw[<-e]at this
   have:j+1<=j:=this
   omega
def leP (bs:List (List Nat))(x:Nat×Nat)(a:Nat):Bool:=decide (x.2<lenP bs x.1) && (bs.getD x.1 []).getD x.2 0 == a
def stP (x:Nat×Nat):Bool:=decide (x.2=0) && decide (0<x.1)
def enP (bs:List (List Nat))(x:Nat×Nat):Bool:=decide (x.2=lenP bs x.1) && decide (x.1+1<bs.length)
def atP (bs:List (List Nat))(p:Nat):Nat×Nat:=(wL bs).getD p (0,0)
theorem lE {bs:List (List Nat)}{i k:Nat}(hi:i<bs.length)(hk:k<=lenP bs i):atP bs (offP bs i+k)=(i,k):=by
 unfold atP;rw[List.getD_eq_getElem?_getD,mK hi hk];rfl
def bitP (S:List Bool)(p:Nat):Bool:=S.getD p false
def kR (bs:List (List Nat))(S:List Bool)(a p:Nat)(t:List Bool):List Bool :=
 if bitP S p then
  (if stP (atP bs p) then (if leP bs (atP bs p) a then t.set (p+1) true else t).set p true else (if leP bs (atP bs p) a then t.set (p+1) true else t))
 else t
def yR (bs:List (List Nat))(m:Nat)(S:List Bool)(a:Nat):Nat->List Bool
 | 0=>List.replicate m false
 | p+1=>kR bs S a p (yR bs m S a p)
def oK (bs:List (List Nat))(S:List Bool):Nat->List Bool
 | 0=>S
 | p+1=>if bitP (oK bs S p) p && enP bs (atP bs p) then (oK bs S p).set (p+1) true else oK bs S p
theorem tB (bs:List (List Nat))(m:Nat)(S:List Bool)(a:Nat):∀p,(yR bs m S a p).length=m
 | 0=>by simp[yR]
 | p+1=>by
  have:=tB bs m S a p
  unfold yR kR
  split
  ·split<;>split<;>simp[this]
  ·exact this
theorem rP (bs:List (List Nat))(S:List Bool):∀p,(oK bs S p).length=S.length
 | 0=>rfl
 | p+1=>by
  have:=rP bs S p
  unfold oK
  split<;>simp[this]
theorem qIR {t:List Bool}{q p:Nat}(hq:q<t.length):bitP (t.set q true) p=(decide (q=p) || bitP t p):=by
 unfold bitP;by_cases e:q=p
 ·subst e
  rw[jO hq];simp
 rw[eU e];simp[e]
theorem qAN {t:List Bool}{q p:Nat}:bitP (t.set q true) p=(decide (q=p/\q<t.length) || bitP t p):=by
 by_cases hq:q<t.length
 ·rw[qIR hq];simp[hq]
 rw[List.set_eq_of_length_le (by omega)];simp[hq]
theorem qAM (bs:List (List Nat)){m:Nat}(S:List Bool)(a:Nat):∀q p,p<m->(bitP (yR bs m S a q) p=true↔(∃p',p=p'+1/\p'<q/\bitP S p'=true/\leP bs (atP bs p') a=true)\/(p<q/\bitP S p=true/\stP (atP bs p)=true))
 | 0,p,hp=>by
  simp[yR,bitP,List.getD,List.getElem?_replicate,hp]
 | q+1,p,hp=>by
  have ih:=qAM bs S a q p hp
  have hl:=tB bs m S a q
  unfold yR kR
  by_cases hS:bitP S q=true
  ·rw[if_pos hS]
   have e1:bitP (if leP bs (atP bs q) a then (yR bs m S a q).set (q+1) true else yR bs m S a q) p=true↔(p=q+1/\leP bs (atP bs q) a=true)\/bitP (yR bs m S a q) p=true:=by
    by_cases hle:leP bs (atP bs q) a=true
    ·rw[if_pos hle,qAN]
     simp only[Bool.or_eq_true,decide_eq_true_eq,hl];constructor
     ·rintro (⟨h,_⟩|h)
      ·exact .inl ⟨h.symm,hle⟩
      ·exact .inr h
     ·rintro (⟨h,_⟩|h)
      ·exact .inl ⟨h.symm,by omega⟩
      ·exact .inr h
    ·rw[if_neg hle]
     constructor
     ·exact .inr
     ·rintro (⟨_,h⟩|h)
      ·exact absurd h hle
      ·exact h
   have h0:(if leP bs (atP bs q) a then (yR bs m S a q).set (q+1) true else yR bs m S a q).length=m:=by split<;>simp[hl]
   have e2:bitP (if stP (atP bs q) then (if leP bs (atP bs q) a then (yR bs m S a q).set (q+1) true else yR bs m S a q).set q true else (if leP bs (atP bs q) a then (yR bs m S a q).set (q+1) true else yR bs m S a q)) p=true↔(p=q/\stP (atP bs q)=true)\/(p=q+1/\leP bs (atP bs q) a=true)\/bitP (yR bs m S a q) p=true:=by
    by_cases hst:stP (atP bs q)=true
    ·rw[if_pos hst,qAN]
     simp only[Bool.or_eq_true,decide_eq_true_eq,h0,e1];constructor
     ·rintro (⟨h,_⟩|h)
      ·exact .inl ⟨h.symm,hst⟩
      ·exact .inr h
     ·rintro (⟨h,_⟩|h)
      ·exact .inl ⟨h.symm,by omega⟩
      ·exact .inr h
    ·rw[if_neg hst,e1]
     constructor
     ·exact .inr
     ·rintro (⟨_,h⟩|h)
      ·exact absurd h hst
      ·exact h
   rw[e2,ih];constructor
   ·rintro (⟨rfl,h⟩|⟨rfl,h⟩|⟨p',h1,h2,h3⟩|⟨h1,h2⟩)
    ·exact .inr ⟨by omega,hS,h⟩
    ·exact .inl ⟨q,rfl,by omega,hS,h⟩
    ·exact .inl ⟨p',h1,by omega,h3⟩
    ·exact .inr ⟨by omega,h2⟩
   ·rintro (⟨p',h1,h2,h3,h4⟩|⟨h1,h2,h3⟩)
    ·by_cases e:p'=q
     ·subst e;exact .inr (.inl ⟨h1,h4⟩)
     ·exact .inr (.inr (.inl ⟨p',h1,by omega,h3,h4⟩))
    ·by_cases e:p=q
     ·subst e;exact .inl ⟨rfl,h3⟩
     ·exact .inr (.inr (.inr ⟨by omega,h2,h3⟩))
  ·rw[if_neg hS,ih]
   constructor
   ·rintro (⟨p',h1,h2,h3⟩|⟨h1,h2⟩)
    ·exact .inl ⟨p',h1,by omega,h3⟩
    ·exact .inr ⟨by omega,h2⟩
   ·rintro (⟨p',h1,h2,h3,h4⟩|⟨h1,h2,h3⟩)
    ·by_cases e:p'=q
     ·subst e;exact absurd h3 hS
     ·exact .inl ⟨p',h1,by omega,h3,h4⟩
    ·by_cases e:p=q
     ·subst e;exact absurd h2 hS
     ·exact .inr ⟨by omega,h2,h3⟩
def sprF (bs:List (List Nat))(S:List Bool):Nat->Bool
 | 0=>bitP S 0
 | p+1=>bitP S (p+1) || (sprF bs S p && enP bs (atP bs p))
theorem qGD (bs:List (List Nat))(S:List Bool):∀q,q<S.length->∀p,p<S.length->bitP (oK bs S q) p=if p<=q then sprF bs S p else bitP S p
 | 0,_,p,hp=>by
  by_cases e:p<=0
  ·rw[if_pos e,show p=0 by omega];rfl
  ·rw[if_neg e];rfl
 | q+1,hq,p,hp=>by
  have ih:=qGD bs S q (by omega)
  have hl:=rP bs S q
  have hqq:bitP (oK bs S q) q=sprF bs S q:=by rw[ih q (by omega),if_pos (Nat.le_refl q)]
  unfold oK
  rw[hqq]
  by_cases hc:(sprF bs S q && enP bs (atP bs q))=true
  ·rw[if_pos hc,qIR (by omega),ih p hp]
   by_cases e:q+1=p
   ·subst e
    rw[if_neg (by omega),if_pos (Nat.le_refl _),sprF,hc];simp
   ·by_cases h2:p<=q
    ·rw[if_pos h2,if_pos (by omega)];simp[e]
    ·rw[if_neg h2,if_neg (by omega)];simp[e]
  ·rw[if_neg hc,ih p hp]
   by_cases e:q+1=p
   ·subst e
    rw[if_neg (by omega),if_pos (Nat.le_refl _),sprF]
    rw[Bool.not_eq_true]at hc
    rw[hc,Bool.or_false]
   ·by_cases h2:p<=q
    ·rw[if_pos h2,if_pos (by omega)]
    ·rw[if_neg h2,if_neg (by omega)]
theorem qUL (bs:List (List Nat))(S:List Bool)(h:0<bs.length)(hS:S.length=(wL bs).length):oK bs S S.length=oK bs S (S.length-1):=by
 have hm:(wL bs).length=yQ bs+bs.length:=rC bs 0;obtain⟨m,e⟩:∃m,S.length=m+1:=⟨S.length-1,by omega⟩;rw[e,Nat.add_sub_cancel];have hl:=rP bs S m;show (if _ then (oK bs S m).set (m+1) true else oK bs S m)=_
 split
 ·rw[List.set_eq_of_length_le (by omega)]
 rfl
def spr (bs:List (List Nat))(S:List Bool):List Bool:=oK bs S S.length
theorem gM {bs:List (List Nat)}{S:List Bool}(h:0<bs.length)(hS:S.length=(wL bs).length){p:Nat}(hp:p<S.length):bitP (spr bs S) p=sprF bs S p:=by
 unfold spr;rw[qUL bs S h hS,qGD bs S _ (by omega) p hp,if_pos (by omega)]
def nV (m:Nat):List Bool:=(List.replicate m false).set 0 true
def nxtB (bs:List (List Nat))(S:List Bool)(a:Nat):List Bool:=spr bs (yR bs (wL bs).length S a (wL bs).length)
def s0B (bs:List (List Nat)):List Bool:=spr bs (nV (wL bs).length)
theorem aC (bs:List (List Nat))(S:List Bool):(spr bs S).length=S.length:=rP _ _ _
theorem qHH (bs:List (List Nat))(S:List Bool)(a:Nat):(nxtB bs S a).length=(wL bs).length:=by rw[nxtB,aC,tB]
theorem qLZ (bs:List (List Nat)):(s0B bs).length=(wL bs).length:=by rw[s0B,aC];simp[nV]
def PosP (bs:List (List Nat)):Nat->Nat->List Nat->Prop
 | 0,k,s=>s=(bs.getD 0 []).take k
 | i+1,k,s=>∃s1 x,s=s1++x++(bs.getD (i+1) []).take k/\PosP bs i (lenP bs i) s1
theorem iW {u:List Nat}{k:Nat}(h:k<u.length):u.take (k+1)=u.take k++[u.getD k 0]:=zT (d:=0) h
theorem eY {bs:List (List Nat)}{i k:Nat}(hk:k<lenP bs i){w:List Nat}{a:Nat}:PosP bs i (k+1) (w++[a])↔PosP bs i k w/\(bs.getD i []).getD k 0=a:=by
 unfold lenP at hk;cases i with
 | zero =>
  show w++[a]=_↔w=_/\_;rw[iW hk];constructor
  ·intro h
   obtain⟨h1,h2⟩:=List.append_inj' h rfl;exact⟨h1,by simpa using h2.symm⟩
  rintro ⟨rfl,rfl⟩;rfl
 | succ i =>
  constructor
  ·rintro ⟨s1,x,h,hp⟩
   rw[iW hk,<-List.append_assoc]at h;obtain⟨h1,h2⟩:=List.append_inj' h rfl;exact⟨⟨s1,x,h1,hp⟩,by simpa using h2.symm⟩
  rintro ⟨⟨s1,x,rfl,hp⟩,rfl⟩;exact⟨s1,x,by rw[iW hk];simp,hp⟩
theorem qQH {bs:List (List Nat)}{i:Nat}{w:List Nat}{a:Nat}:PosP bs (i+1) 0 (w++[a])↔PosP bs (i+1) 0 w\/PosP bs i (lenP bs i) (w++[a]):=by
 constructor
 ·rintro ⟨s1,x,h,hp⟩
  rw[List.take_zero,List.append_nil]at h;rcases List.eq_nil_or_concat x with rfl|⟨x',b,rfl⟩
  ·rw[List.append_nil]at h
   exact .inr (h ▸ hp)
  rw[List.concat_eq_append,<-List.append_assoc]at h;obtain⟨h1,_⟩:=List.append_inj' h rfl;exact .inl ⟨s1,x',by rw[List.take_zero,List.append_nil];exact h1,hp⟩
 rintro (⟨s1,x,h,hp⟩|hp)
 ·rw[List.take_zero,List.append_nil]at h
  exact⟨s1,x++[a],by rw[List.take_zero,List.append_nil,h];simp,hp⟩
 exact⟨w++[a],[],by simp,hp⟩
theorem qVC {bs:List (List Nat)}{i:Nat}:PosP bs (i+1) 0 []↔PosP bs i (lenP bs i) []:=by
 constructor
 ·rintro ⟨s1,x,h,hp⟩
  rw[List.take_zero,List.append_nil]at h;have h:=h.symm;rw[List.append_eq_nil_iff]at h;rw[<-h.1];exact hp
 intro hp;exact⟨[],[],by simp,hp⟩
theorem aL {bs:List (List Nat)}{i k:Nat}(hk:k<lenP bs i):¬PosP bs i (k+1) []:=by
 unfold lenP at hk;cases i with
 | zero =>
  intro h;have h:[]=(bs.getD 0 []).take (k+1):=h;have:=congrArg List.length h;rw[List.length_take]at this;have:0=min (k+1) (bs.getD 0 []).length:=this;omega
 | succ i =>
  rintro ⟨s1,x,h,_⟩;have:=congrArg List.length h;simp only[List.length_nil,List.length_append,List.length_take]at this;omega
section
variable {bs:List (List Nat)}
theorem qYQ {i:Nat}(hi:i+1<bs.length):enP bs (i,lenP bs i)=true:=by simp[enP,hi]
theorem qXH {i k:Nat}(hk:k<lenP bs i):enP bs (i,k)=false:=by
 unfold enP;have:decide (k=lenP bs i)=false:=by rw[decide_eq_false_iff_not];omega
 simp[this]
theorem iB {i:Nat}(hi:i+1<bs.length):offP bs (i+1)+0=offP bs i+lenP bs i+1:=by rw[qEI (by omega)]
theorem qZG (h0:0<bs.length)(w:List Nat):∀i k,i<bs.length->k<=lenP bs i->(bitP (rA (nxtB bs) (s0B bs) w) (offP bs i+k)=true↔PosP bs i k w):=by
 have h8:∀(n:Nat) (w:List Nat),w.length=n->∀i k,i<bs.length->k<=lenP bs i->(bitP (rA (nxtB bs) (s0B bs) w) (offP bs i+k)=true↔PosP bs i k w):=by
  intro n
  induction n with
  | zero =>
   intro w hw;have:=List.eq_nil_of_length_eq_zero hw;subst this;have hS:(nV (wL bs).length).length=(wL bs).length:=by simp[nV]
   have hm:0<(wL bs).length:=by have:(wL bs).length=yQ bs+bs.length:=rC bs 0;omega
   have h7:∀p,bitP (nV (wL bs).length) p=decide (0=p):=fun p=>by
    rw[nV,qIR (by simpa using hm)]
    have:bitP (List.replicate (wL bs).length false) p=false:=by
     unfold bitP;rw[List.getD_eq_getElem?_getD,List.getElem?_replicate];split<;>rfl
    rw[this,Bool.or_false]
   intro i
   induction i with
   | zero =>
    intro k hi hk;have hp:=rY hi hk;show bitP (s0B bs) _=true↔_;rw[s0B,gM h0 hS (by rw[hS];exact hp),tA,Nat.zero_add];cases k with
    | zero=>simp[sprF,h7,PosP]
    | succ k =>
     have e:=lE hi (show k<=lenP bs 0 by omega);rw[tA,Nat.zero_add]at e;rw[sprF,e,qXH (by omega),h7];simp;exact aL (by omega)
   | succ i ih =>
    intro k hi hk;have hp:=rY hi hk;show bitP (s0B bs) _=true↔_;rw[s0B,gM h0 hS (by rw[hS];exact hp)];cases k with
    | zero =>
     have h5:i<bs.length:=(by omega);have e:=lE h5 (Nat.le_refl (lenP bs i));have ih':=ih (lenP bs i) h5 (Nat.le_refl _);have ih':bitP (s0B bs) (offP bs i+lenP bs i)=true↔_:=ih';rw[s0B,gM h0 hS (by rw[hS];exact rY h5 (Nat.le_refl _))]at ih';rw[iB hi,sprF,e,qYQ hi,h7,qVC,<-ih'];simp
    | succ k =>
     have e:=lE hi (show k<=lenP bs (i+1) by omega);rw[<-Nat.add_assoc,sprF,e,qXH (by omega),h7];simp;exact aL (by omega)
  | succ n ihw =>
   intro w hw;have H0:w≠[]:=(by intro e;subst e;simp at hw);obtain⟨w',a,rfl⟩:∃w' a,w=w'++[a]:=⟨w.dropLast,w.getLast H0,(List.dropLast_concat_getLast H0).symm⟩;have H2:w'.length=n:=by simpa using hw
   have ihw':=ihw w' H2;have H1:rA (nxtB bs) (s0B bs) (w'++[a])=nxtB bs (rA (nxtB bs) (s0B bs) w') a:=by simp[rA]
   rw[H1]
   generalize rA (nxtB bs) (s0B bs) w'=S at ihw'
   have hS:(yR bs (wL bs).length S a (wL bs).length).length=(wL bs).length:=tB _ _ _ _ _
   have h4:∀p,p<(wL bs).length->(bitP (yR bs (wL bs).length S a (wL bs).length) p=true↔(∃p',p=p'+1/\bitP S p'=true/\leP bs (atP bs p') a=true)\/(bitP S p=true/\stP (atP bs p)=true)):=fun p hp=>by
    rw[qAM bs S a _ p hp];constructor
    ·rintro (⟨p',h1,_,h3⟩|⟨_,h2⟩)
     ·exact .inl ⟨p',h1,h3⟩
     exact .inr h2
    rintro (⟨p',h1,h3⟩|h2)
    ·exact .inl ⟨p',h1,by omega,h3⟩
    exact .inr ⟨hp,h2⟩
   intro i
   induction i with
   | zero =>
    intro k hi hk;have hp:=rY hi hk;show bitP (nxtB bs S a) _=true↔_;rw[nxtB,gM h0 hS (by rw[hS];exact hp)];cases k with
    | zero =>
     rw[tA,Nat.zero_add,sprF,h4 0 (by have:=hp;omega)];have e:=lE hi (Nat.zero_le (lenP bs 0));rw[tA,Nat.zero_add]at e;rw[e];constructor
     ·rintro (⟨p',h,_⟩|⟨_,h⟩)
      ·omega
      simp[stP]at h
     intro h;have h:w'++[a]=(bs.getD 0 []).take 0:=h;simp at h
    | succ k =>
     have e:=lE hi (show k<=lenP bs 0 by omega);have e2:=lE hi hk;rw[tA,Nat.zero_add]at e e2;rw[tA,Nat.zero_add,sprF,e,qXH (by omega),Bool.and_false,Bool.or_false,h4 (k+1) (by rw[tA,Nat.zero_add]at hp;exact hp),e2,eY (by omega),<-ihw' 0 k hi (by omega),tA,Nat.zero_add];constructor
     ·rintro (⟨p',h1,h2,h3⟩|⟨_,h⟩)
      ·have:p'=k:=by omega
       subst this;rw[e]at h3;simp only[leP,Bool.and_eq_true,beq_iff_eq]at h3;exact⟨h2,h3.2⟩
      simp[stP]at h
     rintro ⟨h1,h2⟩;refine .inl ⟨k,rfl,h1,?_⟩;rw[e];simp only[leP,Bool.and_eq_true,beq_iff_eq,decide_eq_true_eq];exact⟨by omega,h2⟩
   | succ i ih =>
    intro k hi hk;have hp:=rY hi hk;show bitP (nxtB bs S a) _=true↔_;rw[nxtB,gM h0 hS (by rw[hS];exact hp)];cases k with
    | zero =>
     have h5:i<bs.length:=(by omega);have e:=lE h5 (Nat.le_refl (lenP bs i));have e2:=lE hi (Nat.zero_le (lenP bs (i+1)));have ih':bitP (nxtB bs S a) (offP bs i+lenP bs i)=true↔_:=ih (lenP bs i) h5 (Nat.le_refl _);rw[nxtB,gM h0 hS (by rw[hS];exact rY h5 (Nat.le_refl _))]at ih';have h6:=hp;rw[iB hi]at h6 e2;have h9:=ihw' (i+1) 0 hi (Nat.zero_le _);rw[iB hi]at h9;rw[iB hi,sprF,e,qYQ hi,Bool.and_true,Bool.or_eq_true,ih',h4 _ h6,e2,qQH,<-h9];constructor
     ·rintro ((⟨p',h1,h2,h3⟩|⟨h2,_⟩)|h)
      ·have:p'=offP bs i+lenP bs i:=by omega
       subst this;rw[e]at h3;simp[leP]at h3
      ·exact .inl h2
      exact .inr h
     rintro (h|h)
     ·exact .inl (.inr ⟨h,by simp[stP]⟩)
     exact .inr h
    | succ k =>
     have e:=lE hi (show k<=lenP bs (i+1) by omega);have e2:=lE hi hk;have h6:=hp;rw[<-Nat.add_assoc]at h6 e2;rw[<-Nat.add_assoc,sprF,e,qXH (by omega),Bool.and_false,Bool.or_false,h4 _ h6,e2,eY (by omega),<-ihw' (i+1) k hi (by omega)];constructor
     ·rintro (⟨p',h1,h2,h3⟩|⟨_,h⟩)
      ·have:p'=offP bs (i+1)+k:=by omega
       subst this;rw[e]at h3;simp only[leP,Bool.and_eq_true,beq_iff_eq]at h3;exact⟨h2,h3.2⟩
      simp[stP]at h
     rintro ⟨h1,h2⟩;refine .inl ⟨offP bs (i+1)+k,rfl,h1,?_⟩;rw[e];simp only[leP,Bool.and_eq_true,beq_iff_eq,decide_eq_true_eq];exact⟨by omega,h2⟩
 exact h8 w.length w rfl
theorem qJQ (h0:0<bs.length)(s:List Nat):∀i,i<bs.length->((∃s1 r,s=s1++r/\PosP bs i (lenP bs i) s1/\TlN (bs.drop (i+1)) r)↔PatN bs s)
 | 0,_=>by
  match bs,h0 with
  | b::us,_ =>
   constructor
   ·rintro ⟨s1,r,rfl,h1,h2⟩
    have h1:s1=b.take b.length:=h1
    rw[List.take_length]at h1
    exact⟨r,by rw[h1],h2⟩
   ·rintro ⟨r,rfl,h⟩
    exact⟨b,r,rfl,by show b=b.take b.length;rw[List.take_length],h⟩
 | i+1,hi=>by
  rw[<-qJQ h0 s i (by omega)]
  have hd:bs.drop (i+1)=bs.getD (i+1) []::bs.drop (i+1+1):=by
   rw[List.drop_eq_getElem_cons hi,zG hi]
  constructor
  ·rintro ⟨s1,r,rfl,⟨t,x,h1,h2⟩,h3⟩
   unfold lenP at h1;rw[List.take_length]at h1;exact⟨t,x++bs.getD (i+1) []++r,by rw[h1];simp,h2,by rw[hd];exact⟨x,r,rfl,h3⟩⟩
  ·rintro ⟨s1,r,rfl,h2,h3⟩
   rw[hd]at h3;obtain⟨p,r',rfl,h4⟩:=h3;exact⟨s1++p++bs.getD (i+1) [],r',by simp,⟨s1,p,by unfold lenP;rw[List.take_length],h2⟩,h4⟩
def finP (bs:List (List Nat))(S:List Bool):Bool:=bitP S (offP bs (bs.length-1)+lenP bs (bs.length-1))
theorem qXA (h0:0<bs.length)(w:List Nat):finP bs (rA (nxtB bs) (s0B bs) w)=true↔PatN bs w:=by
 rw[finP,qZG h0 w _ _ (by omega) (Nat.le_refl _),<-qJQ h0 w (bs.length-1) (by omega),List.drop_eq_nil_of_le (by omega)];constructor
 ·intro h;exact⟨w,[],by simp,h,rfl⟩
 rintro ⟨s1,r,rfl,h,h2⟩;have h2:r=[]:=h2;rw[h2,List.append_nil];exact h
end
open Go.Maps Go.RowKit
def pX (l:List (Nat×Nat)):List Value:=l.flatMap fun x=>[.int .i64 (x.1:Int),.int .i64 (x.2:Int)]
theorem qDW (l:List (Nat×Nat))(x:Nat×Nat):pX (l++[x])=pX l++[.int .i64 (x.1:Int),.int .i64 (x.2:Int)]:=by simp[pX]
theorem qXI:ElemN Tryz.prog 151 154 2 (.agg #[.int .i64 0,.int .i64 0]) 16:=⟨by kernel_rfl,by kernel_rfl,by rfl,by decide⟩
theorem qSR:ElemN Tryz.prog 95 27 1 (.slice none 0 0) 24:=⟨by kernel_rfl,by kernel_rfl,by rfl,by decide⟩
structure PosAt (w:World)(b:Nat)(l:List (Nat×Nat)):Prop where
 lt:b<w.heap.size
 x0:∀i,i<l.length->w.cell? ⟨b,i*2,none⟩=some (.int .i64 (((l.getD i (0,0)).1:Nat):Int))
 x1:∀i,i<l.length->w.cell? ⟨b,i*2+1,none⟩=some (.int .i64 (((l.getD i (0,0)).2:Nat):Int))
theorem PosAt.kept {w w':World}{b:Nat}{l:List (Nat×Nat)}{row:Option Nat}(h:PosAt w b l)(hg:w.grownBy w' row)(hr:row≠some b):PosAt w' b l :=
 ⟨Nat.lt_of_lt_of_le h.lt hg.size,fun i hi=>(World.cell?_of_block (hg.block _ h.lt (fun e=>hr e.symm))).trans (h.x0 i hi),fun i hi=>(World.cell?_of_block (hg.block _ h.lt (fun e=>hr e.symm))).trans (h.x1 i hi)⟩
theorem kU:∀(l:List (Nat×Nat)) (i:Nat),i<l.length->(pX l)[i*2]?=some (.int .i64 (((l.getD i (0,0)).1:Nat):Int))/\(pX l)[i*2+1]?=some (.int .i64 (((l.getD i (0,0)).2:Nat):Int))
 | [],i,hi=>by simp at hi
 | x::l,0,_=>⟨rfl,rfl⟩
 | x::l,i+1,hi=>by
  have h:=kU l i (by simpa using hi)
  have e:pX (x::l)=.int .i64 (x.1:Int)::.int .i64 (x.2:Int)::pX l:=rfl
  rw[e,show (i+1)*2=i*2+1+1 by omega,show i*2+1+1+1=(i*2+1)+1+1 by omega]
  simpa using h
theorem PosAt.of_owns {w:World}{base e n g cap:Nat}{l:List (Nat×Nat)}(h:w.ownsRow base e 2 (.slice (some ⟨g,0,none⟩) n cap) n (pX l)):PosAt w g l:=by
 have h0:∀j,(⟨g,0,none⟩:Addr).add j=⟨g,j,none⟩:=fun j=>by unfold Addr.add;split<;>simp_all
 refine⟨(h.lt g rfl).2,fun i hi=>?_,fun i hi=>?_⟩
 ·have:=h.cells (g:=g) rfl (i*2) _ (kU l i hi).1
  rwa [h0]at this
 have:=h.cells (g:=g) rfl (i*2+1) _ (kU l i hi).2
 rwa [h0]at this
theorem qMV {w:World}{base e n sc:Nat}{sa:Option Addr}{xs:List Value}(h:w.ownsRow base e 2 (.slice sa n sc) n xs)(hn:0<n):∃kb,sa=some ⟨kb,0,none⟩/\n<=sc/\sc<=maxLen:=by
 rcases h.2 with ⟨h',h0⟩|⟨g,cap,cur,h1,hb,hg,hnc,hcm,_⟩
 ·omega
 simp only[Value.slice.injEq]at h1;obtain⟨rfl,-,rfl⟩:=h1;exact⟨g,rfl,hnc,hcm⟩
def numP (l:List (Nat×Nat))(x:Nat×Nat):Option Nat:=if x∈l then some (l.idxOf x) else none
theorem qRA {l:List (Nat×Nat)}{x:Nat×Nat}(h:x ∉ l):(fun q=>if q=x then some l.length else numP l q)=numP (l++[x]):=by
 funext q;unfold numP;by_cases e:q=x
 ·subst e
  rw[if_pos rfl,if_pos (by simp),List.idxOf_append,if_neg h];simp
 rw[if_neg e];by_cases hq:q∈l
 ·rw[if_pos hq,if_pos (by simp[hq]),List.idxOf_append,if_pos hq]
 rw[if_neg hq,if_neg (by simp[hq,e])]
theorem eZ (bs:List (List Nat)):(wL bs).Nodup:=aN bs 0
theorem mJ (bs:List (List Nat)):(wL bs).length=yQ bs+bs.length:=rC bs 0
theorem qQI {bs:List (List Nat)}{i k:Nat}(hi:i<bs.length)(hk:k<=lenP bs i):(wL bs).idxOf (i,k)=offP bs i+k:=by
 obtain⟨h1,h2⟩:=List.getElem?_eq_some_iff.1 (mK hi hk);rw[<-h2];exact(eZ bs).idxOf_getElem _ h1
theorem qVU {bs:List (List Nat)}{i k:Nat}(hi:i<bs.length)(hk:k<=lenP bs i):((numP (wL bs) (i,k)).getD 0:Nat)=offP bs i+k:=by
 unfold numP;rw[if_pos (List.mem_of_getElem? (mK hi hk)),Option.getD_some,qQI hi hk]
theorem aM {bs:List (List Nat)}{i k:Nat}(hi:i<bs.length)(hk:k<=lenP bs i):(wL bs).take (offP bs i+k)++[(i,k)]=(wL bs).take (offP bs i+k+1):=by
 obtain⟨h1,h2⟩:=List.getElem?_eq_some_iff.1 (mK hi hk);rw[List.take_succ_eq_append_getElem h1,h2]
theorem qHC {bs:List (List Nat)}{i k:Nat}(hi:i<bs.length)(hk:k<=lenP bs i):(i,k) ∉ (wL bs).take (offP bs i+k):=by
 intro h;have hn:=(eZ bs).sublist (List.take_sublist (offP bs i+k+1) _);rw[<-aM hi hk,List.nodup_append]at hn;exact hn.2.2 _ h _ (by simp) rfl
end Go.Proofs.YtcoimliafiammaaGreat
namespace Go.Proofs.YtcoimliafiammaaGreat
open Go.RowKit
theorem jP (B:Nat)(w:World)(v:Value)(bs:List ByteArray)(letters:Int)(h:Row B w v (txtV bs))(hs:∀i (hi:i<bs.length),bs[i].size<=maxLen):Calls Tryz.prog 58 #[.agg #[v],.int .i64 letters] w fun e w'=>e=.returned (.int .i64 (patW bs letters))/\w.grownBy w' none:=by
 have h9:=h.len_le;rw[yD]at h9;have H9:bs.length<=9223372036854775807:=by unfold maxLen at h9;omega
 have H:=Kh h;have HS:=Kh hs;obtain⟨a,cap,rfl⟩:=h.shape;rw[yD]at H⊢;clear h hs h9;by_cases h1:letters<1\/6<letters
 ·have e1:decide (1<=letters/\letters<=6)=false:=by rw[decide_eq_false_iff_not];omega
  have H1:=Kh h1;clear h1;go_enter Tryz.func58,Tryz.ntmps58;go_wp2_with fail;refine(yK _ letters).mono ?_;rintro e w' ⟨rfl,rfl⟩;rw[e1];go_wp2;go_ret;exact⟨yA (by rw[patW,if_pos H1.out]),Ga _ _ _⟩
 have e1:decide (1<=letters/\letters<=6)=true:=by rw[decide_eq_true_eq];omega
 go_enter Tryz.func58,Tryz.ntmps58;go_wp2_with fail;refine(yK _ letters).mono ?_;rintro e w' ⟨rfl,rfl⟩;rw[e1];go_wp2
 go_loopg [5,7,16] bs.length (fun gh t a7 i wr=>w.alloc (.cells #[.slice a bs.length cap] 65)=wr/\∃k:Nat,gh+k=bs.length/\i=.int .i64 k/\t=.int .i64 (totW (bs.take k)))
 case atStart=>exact⟨rfl,0,rfl,rfl,rfl⟩
 obtain⟨hw,k,h6,rfl,rfl⟩:=hrel;have h0:=Kh h6;clear h6;by_cases hlt:k<bs.length
 ·have H8:(k:Int)<bs.length:=by omega
  obtain⟨kb,off,kc,e,_,H0,a1,h2⟩:=(H.out.kept (Ga w (.cells #[.slice a bs.length cap] 65) none) (by simp)).some_ (by rw[yD];omega);rw[hw]at h2;rw[yD]at e H0;simp only[Value.slice.injEq]at e;obtain⟨rfl,_,rfl⟩:=e;have hc:=vL h2 k hlt;have H7:=Kh (eL bs k hlt);obtain⟨u,hu⟩:=Nm (bs.getD k ⟨#[]⟩)
  have H3:u.size<=9223372036854775807:=by
   rw[hu,zG hlt];have:=HS.out k hlt;unfold maxLen at this;omega
  rw[<-hu]at hc H7;have HW:=Kh hw;clear h2 hu hw;go_wp2;go_roundg (bs.length-(k+1))
  case measure=>have:=h0.out;omega
  exact⟨HW.out,k+1,by have:=h0.out;omega,by go_num,by rw[H7.out]⟩
 have H6:k=bs.length:=by have:=h0.out;omega
 have HT:Hid (totW (bs.take k)=totW bs):=Kh (by rw[H6,List.take_length]);rw[HT.out];have a0:¬(k:Int)<bs.length:=(by omega);have HG:Hid (w.grownBy wr none):=Kh (by rw[<-hw];exact Ga _ _ _);have hb:=heap_alloc_new w (.cells #[.slice a bs.length cap] 65);rw[hw]at hb;have c0:wr.cell? ⟨w.heap.size,0,none⟩=some (.slice a bs.length cap):=by simpa using zJ hb 0
 have HR:Hid (Row B wr (.slice a bs.length cap) (txtV bs)):=Kh (H.out.kept HG.out (by simp));clear H6 hw hb h0;obtain⟨tw,h8⟩:=Nm (totW bs);rw[<-h8];have h7:=Kh h8;clear h8;by_cases h3:8<bs.length
 ·have a4:(8:Int)<bs.length:=by omega
  go_wp2;go_ret;exact⟨yA (by rw[patW,if_neg (by omega),if_pos h3]),HG.out⟩
 have a4:¬(8:Int)<bs.length:=(by omega);by_cases h4:64<tw
 ·go_wp2
  go_ret;exact⟨yA (by rw[patW,if_neg (by omega),if_neg (by omega),if_pos (by rw[<-h7.out];exact h4)]),HG.out⟩
 by_cases h5:bs.length=0
 ·have a3:((bs.length:Int) == 0)=true:=by simp[h5]
  have H5:=Kh h5;clear h5;go_wp2;go_ret;exact⟨yA (by rw[patW,if_neg (by omega),if_neg (by omega),if_neg (by rw[<-h7.out];omega),if_pos H5.out]),HG.out⟩
 have a3:((bs.length:Int) == 0)=false:=by rw[beq_eq_false_iff_ne];omega
 go_wp2
 go_loopg [8,9,40] bs.length (fun gh a8 a9 i wq=>wr=wq/\∃k:Nat,gh+k=bs.length/\i=.int .i64 k/\vP bs.length letters k (bs.drop k)=vP bs.length letters 0 bs)
 case atStart=>exact⟨rfl,0,rfl,rfl,rfl⟩
 obtain⟨rfl,j,h6,rfl,H4⟩:=hrel;have h0:=Kh h6;have H2:=Kh H4;clear h6 H4;by_cases hj:j<bs.length
 ·have a2:(j:Int)<bs.length:=by omega
  obtain⟨kb,off,kc,e,_,H0,a1,h2⟩:=HR.out.some_ (by rw[yD];omega);rw[yD]at e H0;simp only[Value.slice.injEq]at e;obtain⟨rfl,_,rfl⟩:=e;have hc:=vL h2 j hj;obtain⟨u,hu⟩:=Nm (bs.getD j ⟨#[]⟩);have H3:u.size<=maxLen:=by rw[hu,zG hj];exact HS.out j hj
  rw[<-hu]at hc;have HU:Hid (u=bs[j]):=Kh (by rw[hu,zG hj]);clear h2 hu;go_wp2_with (go_at_call 37;refine(oU u letters _ H3).mono ?_;rintro e w' ⟨rfl,rfl⟩)
  all_goals first
   |
    go_ret;exact⟨yA (by rw[dB (by omega) (by omega) (by rw[<-h7.out];omega) (by omega),aV hj (by rw[<-HU.out];first|exact dH (by assumption) (by assumption) (List.isEmpty_iff.2 (by assumption))|exact dI (by assumption)) H2.out];rfl),HG.out⟩
   |
    go_roundg (bs.length-(j+1))
    case rel=>exact⟨rfl,j+1,by have:=h0.out;omega,by go_num,dE hj (dG (by rw[<-HU.out];assumption) (by rw[<-HU.out];first|(left;omega)|(right;exact Bool.eq_false_iff.2 (fun e=>absurd (List.isEmpty_iff.1 e) (by assumption))))) H2.out⟩
    have:=h0.out;omega
 have a2:¬(j:Int)<bs.length:=by omega
 have e:vP bs.length letters j (bs.drop j)=true:=by rw[List.drop_eq_nil_of_le (by omega)];rfl
 have HE:=Kh e;clear e;go_wp2;go_ret;exact⟨yA (by rw[dB (by omega) (by omega) (by rw[<-h7.out];omega) (by omega),<-H2.out,HE.out];rfl),HG.out⟩
open Go.Maps
theorem qQB (w:World)(g1 g2 n:Nat)(xs ys:List Bool)(hx:xs.length=n)(hy:ys.length=n)(hn:n<=4096)(h1:Arr w g1 4 (bls xs))(h2:Arr w g2 4 (bls ys)):Calls Tryz.prog 102 #[.slice (some ⟨g1,0,none⟩) n n,.slice (some ⟨g2,0,none⟩) n n] w fun e w'=>e=.returned (.bool (xs == ys))/\w.grownBy w' none:=by
 obtain⟨H1,H2,HX,HY⟩:=K4 h1 h2 hx hy;clear h1 h2 hx hy;go_enter Tryz.func102,Tryz.ntmps102;go_wp2
 go_loopg [5,8] n (fun gh a5 i wr=>∃k:Nat,gh+k=n/\i=.int .i64 k/\xs.take k=ys.take k/\w.grownBy wr none)
 case atStart=>exact⟨0,rfl,rfl,rfl,zH _ _⟩
 obtain⟨k,h7,rfl,h6,hg⟩:=hrel;obtain⟨h3,h8,HG⟩:=K3 h7 h6 hg;clear h7 h6;by_cases hk:k<n
 ·have H3:(k:Int)<n:=by omega
  have c1:=(H1.out.kept hg (by simp)).bool k (by rw[HX.out];exact hk);have c2:=(H2.out.kept hg (by simp)).bool k (by rw[HY.out];exact hk);have ex:xs.take (k+1)=xs.take k++[xs.getD k false]:=zT (by rw[HX.out];exact hk);have ey:ys.take (k+1)=ys.take k++[ys.getD k false]:=zT (by rw[HY.out];exact hk);obtain⟨x,h5⟩:=Nm (xs.getD k false);obtain⟨y,h4⟩:=Nm (ys.getD k false);rw[<-h5]at c1 ex;rw[<-h4]at c2 ey;have EX:=Kh ex;have EY:=Kh ey;clear h5 h4 ex ey hg;by_cases hxy:x=y
  ·have e0:(x == y)=true:=by simp[hxy]
   have h0:=Kh hxy;clear hxy;go_wp2
   go_quiet (fail)
   go_wp2;go_roundg (n-(k+1))
   case rel=>exact⟨k+1,by have:=h3.out;omega,by go_num,by rw[EX.out,EY.out,h8.out,h0.out],zA HG.out (by first|exact zN _ none|exact zK _ _ none)⟩
   have:=h3.out;omega
  have e0:(x == y)=false:=by simp[hxy]
  have h0:=Kh hxy;clear hxy;go_wp2
  go_quiet (fail)
  go_wp2;go_ret;refine⟨zW ?_,zA HG.out (by first|exact zN _ none|exact zK _ _ none)⟩
  symm
  rw[beq_eq_false_iff_ne];intro e;have h9:=EX.out;rw[e,EY.out]at h9;have:=List.append_inj_right' h9 rfl;exact h0.out (by simpa using this.symm)
 have H3:¬(k:Int)<n:=by omega
 have H0:Hid (k=n):=Kh (by have:=h3.out;omega);clear hg;go_wp2;go_ret;refine⟨zW ?_,HG.out⟩;have h9:=h8.out;rw[List.take_of_length_le (by rw[HX.out,H0.out];exact Nat.le_refl _),List.take_of_length_le (by rw[HY.out,H0.out];exact Nat.le_refl _)]at h9;simp[h9]
theorem qMO (w:World)(m:Nat)(h0:0<m)(hm:m<=4096):Calls Tryz.prog 101 #[.int .i64 (m:Int)] w fun e w'=>e=.returned (.slice (some ⟨w.heap.size,0,none⟩) m m)/\Arr w' w.heap.size 4 (bls (nV m))/\w.grownBy w' none:=by
 go_enter Tryz.func101,Tryz.ntmps101;obtain⟨G,hG⟩:=Nm w.heap.size;have h8:=Kh hG;rw[<-hG];go_wp2_with (first|(at_make;refine kW rfl _ _ _ rfl xL rfl .i64 .i64 _ _ m rfl rfl rfl rfl ?b1 ?b2 ?_;(case b1=>omega);(case b2=>(unfold maxLen;omega));intro ws h1 h6 h4;rw[<-hG]at h1 h4⊢;(have h3:Arr ws G 4 (bls (List.replicate m false)):=by rw[nQ];exact h1);(have c0:=h3.bool 0 (by simpa using h0));(have f0:=h3.frozen 0);(have h2:=h3.bool_set 0 (by simpa using h0) true);(have h5:=Kh h2);(have h7:=Kh h6);clear h2 h6 h3 h1 hG)|fail);go_ret;exact⟨rfl,h5.out,zY h7.out (zD ws ⟨G,0,none⟩ _) (by show _<=G;have:=h8.out;omega)⟩
structure RCtx (W:World)(bs:List ByteArray)(kb off kc pb pc mb m:Nat):Prop where
 blk:uQ W kb off (txtV bs)
 cap:bs.length<=kc/\kc<=maxLen
 pos:PosAt W pb (wL (bs.map zI))
 pcap:m<=pc/\pc<=maxLen
 map:MapK 154 qOH posV W mb m m (numP (wL (bs.map zI)))
 len:(wL (bs.map zI)).length=m
 big:m<=4096
theorem RCtx.kept {W W':World}{bs:List ByteArray}{kb off kc pb pc mb m:Nat}{row:Option Nat}(h:RCtx W bs kb off kc pb pc mb m)(hg:W.grownBy W' row)(h1:row≠some kb)(h2:row≠some pb)(h3:row≠some mb):RCtx W' bs kb off kc pb pc mb m :=
 ⟨h.blk.kept hg h1,h.cap,h.pos.kept hg h2,h.pcap,h.map.kept hg h3,h.len,h.big⟩
theorem RCtx.grow {W W':World}{bs:List ByteArray}{kb off kc pb pc mb m:Nat}(h:RCtx W bs kb off kc pb pc mb m)(hg:W.grownBy W' none):RCtx W' bs kb off kc pb pc mb m:=h.kept hg (by simp) (by simp) (by simp)
theorem RCtx.at {W:World}{bs:List ByteArray}{kb off kc pb pc mb m:Nat}(h:RCtx W bs kb off kc pb pc mb m){p:Nat}(hp:p<m):∃bi bk,bi<bs.length/\bk<=(bs.getD bi ⟨#[]⟩).size/\p=offP (bs.map zI) bi+bk/\atP (bs.map zI) p=(bi,bk)/\lenP (bs.map zI) bi=(bs.getD bi ⟨#[]⟩).size/\W.cell? ⟨pb,p*2,none⟩=some (.int .i64 (bi:Int))/\W.cell? ⟨pb,p*2+1,none⟩=some (.int .i64 (bk:Int))/\W.cell? ⟨kb,off+bi,none⟩=some (.string (bs.getD bi ⟨#[]⟩)):=by
 obtain⟨bi,bk,h1,h2,h3⟩:=qHD (bs:=bs.map zI) (p:=p) (by rw[h.len];exact hp);have hb:bi<bs.length:=by simpa using h1
 have hl:lenP (bs.map zI) bi=(bs.getD bi ⟨#[]⟩).size:=by
  unfold lenP;rw[zG h1,zG hb];simp[yM]
 have e:=lE h1 h2;rw[<-h3]at e;have c0:=h.pos.x0 p (by rw[h.len];exact hp);have c1:=h.pos.x1 p (by rw[h.len];exact hp);have e':(wL (bs.map zI)).getD p (0,0)=(bi,bk):=e;rw[e']at c0 c1;exact⟨bi,bk,hb,by rw[<-hl];exact h2,h3,e,hl,c0,c1,vL h.blk bi hb⟩
theorem RCtx.num {W:World}{bs:List ByteArray}{kb off kc pb pc mb m:Nat}(h:RCtx W bs kb off kc pb pc mb m){bi bk:Nat}(h1:bi<bs.length)(h2:bk<=(bs.getD bi ⟨#[]⟩).size):(Instr.lookup 152 (.map (some mb)) (posV (bi,bk)) false).run Tryz.prog W=.ok (.int .i64 ((offP (bs.map zI) bi+bk:Nat):Int)) W/\offP (bs.map zI) bi+bk<m:=by
 have hb:bi<(bs.map zI).length:=by simpa using h1
 have hl:lenP (bs.map zI) bi=(bs.getD bi ⟨#[]⟩).size:=by
  unfold lenP;rw[zG hb,zG h1];simp[yM]
 have h0:=rY hb (show bk<=lenP (bs.map zI) bi by omega);rw[h.len]at h0;have h3:=h.big;have h4:bi<=offP (bs.map zI) bi:=by unfold offP;omega
 have:=h.map.look1 qQG (x:=(bi,bk)) ⟨by show bi<_;omega,by show bk<_;omega⟩;rw[qVU hb (by omega)]at this;exact⟨this,h0⟩
theorem qLV (W:World)(bs:List ByteArray)(kb off kc pb pc mb m g:Nat)(S:List Bool)(h:RCtx W bs kb off kc pb pc mb m)(hS:S.length=m)(ha:Arr W g 4 (bls S))(h1:g≠kb)(h2:g≠pb)(h3:g≠mb):Calls Tryz.prog 100 #[.agg #[.slice (some ⟨kb,off,none⟩) bs.length kc],.slice (some ⟨pb,0,none⟩) m pc,.map (some mb),.slice (some ⟨g,0,none⟩) m m] W fun e w'=>e=.returned (.slice (some ⟨g,0,none⟩) m m)/\Arr w' g 4 (bls (spr (bs.map zI) S))/\W.grownBy w' (some g):=by
 have a7:=h.cap;have H3:=h.pcap;have c7:=h.big;unfold maxLen at a7 H3;have H:=Kh h;have HS:=Kh hS;have d7:=ha.lt;obtain⟨w1,a3⟩:=Nm (W.alloc (.cells #[.slice (some ⟨kb,off,none⟩) bs.length kc] 65));have H8:=Ga W (.cells #[.slice (some ⟨kb,off,none⟩) bs.length kc] 65) none;have a0:=heap_alloc_new W (.cells #[.slice (some ⟨kb,off,none⟩) bs.length kc] 65);rw[<-a3]at H8 a0;obtain⟨P,hP⟩:=Nm W.heap.size;rw[<-hP]at a0;have b7:P≠g:=by omega
 have c1:=Kh (ha.kept H8 (by simp));obtain⟨b0,b1,c9,HP⟩:=K4 H8 a0 a3 hP;clear h hS ha H8 a0 a3 hP;go_enter Tryz.func100,Tryz.ntmps100;go_upto_region 1 with fail;rw[<-c9.out,<-HP.out];go_wp2
 go_loopg [9,10,11,14] m (fun gh a9 a10 a11 i wr=>∃k:Nat,gh+k=m/\i=.int .i64 k/\Arr wr g 4 (bls (oK (bs.map zI) S k))/\w1.grownBy wr (some g))
 case atStart=>exact⟨0,rfl,rfl,c1.out,zH _ _⟩
 clear c1;obtain⟨k,b3,rfl,h5,H0⟩:=hrel;have h6:=Kh b3;clear b3;by_cases hk:k<m
 ·have c3:(k:Int)<m:=by omega
  have hl:=rP (bs.map zI) S k;have c0:=h5.bool k (by rw[hl,HS.out];exact hk);have H6:=(H.out.grow b0.out).kept H0 (by simpa using h1) (by simpa using h2) (by simpa using h3);obtain⟨bi,bk,b5,c6,hp,b6,H7,cx0,cx1,cu⟩:=H6.at hk;obtain⟨u,hu⟩:=Nm (bs.getD bi ⟨#[]⟩);rw[<-hu]at c6 H7 cu;obtain⟨c,hc⟩:=Nm ((oK (bs.map zI) S k).getD k false);rw[<-hc]at c0;have cP:=zJ (zB b1.out H0 (fun e=>b7 (Oj e).symm)) 0;simp only[List.getElem_toArray,List.getElem_cons_zero]at cP;have c8:(bi:Int)<bs.length:=by omega
  have d5:u.size<=4096:=by
   have h9:=rY (bs:=bs.map zI) (i:=bi) (k:=lenP (bs.map zI) bi) (by simpa using b5) (Nat.le_refl _);rw[H.out.len,H7]at h9;omega
  obtain⟨d2,b9,a8,HU,HC,HL⟩:=K6 hp b6 H7 hu hc hl;have HA:=Kh h5;have H2:=Kh H0;clear hp b6 H7 hu hc hl h5 H0 H6;go_upto_region 5 with fail;have H1:=Ga wr (.cells #[.int .i64 (bi:Int),.int .i64 (bk:Int)] 154) none;have H9:=heap_alloc_new wr (.cells #[.int .i64 (bi:Int),.int .i64 (bk:Int)] 154);obtain⟨w2,a2⟩:=Nm (wr.alloc (.cells #[.int .i64 (bi:Int),.int .i64 (bk:Int)] 154));obtain⟨A,hA⟩:=Nm wr.heap.size;rw[<-a2,<-hA];rw[<-a2]at H1 H9;rw[<-hA]at H9;obtain⟨d0,d1⟩:=uD H9;have c4:=HA.out.lt;have h4:=((H.out.grow b0.out).kept H2.out (by simpa using h1) (by simpa using h2) (by simpa using h3)).grow H1;have cu2:=vL h4.blk bi b5;rw[<-HU.out]at cu2;have cP2:=zJ (zB (zB b1.out H2.out (fun e=>b7 (Oj e).symm)) H1) 0;simp only[List.getElem_toArray,List.getElem_cons_zero]at cP2;have h8:=Kh (HA.out.kept H1 (by simp));have b8:=Kh h4;have d3:=Kh H1;have a1:Hid (∀w',w2.grownBy w' none->w1.grownBy w' (some g)):=Kh (fun w' hg=>zC (zA H2.out d3.out) (wP hg));clear a2 hA H1 H9 h4 c0 cx0 cx1 cu cP b1 HA H2
  have h0:Hid ((c=false\/bk≠u.size\/¬bi+1<bs.length)->oK (bs.map zI) S (k+1)=oK (bs.map zI) S k):=Kh (fun hno=>by
   show (if bitP _ _ && enP _ _ then _ else _)=_;rw[if_neg];intro hh;rw[Bool.and_eq_true,b9.out,enP,Bool.and_eq_true,decide_eq_true_eq,decide_eq_true_eq,a8.out,List.length_map]at hh;obtain⟨ha,hb,c5⟩:=hh;have ha:c=true:=by rw[HC.out];exact ha
   rcases hno with h|h|h
   ·rw[h]at ha;cases ha
   ·exact h hb
   exact h c5)
  cases c with
  | false =>
   have h7:=Kh (h0.out (.inl rfl));clear h0
   go_quiet (fail)
   go_wp2;go_roundg (m-(k+1))
   case measure=>have:=h6.out;omega
   exact⟨k+1,by have:=h6.out;omega,by go_num,by rw[h7.out];exact h8.out.kept (zK w2 _ none) (by simp),a1.out _ (zK w2 _ none)⟩
  | true =>
   by_cases e1:bk=u.size
   ·have e1':((bk:Int) == (u.size:Int))=true:=by simp[e1]
    by_cases e2:bi+1<bs.length
    ·have e2':decide ((bi:Int)+1<(bs.length:Int))=true:=by rw[decide_eq_true_eq];omega
     have H4:offP (bs.map zI) (bi+1)+0=k+1:=by
      rw[iB (bs:=bs.map zI) (by simpa using e2),a8.out,d2.out,e1]
     have H5:=b8.out.num (bi:=bi+1) (bk:=0) e2 (Nat.zero_le _);have a6:k+1<m:=by have:=H5.2;omega
     have d6:∀q,(Instr.lookup 152 (.map (some mb)) (.agg #[.int .i64 ((bi:Int)+1),.int .i64 0]) false).run Tryz.prog (w2.drewN q)=.ok (.int .i64 ((k:Int)+1)) (w2.drewN q):=fun q=>by
      have:=((b8.out.grow (zK w2 q none)).num (bi:=bi+1) (bk:=0) e2 (Nat.zero_le _)).1;rw[H4]at this;simpa [posV] using this
     have a5:=HL.out;have ca:=h8.out.bool (k+1) (by rw[a5,HS.out];exact a6);have fa:=h8.out.frozen (k+1);have a4:=h8.out.bool_set (k+1) (by rw[a5,HS.out];exact a6) true;obtain⟨old,hold⟩:=Nm ((oK (bs.map zI) S k).getD (k+1) false);rw[<-hold]at ca
     have h7:Hid (oK (bs.map zI) S (k+1)=(oK (bs.map zI) S k).set (k+1) true):=Kh (by
      show (if bitP _ _ && enP _ _ then _ else _)=_;rw[if_pos];rw[Bool.and_eq_true,b9.out,enP,Bool.and_eq_true,decide_eq_true_eq,decide_eq_true_eq,a8.out,List.length_map]
      exact⟨HC.out.symm,e1,e2⟩)
     have d4:=Kh e1;have c2:(k:Int)+1<m:=(by omega);clear h0 H5 H4 a5 a4 hold e1
     go_quiet (fail)
     go_wp2;go_roundg (m-(k+1))
     case measure=>have:=h6.out;omega
     have b4:=zK w2 nq none;refine⟨k+1,by have:=h6.out;omega,by go_num,?_,?_⟩
     ·rw[h7.out];exact(h8.out.kept b4 (by simp)).bool_set (k+1) (by rw[HL.out,HS.out];exact a6) true
     exact zC (a1.out _ b4) (zD (w2.drewN nq) ⟨g,k+1,none⟩ _)
    have e2':decide ((bi:Int)+1<(bs.length:Int))=false:=by rw[decide_eq_false_iff_not];omega
    have h7:=Kh (h0.out (.inr (.inr e2)));have d4:=Kh e1;clear h0 e1
    go_quiet (fail)
    go_wp2;go_roundg (m-(k+1))
    case measure=>have:=h6.out;omega
    exact⟨k+1,by have:=h6.out;omega,by go_num,by rw[h7.out];exact h8.out.kept (zK w2 _ none) (by simp),a1.out _ (zK w2 _ none)⟩
   have e1':((bk:Int) == (u.size:Int))=false:=by rw[beq_eq_false_iff_ne];omega
   have h7:=Kh (h0.out (.inr (.inl e1)));clear h0
   go_quiet (fail)
   go_wp2;go_roundg (m-(k+1))
   case measure=>have:=h6.out;omega
   exact⟨k+1,by have:=h6.out;omega,by go_num,by rw[h7.out];exact h8.out.kept (zK w2 _ none) (by simp),a1.out _ (zK w2 _ none)⟩
 have b2:k=m:=by have:=h6.out;omega
 have c3:¬(k:Int)<m:=by omega
 have HR:Hid (Arr wr g 4 (bls (spr (bs.map zI) S))):=Kh (by
  unfold spr
  rw[HS.out,<-b2];exact h5)
 have H2:=Kh (zC (wP (row:=some g) b0.out) H0);clear b2 h5 H0;go_wp2;refine bodyPost_ret (v:=.slice (some ⟨g,0,none⟩) m m) (by simp[results,Tryz.results100,go_sem]) rfl ⟨rfl,HR.out,H2.out⟩
end Go.Proofs.YtcoimliafiammaaGreat
