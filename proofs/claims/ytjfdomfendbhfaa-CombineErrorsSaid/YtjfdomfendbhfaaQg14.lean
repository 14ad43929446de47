/- Part 14 of the proof. -/
import Derived.Test.YtjfdomfendbhfaaQg13
import Derived.BigRegion
set_option linter.unusedVariables false
set_option linter.unusedSimpArgs false
set_option maxRecDepth 100000
set_option maxHeartbeats 16000000
namespace Go.Proofs.Ytjfdomfendbhfaa
open Go.Maps Go.RowKit
def RwOk (ds:List DfaV)(L:List (List Nat))(x row:List Nat)(a:Nat):Prop:=row.length=a/\∀ b,b<a->row.getD b 0=L.idxOf (nxtT ds x b)/\nxtT ds x b∈L
theorem RwOk.more {ds : List DfaV}{L : List (List Nat)}{x row : List Nat}{a : Nat}(h : RwOk ds L x row a)(z : List Nat): RwOk ds (L ++ [z]) x row a :=
 ⟨h.1, fun b hb => by
  obtain⟨h1, h2⟩ := h.2 b hb
  exact⟨by rw[h1, List.idxOf_append, if_pos h2], List.mem_append_left _ h2⟩⟩
theorem RwOk.push {ds:List DfaV}{L:List (List Nat)}{x row:List Nat}{a:Nat}(h:RwOk ds L x row a)(hm:nxtT ds x a∈L):RwOk ds L x (row++[L.idxOf (nxtT ds x a)]) (a+1):=by
 refine⟨by rw[List.length_append,h.1];rfl,fun b hb=>?_⟩;by_cases e:b=a
 ·subst e
  refine⟨?_,hm⟩;rw[List.getD_eq_getElem?_getD,List.getElem?_append_right (by rw[h.1];exact Nat.le_refl _),h.1,Nat.sub_self];rfl
 ·rw[xN (by rw[h.1];omega)]
  exact h.2 b (by omega)
def TOk (ds:List DfaV)(k:Nat)(L T:List (List Nat))(i:Nat):Prop:=T.length=i/\∀ j,j<i->RwOk ds L (L.getD j []) (T.getD j []) k
theorem TOk.more {ds:List DfaV}{k i:Nat}{L T:List (List Nat)}(h:TOk ds k L T i)(hi:i<=L.length)(z:List Nat):TOk ds k (L++[z]) T i:=⟨h.1,fun j hj=>by
 rw[xN (by omega)]
 exact(h.2 j hj).more z⟩
theorem TOk.push {ds:List DfaV}{k i:Nat}{L T:List (List Nat)}{row:List Nat}(h:TOk ds k L T i)(hr:RwOk ds L (L.getD i []) row k):TOk ds k L (T++[row]) (i+1):=by
 refine⟨by rw[List.length_append,h.1];rfl,fun j hj=>?_⟩;by_cases e:j=i
 ·subst e
  have e1:(T++[row]).getD j []=row:=by rw[List.getD_eq_getElem?_getD,List.getElem?_append_right (by rw[h.1];exact Nat.le_refl _),h.1,Nat.sub_self];rfl
  rw[e1];exact hr
 ·rw[xN (by rw[h.1];omega)]
  exact h.2 j (by omega)
def qFF (w:World)(pv:Value)(ds:List DfaV)(k:Nat)(e:Ending)(w':World):Prop :=
 (Over ds k/\e=.returned (.tuple #[.agg #[.slice none 0 0,.slice none 0 0,.slice none 0 0],.int .i64 3])/\w.grownBy w' none)\/∃ B v L T,e=.returned (.tuple #[v,.int .i64 0])/\w.heap.size<=B/\eX B w' v pv L T/\BfsD (nxtT ds) k (st0T ds) L/\L.length<=4000/\TOk ds k L T L.length/\w.grownBy w' none
theorem sW (Bd:Nat)(w:World)(v:Value)(ds:List DfaV)(k:Nat)(hB:Bd<=w.heap.size)(h:DsIn Bd w v ds)(hok:OkT ds k)(hk1:1<=k)(hk6:k<=6)(hl:ds.length<=400):Calls Try.prog 52 #[v,.int .i64 (k:Int)] w (qFF w v ds k):=by
 obtain⟨da,dc,rfl⟩:=h.shape;obtain⟨np,l5⟩:∃ n,n=ds.length:=⟨_,rfl⟩;have H0:=Kh l5;have H:=Kh h;have e0:=Kh hok;have n8:=Kh (key_kbR (n:=np) (by omega));have j7:ds.length<=400:=hl;rw[<- l5]at hl H ⊢;have t6:=@run_makeMap Try.prog;clear h hok l5 j7;have m6:Hid ((st0T ds).length=np):=Kh (by rw[sJ,H0.out]);go_enter Try.func52,Try.ntmps52;go_upto_region 3 with fail;obtain⟨wA,f0⟩:∃ wA,wA=w.alloc (.cells #[.slice none 0 0,.slice none 0 0,.slice none 0 0] 88):=⟨_,rfl⟩;rw[<- f0];have j4:wA.heap.size=w.heap.size+1:=by rw[f0,zJ]
 obtain⟨o,ho⟩:∃ o,o=w.heap.size+1:=⟨_,rfl⟩;have d6:=heap_alloc_new wA (.cells #[.slice da np dc,.slice none 0 0,.slice none 0 0] 88);have j8:=Ga wA (.cells #[.slice da np dc,.slice none 0 0,.slice none 0 0] 88) none;obtain⟨wB,k9⟩:∃ wB,wB=wA.alloc (.cells #[.slice da np dc,.slice none 0 0,.slice none 0 0] 88):=⟨_,rfl⟩;have o1:wB.heap.size=w.heap.size+1+1:=by rw[k9,zJ,j4]
 rw[<- k9]at d6 j8 ⊢;rw[j4,<- ho]at d6;have b0:=Ga wB (.cells #[] 3) none;have c7:=heap_alloc_new wB (.cells #[] 3);obtain⟨wC,o2⟩:∃ wC,wC=wB.alloc (.cells #[] 3):=⟨_,rfl⟩;rw[<- o2]at b0 c7 ⊢;have h0:=pK (base:=wA.heap.size) c7 j8.size;have a2:=Kh (zB d6 b0 (by simp));have r1:=Kh (zA j8 b0 (by simp));have h7:=Kh h0;have s7:=Kh f0;have HO:Hid (wA.heap.size=o):=Kh (by rw[j4,ho]);have j1:Hid (w.grownBy wA none):=Kh (by rw[f0];exact Ga _ _ _);obtain⟨g0,m0⟩:∃ g,g=w.heap.size+1+1:=⟨_,rfl⟩;rw[<- m0];rw[<- ho];rw[o1,<- m0]at h7;clear f0 ho d6 j8 k9 b0 c7 o2 h0 m0 j4 o1;go_wp2
 go_loopg [7,9,24] np (fun gh a7 a9 a24 wr=>∃ (j:Nat) (s:Option Addr) (c:Nat),gh+j=np/\a24=.int .i64 j/\a7=.slice s j c/\wr.ownsRow wA.heap.size 3 1 (.slice s j c) j (nats ((st0T ds).take j))/\wr.heap[o]?=some (.cells #[.slice da np dc,.slice none 0 0,.slice none 0 0] 88 (0,0))/\wA.grownBy wr none)
 case atStart=>exact⟨0,some ⟨g0,0,none⟩,0,rfl,rfl,rfl,h7.out,a2.out,r1.out⟩
 case round =>
  clear h7 a2 r1;obtain⟨j,s,c,i6,rfl,rfl,h0,d6,hg⟩:=hrel;have e9:=Kh i6;have h7:=Kh h0;have a2:=Kh d6;have HG:=Kh hg;obtain⟨w3,rfl⟩:∃ w3:World,w3=wr:=⟨_,rfl⟩;clear i6 d6;by_cases hj:j<np
  ·have l9:(j:Int)<np:=by omega
   obtain⟨b,off,cap,e,m2,m1,hd⟩:=(H.out.kept (zA j1.out hg (by simp)) (by simp)).head (by rw[<- H0.out];omega);rw[<- H0.out]at e m2;simp only[Value.slice.injEq,true_and]at e;obtain⟨rfl,rfl⟩:=e;have r9:dc<=9223372036854775807:=by unfold maxLen at m1;omega
   obtain⟨n,fb,fo,fc,nb,no,nc,RB,RO,RC,hv,h5,c1,c2,c3,c4,j9⟩:=hd.dfa e0.out (by rw[<- H0.out];exact hj);obtain⟨x,hx⟩:∃ x,x=st0 (ds.getD j dN):=⟨_,rfl⟩;rw[<- hx]at c2;have HX:=Kh hx;clear hd j9 hv hx h0 hg;go_upto_region 6 with fail;have H4:=Ga w3 (.cells #[.int .i64 (k:Int),.int .i64 (x:Int),.slice (some ⟨fb,fo,none⟩) n fc,.slice (some ⟨nb,no,none⟩) n nc] 42) none;have d7:=heap_alloc_new w3 (.cells #[.int .i64 (k:Int),.int .i64 (x:Int),.slice (some ⟨fb,fo,none⟩) n fc,.slice (some ⟨nb,no,none⟩) n nc] 42);obtain⟨w5,H6⟩:∃ w5,w5=w3.alloc (.cells #[.int .i64 (k:Int),.int .i64 (x:Int),.slice (some ⟨fb,fo,none⟩) n fc,.slice (some ⟨nb,no,none⟩) n nc] 42):=⟨_,rfl⟩;obtain⟨db,d2⟩:∃ b,b=w3.heap.size:=⟨_,rfl⟩;rw[<- H6]at H4;rw[<- H6,<- d2]at d7;rw[<- H6,<- d2];obtain⟨_,d1,_,_⟩:=qCV d7;have o8:=yR h7.out H4 (by simp);have p4:=zB a2.out H4 (by simp);have p2:=zA HG.out H4 (by simp);have n5:=Kh o8;have r5:=Kh p4;have r2:=Kh p2;clear c1 c2 c3 c4 H6 d2 H4 d7 o8 p4 p2 h7 a2 HG;go_upto_region 7 with (first|(at_builtin;refine vI rfl _ _ _ rfl yU.toN wA.heap.size (.slice s j c) j _ rfl n5.out [.int .i64 (x:Int)] rfl rfl ?z1 ?z2 ?z3 ?z4 ?_;(case z1=>(intro v hv;simp only[List.mem_cons,List.not_mem_nil,or_false]at hv;subst hv;rfl));(case z2=>(unfold maxLen;omega));(case z3=>(show (j+1) * 8<=140737488355328;omega));(case z4=>exact r2.out.size);intro sn cn wM h0 H5 H8;(have t1:=Kh h0);(have r0:=Kh H5);clear h0 H5 H8)|fail)
   go_wp2;go_roundg (np - (j+1))
   case measure=>have:=e9.out;omega
   case rel =>
    refine⟨j+1,sn,cn,by have:=e9.out;omega,by go_num,rfl,?_,?_,?_⟩
    ·have h1:=t1.out
     rw[<- vM,HX.out,<- iX (by rw[<- H0.out];exact hj),<- zR (by rw[m6.out];exact hj)]at h1;exact h1
    ·exact zB r5.out r0.out (zQ n5.out r5.out (by decide))
    ·exact zA r2.out r0.out (fun y e=>(n5.out.lt y e).1)
  ·have l8:np=j:=by have:=e9.out;omega
   have l9:¬ (j:Int)<np:=(by omega);rw[List.take_of_length_le (by rw[m6.out];omega)]at h0;subst l8;have b5:=Kh h0;have r3:=Kh hg;have p1:=zH a2.out 1 (by simp);have f1:=zE a2.out 1;have o7:=zK a2.out;simp only[List.getElem_toArray,List.getElem_cons_zero,List.getElem_cons_succ]at p1;clear h0 hg h7 HG hj;go_upto_region 9 with fail;rw[<- World.setCell_alloc_past _ _ _ _ o7];obtain⟨w5,H6⟩:∃ w5,w5=(w3.alloc (.cells #[.slice s np c] 34)).setCell ⟨o,1,none⟩ (.slice (some ⟨w3.heap.size,0,none⟩) 1 1):=⟨_,rfl⟩;rw[<- H6];obtain⟨X,d5,l1,p5⟩:=rbox_start r3.out b5.out a2.out (by have:=HO.out;omega) H6;obtain⟨sb,o4⟩:∃ x,x=w3.heap.size:=⟨_,rfl⟩;rw[<- o4]at d5;have r4:=Kh d5;have q4:=Kh l1;have p6:=Kh p5;have a4:=Ga w5 (.map #[] 0) none;have l7:=MapK.made 9 (qD np) KR w5;obtain⟨w6,j5⟩:∃ w6,w6=w5.alloc (.map #[] 0):=⟨_,rfl⟩;obtain⟨mb,l6⟩:∃ b,b=w5.heap.size:=⟨_,rfl⟩;rw[<- j5,<- l6]at l7;rw[<- j5]at a4;have p7:=Kh j5;have n7:=Kh l6;have k6:=Kh a4;have q9:=Kh l7
   have q3:Hid (qD np (st0T ds)):=Kh (by
    refine⟨m6.out,fun x hx=>?_⟩;obtain⟨i,hi,rfl⟩:=List.getElem_of_mem hx;have:=e0.out.small e0.out.in0 i (by rw[sJ]at hi;exact hi)
    rwa [zG hi]at this)
   have a1:Hid (Row w5.heap.size w5 (.slice s np c) (nats (st0T ds))):=Kh (l1.2 0 (by simp) (by simp)).1.row;have H3:Hid (Calls Try.prog 80 #[.slice s np c] w6 fun e w'=>e=.returned (.string (txtT (kbR (st0T ds))))/\w6.grownBy w' none):=Kh (dX w5.heap.size w6 _ (st0T ds) np a4.size (a1.out.kept a4 (by simp)) q3.out (by omega));obtain⟨T0,m3⟩:∃ t,t=txtT (kbR (st0T ds)):=⟨_,rfl⟩;rw[<- m3]at H3;have s9:=Kh m3;clear a4 l7 j5 l6 m3 H6 d5 l1 p5 o4 p1 f1 o7 b5 r3 a2;go_wp2_with fail;rw[<- n7.out,<- p7.out];refine H3.out.mono ?_;rintro e w7 ⟨rfl,d0⟩;have k5:=Kh (q9.out.kept d0 (by simp));have j2:=Kh (zA k6.out d0 (by simp));clear d0 H3;obtain⟨w8,r8,f8,i5,b1⟩:=k5.out.upd n8.out (z:=st0T ds) (y:=0) (by unfold maxLen;omega) q3.out (by omega);have f7:Sem.run Try.prog (Instr.mapUpdate 129 (.map (some mb)) (.string T0) (.int .i64 0)) w7=.ok r8 w8:=by rw[s9.out];exact f8
   clear f8;go_wp2;clear f7
   have i2:(fun q=>if q=st0T ds then some 0 else (none:Option Nat))=numE [st0T ds]:=by
    funext q;unfold numE;by_cases e:q=st0T ds
    ·rw[if_pos e,if_pos (by simp[e]),e];simp
    ·rw[if_neg e,if_neg (by simpa using e)]
   have i4:MapK 9 (qD np) KR w8 mb 1 1 (numE [st0T ds]):=(by rw[<- i2];exact i5);have q8:Hid (RPr wA wA.heap.size o mb np (.slice da np dc) [st0T ds] [] 1 0 [] w8):=Kh (rpr_start r4.out q4.out p6.out (by rw[n7.out];exact Nat.le_refl _) (tW j2.out b1 (.inl rfl) (.inr (.inl rfl))) i4 (by omega));clear i5 i4 b1 i2 r4 q4 p6 k5 j2 a1 q9 k6 p7 n7;have m8:Hid (wA.heap[w.heap.size]?=some (.cells #[.slice none 0 0,.slice none 0 0,.slice none 0 0] 88 (0,0))):=Kh (by rw[s7.out];exact heap_alloc_new w _)
   go_loopg [11,12,13,14,15,16,17,18,56] 4000 (fun gh v11 a12 a13 a14 a15 a16 a17 a18 a56 wr=>∃ (s:Nat) (L T:List (List Nat)),gh+s=4000/\v11=.int .i64 s/\RPr wA wA.heap.size o mb np (.slice da np dc) L T L.length s [] wr/\BfsI (nxtT ds) k (st0T ds) L s 0/\L.length<=4000/\TOk ds k L T s)
   case atStart=>exact⟨0,[st0T ds],[],rfl,rfl,q8.out,BfsI.start,by simp,⟨rfl,fun j hj=>by omega⟩⟩
   case round =>
    clear q8;obtain⟨wo,rfl⟩:∃ w2:World,w2=wr:=⟨_,rfl⟩;obtain⟨i,L,T,i6,rfl,hp,b3,b4,e5⟩:=hrel;have d8:=Kh e5;have e9:=Kh i6;have HP:=Kh hp;have b6:=Kh b3;have a6:=b3.le;obtain⟨m,hm⟩:∃ m,m=L.length:=⟨_,rfl⟩;rw[<- hm]at a6 b4 HP;have H1:=Kh hm;obtain⟨sS,cS,sN,cN,h9,_⟩:=HP.out.cells;obtain⟨x0,x1,x2⟩:=zM h9;clear i6 hp b3 hm e5;by_cases hs:i<m
    case neg =>
     have o5:¬ (i:Int)<m:=(by omega);have r7:m=i:=by omega
     have HD:Hid (BfsD (nxtT ds) k (st0T ds) L):=Kh (b6.out.done (by rw[<- H1.out];omega));have H7:=zB m8.out HP.out.facts.1 (by simp);obtain⟨y0,y1,y2⟩:=zM H7;have f40:=zE H7 0;have f41:=zE H7 1;have f42:=zE H7 2;have s0:=zK H7;obtain⟨tS,tN,dS,dN',i9,b8⟩:=HP.out.val;have d4:=i9.symm.trans h9;simp only[Option.some.injEq,Obj.cells.injEq,and_true]at d4;have i8:=congrArg Array.toList d4;simp only[List.cons.injEq,true_and,and_true]at i8;obtain⟨e1,e2⟩:=i8;rw[e1,e2]at b8;have m4:=Kh b8;clear i9 d4 e1 e2 b8;subst r7;go_wp2;have g1:=zD (zD (zC wo ⟨w.heap.size,0,none⟩ (.slice da np dc)) (zC _ ⟨w.heap.size,1,none⟩ (.slice sS m cS))) (zC _ ⟨w.heap.size,2,none⟩ (.slice sN m cN));have z1:=heap_setCell_same _ w.heap.size 2 _ _ (.slice sN m cN) (heap_setCell_same _ w.heap.size 1 _ _ (.slice sS m cS) (heap_setCell_same wo w.heap.size 0 _ _ (.slice da np dc) H7));obtain⟨w9,l0⟩:∃ w9,w9=((wo.setCell ⟨w.heap.size,0,none⟩ (.slice da np dc)).setCell ⟨w.heap.size,1,none⟩ (.slice sS m cS)).setCell ⟨w.heap.size,2,none⟩ (.slice sN m cN):=⟨_,rfl⟩;rw[<- l0]at g1 z1 ⊢;simp only[Array.setIfInBounds,List.size_toArray,List.length_cons,List.length_nil]at z1;obtain⟨q0,q1,q2⟩:=zM z1;refine bodyPost_ret (v:=.tuple #[.agg #[.slice da np dc,.slice sS m cS,.slice sN m cN],.int .i64 0]) (by simp[results,Try.results52,go_sem,q0,q1,q2,Result.andThen]) rfl ?_;refine .inr ⟨wA.heap.size,_,L,T,rfl,j1.out.size,m4.out w9 (some w.heap.size) g1 (fun j e=>by have e:w.heap.size=j:=Oj e;have:=zK m8.out;omega),HD.out,by rw[<- H1.out];exact b4,by rw[<- H1.out];exact d8.out,zA (zA j1.out HP.out.facts.1 (by simp)) g1 (fun j e=>by have e:w.heap.size=j:=Oj e;omega)⟩
    have o5:(i:Int)<m:=(by omega);have p9:Hid (i<L.length):=Kh (by rw[<- H1.out];exact hs);have q7:Hid (RPr wA wA.heap.size o mb np (.slice da np dc) L T L.length i (⟨wA.heap.size,3,.slice none 0 0,0,nats [],1⟩::[]) wo):=Kh (by have h1:=HP.out.addRow (zL wo none) (World.ownsRow_nil _ _ _ _) (e:=3) (sz:=1) (by decide);rw[<- H1.out];exact h1);have e7:Hid (L.length<=4000):=Kh (by rw[<- H1.out];exact b4);go_wp2;clear x0 x1 x2 hs o5 a6 b4 HP
    go_loopg [12,13,14,15,16,17,18,56] k (fun gh b12 b13 b14 b15 b16 b17 b18 b56 w2=>∃ (a:Nat) (L:List (List Nat)) (row:List Nat) (sr:Option Addr) (cr:Nat),gh+a=k/\b13=.int .i64 a/\b12=.slice sr a cr/\RPr wA wA.heap.size o mb np (.slice da np dc) L T L.length i (⟨wA.heap.size,3,.slice sr a cr,a,nats row,1⟩::[]) w2/\BfsI (nxtT ds) k (st0T ds) L i a/\i<L.length/\L.length<=4000/\TOk ds k L T i/\RwOk ds L (L.getD i []) row a)
    case atStart=>exact⟨0,L,[],none,0,rfl,rfl,rfl,q7.out,b6.out,p9.out,e7.out,d8.out,⟨rfl,fun b hb=>by omega⟩⟩
    case round =>
     clear q7 b6 d8 H1 p9 e7;obtain⟨w2,rfl⟩:∃ w2:World,w2=wr:=⟨_,rfl⟩;obtain⟨a,L2,row,sr,cr,H4,rfl,rfl,hp,b3,a6,b4,e5,l2⟩:=hrel;have a5:=Kh H4;have HP:=Kh hp;have b6:=Kh b3;have d8:=Kh e5;have k2:=Kh l2;have d9:=Kh a6;have e7:=Kh b4;by_cases ha:a<k
     case neg =>
      have s4:¬ (a:Int)<k:=(by omega);have s3:k=a:=by omega
      clear H4 hp b3 a6 b4 e5 l2;subst s3;obtain⟨hs,sN,cN,h0,d5,hz,h8⟩:=HP.out.pushN;have h7:=Kh h0;have n1:=Kh h8;have t8:i<4000:=(by have:=d9.out;have:=e7.out;omega);clear h0 h8;go_upto_region 12 with (first|(at_builtin;refine vI rfl _ _ _ rfl uP.toN wA.heap.size (.slice sN i cN) i hs rfl h7.out [.slice sr k cr] rfl rfl ?z1 ?z2 ?z3 ?z4 ?_;(case z1=>(intro v hv;simp only[List.mem_cons,List.not_mem_nil,or_false]at hv;subst hv;rfl));(case z2=>(unfold maxLen;omega));(case z3=>(show (i+1) * 24<=140737488355328;omega));(case z4=>exact hz);intro sn cn wM h0 H5 H8;obtain⟨p1,f1,f9⟩:=n1.out wM sn cn h0 H5 H8;(have m9:=Kh f9);clear h0 H5 H8 f9 d5)|fail)
      go_wp2;go_roundg (4000 - (i+1))
      case measure=>have:=e9.out;omega
      case rel=>exact⟨i+1,L2,T++[row],by have:=e9.out;omega,by(first|go_num|(refine congrArg _ ?_;rw[IntWalk.wrap64_in _ (by omega)];omega)),m9.out,b6.out.next d9.out,e7.out,d8.out.push k2.out⟩
     have s4:(a:Int)<k:=(by omega);have e8:=Kh (qGQ b3 e0.out a6);obtain⟨x,hx⟩:∃ x,x=L2.getD i []:=⟨_,rfl⟩;rw[<- hx]at e8 k2;have HX:=Kh hx;obtain⟨m,hm⟩:∃ m,m=L2.length:=⟨_,rfl⟩;rw[<- hm]at HP b4 a6;have H1:=Kh hm;clear H4 hp b3 e5 l2 hx hm;go_upto_region 18 with fail;have b0:=Ga w2 (.cells #[] 3) none;have c7:=heap_alloc_new w2 (.cells #[] 3);obtain⟨w3,o3⟩:∃ w3,w3=w2.alloc (.cells #[] 3):=⟨_,rfl⟩;obtain⟨g1,p3⟩:∃ g,g=w2.heap.size:=⟨_,rfl⟩;rw[<- o3]at b0 c7 ⊢;have l4:=HP.out.addRow b0 (pK (base:=w2.heap.size) c7 (Nat.le_refl _)) (by decide);rw[<- p3]at l4 ⊢;have q6:=Kh l4;have n6:Hid ((nxtT ds x a).length=np):=Kh (by rw[oF,H0.out]);clear b0 c7 o3 p3 l4 HP;go_wp2
     go_loopg [14,15,16,56] np (fun gh c14 c15 c16 c56 w4=>∃ (j:Nat) (s':Option Addr) (c':Nat),gh+j=np/\c56=.int .i64 j/\c14=.slice s' j c'/\RPr wA wA.heap.size o mb np (.slice da np dc) L2 T m i (⟨wA.heap.size,3,.slice sr a cr,a,nats row,1⟩::⟨wA.heap.size,3,.slice s' j c',j,nats ((nxtT ds x a).take j),1⟩::[]) w4)
     case atStart=>exact⟨0,some ⟨g1,0,none⟩,0,rfl,rfl,rfl,q6.out⟩
     case round =>
      clear q6;obtain⟨w4,rfl⟩:∃ w4:World,w4=wr:=⟨_,rfl⟩;obtain⟨j,s',c',p0,rfl,rfl,hp⟩:=hrel;have n9:=Kh p0;have HP:=Kh hp;clear p0;by_cases hj:j<np
      case pos =>
       have l9:(j:Int)<np:=(by omega);obtain⟨b,off,cap,e,m2,m1,hd⟩:=(H.out.kept (zA j1.out hp.facts.1 (by simp)) (by simp)).head (by rw[<- H0.out];omega);rw[<- H0.out]at e m2;simp only[Value.slice.injEq,true_and]at e;obtain⟨rfl,rfl⟩:=e;have r9:dc<=9223372036854775807:=by unfold maxLen at m1;omega
       obtain⟨n,fb,fo,fc,nb,no,nc,RB,RO,RC,hv,h5,c1,c2,c3,c4,j9⟩:=hd.dfa e0.out (by rw[<- H0.out];exact hj);have hq:x.getD j 0<n:=(by have:=e8.out.2 j (by rw[<- H0.out];exact hj);rw[hv.hn]at this;exact this);have t2:=Kh j9;have HD:=Kh hd;obtain⟨st,f6⟩:∃ y,y=st0 (ds.getD j dN):=⟨_,rfl⟩;rw[<- f6]at c2;have HQ:=Kh hq;clear hd j9 hv hp f6;go_upto_region 21 with fail;have H4:=Ga w4 (.cells #[.int .i64 (k:Int),.int .i64 (st:Int),.slice (some ⟨fb,fo,none⟩) n fc,.slice (some ⟨nb,no,none⟩) n nc] 42) none;have d7:=heap_alloc_new w4 (.cells #[.int .i64 (k:Int),.int .i64 (st:Int),.slice (some ⟨fb,fo,none⟩) n fc,.slice (some ⟨nb,no,none⟩) n nc] 42);obtain⟨w5,H6⟩:∃ w5,w5=w4.alloc (.cells #[.int .i64 (k:Int),.int .i64 (st:Int),.slice (some ⟨fb,fo,none⟩) n fc,.slice (some ⟨nb,no,none⟩) n nc] 42):=⟨_,rfl⟩;obtain⟨db,d2⟩:∃ b,b=w4.heap.size:=⟨_,rfl⟩;rw[<- H6]at H4;rw[<- H6,<- d2]at d7;rw[<- H6,<- d2];obtain⟨_,_,_,d3⟩:=qCV d7;have i0:=HP.out.grow H4;have q5:=Kh i0;have a0:=t2.out.kept H4 (by simp);have e1:=a0.hd (x.getD j 0) HQ.out;have e2:=a0.el (x.getD j 0) a HQ.out ha;have e3:=a0.cap;have e4:=a0.rcap (x.getD j 0) HQ.out;obtain⟨sS,cS,sN,cN,h9,j6⟩:=i0.cells;obtain⟨x0,x1,x2⟩:=zM h9;obtain⟨sb,rfl,s1,i7,j6⟩:=j6 (by omega);obtain⟨g,go,gc,f1,f2,f3,f4⟩:=j6 i a6 (by rw[<- HX.out];intro e;have:=e8.out.1;rw[e,<- H0.out]at this;simp at this;omega);rw[<- HX.out]at f1 f2 f4;have f5:=f4 j (by rw[e8.out.1,<- H0.out];exact hj);rw[e8.out.1,<- H0.out]at f1 f2;have x6:=Kh (i0.own (r:=⟨wA.heap.size,3,.slice s' j c',j,nats ((nxtT ds x a).take j),1⟩) (by simp));have s6:=Kh i0.facts.2.1;have x4:cS<=9223372036854775807:=by unfold maxLen at i7;omega
       have x3:gc<=9223372036854775807:=by unfold maxLen at f3;omega
       have t5:nc<=9223372036854775807:=by unfold maxLen at e3;omega
       have o6:RC (x.getD j 0)<=9223372036854775807:=by unfold maxLen at e4;omega
       have a3:nx (ds.getD j dN) (x.getD j 0) a=(nxtT ds x a).getD j 0:=(hH (by rw[<- H0.out];exact hj)).symm;obtain⟨qq,l3⟩:∃ q,q=x.getD j 0:=⟨_,rfl⟩;rw[<- l3]at e1 e2 e4 f5 a3 o6;have t4:(qq:Int)<n:=(by rw[l3];have:=HQ.out;omega);obtain⟨rb2,c5⟩:∃ r,r=RB qq:=⟨_,rfl⟩;obtain⟨ro2,b9⟩:∃ r,r=RO qq:=⟨_,rfl⟩;obtain⟨rc2,c0⟩:∃ r,r=RC qq:=⟨_,rfl⟩;obtain⟨y,hy⟩:∃ y,y=nx (ds.getD j dN) qq a:=⟨_,rfl⟩;rw[<- c5,<- b9,<- c0]at e1;rw[<- c5,<- b9,<- hy]at e2;rw[<- c0]at e4 o6;rw[<- hy]at a3;have m7:=Kh a3;obtain⟨e3a,_⟩:=e3;obtain⟨e4a,_⟩:=e4;have t9:(i:Int)<m:=(by omega);clear a3 hy c5 b9 c0 l3 f4 j6 h9 i0 a0 d7 H4 H6 d2 i7 f3;have j0:Hid (∀ W1:World,w5.grownBy W1 none->W1.ownsRow wA.heap.size 3 1 (.slice s' j c') j (nats ((nxtT ds x a).take j))/\wA.heap.size<=W1.heap.size):=Kh (fun W1 hW=>⟨(q5.out.grow hW).own (r:=⟨wA.heap.size,3,.slice s' j c',j,nats ((nxtT ds x a).take j),1⟩) (by simp),Nat.le_trans s6.out hW.size⟩)
       have n0:Hid (∀ (W1 wM:World) (s2:Option Addr) (c2:Nat),wM.ownsRow wA.heap.size 3 1 (.slice s2 (j+1) c2) (j+1) (nats ((nxtT ds x a).take j)++[.int .i64 (y:Int)])->W1.grownBy wM (Value.slice s' j c').ownBlock->qH W1 wM (.slice s' j c') (.slice s2 (j+1) c2)->w5.grownBy W1 none->RPr wA wA.heap.size o mb np (.slice (some ⟨b,off,none⟩) np dc) L2 T m i (⟨wA.heap.size,3,.slice sr a cr,a,nats row,1⟩::⟨wA.heap.size,3,.slice s2 (j+1) c2,j+1,nats ((nxtT ds x a).take (j+1)),1⟩::[]) wM):=Kh (fun W1 wM s2 c2 h1 h2 h3 h4=>by
        have h6:=(q5.out.grow h4).app (j:=1) (r:=⟨wA.heap.size,3,.slice s' j c',j,nats ((nxtT ds x a).take j),1⟩) rfl h1 h2 h3;rw[m7.out,<- vM,<- zR (by rw[n6.out];exact hj)]at h6
        exact h6)
       go_region_law (first|(refine uX ?g1 (.tmp 61) (.tmp 77) 34 ?g2 yU.toN wA.heap.size (.slice s' j c') j (nats ((nxtT ds x a).take j)) ?g3 ?g4 [.int .i64 (y:Int)] w5.heap.size ?g5 (0,0) ?g6 ?g7 ?g7b ?g8 ?g9 ?g10 ?_;(case g1=>rfl);(case g2=>rfl);(case g3=>rfl);(case g4=>(refine(j0.out _ ?_).1;exact wU (o:=.cells #[.int .i64 (y:Int)] 3) rfl rfl rfl rfl));(case g5=>rfl);(case g6=>rfl);(case g7=>exact heap_alloc_new (w5.drew) _);(case g7b=>(intro u hu;simp at hu;subst hu;rfl));(case g8=>(unfold maxLen;omega));(case g9=>omega);(case g10=>(refine(j0.out _ ?_).2;exact wU (o:=.cells #[.int .i64 (y:Int)] 3) rfl rfl rfl rfl));intro s8 c8 w8 a8 b1 i3;have c6:=n0.out _ _ _ _ a8 b1 i3 (wU (o:=.cells #[.int .i64 (y:Int)] 3) rfl rfl rfl rfl);have k3:=Kh c6;clear c6 a8 b1 i3)|fail)
       all_goals
        go_wp2;go_roundg (np - (j+1))
        case measure=>have:=n9.out;omega
        case rel=>exact⟨j+1,_,_,by have:=n9.out;omega,by go_num,rfl,k3.out⟩
      case neg =>
       have l9:¬ (j:Int)<np:=(by omega);have l8:np=j:=by have:=n9.out;omega
       rw[List.take_of_length_le (by rw[n6.out];omega)]at hp;obtain⟨z,hz⟩:∃ z,z=nxtT ds x a:=⟨_,rfl⟩;have j3:z.length=np:=by rw[hz];exact n6.out
       have m5:Hid (qD np z):=Kh (by
        have h1:=e0.out.next e8.out ha;rw[<- hz]at h1;refine⟨j3,fun y hy=>?_⟩;obtain⟨q,hq,rfl⟩:=List.getElem_of_mem hy;have:=e0.out.small h1 q (by rw[<- H0.out,<- j3];exact hq)
        rwa [zG hq]at this)
       rw[<- hz]at hp;clear HP;subst l8;have k4:=Kh hp;have a1:Hid (Row w4.heap.size w4 (.slice s' np c') (nats z)):=Kh (RowX.of_owns (X:=fun _=>True) (hp.own (r:=⟨wA.heap.size,3,.slice s' np c',np,nats z,1⟩) (by simp)) (fun _ _=>trivial)).row;have H3:Hid (∀ W:World,w4.grownBy W none->Calls Try.prog 80 #[.slice s' np c'] W fun e w'=>e=.returned (.string (txtT (kbR z)))/\W.grownBy w' none):=Kh (fun W hW=>dX w4.heap.size W _ z np hW.size (a1.out.kept hW (by simp)) m5.out (by omega));obtain⟨U,hU⟩:∃ t,t=txtT (kbR z):=⟨_,rfl⟩;rw[<- hU]at H3;have HU:=Kh hU;have HZ:=Kh hz;have x5:=Kh j3;clear hp hz hU j3 a1 hj;go_wp2_with fail;refine(H3.out _ (zL _ _)).mono ?_;rintro e w6 ⟨rfl,a4⟩;have c6:=k4.out.grow a4;obtain⟨u,c9,hu,hM⟩:=c6.map;have k3:=Kh c6;have HM:=Kh hM;have p8:=Kh hu;have k6:=Kh a4;obtain⟨sS,cS,sN,cN,h9,_⟩:=c6.cells;obtain⟨x0,x1,x2⟩:=zM h9;have H9:=hM.lookup n8.out m5.out;clear a4 c6 hM hu h9 k4;have o0:Hid (L2[i]?=some x):=Kh (by rw[HX.out,List.getD_eq_getElem?_getD,List.getElem?_eq_getElem d9.out];rfl);have k7:z=nxtT ds (L2.getD i []) a:=by rw[HZ.out,HX.out]
       have k0:=Kh k7;by_cases hmem:z∈L2
       case pos =>
        obtain⟨y,hy⟩:∃ y,y=L2.idxOf z:=⟨_,rfl⟩;have t3:y<m:=by rw[hy,H1.out];exact List.idxOf_lt_length_of_mem hmem
        have j7:Sem.run Try.prog (Instr.lookup 129 (.map (some mb)) (.string U) true) w6=.ok (.tuple #[.int .i64 (y:Int),.bool true]) w6:=by
         rw[fL hmem,<- hy]at H9;rw[HU.out];exact H9
        have n3:=Kh (RPr.drop (tl:=⟨wA.heap.size,3,.slice sr a cr,a,nats row,1⟩::[]) k3.out);have n4:=Kh (n3.out.own (r:=⟨wA.heap.size,3,.slice sr a cr,a,nats row,1⟩) (by simp));have b7:=n3.out.facts.2.1;have HY:=Kh hy;have H2:=Kh hmem;clear H9 hy hmem k7 x0 x1 x2;go_upto_region 16 with (first|(at_builtin;refine vI rfl _ _ _ rfl yU.toN wA.heap.size (.slice sr a cr) a (nats row) rfl n4.out [.int .i64 (y:Int)] rfl rfl ?z1 ?z2 ?z3 ?z4 ?_;(case z1=>(intro v hv;simp only[List.mem_cons,List.not_mem_nil,or_false]at hv;subst hv;rfl));(case z2=>(unfold maxLen;omega));(case z3=>(show (a+1) * 8<=140737488355328;omega));(case z4=>exact b7);intro sn cn wM h0 H5 H8;(have n2:=Kh (n3.out.app (j:=0) rfl h0 H5 H8));clear h0 H5 H8)|fail)
        go_wp2;go_roundg (k - (a+1))
        case measure=>have:=a5.out;omega
        case rel =>
         have h1:=n2.out;rw[<- vM]at h1;refine⟨a+1,L2,row++[y],sn,cn,by have:=a5.out;omega,by go_num,rfl,?_,b6.out.old o0.out (by rw[HX.out,<- k0.out];exact H2.out),d9.out,e7.out,d8.out,?_⟩
         ·rw[<- H1.out];exact h1
         ·have h2:=k2.out.push (by rw[<- HZ.out];exact H2.out)
          rw[<- HZ.out,<- HY.out,HX.out]at h2;exact h2
       case neg =>
        have j7:Sem.run Try.prog (Instr.lookup 129 (.map (some mb)) (.string U) true) w6=.ok (.tuple #[.int .i64 0,.bool false]) w6:=by
         rw[qDZ hmem]at H9;rw[HU.out];exact H9
        have H2:=Kh hmem;clear H9 k7 hmem;go_wp2_with fail;refine(H3.out _ k6.out).mono ?_;rintro e w7 ⟨rfl,d0⟩;have k5:=Kh (HM.out.kept d0 (by simp));have k4:=Kh (k3.out.grow d0);clear d0 j7 x0 x1 x2;go_upto_region 27 with (first|(at_mapUpdate;refine pI n8.out rfl _ _ _ rfl mb u c9 (numE L2) z m rfl ?k1 rfl k5.out (by have:=p8.out;unfold maxLen;omega) m5.out (by omega) ?_;(case k1=>(show _=Value.string (txtT (kbR z));rw[<- HU.out];rfl));intro w8 i5 b1)|fail)
        obtain⟨c10,o9⟩:∃ c10,MapK 9 (qD np) KR w8 mb (u+1) c10 (numE (L2++[z])):=⟨_,by rw[<- qBC H2.out,<- H1.out];exact i5⟩;obtain⟨hs,sS,cS,h0,d5,r6,h8⟩:=k4.out.pushS b1 o9 (by have:=p8.out;omega);have h7:=Kh h0;have n1:=Kh h8;clear h0 h8 i5 o9 b1;go_upto_region 28 with (first|(at_builtin;refine vI rfl _ _ _ rfl uP.toN wA.heap.size (.slice sS m cS) m hs rfl h7.out [.slice s' np c'] rfl rfl ?z1 ?z2 ?z3 ?z4 ?_;(case z1=>(intro v hv;simp only[List.mem_cons,List.not_mem_nil,or_false]at hv;subst hv;rfl));(case z2=>(unfold maxLen;omega));(case z3=>(show (m+1) * 24<=140737488355328;omega));(case z4=>exact r6);intro sn cn wM h0 H5 H8;obtain⟨p1,f1,f9⟩:=n1.out wM sn cn h0 H5 H8;(have m9:=Kh f9);clear h0 H5 H8 f9 d5)|fail)
        obtain⟨wZ,k8⟩:∃ wZ,wZ=wM.setCell ⟨o,1,none⟩ (.slice sn (m+1) cn):=⟨_,rfl⟩;rw[<- k8];have e6:Hid (RPr wA wA.heap.size o mb np (.slice da np dc) (L2++[z]) T (m+1) i (⟨wA.heap.size,3,.slice sr a cr,a,nats row,1⟩::[]) wZ):=Kh (by rw[k8];exact m9.out);obtain⟨tS,tC,tN,tD,b2,_⟩:=e6.out.cells;obtain⟨y0,y1,y2⟩:=zM b2;clear k8 b2 p1 f1;by_cases h4:m=4000
        case pos =>
         have s5:(4000:Int)<(m:Int)+1:=(by omega);have t0:Hid (Over ds k):=Kh (b6.out.over (by rw[<- H1.out];exact h4) ha o0.out (by rw[HX.out,<- k0.out];exact H2.out));have H7:=zB m8.out e6.out.facts.1 (by simp);have f40:=zE H7 0;have f41:=zE H7 1;have f42:=zE H7 2;have s0:=zK H7;obtain⟨v0,v1,v2⟩:=zM H7;subst h4;go_wp2;have g1:=zD (zD (zC wZ ⟨w.heap.size,0,none⟩ (.slice none 0 0)) (zC _ ⟨w.heap.size,1,none⟩ (.slice none 0 0))) (zC _ ⟨w.heap.size,2,none⟩ (.slice none 0 0));have z1:=heap_setCell_same _ w.heap.size 2 _ _ (.slice none 0 0) (heap_setCell_same _ w.heap.size 1 _ _ (.slice none 0 0) (heap_setCell_same wZ w.heap.size 0 _ _ (.slice none 0 0) H7));obtain⟨w9,l0⟩:∃ w9,w9=((wZ.setCell ⟨w.heap.size,0,none⟩ (.slice none 0 0)).setCell ⟨w.heap.size,1,none⟩ (.slice none 0 0)).setCell ⟨w.heap.size,2,none⟩ (.slice none 0 0):=⟨_,rfl⟩;rw[<- l0]at g1 z1 ⊢;simp only[Array.setIfInBounds,List.size_toArray,List.length_cons,List.length_nil]at z1;obtain⟨q0,q1,q2⟩:=zM z1;refine bodyPost_ret (v:=.tuple #[.agg #[.slice none 0 0,.slice none 0 0,.slice none 0 0],.int .i64 3]) (by simp[results,Try.results52,go_sem,q0,q1,q2,Result.andThen]) rfl ?_;exact .inl ⟨t0.out,rfl,zA (zA j1.out e6.out.facts.1 (by simp)) g1 (fun j e=>by have e:w.heap.size=j:=Oj e;omega)⟩
        have s5:¬ (4000:Int)<(m:Int)+1:=(by omega);have n4:=Kh (e6.out.own (r:=⟨wA.heap.size,3,.slice sr a cr,a,nats row,1⟩) (by simp));have b7:=e6.out.facts.2.1;have t7:m<4000:=(by omega);clear h4;go_upto_region 16 with (first|(at_builtin;refine vI rfl _ _ _ rfl yU.toN wA.heap.size (.slice sr a cr) a (nats row) rfl n4.out [.int .i64 (m:Int)] rfl rfl ?z1 ?z2 ?z3 ?z4 ?_;(case z1=>(intro v hv;simp only[List.mem_cons,List.not_mem_nil,or_false]at hv;subst hv;rfl));(case z2=>(unfold maxLen;omega));(case z3=>(show (a+1) * 8<=140737488355328;omega));(case z4=>exact b7);intro sn2 cn2 wM2 h0 H5 H8;(have n2:=Kh (e6.out.app (j:=0) rfl h0 H5 H8));clear h0 H5 H8)|fail)
        go_wp2;go_roundg (k - (a+1))
        case measure=>have:=a5.out;omega
        case rel =>
         have h1:=n2.out;rw[<- vM]at h1;have e2:(L2++[z]).length=m+1:=by rw[List.length_append,<- H1.out];rfl
         have i1:=b6.out.new ha o0.out (by rw[HX.out,<- k0.out];exact H2.out);rw[HX.out,<- k0.out]at i1;have e3:(L2++[z]).getD i []=x:=by rw[xN d9.out,HX.out]
         refine⟨a+1,L2++[z],row++[m],sn2,cn2,by have:=a5.out;omega,by go_num,rfl,?_,i1,by rw[e2];have:=d9.out;have:=H1.out;omega,by rw[e2];omega,d8.out.more (Nat.le_of_lt d9.out) z,?_⟩
         ·rw[e2];exact h1
         ·rw[e3]
          have h2:=(k2.out.more z).push (by rw[<- HZ.out];simp);have e4:(L2++[z]).idxOf z=m:=by rw[List.idxOf_append,if_neg H2.out,H1.out];simp
          rw[<- HZ.out,e4]at h2;exact h2
theorem posmap_under:Try.prog.underlying 150=some (.map 152 3):=by kernel_rfl
theorem pos_keyed:Keyed Try.prog 152:=Keyed.of_law (deep_law_laid (m:=5) (by kernel_rfl) (by decide) (of_decide_eq_true (by kernel_rfl)) (by kernel_rfl) (by kernel_rfl))
def posV (x:Nat×Nat):Value:=.agg #[.int .i64 (x.1:Int),.int .i64 (x.2:Int)]
def qFG (x:Nat×Nat):Prop:=x.1<4611686018427387904/\x.2<4611686018427387904
theorem qAR:Try.prog.cellsOf 152=2:=by kernel_rfl
theorem pos_some {x0 x1:Nat}(h0:x0<4611686018427387904)(h1:x1<4611686018427387904):(keyOf Try.prog 152 (.agg #[.int .i64 (x0:Int),.int .i64 (x1:Int)])).isSome=true:=by
 have hk:Try.prog.keyType 152=true:=by kernel_rfl
 unfold keyOf;rw[Try.underlying152];simp only[hk,Bool.true_and]
 have hf:(Value.agg #[.int .i64 (x0:Int),.int .i64 (x1:Int)]).formed Try.prog 152=true:=by
  simp[Value.formed,Try.underlying152,qAR]
 rw[if_pos hf]
 have hl:Try.prog.keyLits (Try.prog.types.size+1) 152 (Value.agg #[.int .i64 (x0:Int),.int .i64 (x1:Int)]).cells.toList=some [.int .i64 (x0:Int),.int .i64 (x1:Int)]:=by
  have hz:Try.prog.types.size=(Try.prog.types.size - 1)+1:=by kernel_rfl
  rw[hz];unfold Program.keyLits;rw[Try.underlying152];simp[Value.cells,qAR,fQ,tE _ h0,tE _ h1]
 rw[hl];rfl
theorem qFT:KeyK 150 152 qFG posV where
 key:=pos_keyed
 und:=posmap_under
 of:=fun x h=>pos_some h.1 h.2
 inj:=fun x y hx hy e=>by
  simp only[posV,Value.agg.injEq]at e
  have e:=congrArg Array.toList e
  simp only[List.cons.injEq,Value.int.injEq,true_and,and_true]at e
  exact Prod.ext (by omega) (by omega)
end Go.Proofs.Ytjfdomfendbhfaa
namespace Go.Proofs.Ytjfdomfendbhfaa
def posL:Nat->List (List Nat)->List (Nat×Nat)
 | _,[]=>[]
 | i,u::us=>(List.range (u.length+1)).map (fun k=>(i,k))++posL (i+1) us
def xX (bs:List (List Nat)):List (Nat×Nat):=posL 0 bs
def offP (bs:List (List Nat))(i:Nat):Nat:=yG (bs.take i)+i
def lenP (bs:List (List Nat))(i:Nat):Nat:=(bs.getD i []).length
theorem sK:∀ (bs:List (List Nat)) (i:Nat),(posL i bs).length=yG bs+bs.length
 | [],i=>rfl
 | u::us,i=>by
  rw[posL,List.length_append,List.length_map,List.length_range,sK us,vQ,List.length_cons];omega
theorem uK (bs:List (List Nat)):offP bs 0=0:=by simp[offP,yG]
theorem qAY (u:List Nat)(us:List (List Nat))(i:Nat):offP (u::us) (i+1)=u.length+1+offP us i:=by
 simp only[offP,List.take_succ_cons,vQ];omega
theorem qAX {bs:List (List Nat)}{i:Nat}(h:i<bs.length):offP bs (i+1)=offP bs i+lenP bs i+1:=by
 unfold offP lenP;rw[List.take_succ_eq_append_getElem h,kX,zG h];simp[yG];omega
theorem qDR:∀ (bs:List (List Nat)) (j i k:Nat),i<bs.length->k<=lenP bs i->(posL j bs)[offP bs i+k]?=some (j+i,k)
 | [],j,i,k,h,_=>by simp at h
 | u::us,j,0,k,h,hk=>by
  have hk':k<u.length+1:=by unfold lenP at hk;simp at hk;omega
  rw[uK,Nat.zero_add,posL,List.getElem?_append_left (by simpa using hk')]
  simp[hk']
 | u::us,j,i+1,k,h,hk=>by
  have:=qDR us (j+1) i k (by simpa using h) (by unfold lenP at hk ⊢;simpa using hk)
  rw[qAY,posL,List.getElem?_append_right (by simp;omega),List.length_map,List.length_range,show u.length+1+offP us i+k - (u.length+1)=offP us i+k by omega,this]
  congr 2;omega
theorem nJ {bs:List (List Nat)}{i k:Nat}(hi:i<bs.length)(hk:k<=lenP bs i):(xX bs)[offP bs i+k]?=some (i,k):=by
 have:=qDR bs 0 i k hi hk
 rwa [Nat.zero_add]at this
theorem rE {bs:List (List Nat)}{i k:Nat}(hi:i<bs.length)(hk:k<=lenP bs i):offP bs i+k<(xX bs).length:=(List.getElem?_eq_some_iff.1 (nJ hi hk)).1
theorem cK:∀ (bs:List (List Nat)) (j p:Nat),p<(posL j bs).length->∃ i k,i<bs.length/\k<=lenP bs i/\p=offP bs i+k
 | [],j,p,h=>by simp[posL]at h
 | u::us,j,p,h=>by
  by_cases hp:p<u.length+1
  ·exact⟨0,p,by simp,by unfold lenP;simp;omega,by rw[uK];omega⟩
  ·rw[sK,vQ,List.length_cons]at h
   obtain⟨i,k,hi,hk,e⟩:=cK us (j+1) (p - (u.length+1)) (by rw[sK];omega)
   exact⟨i+1,k,by simpa using hi,by unfold lenP at hk ⊢;simpa using hk,by rw[qAY];omega⟩
theorem posOf_cover {bs:List (List Nat)}{p:Nat}(h:p<(xX bs).length):∃ i k,i<bs.length/\k<=lenP bs i/\p=offP bs i+k:=cK bs 0 p h
theorem qFU:∀ (bs:List (List Nat)) (j:Nat),∀ x∈posL j bs,j<=x.1
 | [],j,x,hx=>by simp[posL]at hx
 | u::us,j,x,hx=>by
  rcases List.mem_append.1 hx with hx|hx
  ·obtain⟨k,_,rfl⟩:=List.mem_map.1 hx;exact Nat.le_refl _
  ·have:=qFU us (j+1) x hx;omega
theorem cJ:∀ (bs:List (List Nat)) (j:Nat),(posL j bs).Nodup
 | [],j=>by simp[posL]
 | u::us,j=>by
  rw[posL,List.nodup_append]
  refine⟨?_,cJ us (j+1),fun x hx y hy e=>?_⟩
  ·rw[List.Nodup,List.pairwise_map]
   exact(List.nodup_range (n:=u.length+1)).imp fun hne e=>hne (by simpa using e)
  ·obtain⟨k,_,rfl⟩:=List.mem_map.1 hx
   have:=qFU us (j+1) y hy
   rw[<- e]at this
   have:j+1<=j:=this
   omega
def leP (bs:List (List Nat))(x:Nat×Nat)(a:Nat):Bool:=decide (x.2<lenP bs x.1) && (bs.getD x.1 []).getD x.2 0 == a
def stP (x:Nat×Nat):Bool:=decide (x.2=0) && decide (0<x.1)
def enP (bs:List (List Nat))(x:Nat×Nat):Bool:=decide (x.2=lenP bs x.1) && decide (x.1+1<bs.length)
def atP (bs:List (List Nat))(p:Nat):Nat×Nat:=(xX bs).getD p (0,0)
theorem mB {bs:List (List Nat)}{i k:Nat}(hi:i<bs.length)(hk:k<=lenP bs i):atP bs (offP bs i+k)=(i,k):=by
 unfold atP;rw[List.getD_eq_getElem?_getD,nJ hi hk];rfl
def bitP (S:List Bool)(p:Nat):Bool:=S.getD p false
def lJ (bs:List (List Nat))(S:List Bool)(a p:Nat)(t:List Bool):List Bool :=
 if bitP S p then
  (if stP (atP bs p) then (if leP bs (atP bs p) a then t.set (p+1) true else t).set p true else (if leP bs (atP bs p) a then t.set (p+1) true else t))
 else t
def yI (bs:List (List Nat))(m:Nat)(S:List Bool)(a:Nat):Nat->List Bool
 | 0=>List.replicate m false
 | p+1=>lJ bs S a p (yI bs m S a p)
def pJ (bs:List (List Nat))(S:List Bool):Nat->List Bool
 | 0=>S
 | p+1=>if bitP (pJ bs S p) p && enP bs (atP bs p) then (pJ bs S p).set (p+1) true else pJ bs S p
theorem uL (bs:List (List Nat))(m:Nat)(S:List Bool)(a:Nat):∀ p,(yI bs m S a p).length=m
 | 0=>by simp[yI]
 | p+1=>by
  have:=uL bs m S a p
  unfold yI lJ
  split
  ·split<;>split<;>simp[this]
  ·exact this
theorem sU (bs:List (List Nat))(S:List Bool):∀ p,(pJ bs S p).length=S.length
 | 0=>rfl
 | p+1=>by
  have:=sU bs S p
  unfold pJ
  split<;>simp[this]
theorem qCW {t:List Bool}{q p:Nat}(hq:q<t.length):bitP (t.set q true) p=(decide (q=p) || bitP t p):=by
 unfold bitP;by_cases e:q=p
 ·subst e
  rw[kE hq];simp
 ·rw[gQ e];simp[e]
theorem bM {t:List Bool}{q p:Nat}:bitP (t.set q true) p=(decide (q=p/\q<t.length) || bitP t p):=by
 by_cases hq:q<t.length
 ·rw[qCW hq];simp[hq]
 ·rw[List.set_eq_of_length_le (by omega)];simp[hq]
theorem bL (bs:List (List Nat)){m:Nat}(S:List Bool)(a:Nat):∀ q p,p<m->(bitP (yI bs m S a q) p=true ↔ (∃ p',p=p'+1/\p'<q/\bitP S p'=true/\leP bs (atP bs p') a=true)\/(p<q/\bitP S p=true/\stP (atP bs p)=true))
 | 0,p,hp=>by
  simp[yI,bitP,List.getD,List.getElem?_replicate,hp]
 | q+1,p,hp=>by
  have ih:=bL bs S a q p hp
  have hl:=uL bs m S a q
  unfold yI lJ
  by_cases hS:bitP S q=true
  ·rw[if_pos hS]
   have e1:bitP (if leP bs (atP bs q) a then (yI bs m S a q).set (q+1) true else yI bs m S a q) p=true ↔ (p=q+1/\leP bs (atP bs q) a=true)\/bitP (yI bs m S a q) p=true:=by
    by_cases hle:leP bs (atP bs q) a=true
    ·rw[if_pos hle,bM]
     simp only[Bool.or_eq_true,decide_eq_true_eq,hl];constructor
     ·rintro (⟨h,_⟩|h)
      ·exact .inl ⟨h.symm,hle⟩
      ·exact .inr h
     ·rintro (⟨h,_⟩|h)
      ·exact .inl ⟨h.symm,by omega⟩
      ·exact .inr h
    ·rw[if_neg hle]
     constructor
     ·exact .inr
     ·rintro (⟨_,h⟩|h)
      ·exact absurd h hle
      ·exact h
   have h0:(if leP bs (atP bs q) a then (yI bs m S a q).set (q+1) true else yI bs m S a q).length=m:=by split<;>simp[hl]
   have e2:bitP (if stP (atP bs q) then (if leP bs (atP bs q) a then (yI bs m S a q).set (q+1) true else yI bs m S a q).set q true else (if leP bs (atP bs q) a then (yI bs m S a q).set (q+1) true else yI bs m S a q)) p=true ↔ (p=q/\stP (atP bs q)=true)\/(p=q+1/\leP bs (atP bs q) a=true)\/bitP (yI bs m S a q) p=true:=by
    by_cases hst:stP (atP bs q)=true
    ·rw[if_pos hst,bM]
     simp only[Bool.or_eq_true,decide_eq_true_eq,h0,e1];constructor
     ·rintro (⟨h,_⟩|h)
      ·exact .inl ⟨h.symm,hst⟩
      ·exact .inr h
     ·rintro (⟨h,_⟩|h)
      ·exact .inl ⟨h.symm,by omega⟩
      ·exact .inr h
    ·rw[if_neg hst,e1]
     constructor
     ·exact .inr
     ·rintro (⟨_,h⟩|h)
      ·exact absurd h hst
      ·exact h
   rw[e2,ih];constructor
   ·rintro (⟨rfl,h⟩|⟨rfl,h⟩|⟨p',h1,h2,h3⟩|⟨h1,h2⟩)
    ·exact .inr ⟨by omega,hS,h⟩
    ·exact .inl ⟨q,rfl,by omega,hS,h⟩
    ·exact .inl ⟨p',h1,by omega,h3⟩
    ·exact .inr ⟨by omega,h2⟩
   ·rintro (⟨p',h1,h2,h3,h4⟩|⟨h1,h2,h3⟩)
    ·by_cases e:p'=q
     ·subst e;exact .inr (.inl ⟨h1,h4⟩)
     ·exact .inr (.inr (.inl ⟨p',h1,by omega,h3,h4⟩))
    ·by_cases e:p=q
     ·subst e;exact .inl ⟨rfl,h3⟩
     ·exact .inr (.inr (.inr ⟨by omega,h2,h3⟩))
  ·rw[if_neg hS,ih]
   constructor
   ·rintro (⟨p',h1,h2,h3⟩|⟨h1,h2⟩)
    ·exact .inl ⟨p',h1,by omega,h3⟩
    ·exact .inr ⟨by omega,h2⟩
   ·rintro (⟨p',h1,h2,h3,h4⟩|⟨h1,h2,h3⟩)
    ·by_cases e:p'=q
     ·subst e;exact absurd h3 hS
     ·exact .inl ⟨p',h1,by omega,h3,h4⟩
    ·by_cases e:p=q
     ·subst e;exact absurd h2 hS
     ·exact .inr ⟨by omega,h2,h3⟩
def sprF (bs:List (List Nat))(S:List Bool):Nat->Bool
 | 0=>bitP S 0
 | p+1=>bitP S (p+1) || (sprF bs S p && enP bs (atP bs p))
theorem qCE (bs:List (List Nat))(S:List Bool):∀ q,q<S.length->∀ p,p<S.length->bitP (pJ bs S q) p=if p<=q then sprF bs S p else bitP S p
 | 0,_,p,hp=>by
  by_cases e:p<=0
  ·rw[if_pos e,show p=0 by omega];rfl
  ·rw[if_neg e];rfl
 | q+1,hq,p,hp=>by
  have ih:=qCE bs S q (by omega)
  have hl:=sU bs S q
  have hqq:bitP (pJ bs S q) q=sprF bs S q:=by rw[ih q (by omega),if_pos (Nat.le_refl q)]
  unfold pJ
  rw[hqq]
  by_cases hc:(sprF bs S q && enP bs (atP bs q))=true
  ·rw[if_pos hc,qCW (by omega),ih p hp]
   by_cases e:q+1=p
   ·subst e
    rw[if_neg (by omega),if_pos (Nat.le_refl _),sprF,hc];simp
   ·by_cases h2:p<=q
    ·rw[if_pos h2,if_pos (by omega)];simp[e]
    ·rw[if_neg h2,if_neg (by omega)];simp[e]
  ·rw[if_neg hc,ih p hp]
   by_cases e:q+1=p
   ·subst e
    rw[if_neg (by omega),if_pos (Nat.le_refl _),sprF]
    rw[Bool.not_eq_true]at hc
    rw[hc,Bool.or_false]
   ·by_cases h2:p<=q
    ·rw[if_pos h2,if_pos (by omega)]
    ·rw[if_neg h2,if_neg (by omega)]
theorem spr_last (bs:List (List Nat))(S:List Bool)(h:0<bs.length)(hS:S.length=(xX bs).length):pJ bs S S.length=pJ bs S (S.length - 1):=by
 have hm:(xX bs).length=yG bs+bs.length:=sK bs 0;obtain⟨m,e⟩:∃ m,S.length=m+1:=⟨S.length - 1,by omega⟩;rw[e,Nat.add_sub_cancel];have hl:=sU bs S m;show (if _ then (pJ bs S m).set (m+1) true else pJ bs S m)=_
 split
 ·rw[List.set_eq_of_length_le (by omega)]
 ·rfl
def spr (bs:List (List Nat))(S:List Bool):List Bool:=pJ bs S S.length
theorem iB {bs:List (List Nat)}{S:List Bool}(h:0<bs.length)(hS:S.length=(xX bs).length){p:Nat}(hp:p<S.length):bitP (spr bs S) p=sprF bs S p:=by
 unfold spr;rw[spr_last bs S h hS,qCE bs S _ (by omega) p hp,if_pos (by omega)]
def oS (m:Nat):List Bool:=(List.replicate m false).set 0 true
def nxtB (bs:List (List Nat))(S:List Bool)(a:Nat):List Bool:=spr bs (yI bs (xX bs).length S a (xX bs).length)
def s0B (bs:List (List Nat)):List Bool:=spr bs (oS (xX bs).length)
theorem dR (bs:List (List Nat))(S:List Bool):(spr bs S).length=S.length:=sU _ _ _
theorem nxtB_length (bs:List (List Nat))(S:List Bool)(a:Nat):(nxtB bs S a).length=(xX bs).length:=by rw[nxtB,dR,uL]
theorem s0B_length (bs:List (List Nat)):(s0B bs).length=(xX bs).length:=by rw[s0B,dR];simp[oS]
def PosP (bs:List (List Nat)):Nat->Nat->List Nat->Prop
 | 0,k,s=>s=(bs.getD 0 []).take k
 | i+1,k,s=>∃ s1 x,s=s1++x++(bs.getD (i+1) []).take k/\PosP bs i (lenP bs i) s1
theorem jL {u:List Nat}{k:Nat}(h:k<u.length):u.take (k+1)=u.take k++[u.getD k 0]:=zR (d:=0) h
theorem gW {bs:List (List Nat)}{i k:Nat}(hk:k<lenP bs i){w:List Nat}{a:Nat}:PosP bs i (k+1) (w++[a]) ↔ PosP bs i k w/\(bs.getD i []).getD k 0=a:=by
 unfold lenP at hk;cases i with
 | zero =>
  show w++[a]=_ ↔ w=_/\_;rw[jL hk];constructor
  ·intro h
   obtain⟨h1,h2⟩:=List.append_inj' h rfl;exact⟨h1,by simpa using h2.symm⟩
  ·rintro ⟨rfl,rfl⟩;rfl
 | succ i =>
  constructor
  ·rintro ⟨s1,x,h,hp⟩
   rw[jL hk,<- List.append_assoc]at h;obtain⟨h1,h2⟩:=List.append_inj' h rfl;exact⟨⟨s1,x,h1,hp⟩,by simpa using h2.symm⟩
  ·rintro ⟨⟨s1,x,rfl,hp⟩,rfl⟩
   exact⟨s1,x,by rw[jL hk];simp,hp⟩
theorem posP_loop {bs:List (List Nat)}{i:Nat}{w:List Nat}{a:Nat}:PosP bs (i+1) 0 (w++[a]) ↔ PosP bs (i+1) 0 w\/PosP bs i (lenP bs i) (w++[a]):=by
 constructor
 ·rintro ⟨s1,x,h,hp⟩
  rw[List.take_zero,List.append_nil]at h;rcases List.eq_nil_or_concat x with rfl|⟨x',b,rfl⟩
  ·rw[List.append_nil]at h
   exact .inr (h ▸ hp)
  ·rw[List.concat_eq_append,<- List.append_assoc]at h
   obtain⟨h1,_⟩:=List.append_inj' h rfl;exact .inl ⟨s1,x',by rw[List.take_zero,List.append_nil];exact h1,hp⟩
 ·rintro (⟨s1,x,h,hp⟩|hp)
  ·rw[List.take_zero,List.append_nil]at h
   exact⟨s1,x++[a],by rw[List.take_zero,List.append_nil,h];simp,hp⟩
  ·exact⟨w++[a],[],by simp,hp⟩
theorem posP_nil {bs:List (List Nat)}{i:Nat}:PosP bs (i+1) 0 [] ↔ PosP bs i (lenP bs i) []:=by
 constructor
 ·rintro ⟨s1,x,h,hp⟩
  rw[List.take_zero,List.append_nil]at h;have h:=h.symm;rw[List.append_eq_nil_iff]at h;rw[<- h.1];exact hp
 ·intro hp;exact⟨[],[],by simp,hp⟩
theorem cH {bs:List (List Nat)}{i k:Nat}(hk:k<lenP bs i):¬ PosP bs i (k+1) []:=by
 unfold lenP at hk;cases i with
 | zero =>
  intro h;have h:[]=(bs.getD 0 []).take (k+1):=h;have:=congrArg List.length h;rw[List.length_take]at this;have:0=min (k+1) (bs.getD 0 []).length:=this;omega
 | succ i =>
  rintro ⟨s1,x,h,_⟩;have:=congrArg List.length h;simp only[List.length_nil,List.length_append,List.length_take]at this;omega
section
variable {bs:List (List Nat)}
theorem qHU {i:Nat}(hi:i+1<bs.length):enP bs (i,lenP bs i)=true:=by simp[enP,hi]
theorem qHD {i k:Nat}(hk:k<lenP bs i):enP bs (i,k)=false:=by
 unfold enP;have:decide (k=lenP bs i)=false:=by rw[decide_eq_false_iff_not];omega
 simp[this]
theorem kQ {i:Nat}(hi:i+1<bs.length):offP bs (i+1)+0=offP bs i+lenP bs i+1:=by rw[qAX (by omega)]
theorem set_mem (h0:0<bs.length)(w:List Nat):∀ i k,i<bs.length->k<=lenP bs i->(bitP (sI (nxtB bs) (s0B bs) w) (offP bs i+k)=true ↔ PosP bs i k w):=by
 have h8:∀ (n:Nat) (w:List Nat),w.length=n->∀ i k,i<bs.length->k<=lenP bs i->(bitP (sI (nxtB bs) (s0B bs) w) (offP bs i+k)=true ↔ PosP bs i k w):=by
  intro n
  induction n with
  | zero =>
   intro w hw;have:=List.eq_nil_of_length_eq_zero hw;subst this;have hS:(oS (xX bs).length).length=(xX bs).length:=by simp[oS]
   have hm:0<(xX bs).length:=by have:(xX bs).length=yG bs+bs.length:=sK bs 0;omega
   have h7:∀ p,bitP (oS (xX bs).length) p=decide (0=p):=fun p=>by
    rw[oS,qCW (by simpa using hm)]
    have:bitP (List.replicate (xX bs).length false) p=false:=by
     unfold bitP;rw[List.getD_eq_getElem?_getD,List.getElem?_replicate];split<;>rfl
    rw[this,Bool.or_false]
   intro i
   induction i with
   | zero =>
    intro k hi hk;have hp:=rE hi hk;show bitP (s0B bs) _=true ↔ _;rw[s0B,iB h0 hS (by rw[hS];exact hp),uK,Nat.zero_add];cases k with
    | zero=>simp[sprF,h7,PosP]
    | succ k =>
     have e:=mB hi (show k<=lenP bs 0 by omega);rw[uK,Nat.zero_add]at e;rw[sprF,e,qHD (by omega),h7];simp;exact cH (by omega)
   | succ i ih =>
    intro k hi hk;have hp:=rE hi hk;show bitP (s0B bs) _=true ↔ _;rw[s0B,iB h0 hS (by rw[hS];exact hp)];cases k with
    | zero =>
     have h5:i<bs.length:=(by omega);have e:=mB h5 (Nat.le_refl (lenP bs i));have ih':=ih (lenP bs i) h5 (Nat.le_refl _);have ih':bitP (s0B bs) (offP bs i+lenP bs i)=true ↔ _:=ih';rw[s0B,iB h0 hS (by rw[hS];exact rE h5 (Nat.le_refl _))]at ih';rw[kQ hi,sprF,e,qHU hi,h7,posP_nil,<- ih'];simp
    | succ k =>
     have e:=mB hi (show k<=lenP bs (i+1) by omega);rw[<- Nat.add_assoc,sprF,e,qHD (by omega),h7];simp;exact cH (by omega)
  | succ n ihw =>
   intro w hw;have H0:w≠[]:=(by intro e;subst e;simp at hw);obtain⟨w',a,rfl⟩:∃ w' a,w=w'++[a]:=⟨w.dropLast,w.getLast H0,(List.dropLast_concat_getLast H0).symm⟩;have H2:w'.length=n:=by simpa using hw
   have ihw':=ihw w' H2;have H1:sI (nxtB bs) (s0B bs) (w'++[a])=nxtB bs (sI (nxtB bs) (s0B bs) w') a:=by simp[sI]
   rw[H1]
   generalize sI (nxtB bs) (s0B bs) w'=S at ihw'
   have hS:(yI bs (xX bs).length S a (xX bs).length).length=(xX bs).length:=uL _ _ _ _ _
   have h4:∀ p,p<(xX bs).length->(bitP (yI bs (xX bs).length S a (xX bs).length) p=true ↔ (∃ p',p=p'+1/\bitP S p'=true/\leP bs (atP bs p') a=true)\/(bitP S p=true/\stP (atP bs p)=true)):=fun p hp=>by
    rw[bL bs S a _ p hp];constructor
    ·rintro (⟨p',h1,_,h3⟩|⟨_,h2⟩)
     ·exact .inl ⟨p',h1,h3⟩
     ·exact .inr h2
    ·rintro (⟨p',h1,h3⟩|h2)
     ·exact .inl ⟨p',h1,by omega,h3⟩
     ·exact .inr ⟨hp,h2⟩
   intro i
   induction i with
   | zero =>
    intro k hi hk;have hp:=rE hi hk;show bitP (nxtB bs S a) _=true ↔ _;rw[nxtB,iB h0 hS (by rw[hS];exact hp)];cases k with
    | zero =>
     rw[uK,Nat.zero_add,sprF,h4 0 (by have:=hp;omega)];have e:=mB hi (Nat.zero_le (lenP bs 0));rw[uK,Nat.zero_add]at e;rw[e];constructor
     ·rintro (⟨p',h,_⟩|⟨_,h⟩)
      ·omega
      ·simp[stP]at h
     ·intro h
      have h:w'++[a]=(bs.getD 0 []).take 0:=h;simp at h
    | succ k =>
     have e:=mB hi (show k<=lenP bs 0 by omega);have e2:=mB hi hk;rw[uK,Nat.zero_add]at e e2;rw[uK,Nat.zero_add,sprF,e,qHD (by omega),Bool.and_false,Bool.or_false,h4 (k+1) (by rw[uK,Nat.zero_add]at hp;exact hp),e2,gW (by omega),<- ihw' 0 k hi (by omega),uK,Nat.zero_add];constructor
     ·rintro (⟨p',h1,h2,h3⟩|⟨_,h⟩)
      ·have:p'=k:=by omega
       subst this;rw[e]at h3;simp only[leP,Bool.and_eq_true,beq_iff_eq]at h3;exact⟨h2,h3.2⟩
      ·simp[stP]at h
     ·rintro ⟨h1,h2⟩
      refine .inl ⟨k,rfl,h1,?_⟩;rw[e];simp only[leP,Bool.and_eq_true,beq_iff_eq,decide_eq_true_eq];exact⟨by omega,h2⟩
   | succ i ih =>
    intro k hi hk;have hp:=rE hi hk;show bitP (nxtB bs S a) _=true ↔ _;rw[nxtB,iB h0 hS (by rw[hS];exact hp)];cases k with
    | zero =>
     have h5:i<bs.length:=(by omega);have e:=mB h5 (Nat.le_refl (lenP bs i));have e2:=mB hi (Nat.zero_le (lenP bs (i+1)));have ih':bitP (nxtB bs S a) (offP bs i+lenP bs i)=true ↔ _:=ih (lenP bs i) h5 (Nat.le_refl _);rw[nxtB,iB h0 hS (by rw[hS];exact rE h5 (Nat.le_refl _))]at ih';have h6:=hp;rw[kQ hi]at h6 e2;have h9:=ihw' (i+1) 0 hi (Nat.zero_le _);rw[kQ hi]at h9;rw[kQ hi,sprF,e,qHU hi,Bool.and_true,Bool.or_eq_true,ih',h4 _ h6,e2,posP_loop,<- h9];constructor
     ·rintro ((⟨p',h1,h2,h3⟩|⟨h2,_⟩)|h)
      ·have:p'=offP bs i+lenP bs i:=by omega
       subst this;rw[e]at h3;simp[leP]at h3
      ·exact .inl h2
      ·exact .inr h
     ·rintro (h|h)
      ·exact .inl (.inr ⟨h,by simp[stP]⟩)
      ·exact .inr h
    | succ k =>
     have e:=mB hi (show k<=lenP bs (i+1) by omega);have e2:=mB hi hk;have h6:=hp;rw[<- Nat.add_assoc]at h6 e2;rw[<- Nat.add_assoc,sprF,e,qHD (by omega),Bool.and_false,Bool.or_false,h4 _ h6,e2,gW (by omega),<- ihw' (i+1) k hi (by omega)];constructor
     ·rintro (⟨p',h1,h2,h3⟩|⟨_,h⟩)
      ·have:p'=offP bs (i+1)+k:=by omega
       subst this;rw[e]at h3;simp only[leP,Bool.and_eq_true,beq_iff_eq]at h3;exact⟨h2,h3.2⟩
      ·simp[stP]at h
     ·rintro ⟨h1,h2⟩
      refine .inl ⟨offP bs (i+1)+k,rfl,h1,?_⟩;rw[e];simp only[leP,Bool.and_eq_true,beq_iff_eq,decide_eq_true_eq];exact⟨by omega,h2⟩
 exact h8 w.length w rfl
theorem qDQ (h0:0<bs.length)(s:List Nat):∀ i,i<bs.length->((∃ s1 r,s=s1++r/\PosP bs i (lenP bs i) s1/\TlN (bs.drop (i+1)) r) ↔ PatN bs s)
 | 0,_=>by
  match bs,h0 with
  | b::us,_ =>
   constructor
   ·rintro ⟨s1,r,rfl,h1,h2⟩
    have h1:s1=b.take b.length:=h1
    rw[List.take_length]at h1
    exact⟨r,by rw[h1],h2⟩
   ·rintro ⟨r,rfl,h⟩
    exact⟨b,r,rfl,by show b=b.take b.length;rw[List.take_length],h⟩
 | i+1,hi=>by
  rw[<- qDQ h0 s i (by omega)]
  have hd:bs.drop (i+1)=bs.getD (i+1) []::bs.drop (i+1+1):=by
   rw[List.drop_eq_getElem_cons hi,zG hi]
  constructor
  ·rintro ⟨s1,r,rfl,⟨t,x,h1,h2⟩,h3⟩
   unfold lenP at h1;rw[List.take_length]at h1;exact⟨t,x++bs.getD (i+1) []++r,by rw[h1];simp,h2,by rw[hd];exact⟨x,r,rfl,h3⟩⟩
  ·rintro ⟨s1,r,rfl,h2,h3⟩
   rw[hd]at h3;obtain⟨p,r',rfl,h4⟩:=h3;exact⟨s1++p++bs.getD (i+1) [],r',by simp,⟨s1,p,by unfold lenP;rw[List.take_length],h2⟩,h4⟩
def finP (bs:List (List Nat))(S:List Bool):Bool:=bitP S (offP bs (bs.length - 1)+lenP bs (bs.length - 1))
theorem finP_pat (h0:0<bs.length)(w:List Nat):finP bs (sI (nxtB bs) (s0B bs) w)=true ↔ PatN bs w:=by
 rw[finP,set_mem h0 w _ _ (by omega) (Nat.le_refl _),<- qDQ h0 w (bs.length - 1) (by omega),List.drop_eq_nil_of_le (by omega)];constructor
 ·intro h;exact⟨w,[],by simp,h,rfl⟩
 ·rintro ⟨s1,r,rfl,h,h2⟩
  have h2:r=[]:=h2;rw[h2,List.append_nil];exact h
end
open Go.Maps Go.RowKit
def qY (l:List (Nat×Nat)):List Value:=l.flatMap fun x=>[.int .i64 (x.1:Int),.int .i64 (x.2:Int)]
theorem posVals_snoc (l:List (Nat×Nat))(x:Nat×Nat):qY (l++[x])=qY l++[.int .i64 (x.1:Int),.int .i64 (x.2:Int)]:=by simp[qY]
theorem elem_pos:ElemN Try.prog 149 152 2 (.agg #[.int .i64 0,.int .i64 0]) 16:=⟨by kernel_rfl,by kernel_rfl,by rfl,by decide⟩
theorem elem_brow:ElemN Try.prog 102 39 1 (.slice none 0 0) 24:=⟨by kernel_rfl,by kernel_rfl,by rfl,by decide⟩
structure PosAt (w:World)(b:Nat)(l:List (Nat×Nat)):Prop where
 lt:b<w.heap.size
 x0:∀ i,i<l.length->w.cell? ⟨b,i * 2,none⟩=some (.int .i64 (((l.getD i (0,0)).1:Nat):Int))
 x1:∀ i,i<l.length->w.cell? ⟨b,i * 2+1,none⟩=some (.int .i64 (((l.getD i (0,0)).2:Nat):Int))
theorem PosAt.kept {w w':World}{b:Nat}{l:List (Nat×Nat)}{row:Option Nat}(h:PosAt w b l)(hg:w.grownBy w' row)(hr:row≠some b):PosAt w' b l :=
 ⟨Nat.lt_of_lt_of_le h.lt hg.size,fun i hi=>(World.cell?_of_block (hg.block _ h.lt (fun e=>hr e.symm))).trans (h.x0 i hi),fun i hi=>(World.cell?_of_block (hg.block _ h.lt (fun e=>hr e.symm))).trans (h.x1 i hi)⟩
theorem lL:∀ (l:List (Nat×Nat)) (i:Nat),i<l.length->(qY l)[i * 2]?=some (.int .i64 (((l.getD i (0,0)).1:Nat):Int))/\(qY l)[i * 2+1]?=some (.int .i64 (((l.getD i (0,0)).2:Nat):Int))
 | [],i,hi=>by simp at hi
 | x::l,0,_=>⟨rfl,rfl⟩
 | x::l,i+1,hi=>by
  have h:=lL l i (by simpa using hi)
  have e:qY (x::l)=.int .i64 (x.1:Int)::.int .i64 (x.2:Int)::qY l:=rfl
  rw[e,show (i+1) * 2=i * 2+1+1 by omega,show i * 2+1+1+1=(i * 2+1)+1+1 by omega]
  simpa using h
theorem PosAt.of_owns {w:World}{base e n g cap:Nat}{l:List (Nat×Nat)}(h:w.ownsRow base e 2 (.slice (some ⟨g,0,none⟩) n cap) n (qY l)):PosAt w g l:=by
 have h0:∀ j,(⟨g,0,none⟩:Addr).add j=⟨g,j,none⟩:=fun j=>by unfold Addr.add;split<;>simp_all
 refine⟨(h.lt g rfl).2,fun i hi=>?_,fun i hi=>?_⟩
 ·have:=h.cells (g:=g) rfl (i * 2) _ (lL l i hi).1
  rwa [h0]at this
 ·have:=h.cells (g:=g) rfl (i * 2+1) _ (lL l i hi).2
  rwa [h0]at this
theorem owns_some2 {w:World}{base e n sc:Nat}{sa:Option Addr}{xs:List Value}(h:w.ownsRow base e 2 (.slice sa n sc) n xs)(hn:0<n):∃ kb,sa=some ⟨kb,0,none⟩/\n<=sc/\sc<=maxLen:=by
 rcases h.2 with ⟨h',h0⟩|⟨g,cap,cur,h1,hb,hg,hnc,hcm,_⟩
 ·omega
 ·simp only[Value.slice.injEq]at h1
  obtain⟨rfl,-,rfl⟩:=h1;exact⟨g,rfl,hnc,hcm⟩
def numP (l:List (Nat×Nat))(x:Nat×Nat):Option Nat:=if x∈l then some (l.idxOf x) else none
theorem numP_snoc {l:List (Nat×Nat)}{x:Nat×Nat}(h:x ∉ l):(fun q=>if q=x then some l.length else numP l q)=numP (l++[x]):=by
 funext q;unfold numP;by_cases e:q=x
 ·subst e
  rw[if_pos rfl,if_pos (by simp),List.idxOf_append,if_neg h];simp
 ·rw[if_neg e]
  by_cases hq:q∈l
  ·rw[if_pos hq,if_pos (by simp[hq]),List.idxOf_append,if_pos hq]
  ·rw[if_neg hq,if_neg (by simp[hq,e])]
theorem gX (bs:List (List Nat)):(xX bs).Nodup:=cJ bs 0
theorem nI (bs:List (List Nat)):(xX bs).length=yG bs+bs.length:=sK bs 0
theorem posOf_idx {bs:List (List Nat)}{i k:Nat}(hi:i<bs.length)(hk:k<=lenP bs i):(xX bs).idxOf (i,k)=offP bs i+k:=by
 obtain⟨h1,h2⟩:=List.getElem?_eq_some_iff.1 (nJ hi hk);rw[<- h2];exact(gX bs).idxOf_getElem _ h1
theorem numP_get {bs:List (List Nat)}{i k:Nat}(hi:i<bs.length)(hk:k<=lenP bs i):((numP (xX bs) (i,k)).getD 0:Nat)=offP bs i+k:=by
 unfold numP;rw[if_pos (List.mem_of_getElem? (nJ hi hk)),Option.getD_some,posOf_idx hi hk]
theorem cI {bs:List (List Nat)}{i k:Nat}(hi:i<bs.length)(hk:k<=lenP bs i):(xX bs).take (offP bs i+k)++[(i,k)]=(xX bs).take (offP bs i+k+1):=by
 obtain⟨h1,h2⟩:=List.getElem?_eq_some_iff.1 (nJ hi hk);rw[List.take_succ_eq_append_getElem h1,h2]
theorem posOf_fresh {bs:List (List Nat)}{i k:Nat}(hi:i<bs.length)(hk:k<=lenP bs i):(i,k) ∉ (xX bs).take (offP bs i+k):=by
 intro h;have hn:=(gX bs).sublist (List.take_sublist (offP bs i+k+1) _);rw[<- cI hi hk,List.nodup_append]at hn;exact hn.2.2 _ h _ (by simp) rfl
end Go.Proofs.Ytjfdomfendbhfaa
namespace Go.Proofs.Ytjfdomfendbhfaa
open Go.RowKit
theorem gR (B : Nat)(w : World)(v : Value)(bs : List ByteArray)(letters : Int)(h : Row B w v (txtV bs))(hs : ∀ i (hi : i < bs.length), bs[i].size ≤ maxLen):
    Calls Try.prog 33 #[.agg #[v], .int .i64 letters] w fun e w' => e = .returned (.int .i64 (patW bs letters)) ∧ w.grownBy w' none := by
  have hlm := h.len_le
  rw [zX] at hlm
  have hlm' : bs.length ≤ 9223372036854775807 := by unfold maxLen at hlm; omega
  have H := Kh h; have HS := Kh hs
  obtain ⟨a, cap, rfl⟩ := h.shape
  rw [zX] at H ⊢
  clear h hs hlm
  by_cases h1 : letters < 1 ∨ 6 < letters
  · have e1 : decide (1 ≤ letters ∧ letters ≤ 6) = false := by rw [decide_eq_false_iff_not]; omega
    have H1 := Kh h1
    clear h1
    go_enter Try.func33, Try.ntmps33
    go_wp2_with fail
    refine (yK _ letters).mono ?_
    rintro e w' ⟨rfl, rfl⟩
    rw [e1]
    go_wp2
    go_ret
    exact ⟨yA (by rw [patW, if_pos H1.out]), Ga _ _ _⟩
  have e1 : decide (1 ≤ letters ∧ letters ≤ 6) = true := by rw [decide_eq_true_eq]; omega
  go_enter Try.func33, Try.ntmps33
  go_wp2_with fail
  refine (yK _ letters).mono ?_
  rintro e w' ⟨rfl, rfl⟩
  rw [e1]
  go_wp2
  go_loopg [5, 7, 16] bs.length (fun gh t a7 i wr => w.alloc (.cells #[.slice a bs.length cap] 28) = wr ∧ ∃ k : Nat, gh + k = bs.length ∧ i = .int .i64 k ∧ t = .int .i64 (totW (bs.take k)))
  case atStart => exact ⟨rfl, 0, rfl, rfl, rfl⟩
  case round =>
    obtain ⟨hw, k, hgh, rfl, rfl⟩ := hrel
    have HGH := Kh hgh
    clear hgh
    by_cases hlt : k < bs.length
    · have hlt' : (k : Int) < bs.length := by omega
      obtain ⟨kb, off, kc, e, _, hk1, hk2, hkr⟩ := (H.out.kept (Ga w (.cells #[.slice a bs.length cap] 28) none) (by simp)).some_ (by rw [zX]; omega)
      rw [hw] at hkr
      rw [zX] at e hk1
      simp only [Value.slice.injEq] at e
      obtain ⟨rfl, _, rfl⟩ := e
      have hc := vU hkr k hlt
      have HS2 := Kh (kD bs k hlt)
      obtain ⟨u, hu⟩ : ∃ u, u = bs.getD k ⟨#[]⟩ := ⟨_, rfl⟩
      have hus : u.size ≤ 9223372036854775807 := by
        rw [hu, zG hlt]; have := HS.out k hlt; unfold maxLen at this; omega
      rw [← hu] at hc HS2
      have HW := Kh hw
      clear hkr hu hw
      go_wp2
      go_roundg (bs.length - (k + 1))
      case measure => have := HGH.out; omega
      case rel => exact ⟨HW.out, k + 1, by have := HGH.out; omega, by go_num, by rw [HS2.out]⟩
    · have hkn : k = bs.length := by have := HGH.out; omega
      have HT : Hid (totW (bs.take k) = totW bs) := Kh (by rw [hkn, List.take_length])
      rw [HT.out]
      have hkn' : ¬ (k : Int) < bs.length := by omega
      have HG : Hid (w.grownBy wr none) := Kh (by rw [← hw]; exact Ga _ _ _)
      have hb := heap_alloc_new w (.cells #[.slice a bs.length cap] 28)
      rw [hw] at hb
      have c0 : wr.cell? ⟨w.heap.size, 0, none⟩ = some (.slice a bs.length cap) := by simpa using zH hb 0 (by simp)
      have HR : Hid (Row B wr (.slice a bs.length cap) (txtV bs)) := Kh (H.out.kept HG.out (by simp))
      clear hkn hw hb HGH
      obtain ⟨tw, htw⟩ : ∃ tw, tw = totW bs := ⟨_, rfl⟩
      rw [← htw]
      have HTW := Kh htw
      clear htw
      by_cases h3 : 8 < bs.length
      · have h3' : (8 : Int) < bs.length := by omega
        go_wp2
        go_ret
        exact ⟨yA (by rw [patW, if_neg (by omega), if_pos h3]), HG.out⟩
      have h3' : ¬ (8 : Int) < bs.length := by omega
      by_cases h4 : 64 < tw
      · go_wp2
        go_ret
        exact ⟨yA (by rw [patW, if_neg (by omega), if_neg (by omega), if_pos (by rw [← HTW.out]; exact h4)]), HG.out⟩
      by_cases h5 : bs.length = 0
      · have h5' : ((bs.length : Int) == 0) = true := by simp [h5]
        have H5 := Kh h5; clear h5
        go_wp2
        go_ret
        exact ⟨yA (by rw [patW, if_neg (by omega), if_neg (by omega), if_neg (by rw [← HTW.out]; omega), if_pos H5.out]), HG.out⟩
      have h5' : ((bs.length : Int) == 0) = false := by rw [beq_eq_false_iff_ne]; omega
      go_wp2
      go_loopg [8, 9, 40] bs.length (fun gh a8 a9 i wq => wr = wq ∧ ∃ k : Nat, gh + k = bs.length ∧ i = .int .i64 k ∧ wX bs.length letters k (bs.drop k) = wX bs.length letters 0 bs)
      case atStart => exact ⟨rfl, 0, rfl, rfl, rfl⟩
      case round =>
        obtain ⟨rfl, j, hgh, rfl, hok⟩ := hrel
        have HGH := Kh hgh; have HOK := Kh hok
        clear hgh hok
        by_cases hj : j < bs.length
        · have hj' : (j : Int) < bs.length := by omega
          obtain ⟨kb, off, kc, e, _, hk1, hk2, hkr⟩ := HR.out.some_ (by rw [zX]; omega)
          rw [zX] at e hk1
          simp only [Value.slice.injEq] at e
          obtain ⟨rfl, _, rfl⟩ := e
          have hc := vU hkr j hj
          obtain ⟨u, hu⟩ : ∃ u, u = bs.getD j ⟨#[]⟩ := ⟨_, rfl⟩
          have hus : u.size ≤ maxLen := by rw [hu, zG hj]; exact HS.out j hj
          rw [← hu] at hc
          have HU : Hid (u = bs[j]) := Kh (by rw [hu, zG hj])
          clear hkr hu
          go_wp2_with (go_at_call 43; refine (valid01_any u letters _ hus).mono ?_; rintro e w' ⟨rfl, rfl⟩)
          all_goals first
            | (go_ret
               exact ⟨yA (by rw [fA (by omega) (by omega) (by rw [← HTW.out]; omega) (by omega), cW hj (by rw [← HU.out]; first | exact fI (by assumption) (by assumption) (List.isEmpty_iff.2 (by assumption)) | exact fJ (by assumption)) HOK.out]; rfl), HG.out⟩)
            | (go_roundg (bs.length - (j + 1))
               case rel => exact ⟨rfl, j + 1, by have := HGH.out; omega, by go_num, fD hj (fH (by rw [← HU.out]; assumption) (by rw [← HU.out]; first | (left; omega) | (right; exact Bool.eq_false_iff.2 (fun e => absurd (List.isEmpty_iff.1 e) (by assumption))))) HOK.out⟩
               case measure => have := HGH.out; omega)
        · have hj' : ¬ (j : Int) < bs.length := by omega
          have e : wX bs.length letters j (bs.drop j) = true := by rw [List.drop_eq_nil_of_le (by omega)]; rfl
          have HE := Kh e
          clear e
          go_wp2
          go_ret
          exact ⟨yA (by rw [fA (by omega) (by omega) (by rw [← HTW.out]; omega) (by omega), ← HOK.out, HE.out]; rfl), HG.out⟩
end Go.Proofs.Ytjfdomfendbhfaa
