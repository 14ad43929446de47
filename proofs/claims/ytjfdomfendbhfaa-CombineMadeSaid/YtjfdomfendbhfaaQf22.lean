/- Part 22 of the proof. -/
import Derived.Test.YtjfdomfendbhfaaQf21
import Derived.BigRegion
import Derived.Deep.RegionHeld
import Derived.Deep.DeepCutAuto
set_option linter.unusedVariables false
set_option linter.unusedSimpArgs false
set_option maxRecDepth 100000
set_option maxHeartbeats 16000000
namespace Go.Proofs.Ytjfdomfendbhfaa
open Go.RowKit Go.Maps
def RwOk (ds:List DfaV)(L:List (List Nat))(x row:List Nat)(a:Nat):Prop:=row.length=a/\∀ b,b<a->row.getD b 0=L.idxOf (nxtT ds x b)/\nxtT ds x b∈L
theorem RwOk.more {ds : List DfaV}{L : List (List Nat)}{x row : List Nat}{a : Nat}(h : RwOk ds L x row a)(z : List Nat): RwOk ds (L ++ [z]) x row a :=
 ⟨h.1, fun b hb => by
  obtain⟨h1, h2⟩ := h.2 b hb
  exact⟨by rw[h1, List.idxOf_append, if_pos h2], List.mem_append_left _ h2⟩⟩
theorem RwOk.push {ds:List DfaV}{L:List (List Nat)}{x row:List Nat}{a:Nat}(h:RwOk ds L x row a)(hm:nxtT ds x a∈L):RwOk ds L x (row++[L.idxOf (nxtT ds x a)]) (a+1):=by
 refine⟨by rw[List.length_append,h.1];rfl,fun b hb=>?_⟩;by_cases e:b=a
 ·subst e
  refine⟨?_,hm⟩;rw[List.getD_eq_getElem?_getD,List.getElem?_append_right (by rw[h.1];exact Nat.le_refl _),h.1,Nat.sub_self];rfl
 ·rw[yY (by rw[h.1];omega)]
  exact h.2 b (by omega)
def TOk (ds:List DfaV)(k:Nat)(L T:List (List Nat))(i:Nat):Prop:=T.length=i/\∀ j,j<i->RwOk ds L (L.getD j []) (T.getD j []) k
theorem TOk.more {ds:List DfaV}{k i:Nat}{L T:List (List Nat)}(h:TOk ds k L T i)(hi:i<=L.length)(z:List Nat):TOk ds k (L++[z]) T i:=⟨h.1,fun j hj=>by
 rw[yY (by omega)]
 exact(h.2 j hj).more z⟩
theorem TOk.push {ds:List DfaV}{k i:Nat}{L T:List (List Nat)}{row:List Nat}(h:TOk ds k L T i)(hr:RwOk ds L (L.getD i []) row k):TOk ds k L (T++[row]) (i+1):=by
 refine⟨by rw[List.length_append,h.1];rfl,fun j hj=>?_⟩;by_cases e:j=i
 ·subst e
  have e1:(T++[row]).getD j []=row:=by rw[List.getD_eq_getElem?_getD,List.getElem?_append_right (by rw[h.1];exact Nat.le_refl _),h.1,Nat.sub_self];rfl
  rw[e1];exact hr
 ·rw[yY (by rw[h.1];omega)]
  exact h.2 j (by omega)
def PrRet (w:World)(pv:Value)(ds:List DfaV)(k:Nat)(e:Ending)(w':World):Prop :=
 (Over ds k/\e=.returned (.tuple #[.agg #[.slice none 0 0,.slice none 0 0,.slice none 0 0],.int .i64 3])/\w.grownBy w' none)\/∃ B v L T,e=.returned (.tuple #[v,.int .i64 0])/\w.heap.size<=B/\qIF B w' v pv L T/\BfsD (nxtT ds) k (st0T ds) L/\L.length<=4000/\TOk ds k L T L.length/\w.grownBy w' none
theorem rproduct_any (Bd:Nat)(w:World)(v:Value)(ds:List DfaV)(k:Nat)(hB:Bd<=w.heap.size)(h:DsIn Bd w v ds)(hok:OkT ds k)(hk1:1<=k)(hk6:k<=6)(hl:ds.length<=400):
  Calls Try.prog 52 #[v,.int .i64 (k:Int)] w (PrRet w v ds k):=by
 obtain⟨da,dc,rfl⟩:=h.shape;obtain⟨np,l5⟩:∃ n,n=ds.length:=⟨_,rfl⟩;have H0:=Kh l5;have H:=Kh h;have e0:=Kh hok;have n8:=Kh (key_kbR (n:=np) (by omega));have j7:ds.length<=400:=hl;rw[<- l5]at hl H ⊢;have t6:=@run_makeMap Try.prog;clear h hok l5 j7;have m6:Hid ((st0T ds).length=np):=Kh (by rw[sJ,H0.out]);go_enter Try.func52,Try.ntmps52;go_upto_region 3 with fail;obtain⟨wA,f0⟩:∃ wA,wA=w.alloc (.cells #[.slice none 0 0,.slice none 0 0,.slice none 0 0] 88):=⟨_,rfl⟩;rw[<- f0];have j4:wA.heap.size=w.heap.size+1:=by rw[f0,zO]
 obtain⟨o,ho⟩:∃ o,o=w.heap.size+1:=⟨_,rfl⟩;have d6:=heap_alloc_new wA (.cells #[.slice da np dc,.slice none 0 0,.slice none 0 0] 88);have j8:=Ga wA (.cells #[.slice da np dc,.slice none 0 0,.slice none 0 0] 88) none;obtain⟨wB,k9⟩:∃ wB,wB=wA.alloc (.cells #[.slice da np dc,.slice none 0 0,.slice none 0 0] 88):=⟨_,rfl⟩;have o1:wB.heap.size=w.heap.size+1+1:=by rw[k9,zO,j4]
 rw[<- k9]at d6 j8 ⊢;rw[j4,<- ho]at d6;have b0:=Ga wB (.cells #[] 3) none;have c7:=heap_alloc_new wB (.cells #[] 3);obtain⟨wC,o2⟩:∃ wC,wC=wB.alloc (.cells #[] 3):=⟨_,rfl⟩;rw[<- o2]at b0 c7 ⊢;have h0:=qBR (base:=wA.heap.size) c7 j8.size;have a2:=Kh (zA d6 b0 (by simp));have r1:=Kh (zB j8 b0 (by simp));have h7:=Kh h0;have s7:=Kh f0;have HO:Hid (wA.heap.size=o):=Kh (by rw[j4,ho]);have j1:Hid (w.grownBy wA none):=Kh (by rw[f0];exact Ga _ _ _);obtain⟨g0,m0⟩:∃ g,g=w.heap.size+1+1:=⟨_,rfl⟩;rw[<- m0];rw[<- ho];rw[o1,<- m0]at h7;clear f0 ho d6 j8 k9 b0 c7 o2 h0 m0 j4 o1;go_wp2
 go_loopg [7,9,24] np (fun gh a7 a9 a24 wr=>∃ (j:Nat) (s:Option Addr) (c:Nat),gh+j=np/\a24=.int .i64 j/\a7=.slice s j c/\wr.ownsRow wA.heap.size 3 1 (.slice s j c) j (nats ((st0T ds).take j))/\wr.heap[o]?=some (.cells #[.slice da np dc,.slice none 0 0,.slice none 0 0] 88 (0,0))/\wA.grownBy wr none)
 case atStart=>exact⟨0,some ⟨g0,0,none⟩,0,rfl,rfl,rfl,h7.out,a2.out,r1.out⟩
 case round =>
  clear h7 a2 r1;obtain⟨j,s,c,i6,rfl,rfl,h0,d6,hg⟩:=hrel;have e9:=Kh i6;have h7:=Kh h0;have a2:=Kh d6;have HG:=Kh hg;obtain⟨w3,rfl⟩:∃ w3:World,w3=wr:=⟨_,rfl⟩;clear i6 d6;by_cases hj:j<np
  ·have l9:(j:Int)<np:=by omega
   obtain⟨b,off,cap,e,m2,m1,hd⟩:=(H.out.kept (zB j1.out hg (by simp)) (by simp)).head (by rw[<- H0.out];omega);rw[<- H0.out]at e m2;simp only[Value.slice.injEq,true_and]at e;obtain⟨rfl,rfl⟩:=e;have r9:dc<=9223372036854775807:=by unfold maxLen at m1;omega
   obtain⟨n,fb,fo,fc,nb,no,nc,RB,RO,RC,hv,h5,c1,c2,c3,c4,j9⟩:=hd.dfa e0.out (by rw[<- H0.out];exact hj);obtain⟨x,hx⟩:∃ x,x=st0 (ds.getD j dN):=⟨_,rfl⟩;rw[<- hx]at c2;have HX:=Kh hx;clear hd j9 hv hx h0 hg;go_upto_region 6 with fail;have H4:=Ga w3 (.cells #[.int .i64 (k:Int),.int .i64 (x:Int),.slice (some ⟨fb,fo,none⟩) n fc,.slice (some ⟨nb,no,none⟩) n nc] 42) none;have d7:=heap_alloc_new w3 (.cells #[.int .i64 (k:Int),.int .i64 (x:Int),.slice (some ⟨fb,fo,none⟩) n fc,.slice (some ⟨nb,no,none⟩) n nc] 42);obtain⟨w5,H6⟩:∃ w5,w5=w3.alloc (.cells #[.int .i64 (k:Int),.int .i64 (x:Int),.slice (some ⟨fb,fo,none⟩) n fc,.slice (some ⟨nb,no,none⟩) n nc] 42):=⟨_,rfl⟩;obtain⟨db,d2⟩:∃ b,b=w3.heap.size:=⟨_,rfl⟩;rw[<- H6]at H4;rw[<- H6,<- d2]at d7;rw[<- H6,<- d2];obtain⟨_,d1,_,_⟩:=qDU d7;have o8:=yM h7.out H4 (by simp);have p4:=zA a2.out H4 (by simp);have p2:=zB HG.out H4 (by simp);have n5:=Kh o8;have r5:=Kh p4;have r2:=Kh p2;clear c1 c2 c3 c4 H6 d2 H4 d7 o8 p4 p2 h7 a2 HG;go_upto_region 7 with (first|(at_builtin;refine uR rfl _ _ _ rfl yP.toN wA.heap.size (.slice s j c) j _ rfl n5.out [.int .i64 (x:Int)] rfl rfl ?z1 ?z2 ?z3 ?z4 ?_;(case z1=>(intro v hv;simp only[List.mem_cons,List.not_mem_nil,or_false]at hv;subst hv;rfl));(case z2=>(unfold maxLen;omega));(case z3=>(show (j+1) * 8<=140737488355328;omega));(case z4=>exact r2.out.size);intro sn cn wM h0 H5 H8;(have t1:=Kh h0);(have r0:=Kh H5);clear h0 H5 H8)|fail)
   go_wp2;go_roundg (np - (j+1))
   case measure=>have:=e9.out;omega
   case rel =>
    refine⟨j+1,sn,cn,by have:=e9.out;omega,by go_num,rfl,?_,?_,?_⟩
    ·have h1:=t1.out
     rw[<- vQ,HX.out,<- gN (by rw[<- H0.out];exact hj),<- zR (by rw[m6.out];exact hj)]at h1;exact h1
    ·exact zA r5.out r0.out (zS n5.out r5.out (by decide))
    ·exact zB r2.out r0.out (fun y e=>(n5.out.lt y e).1)
  ·have l8:np=j:=by have:=e9.out;omega
   have l9:¬ (j:Int)<np:=(by omega);rw[List.take_of_length_le (by rw[m6.out];omega)]at h0;subst l8;have b5:=Kh h0;have r3:=Kh hg;have p1:=zJ a2.out 1 (by simp);have f1:=zE a2.out 1;have o7:=zI a2.out;simp only[List.getElem_toArray,List.getElem_cons_zero,List.getElem_cons_succ]at p1;clear h0 hg h7 HG hj;go_upto_region 9 with fail;rw[<- World.setCell_alloc_past _ _ _ _ o7];obtain⟨w5,H6⟩:∃ w5,w5=(w3.alloc (.cells #[.slice s np c] 34)).setCell ⟨o,1,none⟩ (.slice (some ⟨w3.heap.size,0,none⟩) 1 1):=⟨_,rfl⟩;rw[<- H6];obtain⟨X,d5,l1,p5⟩:=rbox_start r3.out b5.out a2.out (by have:=HO.out;omega) H6;obtain⟨sb,o4⟩:∃ x,x=w3.heap.size:=⟨_,rfl⟩;rw[<- o4]at d5;have r4:=Kh d5;have q4:=Kh l1;have p6:=Kh p5;have a4:=Ga w5 (.map #[] 0) none;have l7:=MapK.made 9 (qK np) KR w5;obtain⟨w6,j5⟩:∃ w6,w6=w5.alloc (.map #[] 0):=⟨_,rfl⟩;obtain⟨mb,l6⟩:∃ b,b=w5.heap.size:=⟨_,rfl⟩;rw[<- j5,<- l6]at l7;rw[<- j5]at a4;have p7:=Kh j5;have n7:=Kh l6;have k6:=Kh a4;have q9:=Kh l7
   have q3:Hid (qK np (st0T ds)):=Kh (by
    refine⟨m6.out,fun x hx=>?_⟩;obtain⟨i,hi,rfl⟩:=List.getElem_of_mem hx;have:=e0.out.small e0.out.in0 i (by rw[sJ]at hi;exact hi)
    rwa [zG hi]at this)
   have a1:Hid (Row w5.heap.size w5 (.slice s np c) (nats (st0T ds))):=Kh (l1.2 0 (by simp) (by simp)).1.row;have H3:Hid (Calls Try.prog 80 #[.slice s np c] w6 fun e w'=>e=.returned (.string (txtT (kbR (st0T ds))))/\w6.grownBy w' none):=Kh (cY w5.heap.size w6 _ (st0T ds) np a4.size (a1.out.kept a4 (by simp)) q3.out (by omega));obtain⟨T0,m3⟩:∃ t,t=txtT (kbR (st0T ds)):=⟨_,rfl⟩;rw[<- m3]at H3;have s9:=Kh m3;clear a4 l7 j5 l6 m3 H6 d5 l1 p5 o4 p1 f1 o7 b5 r3 a2;go_wp2_with fail;rw[<- n7.out,<- p7.out];refine H3.out.mono ?_;rintro e w7 ⟨rfl,d0⟩;have k5:=Kh (q9.out.kept d0 (by simp));have j2:=Kh (zB k6.out d0 (by simp));clear d0 H3;obtain⟨w8,r8,f8,i5,b1⟩:=k5.out.upd n8.out (z:=st0T ds) (y:=0) (by unfold maxLen;omega) q3.out (by omega);have f7:Sem.run Try.prog (Instr.mapUpdate 129 (.map (some mb)) (.string T0) (.int .i64 0)) w7=.ok r8 w8:=by rw[s9.out];exact f8
   clear f8;go_wp2;clear f7
   have i2:(fun q=>if q=st0T ds then some 0 else (none:Option Nat))=numE [st0T ds]:=by
    funext q;unfold numE;by_cases e:q=st0T ds
    ·rw[if_pos e,if_pos (by simp[e]),e];simp
    ·rw[if_neg e,if_neg (by simpa using e)]
   have i4:MapK 9 (qK np) KR w8 mb 1 1 (numE [st0T ds]):=(by rw[<- i2];exact i5);have q8:Hid (RPr wA wA.heap.size o mb np (.slice da np dc) [st0T ds] [] 1 0 [] w8):=Kh (rpr_start r4.out q4.out p6.out (by rw[n7.out];exact Nat.le_refl _) (xF j2.out b1 (.inl rfl) (.inr (.inl rfl))) i4 (by omega));clear i5 i4 b1 i2 r4 q4 p6 k5 j2 a1 q9 k6 p7 n7;have m8:Hid (wA.heap[w.heap.size]?=some (.cells #[.slice none 0 0,.slice none 0 0,.slice none 0 0] 88 (0,0))):=Kh (by rw[s7.out];exact heap_alloc_new w _)
   go_loopg [11,12,13,14,15,16,17,18,56] 4000 (fun gh v11 a12 a13 a14 a15 a16 a17 a18 a56 wr=>∃ (s:Nat) (L T:List (List Nat)),gh+s=4000/\v11=.int .i64 s/\RPr wA wA.heap.size o mb np (.slice da np dc) L T L.length s [] wr/\BfsI (nxtT ds) k (st0T ds) L s 0/\L.length<=4000/\TOk ds k L T s)
   case atStart=>exact⟨0,[st0T ds],[],rfl,rfl,q8.out,BfsI.start,by simp,⟨rfl,fun j hj=>by omega⟩⟩
   case round =>
    clear q8;obtain⟨wo,rfl⟩:∃ w2:World,w2=wr:=⟨_,rfl⟩;obtain⟨i,L,T,i6,rfl,hp,b3,b4,e5⟩:=hrel;have d8:=Kh e5;have e9:=Kh i6;have HP:=Kh hp;have b6:=Kh b3;have a6:=b3.le;obtain⟨m,hm⟩:∃ m,m=L.length:=⟨_,rfl⟩;rw[<- hm]at a6 b4 HP;have H1:=Kh hm;obtain⟨sS,cS,sN,cN,h9,_⟩:=HP.out.cells;obtain⟨x0,x1,x2⟩:=zH h9;clear i6 hp b3 hm e5;by_cases hs:i<m
    case neg =>
     have o5:¬ (i:Int)<m:=(by omega);have r7:m=i:=by omega
     have HD:Hid (BfsD (nxtT ds) k (st0T ds) L):=Kh (b6.out.done (by rw[<- H1.out];omega));have H7:=zA m8.out HP.out.facts.1 (by simp);obtain⟨y0,y1,y2⟩:=zH H7;have f40:=zE H7 0;have f41:=zE H7 1;have f42:=zE H7 2;have s0:=zI H7;obtain⟨tS,tN,dS,dN',i9,b8⟩:=HP.out.val;have d4:=i9.symm.trans h9;simp only[Option.some.injEq,Obj.cells.injEq,and_true]at d4;have i8:=congrArg Array.toList d4;simp only[List.cons.injEq,true_and,and_true]at i8;obtain⟨e1,e2⟩:=i8;rw[e1,e2]at b8;have m4:=Kh b8;clear i9 d4 e1 e2 b8;subst r7;go_wp2;have g1:=zD (zD (zC wo ⟨w.heap.size,0,none⟩ (.slice da np dc)) (zC _ ⟨w.heap.size,1,none⟩ (.slice sS m cS))) (zC _ ⟨w.heap.size,2,none⟩ (.slice sN m cN));have z1:=heap_setCell_same _ w.heap.size 2 _ _ (.slice sN m cN) (heap_setCell_same _ w.heap.size 1 _ _ (.slice sS m cS) (heap_setCell_same wo w.heap.size 0 _ _ (.slice da np dc) H7));obtain⟨w9,l0⟩:∃ w9,w9=((wo.setCell ⟨w.heap.size,0,none⟩ (.slice da np dc)).setCell ⟨w.heap.size,1,none⟩ (.slice sS m cS)).setCell ⟨w.heap.size,2,none⟩ (.slice sN m cN):=⟨_,rfl⟩;rw[<- l0]at g1 z1 ⊢;simp only[Array.setIfInBounds,List.size_toArray,List.length_cons,List.length_nil]at z1;obtain⟨q0,q1,q2⟩:=zH z1;refine bodyPost_ret (v:=.tuple #[.agg #[.slice da np dc,.slice sS m cS,.slice sN m cN],.int .i64 0]) (by simp[results,Try.results52,go_sem,q0,q1,q2,Result.andThen]) rfl ?_;refine .inr ⟨wA.heap.size,_,L,T,rfl,j1.out.size,m4.out w9 (some w.heap.size) g1 (fun j e=>by have e:w.heap.size=j:=Oj e;have:=zI m8.out;omega),HD.out,by rw[<- H1.out];exact b4,by rw[<- H1.out];exact d8.out,zB (zB j1.out HP.out.facts.1 (by simp)) g1 (fun j e=>by have e:w.heap.size=j:=Oj e;omega)⟩
    have o5:(i:Int)<m:=(by omega);have p9:Hid (i<L.length):=Kh (by rw[<- H1.out];exact hs);have q7:Hid (RPr wA wA.heap.size o mb np (.slice da np dc) L T L.length i (⟨wA.heap.size,3,.slice none 0 0,0,nats [],1⟩::[]) wo):=Kh (by have h1:=HP.out.addRow (zM wo none) (World.ownsRow_nil _ _ _ _) (e:=3) (sz:=1) (by decide);rw[<- H1.out];exact h1);have e7:Hid (L.length<=4000):=Kh (by rw[<- H1.out];exact b4);go_wp2;clear x0 x1 x2 hs o5 a6 b4 HP
    go_loopg [12,13,14,15,16,17,18,56] k (fun gh b12 b13 b14 b15 b16 b17 b18 b56 w2=>∃ (a:Nat) (L:List (List Nat)) (row:List Nat) (sr:Option Addr) (cr:Nat),gh+a=k/\b13=.int .i64 a/\b12=.slice sr a cr/\RPr wA wA.heap.size o mb np (.slice da np dc) L T L.length i (⟨wA.heap.size,3,.slice sr a cr,a,nats row,1⟩::[]) w2/\BfsI (nxtT ds) k (st0T ds) L i a/\i<L.length/\L.length<=4000/\TOk ds k L T i/\RwOk ds L (L.getD i []) row a)
    case atStart=>exact⟨0,L,[],none,0,rfl,rfl,rfl,q7.out,b6.out,p9.out,e7.out,d8.out,⟨rfl,fun b hb=>by omega⟩⟩
    case round =>
     clear q7 b6 d8 H1 p9 e7;obtain⟨w2,rfl⟩:∃ w2:World,w2=wr:=⟨_,rfl⟩;obtain⟨a,L2,row,sr,cr,H4,rfl,rfl,hp,b3,a6,b4,e5,l2⟩:=hrel;have a5:=Kh H4;have HP:=Kh hp;have b6:=Kh b3;have d8:=Kh e5;have k2:=Kh l2;have d9:=Kh a6;have e7:=Kh b4;by_cases ha:a<k
     case neg =>
      have s4:¬ (a:Int)<k:=(by omega);have s3:k=a:=by omega
      clear H4 hp b3 a6 b4 e5 l2;subst s3;obtain⟨hs,sN,cN,h0,d5,hz,h8⟩:=HP.out.pushN;have h7:=Kh h0;have n1:=Kh h8;have t8:i<4000:=(by have:=d9.out;have:=e7.out;omega);clear h0 h8;go_upto_region 12 with (first|(at_builtin;refine uR rfl _ _ _ rfl uP.toN wA.heap.size (.slice sN i cN) i hs rfl h7.out [.slice sr k cr] rfl rfl ?z1 ?z2 ?z3 ?z4 ?_;(case z1=>(intro v hv;simp only[List.mem_cons,List.not_mem_nil,or_false]at hv;subst hv;rfl));(case z2=>(unfold maxLen;omega));(case z3=>(show (i+1) * 24<=140737488355328;omega));(case z4=>exact hz);intro sn cn wM h0 H5 H8;obtain⟨p1,f1,f9⟩:=n1.out wM sn cn h0 H5 H8;(have m9:=Kh f9);clear h0 H5 H8 f9 d5)|fail)
      go_wp2;go_roundg (4000 - (i+1))
      case measure=>have:=e9.out;omega
      case rel=>exact⟨i+1,L2,T++[row],by have:=e9.out;omega,by(first|go_num|(refine congrArg _ ?_;rw[IntWalk.wrap64_in _ (by omega)];omega)),m9.out,b6.out.next d9.out,e7.out,d8.out.push k2.out⟩
     have s4:(a:Int)<k:=(by omega);have e8:=Kh (qHM b3 e0.out a6);obtain⟨x,hx⟩:∃ x,x=L2.getD i []:=⟨_,rfl⟩;rw[<- hx]at e8 k2;have HX:=Kh hx;obtain⟨m,hm⟩:∃ m,m=L2.length:=⟨_,rfl⟩;rw[<- hm]at HP b4 a6;have H1:=Kh hm;clear H4 hp b3 e5 l2 hx hm;go_upto_region 18 with fail;have b0:=Ga w2 (.cells #[] 3) none;have c7:=heap_alloc_new w2 (.cells #[] 3);obtain⟨w3,o3⟩:∃ w3,w3=w2.alloc (.cells #[] 3):=⟨_,rfl⟩;obtain⟨g1,p3⟩:∃ g,g=w2.heap.size:=⟨_,rfl⟩;rw[<- o3]at b0 c7 ⊢;have l4:=HP.out.addRow b0 (qBR (base:=w2.heap.size) c7 (Nat.le_refl _)) (by decide);rw[<- p3]at l4 ⊢;have q6:=Kh l4;have n6:Hid ((nxtT ds x a).length=np):=Kh (by rw[oF,H0.out]);clear b0 c7 o3 p3 l4 HP;go_wp2
     go_loopg [14,15,16,56] np (fun gh c14 c15 c16 c56 w4=>∃ (j:Nat) (s':Option Addr) (c':Nat),gh+j=np/\c56=.int .i64 j/\c14=.slice s' j c'/\RPr wA wA.heap.size o mb np (.slice da np dc) L2 T m i (⟨wA.heap.size,3,.slice sr a cr,a,nats row,1⟩::⟨wA.heap.size,3,.slice s' j c',j,nats ((nxtT ds x a).take j),1⟩::[]) w4)
     case atStart=>exact⟨0,some ⟨g1,0,none⟩,0,rfl,rfl,rfl,q6.out⟩
     case round =>
      clear q6;obtain⟨w4,rfl⟩:∃ w4:World,w4=wr:=⟨_,rfl⟩;obtain⟨j,s',c',p0,rfl,rfl,hp⟩:=hrel;have n9:=Kh p0;have HP:=Kh hp;clear p0;by_cases hj:j<np
      case pos =>
       have l9:(j:Int)<np:=(by omega);obtain⟨b,off,cap,e,m2,m1,hd⟩:=(H.out.kept (zB j1.out hp.facts.1 (by simp)) (by simp)).head (by rw[<- H0.out];omega);rw[<- H0.out]at e m2;simp only[Value.slice.injEq,true_and]at e;obtain⟨rfl,rfl⟩:=e;have r9:dc<=9223372036854775807:=by unfold maxLen at m1;omega
       obtain⟨n,fb,fo,fc,nb,no,nc,RB,RO,RC,hv,h5,c1,c2,c3,c4,j9⟩:=hd.dfa e0.out (by rw[<- H0.out];exact hj);have hq:x.getD j 0<n:=(by have:=e8.out.2 j (by rw[<- H0.out];exact hj);rw[hv.hn]at this;exact this);have t2:=Kh j9;have HD:=Kh hd;obtain⟨st,f6⟩:∃ y,y=st0 (ds.getD j dN):=⟨_,rfl⟩;rw[<- f6]at c2;have HQ:=Kh hq;clear hd j9 hv hp f6;go_upto_region 21 with fail;have H4:=Ga w4 (.cells #[.int .i64 (k:Int),.int .i64 (st:Int),.slice (some ⟨fb,fo,none⟩) n fc,.slice (some ⟨nb,no,none⟩) n nc] 42) none;have d7:=heap_alloc_new w4 (.cells #[.int .i64 (k:Int),.int .i64 (st:Int),.slice (some ⟨fb,fo,none⟩) n fc,.slice (some ⟨nb,no,none⟩) n nc] 42);obtain⟨w5,H6⟩:∃ w5,w5=w4.alloc (.cells #[.int .i64 (k:Int),.int .i64 (st:Int),.slice (some ⟨fb,fo,none⟩) n fc,.slice (some ⟨nb,no,none⟩) n nc] 42):=⟨_,rfl⟩;obtain⟨db,d2⟩:∃ b,b=w4.heap.size:=⟨_,rfl⟩;rw[<- H6]at H4;rw[<- H6,<- d2]at d7;rw[<- H6,<- d2];obtain⟨_,_,_,d3⟩:=qDU d7;have i0:=HP.out.grow H4;have q5:=Kh i0;have a0:=t2.out.kept H4 (by simp);have e1:=a0.hd (x.getD j 0) HQ.out;have e2:=a0.el (x.getD j 0) a HQ.out ha;have e3:=a0.cap;have e4:=a0.rcap (x.getD j 0) HQ.out;obtain⟨sS,cS,sN,cN,h9,j6⟩:=i0.cells;obtain⟨x0,x1,x2⟩:=zH h9;obtain⟨sb,rfl,s1,i7,j6⟩:=j6 (by omega);obtain⟨g,go,gc,f1,f2,f3,f4⟩:=j6 i a6 (by rw[<- HX.out];intro e;have:=e8.out.1;rw[e,<- H0.out]at this;simp at this;omega);rw[<- HX.out]at f1 f2 f4;have f5:=f4 j (by rw[e8.out.1,<- H0.out];exact hj);rw[e8.out.1,<- H0.out]at f1 f2;have x6:=Kh (i0.own (r:=⟨wA.heap.size,3,.slice s' j c',j,nats ((nxtT ds x a).take j),1⟩) (by simp));have s6:=Kh i0.facts.2.1;have x4:cS<=9223372036854775807:=by unfold maxLen at i7;omega
       have x3:gc<=9223372036854775807:=by unfold maxLen at f3;omega
       have t5:nc<=9223372036854775807:=by unfold maxLen at e3;omega
       have o6:RC (x.getD j 0)<=9223372036854775807:=by unfold maxLen at e4;omega
       have a3:nx (ds.getD j dN) (x.getD j 0) a=(nxtT ds x a).getD j 0:=(gQ (by rw[<- H0.out];exact hj)).symm;obtain⟨qq,l3⟩:∃ q,q=x.getD j 0:=⟨_,rfl⟩;rw[<- l3]at e1 e2 e4 f5 a3 o6;have t4:(qq:Int)<n:=(by rw[l3];have:=HQ.out;omega);obtain⟨rb2,c5⟩:∃ r,r=RB qq:=⟨_,rfl⟩;obtain⟨ro2,b9⟩:∃ r,r=RO qq:=⟨_,rfl⟩;obtain⟨rc2,c0⟩:∃ r,r=RC qq:=⟨_,rfl⟩;obtain⟨y,hy⟩:∃ y,y=nx (ds.getD j dN) qq a:=⟨_,rfl⟩;rw[<- c5,<- b9,<- c0]at e1;rw[<- c5,<- b9,<- hy]at e2;rw[<- c0]at e4 o6;rw[<- hy]at a3;have m7:=Kh a3;obtain⟨e3a,_⟩:=e3;obtain⟨e4a,_⟩:=e4;have t9:(i:Int)<m:=(by omega);clear a3 hy c5 b9 c0 l3 f4 j6 h9 i0 a0 d7 H4 H6 d2 i7 f3;have j0:Hid (∀ W1:World,w5.grownBy W1 none->W1.ownsRow wA.heap.size 3 1 (.slice s' j c') j (nats ((nxtT ds x a).take j))/\wA.heap.size<=W1.heap.size):=Kh (fun W1 hW=>⟨(q5.out.grow hW).own (r:=⟨wA.heap.size,3,.slice s' j c',j,nats ((nxtT ds x a).take j),1⟩) (by simp),Nat.le_trans s6.out hW.size⟩)
       have n0:Hid (∀ (W1 wM:World) (s2:Option Addr) (c2:Nat),wM.ownsRow wA.heap.size 3 1 (.slice s2 (j+1) c2) (j+1) (nats ((nxtT ds x a).take j)++[.int .i64 (y:Int)])->W1.grownBy wM (Value.slice s' j c').ownBlock->qP W1 wM (.slice s' j c') (.slice s2 (j+1) c2)->w5.grownBy W1 none->RPr wA wA.heap.size o mb np (.slice (some ⟨b,off,none⟩) np dc) L2 T m i (⟨wA.heap.size,3,.slice sr a cr,a,nats row,1⟩::⟨wA.heap.size,3,.slice s2 (j+1) c2,j+1,nats ((nxtT ds x a).take (j+1)),1⟩::[]) wM):=Kh (fun W1 wM s2 c2 h1 h2 h3 h4=>by
        have h6:=(q5.out.grow h4).app (j:=1) (r:=⟨wA.heap.size,3,.slice s' j c',j,nats ((nxtT ds x a).take j),1⟩) rfl h1 h2 h3;rw[m7.out,<- vQ,<- zR (by rw[n6.out];exact hj)]at h6
        exact h6)
       go_region_law (first|(refine tQ ?g1 (.tmp 61) (.tmp 77) 34 ?g2 yP.toN wA.heap.size (.slice s' j c') j (nats ((nxtT ds x a).take j)) ?g3 ?g4 [.int .i64 (y:Int)] w5.heap.size ?g5 (0,0) ?g6 ?g7 ?g7b ?g8 ?g9 ?g10 ?_;(case g1=>rfl);(case g2=>rfl);(case g3=>rfl);(case g4=>(refine(j0.out _ ?_).1;exact vC (o:=.cells #[.int .i64 (y:Int)] 3) rfl rfl rfl rfl));(case g5=>rfl);(case g6=>rfl);(case g7=>exact heap_alloc_new (w5.drew) _);(case g7b=>(intro u hu;simp at hu;subst hu;rfl));(case g8=>(unfold maxLen;omega));(case g9=>omega);(case g10=>(refine(j0.out _ ?_).2;exact vC (o:=.cells #[.int .i64 (y:Int)] 3) rfl rfl rfl rfl));intro s8 c8 w8 a8 b1 i3;have c6:=n0.out _ _ _ _ a8 b1 i3 (vC (o:=.cells #[.int .i64 (y:Int)] 3) rfl rfl rfl rfl);have k3:=Kh c6;clear c6 a8 b1 i3)|fail)
       all_goals
        go_wp2;go_roundg (np - (j+1))
        case measure=>have:=n9.out;omega
        case rel=>exact⟨j+1,_,_,by have:=n9.out;omega,by go_num,rfl,k3.out⟩
      case neg =>
       have l9:¬ (j:Int)<np:=(by omega);have l8:np=j:=by have:=n9.out;omega
       rw[List.take_of_length_le (by rw[n6.out];omega)]at hp;obtain⟨z,hz⟩:∃ z,z=nxtT ds x a:=⟨_,rfl⟩;have j3:z.length=np:=by rw[hz];exact n6.out
       have m5:Hid (qK np z):=Kh (by
        have h1:=e0.out.next e8.out ha;rw[<- hz]at h1;refine⟨j3,fun y hy=>?_⟩;obtain⟨q,hq,rfl⟩:=List.getElem_of_mem hy;have:=e0.out.small h1 q (by rw[<- H0.out,<- j3];exact hq)
        rwa [zG hq]at this)
       rw[<- hz]at hp;clear HP;subst l8;have k4:=Kh hp;have a1:Hid (Row w4.heap.size w4 (.slice s' np c') (nats z)):=Kh (RowX.of_owns (X:=fun _=>True) (hp.own (r:=⟨wA.heap.size,3,.slice s' np c',np,nats z,1⟩) (by simp)) (fun _ _=>trivial)).row;have H3:Hid (∀ W:World,w4.grownBy W none->Calls Try.prog 80 #[.slice s' np c'] W fun e w'=>e=.returned (.string (txtT (kbR z)))/\W.grownBy w' none):=Kh (fun W hW=>cY w4.heap.size W _ z np hW.size (a1.out.kept hW (by simp)) m5.out (by omega));obtain⟨U,hU⟩:∃ t,t=txtT (kbR z):=⟨_,rfl⟩;rw[<- hU]at H3;have HU:=Kh hU;have HZ:=Kh hz;have x5:=Kh j3;clear hp hz hU j3 a1 hj;go_wp2_with fail;refine(H3.out _ (zM _ _)).mono ?_;rintro e w6 ⟨rfl,a4⟩;have c6:=k4.out.grow a4;obtain⟨u,c9,hu,hM⟩:=c6.map;have k3:=Kh c6;have HM:=Kh hM;have p8:=Kh hu;have k6:=Kh a4;obtain⟨sS,cS,sN,cN,h9,_⟩:=c6.cells;obtain⟨x0,x1,x2⟩:=zH h9;have H9:=hM.lookup n8.out m5.out;clear a4 c6 hM hu h9 k4;have o0:Hid (L2[i]?=some x):=Kh (by rw[HX.out,List.getD_eq_getElem?_getD,List.getElem?_eq_getElem d9.out];rfl);have k7:z=nxtT ds (L2.getD i []) a:=by rw[HZ.out,HX.out]
       have k0:=Kh k7;by_cases hmem:z∈L2
       case pos =>
        obtain⟨y,hy⟩:∃ y,y=L2.idxOf z:=⟨_,rfl⟩;have t3:y<m:=by rw[hy,H1.out];exact List.idxOf_lt_length_of_mem hmem
        have j7:Sem.run Try.prog (Instr.lookup 129 (.map (some mb)) (.string U) true) w6=.ok (.tuple #[.int .i64 (y:Int),.bool true]) w6:=by
         rw[eK hmem,<- hy]at H9;rw[HU.out];exact H9
        have n3:=Kh (RPr.drop (tl:=⟨wA.heap.size,3,.slice sr a cr,a,nats row,1⟩::[]) k3.out);have n4:=Kh (n3.out.own (r:=⟨wA.heap.size,3,.slice sr a cr,a,nats row,1⟩) (by simp));have b7:=n3.out.facts.2.1;have HY:=Kh hy;have H2:=Kh hmem;clear H9 hy hmem k7 x0 x1 x2;go_upto_region 16 with (first|(at_builtin;refine uR rfl _ _ _ rfl yP.toN wA.heap.size (.slice sr a cr) a (nats row) rfl n4.out [.int .i64 (y:Int)] rfl rfl ?z1 ?z2 ?z3 ?z4 ?_;(case z1=>(intro v hv;simp only[List.mem_cons,List.not_mem_nil,or_false]at hv;subst hv;rfl));(case z2=>(unfold maxLen;omega));(case z3=>(show (a+1) * 8<=140737488355328;omega));(case z4=>exact b7);intro sn cn wM h0 H5 H8;(have n2:=Kh (n3.out.app (j:=0) rfl h0 H5 H8));clear h0 H5 H8)|fail)
        go_wp2;go_roundg (k - (a+1))
        case measure=>have:=a5.out;omega
        case rel =>
         have h1:=n2.out;rw[<- vQ]at h1;refine⟨a+1,L2,row++[y],sn,cn,by have:=a5.out;omega,by go_num,rfl,?_,b6.out.old o0.out (by rw[HX.out,<- k0.out];exact H2.out),d9.out,e7.out,d8.out,?_⟩
         ·rw[<- H1.out];exact h1
         ·have h2:=k2.out.push (by rw[<- HZ.out];exact H2.out)
          rw[<- HZ.out,<- HY.out,HX.out]at h2;exact h2
       case neg =>
        have j7:Sem.run Try.prog (Instr.lookup 129 (.map (some mb)) (.string U) true) w6=.ok (.tuple #[.int .i64 0,.bool false]) w6:=by
         rw[qET hmem]at H9;rw[HU.out];exact H9
        have H2:=Kh hmem;clear H9 k7 hmem;go_wp2_with fail;refine(H3.out _ k6.out).mono ?_;rintro e w7 ⟨rfl,d0⟩;have k5:=Kh (HM.out.kept d0 (by simp));have k4:=Kh (k3.out.grow d0);clear d0 j7 x0 x1 x2;go_upto_region 27 with (first|(at_mapUpdate;refine nH n8.out rfl _ _ _ rfl mb u c9 (numE L2) z m rfl ?k1 rfl k5.out (by have:=p8.out;unfold maxLen;omega) m5.out (by omega) ?_;(case k1=>(show _=Value.string (txtT (kbR z));rw[<- HU.out];rfl));intro w8 i5 b1)|fail)
        obtain⟨c10,o9⟩:∃ c10,MapK 9 (qK np) KR w8 mb (u+1) c10 (numE (L2++[z])):=⟨_,by rw[<- qBY H2.out,<- H1.out];exact i5⟩;obtain⟨hs,sS,cS,h0,d5,r6,h8⟩:=k4.out.pushS b1 o9 (by have:=p8.out;omega);have h7:=Kh h0;have n1:=Kh h8;clear h0 h8 i5 o9 b1;go_upto_region 28 with (first|(at_builtin;refine uR rfl _ _ _ rfl uP.toN wA.heap.size (.slice sS m cS) m hs rfl h7.out [.slice s' np c'] rfl rfl ?z1 ?z2 ?z3 ?z4 ?_;(case z1=>(intro v hv;simp only[List.mem_cons,List.not_mem_nil,or_false]at hv;subst hv;rfl));(case z2=>(unfold maxLen;omega));(case z3=>(show (m+1) * 24<=140737488355328;omega));(case z4=>exact r6);intro sn cn wM h0 H5 H8;obtain⟨p1,f1,f9⟩:=n1.out wM sn cn h0 H5 H8;(have m9:=Kh f9);clear h0 H5 H8 f9 d5)|fail)
        obtain⟨wZ,k8⟩:∃ wZ,wZ=wM.setCell ⟨o,1,none⟩ (.slice sn (m+1) cn):=⟨_,rfl⟩;rw[<- k8];have e6:Hid (RPr wA wA.heap.size o mb np (.slice da np dc) (L2++[z]) T (m+1) i (⟨wA.heap.size,3,.slice sr a cr,a,nats row,1⟩::[]) wZ):=Kh (by rw[k8];exact m9.out);obtain⟨tS,tC,tN,tD,b2,_⟩:=e6.out.cells;obtain⟨y0,y1,y2⟩:=zH b2;clear k8 b2 p1 f1;by_cases h4:m=4000
        case pos =>
         have s5:(4000:Int)<(m:Int)+1:=(by omega);have t0:Hid (Over ds k):=Kh (b6.out.over (by rw[<- H1.out];exact h4) ha o0.out (by rw[HX.out,<- k0.out];exact H2.out));have H7:=zA m8.out e6.out.facts.1 (by simp);have f40:=zE H7 0;have f41:=zE H7 1;have f42:=zE H7 2;have s0:=zI H7;obtain⟨v0,v1,v2⟩:=zH H7;subst h4;go_wp2;have g1:=zD (zD (zC wZ ⟨w.heap.size,0,none⟩ (.slice none 0 0)) (zC _ ⟨w.heap.size,1,none⟩ (.slice none 0 0))) (zC _ ⟨w.heap.size,2,none⟩ (.slice none 0 0));have z1:=heap_setCell_same _ w.heap.size 2 _ _ (.slice none 0 0) (heap_setCell_same _ w.heap.size 1 _ _ (.slice none 0 0) (heap_setCell_same wZ w.heap.size 0 _ _ (.slice none 0 0) H7));obtain⟨w9,l0⟩:∃ w9,w9=((wZ.setCell ⟨w.heap.size,0,none⟩ (.slice none 0 0)).setCell ⟨w.heap.size,1,none⟩ (.slice none 0 0)).setCell ⟨w.heap.size,2,none⟩ (.slice none 0 0):=⟨_,rfl⟩;rw[<- l0]at g1 z1 ⊢;simp only[Array.setIfInBounds,List.size_toArray,List.length_cons,List.length_nil]at z1;obtain⟨q0,q1,q2⟩:=zH z1;refine bodyPost_ret (v:=.tuple #[.agg #[.slice none 0 0,.slice none 0 0,.slice none 0 0],.int .i64 3]) (by simp[results,Try.results52,go_sem,q0,q1,q2,Result.andThen]) rfl ?_;exact .inl ⟨t0.out,rfl,zB (zB j1.out e6.out.facts.1 (by simp)) g1 (fun j e=>by have e:w.heap.size=j:=Oj e;omega)⟩
        have s5:¬ (4000:Int)<(m:Int)+1:=(by omega);have n4:=Kh (e6.out.own (r:=⟨wA.heap.size,3,.slice sr a cr,a,nats row,1⟩) (by simp));have b7:=e6.out.facts.2.1;have t7:m<4000:=(by omega);clear h4;go_upto_region 16 with (first|(at_builtin;refine uR rfl _ _ _ rfl yP.toN wA.heap.size (.slice sr a cr) a (nats row) rfl n4.out [.int .i64 (m:Int)] rfl rfl ?z1 ?z2 ?z3 ?z4 ?_;(case z1=>(intro v hv;simp only[List.mem_cons,List.not_mem_nil,or_false]at hv;subst hv;rfl));(case z2=>(unfold maxLen;omega));(case z3=>(show (a+1) * 8<=140737488355328;omega));(case z4=>exact b7);intro sn2 cn2 wM2 h0 H5 H8;(have n2:=Kh (e6.out.app (j:=0) rfl h0 H5 H8));clear h0 H5 H8)|fail)
        go_wp2;go_roundg (k - (a+1))
        case measure=>have:=a5.out;omega
        case rel =>
         have h1:=n2.out;rw[<- vQ]at h1;have e2:(L2++[z]).length=m+1:=by rw[List.length_append,<- H1.out];rfl
         have i1:=b6.out.new ha o0.out (by rw[HX.out,<- k0.out];exact H2.out);rw[HX.out,<- k0.out]at i1;have e3:(L2++[z]).getD i []=x:=by rw[yY d9.out,HX.out]
         refine⟨a+1,L2++[z],row++[m],sn2,cn2,by have:=a5.out;omega,by go_num,rfl,?_,i1,by rw[e2];have:=d9.out;have:=H1.out;omega,by rw[e2];omega,d8.out.more (Nat.le_of_lt d9.out) z,?_⟩
         ·rw[e2];exact h1
         ·rw[e3]
          have h2:=(k2.out.more z).push (by rw[<- HZ.out];simp);have e4:(L2++[z]).idxOf z=m:=by rw[List.idxOf_append,if_neg H2.out,H1.out];simp
          rw[<- HZ.out,e4]at h2;exact h2
end Go.Proofs.Ytjfdomfendbhfaa
namespace Go.Proofs.Ytjfdomfendbhfaa
def finD (g:DiaV)(ds:List DfaV)(x:List Nat):Bool:=decG g.chos (fun p=>(mtsT ds ds.length x).getD p false) g.root
def diaA (g:DiaV)(k:Nat)(L:List (List Nat)):DfaV:=bfsA (nxtT (autD g.pats (k:Int))) k (finD g (autD g.pats (k:Int))) L
theorem qFL {g:DiaV}{k:Nat}{L:List (List Nat)}(hL:BfsD (nxtT (autD g.pats (k:Int))) k (st0T (autD g.pats (k:Int))) L){u:List Nat}(hu:yI k u):acc (diaA g k L) (st0 (diaA g k L)) u=finD g (autD g.pats (k:Int)) (sE (nxtT (autD g.pats (k:Int))) (st0T (autD g.pats (k:Int))) u):=hL.acc hu
theorem kH {g:DiaV}{k:Nat}{L:List (List Nat)}(hL:BfsD (nxtT (autD g.pats (k:Int))) k (st0T (autD g.pats (k:Int))) L)(h1:1<=k)(h6:k<=6)(hl:L.length<=4000):VD (diaA g k L) L.length k:=hL.vd h1 h6 (by omega)
theorem tok_next {ds:List DfaV}{k:Nat}{L T:List (List Nat)}(h:TOk ds k L T L.length):T.map (fun r=>r.map fun x:Nat=>(x:Int))=L.map (sD (nxtT ds) k L):=by
 refine List.ext_getElem (by simp[h.1]) fun i h1 h2=>?_;have hi:i<T.length:=by simpa using h1
 have h0:i<L.length:=by simpa using h2
 obtain⟨hl,hr⟩:=h.2 i h0;rw[zG hi]at hl hr;rw[zG h0]at hr;simp only[List.getElem_map];refine List.ext_getElem (by simp[sD,hl]) fun b h3 h4=>?_;have hb:b<k:=by simpa [sD] using h4
 have h5:=(hr b hb).1;rw[zG (by omega)]at h5;simp[sD,h5]
end Go.Proofs.Ytjfdomfendbhfaa
namespace Go.Proofs.Ytjfdomfendbhfaa
def diaM (g:DiaV)(k:Nat)(L:List (List Nat)):DfaV:=minD (diaA g k L) k
def qDX (g:DiaV)(k:Nat)(L:List (List Nat)):Prop:=BfsD (nxtT (autD g.pats (k:Int))) k (st0T (autD g.pats (k:Int))) L/\L.length<=4000
def gI (g : DiaV)(letters : Int)(E : Int)(m : DfaV): Prop :=
 (diaE g letters ≠ 0 ∧ E = diaE g letters ∧ m = lD) ∨ (diaE g letters = 0 ∧ ∃ k : Nat, letters = k ∧ 1 ≤ k ∧ k ≤ 6 ∧ ((Over (autD g.pats (k : Int)) k ∧ E = 3 ∧ m = lD) ∨
  ∃ L, qDX g k L ∧ ((512 < minN (diaA g k L) k ∧ E = 3 ∧ m = lD) ∨ (minN (diaA g k L) k ≤ 512 ∧ E = 0 ∧ m = diaM g k L))))
theorem aA {g:DiaV}{letters:Int}(h:diaE g letters=0):1<=letters/\letters<=6/\g.pats.length<=300/\vM letters g.pats=0:=by
 unfold diaE at h
 split at h
 ·cases h
 ·split at h
  ·cases h
  ·split at h
   ·omega
   ·omega
theorem qDA {g:DiaV}{k:Nat}{L L':List (List Nat)}(h1:1<=k)(h6:k<=6)(hL:qDX g k L)(hL':qDX g k L'):diaM g k L=diaM g k L' :=
 jF (kH hL.1 h1 h6 hL.2) (kH hL'.1 h1 h6 hL'.2) (fun u hu=>by rw[qFL hL.1 hu,qFL hL'.1 hu])
theorem diaN_same {g:DiaV}{k:Nat}{L L':List (List Nat)}(h1:1<=k)(h6:k<=6)(hL:qDX g k L)(hL':qDX g k L'):minN (diaA g k L) k=minN (diaA g k L') k:=by
 have a:=(pS (kH hL.1 h1 h6 hL.2)).hn;have b:=(pS (kH hL'.1 h1 h6 hL'.2)).hn;have e:=qDA h1 h6 hL hL';unfold diaM at e;rw[e]at a;exact a.symm.trans b
theorem diaOut_same {g:DiaV}{letters E E':Int}{m m':DfaV}(h:gI g letters E m)(h':gI g letters E' m'):E=E'/\m=m':=by
 rcases h with ⟨a1,a2,a3⟩|⟨a1,k,hk,h1,h6,a⟩
 ·rcases h' with ⟨b1,b2,b3⟩|⟨b1,-⟩
  ·exact⟨a2.trans b2.symm,a3.trans b3.symm⟩
  ·exact absurd b1 a1
 ·rcases h' with ⟨b1,-⟩|⟨b1,k',hk',h1',h6',b⟩
  ·exact absurd a1 b1
  ·have h0:k=k':=by omega
   subst h0;rcases a with ⟨ao,a2,a3⟩|⟨L,hL,a⟩
   ·rcases b with ⟨bo,b2,b3⟩|⟨L',hL',b⟩
    ·exact⟨a2.trans b2.symm,a3.trans b3.symm⟩
    ·exact(mG ⟨L',hL'.1,hL'.2⟩ ao).elim
   ·rcases b with ⟨bo,b2,b3⟩|⟨L',hL',b⟩
    ·exact(mG ⟨L,hL.1,hL.2⟩ bo).elim
    ·have e1:=qDA h1 h6 hL hL'
     have e2:=diaN_same h1 h6 hL hL';rcases a with ⟨a1,a2,a3⟩|⟨a1,a2,a3⟩
     ·rcases b with ⟨b1,b2,b3⟩|⟨b1,b2,b3⟩
      ·exact⟨a2.trans b2.symm,a3.trans b3.symm⟩
      ·omega
     ·rcases b with ⟨b1,b2,b3⟩|⟨b1,b2,b3⟩
      ·omega
      ·exact⟨a2.trans b2.symm,by rw[a3,b3,e1]⟩
theorem gI.ok {g:DiaV}{letters:Int}{m:DfaV}(h:gI g letters 0 m):∃ k:Nat,letters=k/\1<=k/\k<=6/\∃ L,qDX g k L/\minN (diaA g k L) k<=512/\m=diaM g k L/\diaE g letters=0:=by
 rcases h with ⟨a1,a2,a3⟩|⟨a1,k,hk,h1,h6,a⟩
 ·exact absurd a2.symm a1
 ·rcases a with ⟨_,a2,_⟩|⟨L,hL,a⟩
  ·cases a2
  ·rcases a with ⟨_,a2,_⟩|⟨a2,_,a3⟩
   ·cases a2
   ·exact⟨k,hk,h1,h6,L,hL,a2,a3,a1⟩
theorem qHD {g:DiaV}{k:Nat}{L:List (List Nat)}(h1:1<=k)(h6:k<=6)(hL:qDX g k L):VD (diaM g k L) (minN (diaA g k L) k) k:=pS (kH hL.1 h1 h6 hL.2)
theorem gI.err {g:DiaV}{letters E:Int}{m:DfaV}(h:gI g letters E m)(hE:E≠0):m=lD:=by
 rcases h with ⟨_,_,a3⟩|⟨a1,k,hk,h1,h6,a⟩
 ·exact a3
 ·rcases a with ⟨_,_,a3⟩|⟨L,hL,a⟩
  ·exact a3
  ·rcases a with ⟨_,_,a3⟩|⟨_,a2,_⟩
   ·exact a3
   ·exact absurd a2 hE
end Go.Proofs.Ytjfdomfendbhfaa
namespace Go.Proofs.Ytjfdomfendbhfaa
open Go.RowKit
def qHU (w:World)(g:DiaV)(letters:Int)(e:Ending)(w':World):Prop:=∃ E m,dY w E m e w'/\gI g letters E m
theorem qFN {w:World}{f nx:Value}{d:DfaV}{ml ms:Int}(h:DfaT w f nx d)(h1:ml=d.letters)(h2:ms=d.start):uT w.heap.size w (.agg #[.int .i64 ml,.int .i64 ms,f,nx]) d:=by rw[h1,h2];exact h.ok
end Go.Proofs.Ytjfdomfendbhfaa
namespace Go.Proofs.Ytjfdomfendbhfaa
open Go.RowKit Go.Maps
theorem diaA_nx {g:DiaV}{k s a:Nat}{L:List (List Nat)}{nxl:List Nat}(h:NxOk (autD g.pats (k:Int)) k L nxl L.length 0)(hs:s<L.length)(ha:a<k):nxl.getD (s * k+a) 0=nx (diaA g k L) s a:=by
 rw[diaA,qHO hs ha,(h.2 s a ha (.inl hs)).1,zG hs]
theorem diaA_reach {g:DiaV}{k:Nat}{L:List (List Nat)}(hL:BfsD (nxtT (autD g.pats (k:Int))) k (st0T (autD g.pats (k:Int))) L)(q:Nat)(hq:q<L.length):∃ w,yI k w/\run (diaA g k L) (st0 (diaA g k L)) w=q:=by
 obtain⟨u,hu,e⟩:=hL.re _ (List.getElem_mem hq);refine⟨u,hu,?_⟩;have h0:0<L.length:=by omega
 have e0:L[0]=st0T (autD g.pats (k:Int)):=by have:=hL.hd;rw[List.getElem?_eq_getElem h0]at this;exact Oj this
 show run (bfsA _ _ _ L) 0 u=q;rw[hL.run u h0 hu,e0,e];exact hL.nd.idxOf_getElem q hq
def kF (g:DiaV)(k:Nat)(L:List (List Nat))(i:Nat):List Bool:=(L.take i).map (finD g (autD g.pats (k:Int)))++List.replicate (L.length - i) false
theorem hJ {g:DiaV}{k:Nat}{L:List (List Nat)}{i:Nat}(hi:i<=L.length):(kF g k L i).length=L.length:=by
 rw[kF,List.length_append,List.length_map,List.length_take,List.length_replicate];omega
theorem finTo_set {g:DiaV}{k:Nat}{L:List (List Nat)}{i:Nat}(hi:i<L.length):(kF g k L i).set i (finD g (autD g.pats (k:Int)) (L.getD i []))=kF g k L (i+1):=by
 have hl:((L.take i).map (finD g (autD g.pats (k:Int)))).length=i:=by rw[List.length_map,List.length_take];omega
 obtain⟨m,hm⟩:∃ m,L.length - i=m+1:=⟨L.length - i - 1,by omega⟩;rw[kF,List.set_append_right _ _ (by omega),hl,Nat.sub_self,hm,List.replicate_succ,List.set_cons_zero,kF,List.take_add_one,List.getElem?_eq_getElem hi,zG hi,List.map_append,List.append_assoc,show L.length - (i+1)=m by omega];rfl
theorem finTo_all {g:DiaV}{k:Nat}{L:List (List Nat)}:kF g k L L.length=(diaA g k L).final:=by
 rw[kF,List.take_length,Nat.sub_self,List.replicate_zero,List.append_nil];rfl
theorem dfa1_any (Bd:Nat)(w:World)(P S o k:Nat)(pv:Value)(ds:List DfaV)(L:List (List Nat))(nxl fr bl:List Nat)(sb sc nb nc fb fc bb bc s i:Nat)(hp:w.cell? ⟨P,0,none⟩=some (.pointer (some ⟨o,0,none⟩)))(hS:w.cell? ⟨S,0,none⟩=some (.int .i64 (s:Int)))(h:ProdV w o k pv L nxl fr bl sb sc nb nc fb fc bb bc)(hd:DsIn Bd w pv ds)(hok:OkT ds k)(hs:s<L.length)(hi:i<ds.length)(hin:InT ds (L.getD s []))(hl:ds.length<=400)(hL:L.length<=4000):
  Calls Try.prog 68 #[.int .i64 (i:Int),.pointer (some ⟨P,0,none⟩),.pointer (some ⟨S,0,none⟩)] w fun e w'=>e=.returned (.bool (accT ds (L.getD s []) i))/\w.grownBy w' none:=by
 have HC:=Kh (iU Bd w o k pv ds L nxl fr bl sb sc nb nc fb fc bb bc s i h hd hok hs hi hin hl hL);obtain⟨b,hb⟩:∃ b,b=accT ds (L.getD s []) i:=⟨_,rfl⟩;rw[<- hb]at HC ⊢;clear h hd hok hs hi hin hl hL hb;go_enter Try.func68,Try.ntmps68;go_wp2_with fail;refine HC.out.mono ?_;rintro e w' ⟨rfl,hg⟩;go_wp2;go_ret;exact⟨rfl,hg⟩
theorem cdfa_any (Bd:Nat)(w:World)(v:Value)(g:DiaV)(letters:Int)(hBd:Bd<=w.heap.size)(h:qM Bd w v g)(hp4:g.pats.length<=4096):
  Calls Try.prog 28 #[v,.int .i64 letters] w (qHU w g letters):=by
 have H:=Kh h;obtain⟨pv,cv,rfl,hp,j0⟩:=h;obtain⟨pa,pc,rfl⟩:=hp.shape;obtain⟨ca,cc,rfl⟩:=j0.shape;obtain⟨np,d3⟩:∃ n,n=g.pats.length:=⟨_,rfl⟩;obtain⟨nc1,i1⟩:∃ n,n=g.chos.length:=⟨_,rfl⟩;rw[<- d3,<- i1]at H ⊢;rw[<- d3]at hp;have l7:=Kh hp;obtain⟨c6,d7,b7,g6⟩:=mH w #[.slice pa np pc,.slice ca nc1 cc,.int .i64 g.root] 25 #[.int .i64 0,.int .i64 0,.slice none 0 0,.slice none 0 0] 42;obtain⟨wA,e5⟩:∃ wA,wA=(w.alloc (.cells #[.slice pa np pc,.slice ca nc1 cc,.int .i64 g.root] 25)).alloc (.cells #[.int .i64 0,.int .i64 0,.slice none 0 0,.slice none 0 0] 42):=⟨_,rfl⟩;rw[<- e5]at c6 d7 b7 g6;obtain⟨P,hP⟩:∃ P,P=w.heap.size:=⟨_,rfl⟩;obtain⟨Q,hQ⟩:∃ Q,Q=w.heap.size+1:=⟨_,rfl⟩;have j6:=Kh hP;have d0:Hid (Q=P+1):=Kh (by omega);rw[<- hQ]at d7;rw[<- hP]at c6;obtain⟨c0,c1,c2⟩:=zH c6;have b3:=Kh c6;have h2:=Kh d7;have m8:=Kh b7;have l4:=Kh e5;have j5:=Kh (iI Bd wA _ g letters (by have:=b7.size;omega) (H.out.kept b7 (by simp)));have o1:=Kh d3;clear c6 d7 b7 e5 hP hQ g6 hp j0 d3 i1;go_enter Try.func28,Try.ntmps28;go_upto_region 1 with fail;rw[<- l4.out,<- j6.out,<- d0.out];go_wp2_with fail;refine j5.out.mono ?_;rintro e w1 ⟨rfl,b8⟩;have e0:=Kh (zB m8.out b8 (by simp));have m7:=Kh b8;have b3:=Kh (zA b3.out b8 (by simp));have h2:=Kh (zA h2.out b8 (by simp));have d8:Hid (w.heap.size=P):=Kh j6.out.symm;clear b8 j5 c0 c1 c2;obtain⟨E,hE⟩:∃ E,E=diaE g letters:=⟨_,rfl⟩;rw[<- hE];have HE:=Kh hE;clear hE;by_cases hE0:E=0
 case neg =>
  obtain⟨q0,q1,q2,q3⟩:=zF h2.out;have f0:=zE h2.out 0;have f1:=zE h2.out 1;have f2:=zE h2.out 2;have f3:=zE h2.out 3;have a9:=zI h2.out;have e1:(E != 0)=true:=by rw[bne_iff_ne];exact hE0
  have m3:=Kh hE0;clear hE0;go_wp2;obtain⟨H4,H2⟩:=xI h2.out (.int .i64 0) (.int .i64 0) (.slice none 0 0) (.slice none 0 0);obtain⟨wz,H3⟩:∃ wz,wz=(((w1.setCell ⟨Q,0,none⟩ (.int .i64 0)).setCell ⟨Q,1,none⟩ (.int .i64 0)).setCell ⟨Q,2,none⟩ (.slice none 0 0)).setCell ⟨Q,3,none⟩ (.slice none 0 0):=⟨_,rfl⟩;rw[<- H3]at H4 H2 ⊢;clear H3;obtain⟨r0,r1,r2,r3⟩:=zF H4;clear q0 q1 q2 q3 f0 f1 f2 f3;refine bodyPost_ret (v:=.tuple #[.agg #[.int .i64 0,.int .i64 0,.slice none 0 0,.slice none 0 0],.int .i64 E]) (by simp[results,Try.results28,go_sem,r0,r1,r2,r3]) rfl ?_;exact⟨E,lD,⟨_,_,rfl,DfaT.zero _,zB e0.out H2 (fun k e=>by have h7:Q=k:=Oj e;have:=d0.out;have:=d8.out;omega)⟩,Or.inl ⟨by rw[<- HE.out];exact m3.out,HE.out,rfl⟩⟩
 case pos =>
  subst hE0;obtain⟨c0,c1,c2⟩:=zH b3.out
  have g4:Hid (Calls Try.prog 56 #[.slice pa np pc,.int .i64 letters] w1 (qDI w1 (vM letters g.pats) (autD g.pats letters))):=Kh (by
   exact gF Bd w1 _ g.pats letters (by have:=e0.out.size;omega) (l7.out.kept e0.out (by simp)) hp4)
  have h9:=aA HE.out.symm;rw[h9.2.2.2]at g4;obtain⟨k,hk⟩:∃ k:Nat,letters=k:=⟨letters.toNat,by omega⟩;subst hk;have b1:1<=k:=by omega
  have b0:k<=6:=by omega
  have g9:=h9.2.2.2;have i3:=h9.2.2.1;clear h9;go_wp2_with fail;refine g4.out.mono ?_;rintro e w2 ⟨sa,n2,sc,rfl,d5,b4⟩;have j7:=Kh (zB e0.out d5 (by simp));have b3:=Kh (zA b3.out d5 (by simp));have h2:=Kh (zA h2.out d5 (by simp));clear d5 g4 c0 c1 c2
  obtain⟨d4,lp,i5,g7⟩:n2=(autD g.pats (k:Int)).length/\∃ l,l.map (·.1)=autD g.pats (k:Int)/\DsUp w1.heap.size w2 (.slice sa n2 sc) l:=by
   rcases b4 with h|h
   ·exact absurd rfl h
   ·exact h.2
  have j9:Hid (DsIn w2.heap.size w2 (.slice sa n2 sc) (autD g.pats (k:Int))):=Kh (by have:=g7.in_;rw[i5]at this;exact this);have H7:=Kh (qDW g9);have i2:n2<=300:=by rw[d4,xS];exact i3
  have l8:=Kh (iX w2.heap.size w2 _ _ k (Nat.le_refl _) j9.out H7.out b1 b0 (by rw[<- d4];omega));have m4:Hid (n2=(autD g.pats (k:Int)).length):=Kh d4;have j4:diaE g (k:Int)=0:=HE.out.symm;have H0:=Kh j4;clear j4 g9 b4 d4 i5 g7 i3;go_wp2_with fail;refine l8.out.mono ?_;rintro e w3 k2;rcases k2 with ⟨hov,rfl,hg3⟩|⟨o,mb,L,nxl,fr,bl,rfl,hps,hbfs,a9,hnx,hfr,hg3⟩
  ·obtain⟨w4,a1⟩:∃ w4,w4=w3.alloc (.cells #[.pointer none] 93):=⟨_,rfl⟩
   have H5:=Ga w3 (.cells #[.pointer none] 93) none;rw[<- a1]at H5;have e8:=Kh a1;have d9:=Kh (zB (zB j7.out hg3 (by simp)) H5 (by simp));have h2:=Kh (zA (zA h2.out hg3 (by simp)) H5 (by simp));clear a1 H5 hg3;go_upto_region 8 with fail;rw[<- e8.out];obtain⟨q0,q1,q2,q3⟩:=zF h2.out;have f0:=zE h2.out 0;have f1:=zE h2.out 1;have f2:=zE h2.out 2;have f3:=zE h2.out 3;have a9:=zI h2.out;go_wp2;obtain⟨H4,H2⟩:=xI h2.out (.int .i64 0) (.int .i64 0) (.slice none 0 0) (.slice none 0 0);obtain⟨wz,H3⟩:∃ wz,wz=(((w4.setCell ⟨Q,0,none⟩ (.int .i64 0)).setCell ⟨Q,1,none⟩ (.int .i64 0)).setCell ⟨Q,2,none⟩ (.slice none 0 0)).setCell ⟨Q,3,none⟩ (.slice none 0 0):=⟨_,rfl⟩;rw[<- H3]at H4 H2 ⊢;clear H3;obtain⟨r0,r1,r2,r3⟩:=zF H4;clear q0 q1 q2 q3 f0 f1 f2 f3;refine bodyPost_ret (v:=.tuple #[.agg #[.int .i64 0,.int .i64 0,.slice none 0 0,.slice none 0 0],.int .i64 3]) (by simp[results,Try.results28,go_sem,r0,r1,r2,r3]) rfl ?_;exact⟨3,lD,⟨_,_,rfl,DfaT.zero _,zB d9.out H2 (fun k e=>by have h7:Q=k:=Oj e;have:=d0.out;have:=d8.out;omega)⟩,.inr ⟨H0.out,k,rfl,b1,b0,.inl ⟨hov,rfl,rfl⟩⟩⟩
  ·have e6:0<L.length:=by have:=hbfs.hd;rcases Nat.eq_zero_or_pos L.length with h|h;(rw[List.eq_nil_of_length_eq_zero h]at this;cases this);exact h
   obtain⟨sb,sc8,nb,nc,fb,fc,bb,bc,a8⟩:=hps.view e6 rfl (by omega);obtain⟨LL,j2⟩:∃ n,n=L.length:=⟨_,rfl⟩;obtain⟨w4,a1⟩:∃ w4,w4=w3.alloc (.cells #[.pointer (some ⟨o,0,none⟩)] 93):=⟨_,rfl⟩;obtain⟨X,hX⟩:∃ X,X=w3.heap.size:=⟨_,rfl⟩;have H5:=Ga w3 (.cells #[.pointer (some ⟨o,0,none⟩)] 93) none;have d6:=heap_alloc_new w3 (.cells #[.pointer (some ⟨o,0,none⟩)] 93);rw[<- a1]at H5 d6;rw[<- hX]at d6;have e8:=Kh a1;have l2:=Kh hX;have n6:=Kh d6;have H8:=Kh (zD hg3 H5);have d9:=Kh (zB j7.out H8.out (by simp));have g3:=Kh (zA b3.out H8.out (by simp));have h2:=Kh (zA h2.out H8.out (by simp));have f4:=Kh (a8.grow H5);have H1:=Kh j2;have d1:=Kh a9;have b2:=Kh hbfs;have l9:=Kh hnx;have o2:=Kh e6;have c7:LL<=4000:=by omega
   have l1:0<LL:=(by omega);clear a1 hX H5 hg3 d6 hps a8 j2 a9 hbfs hnx e6 hfr;go_upto_region 8 with fail;rw[<- e8.out,<- l2.out]
   have g0:Hid (∀ W:World,w4.grownBy W none->W.cell? ⟨X,0,none⟩=some (.pointer (some ⟨o,0,none⟩))/\W.cell? ⟨o,2,none⟩=some (.slice (some ⟨sb,0,none⟩) LL sc8)/\W.cell? ⟨o,3,none⟩=some (.slice (some ⟨nb,0,none⟩) (LL * k) nc)):=Kh (fun W hW=>by
    have h8:=(f4.out.grow hW).cells;rw[<- H1.out]at h8
    exact⟨by simpa using zJ (zA n6.out hW (by simp)) 0 (by simp),h8.2.2.1,h8.2.2.2.1⟩)
   obtain⟨c0,c1,c2⟩:=g0.out w4 (zM _ _);have k4:=qAA LL (by omega);have k3:¬ ((LL:Int)<0):=(by omega);go_upto_region 10 with fail;go_cut [11] (fun s11 wx=>∃ (M F:Nat),s11=.pointer (some ⟨M,0,none⟩)/\wx.heap[M]?=some (.cells #[.int .i64 (k:Int),.slice (some ⟨nb,0,none⟩) (LL * k) nc,.slice (some ⟨F,0,none⟩) LL LL] 113 (0,0))/\Arr wx F 4 (bls (List.replicate LL false))/\w4.heap.size<=F/\w4.heap.size<=M/\F≠M/\w4.grownBy wx none)
   case first =>
    go_region_held3 (fun w'=>w'.cell? ⟨X,0,none⟩=some (.pointer (some ⟨o,0,none⟩))/\w'.cell? ⟨o,2,none⟩=some (.slice (some ⟨sb,0,none⟩) LL sc8)/\w'.cell? ⟨o,3,none⟩=some (.slice (some ⟨nb,0,none⟩) (LL * k) nc))
     (first|(refine g0.out _ ?_;repeat(first|exact zM _ _|refine gD ?_|refine gA ?_ _))|fail) (fail)
    all_goals
     go_wp2_with fail
     go_meet
     exact⟨_,_,rfl,sL w4 _ _,⟨_,[],sO w4 _ _,by rw[List.append_nil];exact jG LL⟩,Nat.le_refl _,by omega,by omega,gD (gA (gA (zM _ _) _) _)⟩
   case rest =>
    obtain⟨M,F,rfl,H6,hF,o0,n7,j3,i9⟩:=hcut;clear c0 c1 c2 k4 k3;obtain⟨m0,m1,m2⟩:=zH H6;have g2:=Kh H6;have n3:=Kh j3
    have j8:Hid (Arr wc F 4 (bls (kF g k L 0))):=Kh (by
     have e:kF g k L 0=List.replicate LL false:=by rw[kF,H1.out];rfl
     rw[e];exact hF)
    have m9:=Kh i9;clear H6 hF i9 j3;go_upto_region 12 with fail;clear m0 m1 m2;go_wp2
    go_loopg [12,59] LL (fun gh v12 v59 wr=>∃ i:Nat,gh+i=LL/\v59=.int .i64 i/\w4.grownBy wr none/\wr.heap[M]?=some (.cells #[.int .i64 (k:Int),.slice (some ⟨nb,0,none⟩) (LL * k) nc,.slice (some ⟨F,0,none⟩) LL LL] 113 (0,0))/\Arr wr F 4 (bls (kF g k L i)))
    case atStart=>exact⟨0,rfl,rfl,m9.out,g2.out,j8.out⟩
    case round =>
     clear j8 g2;obtain⟨i,i6,rfl,hg,H6,hF⟩:=hrel;have f7:=Kh i6;have HG:=Kh hg;have g2:=Kh H6;have HF:=Kh hF;clear i6;by_cases hi:i<LL
     ·have k7:(i:Int)<LL:=by omega
      obtain⟨wS,e3⟩:∃ wS,wS=wr.alloc (.cells #[.int .i64 (i:Int)] 3):=⟨_,rfl⟩;obtain⟨S,hS⟩:∃ S,S=wr.heap.size:=⟨_,rfl⟩;have b6:=Ga wr (.cells #[.int .i64 (i:Int)] 3) none;have c4:=heap_alloc_new wr (.cells #[.int .i64 (i:Int)] 3);rw[<- e3]at b6 c4;rw[<- hS]at c4;have l3:=Kh e3;have l6:=Kh hS;have a2:=zD hg b6;have f6:=Kh a2;have m5:=Kh (zA H6 b6 (by simp));have n1:=Kh (hF.kept b6 (by simp));obtain⟨ans,a4⟩:∃ b,b=finD g (autD g.pats (k:Int)) (L.getD i []):=⟨_,rfl⟩
      have n5:Hid (∀ W:World,wS.grownBy W none->Calls Try.prog 40 #[.agg #[.slice pa np pc,.slice ca nc1 cc,.int .i64 g.root],.func (.func 68) #[] #[.pointer (some ⟨X,0,none⟩),.pointer (some ⟨S,0,none⟩)]] W fun e w'=>e=.returned (.bool ans)/\W.grownBy w' none):=Kh (fun W hW=>by
       obtain⟨_,_,_,_,_,l0,k1,k0⟩:=nX H0.out;have k8:w.grownBy W none:=zB d9.out (zD f6.out hW) (by simp)
       have h8:=dL Bd W _ g (fun p=>(mtsT (autD g.pats (k:Int)) (autD g.pats (k:Int)).length (L.getD i [])).getD p false) 68 #[.pointer (some ⟨X,0,none⟩),.pointer (some ⟨S,0,none⟩)] (H.out.kept k8 (by simp)) l0 k1 k0 (fun _ _=>rfl) (fun W' p hW' hp=>by
        have i0:p<(autD g.pats (k:Int)).length:=(by rw[xS];exact hp);have a3:=zD f6.out (zD hW hW');have e4:i<L.length:=(by rw[<- H1.out];exact hi);obtain⟨u,hu,eu⟩:=b2.out.re _ (List.getElem_mem e4);have k5:InT (autD g.pats (k:Int)) (L.getD i []):=(by rw[zG e4,<- eu];exact H7.out.walk u H7.out.in0 hu);have h7:=dfa1_any w2.heap.size W' X S o k (.slice sa n2 sc) (autD g.pats (k:Int)) L nxl fr bl sb sc8 nb nc fb fc bb bc i p (g0.out W' a3).1 (by simpa using zJ (zA c4 (zD hW hW') (by simp)) 0 (by simp)) (f4.out.grow a3) (j9.out.kept (zD H8.out a3) (by simp)) H7.out e4 i0 k5 (by rw[<- m4.out];omega) d1.out;rw[<- jE (np:=(autD g.pats (k:Int)).length) i0]at h7
        exact h7)
       rw[a4]
       exact h8)
      have g5:=Kh a4;have j1:=zA g3.out a2 (by simp);clear e3 hS b6 a2 hg H6 hF a4;go_upto_region 14 with fail;rw[<- l3.out,<- l6.out];refine cdfa_reg14 (G:=P) (X:=X) (M:=M) (S:=S) (F:=F) (i:=i) (n:=LL) (fs:=kF g k L i) (b:=ans) m5.out c4 j1 n1.out (by rw[H1.out];exact hJ (by rw[<- H1.out];omega)) hi c7 n3.out n5.out ?_;intro z62 z63 z64 z65 z66 z67 z68 z69 z70 wa wb i8 i7 c5 e7;have n0:Hid (w4.grownBy wb none):=Kh (zB (zD f6.out i8) i7 (fun j e=>by have e:F=j:=Oj e;omega));have g1:=Kh c5
      have n4:Hid (Arr wb F 4 (bls (kF g k L (i+1)))):=Kh (by
       rw[g5.out,finTo_set (by rw[<- H1.out];exact hi)]at e7
       exact e7)
      clear i8 i7 c5 e7 c4 j1;go_wp2;go_roundg (LL - (i+1))
      case measure=>have:=f7.out;omega
      case rel=>exact⟨i+1,by have:=f7.out;omega,by go_num,n0.out,g1.out,n4.out⟩
     ·have k7:¬ (i:Int)<LL:=by omega
      have k6:LL=i:=by have:=f7.out;omega
      subst k6
      have m6:Hid (MachAt wr M k LL (diaA g k L) nb 0 nc F 0 LL []):=Kh (by
       have a8:=f4.out.grow hg;have h7:=a8.caps;have k9:(diaA g k L).final=kF g k L LL:=by rw[H1.out];exact finTo_all.symm
       refine⟨H6,fun s a hs ha=>?_,fun s hs=>?_,a8.nlt,hF.lt,by rw[<- H1.out]at h7;exact⟨h7.2.2.1,h7.2.2.2.1⟩,⟨Nat.le_refl _,by unfold maxLen;omega⟩⟩
       ·have g8:s<L.length:=by rw[<- H1.out];exact hs
        rw[<- diaA_nx l9.out g8 ha,Nat.zero_add];refine a8.nx _ ?_;have h1:(s+1) * k<=L.length * k:=Nat.mul_le_mul_right _ g8;rw[Nat.succ_mul]at h1;omega
       ·rw[k9,Nat.zero_add]
        exact hF.bool s (by rw[H1.out,hJ (Nat.le_refl _),<- H1.out];exact hs))
      have f5:Hid (Calls Try.prog 70 #[.pointer (some ⟨M,0,none⟩)] wr (MmOk wr (diaA g k L) k)):=Kh (by
       refine mminimal_any wr M k LL (diaA g k L) nb 0 nc F 0 LL [] ?_ c7 rfl (fun q hq=>diaA_reach b2.out q (by rw[<- H1.out];exact hq)) m6.out;rw[H1.out]
       exact kH b2.out b1 b0 d1.out)
      have d2:=Kh (zB d9.out hg (by simp));have e2:=Kh (zA h2.out hg (by simp));clear hg H6 hF;go_wp2_with fail;refine f5.out.mono ?_;rintro e x9 ⟨v9,b9,rfl,a0,c3⟩;rcases c3 with ⟨rfl,hN,f9,nx9,rfl,ht9⟩|⟨rfl,hN,rfl⟩
      ·obtain⟨sa9,n9,c9,sb9,n8,c8,rfl,rfl⟩:=ht9.shapes
       have l5:=Kh ht9;have HN:=Kh hN;clear ht9 hN;have h3:=Ga x9 (.cells #[.int .i64 (k:Int),.int .i64 0,.slice sa9 n9 c9,.slice sb9 n8 c8] 42) none;have h4:=heap_alloc_new x9 (.cells #[.int .i64 (k:Int),.int .i64 0,.slice sa9 n9 c9,.slice sb9 n8 c8] 42);obtain⟨x10,h5⟩:∃ x10,x10=x9.alloc (.cells #[.int .i64 (k:Int),.int .i64 0,.slice sa9 n9 c9,.slice sb9 n8 c8] 42):=⟨_,rfl⟩;obtain⟨o10,h6⟩:∃ o10,o10=x9.heap.size:=⟨_,rfl⟩;rw[<- h5]at h3 h4;rw[<- h6]at h4;have f8:=Kh (zB d2.out a0 (by simp));have e9:=Kh (zI e2.out);have h0:=Kh (zA (zA e2.out a0 (by simp)) h3 (by simp));have a5:=Kh h5;have a6:=Kh h6;have H9:=Kh h3;have a7:=Kh h4;have b5:Q≠o10:=(by have:=a0.size;have:=e9.out;omega);clear a0 f5 h3 h4 h5 h6;have f0:=zE h0.out 0;have f1:=zE h0.out 1;have f2:=zE h0.out 2;have f3:=zE h0.out 3;have a9:=zI h0.out;go_upto_region 17 with fail;rw[<- a5.out,<- a6.out];obtain⟨q0,q1,q2,q3⟩:=zF h0.out;obtain⟨t0,t1,t2,t3⟩:=zF a7.out;go_wp2;obtain⟨H4,H2⟩:=xI h0.out (.int .i64 (k:Int)) (.int .i64 0) (.slice sa9 n9 c9) (.slice sb9 n8 c8);obtain⟨wz,H3⟩:∃ wz,wz=(((x10.setCell ⟨Q,0,none⟩ (.int .i64 (k:Int))).setCell ⟨Q,1,none⟩ (.int .i64 0)).setCell ⟨Q,2,none⟩ (.slice sa9 n9 c9)).setCell ⟨Q,3,none⟩ (.slice sb9 n8 c8):=⟨_,rfl⟩;rw[<- H3]at H4 H2 ⊢;clear H3;obtain⟨r0,r1,r2,r3⟩:=zF H4;clear q0 q1 q2 q3 f0 f1 f2 f3 t0 t1 t2 t3;refine bodyPost_ret (v:=.tuple #[.agg #[.int .i64 (k:Int),.int .i64 0,.slice sa9 n9 c9,.slice sb9 n8 c8],.int .i64 0]) (by simp[results,Try.results28,go_sem,r0,r1,r2,r3]) rfl ?_
       have ht:=(l5.out.grow H9.out).kept H2 (fun j e=>by
        have e:Q=j:=Oj e;subst e
        exact⟨⟨_,_,_,h0.out,by decide⟩,⟨_,_,_,h0.out,by decide⟩,⟨_,_,_,h0.out,by decide⟩⟩)
       have i4:(diaM g k L).letters=(k:Int)/\(diaM g k L).start=0:=⟨(qHD b1 b0 ⟨b2.out,d1.out⟩).hk,rfl⟩;refine⟨0,diaM g k L,⟨_,_,?_,ht,zB (zB f8.out H9.out (by simp)) H2 (fun y e=>by have h7:Q=y:=Oj e;have:=d0.out;have:=d8.out;omega)⟩,.inr ⟨H0.out,k,rfl,b1,b0,.inr ⟨L,⟨b2.out,d1.out⟩,.inr ⟨HN.out,rfl,rfl⟩⟩⟩⟩;rw[i4.1,i4.2]
      ·have HN:=Kh hN
       clear hN;have h3:=Ga x9 (.cells #[.int .i64 0,.int .i64 0,.slice none 0 0,.slice none 0 0] 42) none;have h4:=heap_alloc_new x9 (.cells #[.int .i64 0,.int .i64 0,.slice none 0 0,.slice none 0 0] 42);obtain⟨x10,h5⟩:∃ x10,x10=x9.alloc (.cells #[.int .i64 0,.int .i64 0,.slice none 0 0,.slice none 0 0] 42):=⟨_,rfl⟩;obtain⟨o10,h6⟩:∃ o10,o10=x9.heap.size:=⟨_,rfl⟩;rw[<- h5]at h3 h4;rw[<- h6]at h4;have f8:=Kh (zB d2.out a0 (by simp));have e9:=Kh (zI e2.out);have h0:=Kh (zA (zA e2.out a0 (by simp)) h3 (by simp));have a5:=Kh h5;have a6:=Kh h6;have H9:=Kh h3;have a7:=Kh h4;have b5:Q≠o10:=(by have:=a0.size;have:=e9.out;omega);clear a0 f5 h3 h4 h5 h6;have f0:=zE h0.out 0;have f1:=zE h0.out 1;have f2:=zE h0.out 2;have f3:=zE h0.out 3;have a9:=zI h0.out;go_upto_region 17 with fail;rw[<- a5.out,<- a6.out];obtain⟨q0,q1,q2,q3⟩:=zF h0.out;obtain⟨t0,t1,t2,t3⟩:=zF a7.out;go_wp2;obtain⟨H4,H2⟩:=xI h0.out (.int .i64 0) (.int .i64 0) (.slice none 0 0) (.slice none 0 0);obtain⟨wz,H3⟩:∃ wz,wz=(((x10.setCell ⟨Q,0,none⟩ (.int .i64 0)).setCell ⟨Q,1,none⟩ (.int .i64 0)).setCell ⟨Q,2,none⟩ (.slice none 0 0)).setCell ⟨Q,3,none⟩ (.slice none 0 0):=⟨_,rfl⟩;rw[<- H3]at H4 H2 ⊢;clear H3;obtain⟨r0,r1,r2,r3⟩:=zF H4;clear q0 q1 q2 q3 f0 f1 f2 f3 t0 t1 t2 t3;refine bodyPost_ret (v:=.tuple #[.agg #[.int .i64 0,.int .i64 0,.slice none 0 0,.slice none 0 0],.int .i64 3]) (by simp[results,Try.results28,go_sem,r0,r1,r2,r3]) rfl ?_;exact⟨3,lD,⟨_,_,rfl,DfaT.zero _,zB (zB f8.out H9.out (by simp)) H2 (fun y e=>by have h7:Q=y:=Oj e;have:=d0.out;have:=d8.out;omega)⟩,.inr ⟨H0.out,k,rfl,b1,b0,.inr ⟨L,⟨b2.out,d1.out⟩,.inl ⟨HN.out,rfl,rfl⟩⟩⟩⟩
end Go.Proofs.Ytjfdomfendbhfaa
