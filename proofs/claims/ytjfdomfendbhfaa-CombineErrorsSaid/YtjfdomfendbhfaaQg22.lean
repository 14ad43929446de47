/- Part 22 of the proof. -/
import Derived.Test.YtjfdomfendbhfaaQg21
import Derived.Deep.DeepCutAuto
set_option linter.unusedVariables false
set_option linter.unusedSimpArgs false
set_option maxRecDepth 100000
set_option maxHeartbeats 16000000
namespace Go.Proofs.Ytjfdomfendbhfaa
open Go.Maps Go.RowKit
def qIQ (w:World)(d:DfaV)(ps:List (List ByteArray))(e:Ending)(w':World):Prop :=
 ∃ v u1 u2 E,e=.returned (.tuple #[v,.string u1,.string u2,.int .i64 E])/\OfOut w' d ps v u1 u2 E/\w.grownBy w' none
def OfRetS (w:World)(d:DfaV)(ps:List (List ByteArray))(e:Ending)(w':World):Prop :=
 ∃ v u1 u2 E,e=.returned (.tuple #[v,.string u1,.string u2,.int .i64 E])/\(∀ w2,GrownBut w' w2 (fun j=>j<w.heap.size)->OfOut w2 d ps v u1 u2 E)/\w.grownBy w' none
theorem dO (w:World)(c1:Array Value)(e1:Nat)(c2:Array Value)(e2:Nat):((w.alloc (.cells c1 e1)).alloc (.cells c2 e2)).heap[w.heap.size]?=some (.cells c1 e1 (0,0))/\((w.alloc (.cells c1 e1)).alloc (.cells c2 e2)).heap[w.heap.size+1]?=some (.cells c2 e2 (0,0))/\w.grownBy ((w.alloc (.cells c1 e1)).alloc (.cells c2 e2)) none/\((w.alloc (.cells c1 e1)).alloc (.cells c2 e2)).heap.size=w.heap.size+2 :=
 ⟨pO w _ _,pM w _ _,wL (Ga w _ none) _,by rw[zJ,zJ]⟩
theorem qER (Bd:Nat)(w:World)(dv pv:Value)(d:DfaV)(ps:List (List ByteArray))(hBd:Bd<=w.heap.size)(hd:uW Bd w dv d)(hp:PatsIn Bd w pv ps)(hp4:ps.length<=4096):Calls Try.prog 19 #[dv,pv] w (OfRetS w d ps):=by
 have e5:=hd;obtain⟨fv,nv,rfl,hf,hn⟩:=hd;obtain⟨fa,fc,rfl⟩:=hf.shape;rw[yL]at e5 hf ⊢;obtain⟨na,nc,rfl⟩:=hn.shape;obtain⟨pa,pc,rfl⟩:=hp.shape;obtain⟨np,i9⟩:∃ n,n=ps.length:=⟨_,rfl⟩;obtain⟨fl,o8⟩:∃ n,n=d.final.length:=⟨_,rfl⟩;obtain⟨nl,o2⟩:∃ n,n=d.next.length:=⟨_,rfl⟩;obtain⟨dl,k5⟩:∃ n,n=d.letters:=⟨_,rfl⟩;obtain⟨ds,o9⟩:∃ n,n=d.start:=⟨_,rfl⟩;have H0:=Kh i9;have HP:=Kh hp;have y1:=Kh k5;rw[<- i9]at hp4 HP ⊢;rw[<- o8,<- o2,<- k5,<- o9]at e5 ⊢;have HD:=Kh e5;obtain⟨e9,g6,g5,m5⟩:=dO w #[.int .i64 dl,.int .i64 ds,.slice fa fl fc,.slice na nl nc] 42 #[.slice none 0 0,.slice none 0 0,.int .i64 0] 25;obtain⟨wA,l0⟩:∃ wA,wA=(w.alloc (.cells #[.int .i64 dl,.int .i64 ds,.slice fa fl fc,.slice na nl nc] 42)).alloc (.cells #[.slice none 0 0,.slice none 0 0,.int .i64 0] 25):=⟨_,rfl⟩;rw[<- l0]at e9 g6 g5 m5;obtain⟨c0,c1,c2,c3⟩:=zF e9;obtain⟨Q,hQ⟩:∃ Q,Q=w.heap.size:=⟨_,rfl⟩;obtain⟨P,hP⟩:∃ P,P=w.heap.size+1:=⟨_,rfl⟩;have t7:=Kh hQ;have q4:Hid (P=Q+1):=Kh (by omega);have d4:Hid (w.heap.size<=P):=Kh (by omega);rw[<- hP]at g6;rw[<- hQ]at e9 c0 c1 c2 c3;have y5:=Kh e9;have y4:=Kh g6;have x9:=Kh g5;have s5:=Kh l0;have y2:=Kh (e5.kept g5 (by simp));have s0:Bd<=wA.heap.size:=by omega
 have l2:=Kh (tQ Bd wA _ d s0 y2.out);obtain⟨E,hE⟩:∃ E,E=xD d:=⟨_,rfl⟩;rw[<- hE]at l2;have HE:=Kh hE;clear e9 g6 g5 l0 m5 hP hQ hf hn e5 hp i9 o8 o2 k5 o9 hE;go_enter Try.func19,Try.ntmps19;go_upto_region 1 with fail;rw[<- s5.out,<- t7.out,<- q4.out];go_wp2_with fail;refine l2.out.mono ?_;rintro e w1 ⟨rfl,b8⟩;have h4:=Kh (zA x9.out b8 (by simp));have h0:=Kh (zB y4.out b8 (by simp));have H8:=Kh (zB y5.out b8 (by simp));have y9:=Kh b8;clear b8 l2 c0 c1 c2 c3;by_cases hE0:E=0
 case neg =>
  have h6:Hid (ofE d ps=E):=Kh (by rw[qFX (by rw[<- HE.out];exact hE0),HE.out]);have l6:=Kh hE0;have e1:(E != 0)=true:=by rw[bne_iff_ne];exact hE0
  clear hE0;have h2:=h0.out;have f40:=zE h2 0;have f41:=zE h2 1;have f42:=zE h2 2;have e0:=zK h2;obtain⟨v0,v1,v2⟩:=zM h2;go_wp2;have g1:=zD (zD (zC w1 ⟨P,0,none⟩ (.slice none 0 0)) (zC _ ⟨P,1,none⟩ (.slice none 0 0))) (zC _ ⟨P,2,none⟩ (.int .i64 0));have z1:=heap_setCell_same _ P 2 _ _ (.int .i64 0) (heap_setCell_same _ P 1 _ _ (.slice none 0 0) (heap_setCell_same w1 P 0 _ _ (.slice none 0 0) h2));obtain⟨w9,H7⟩:∃ w9,w9=((w1.setCell ⟨P,0,none⟩ (.slice none 0 0)).setCell ⟨P,1,none⟩ (.slice none 0 0)).setCell ⟨P,2,none⟩ (.int .i64 0):=⟨_,rfl⟩;rw[<- H7]at g1 z1 ⊢;simp only[Array.setIfInBounds,List.size_toArray,List.length_cons,List.length_nil]at z1;obtain⟨q0,q1,q2⟩:=zM z1;refine bodyPost_ret (v:=.tuple #[.agg #[.slice none 0 0,.slice none 0 0,.int .i64 0],.string ⟨#[]⟩,.string ⟨#[]⟩,.int .i64 E]) (by simp[results,Try.results19,go_sem,q0,q1,q2,Result.andThen]) rfl ?_;exact⟨_,_,_,_,rfl,(fun w2 d0=>by have:=OfOut.bad (w':=w2) (d:=d) (ps:=ps) (by rw[h6.out];exact l6.out);rwa [h6.out]at this),zA h4.out g1 (fun j e=>by have e:P=j:=Oj e;have:=d4.out;omega)⟩
 case pos =>
  have g8:Hid (xD d=0):=Kh (by rw[<- HE.out];exact hE0);subst hE0;by_cases h3:300<np
  case pos =>
   have s3:(300:Int)<np:=(by omega);have h6:Hid (ofE d ps=3):=Kh (ofE_many g8.out (by rw[<- H0.out];exact h3));have h2:=h0.out;have f40:=zE h2 0;have f41:=zE h2 1;have f42:=zE h2 2;have e0:=zK h2;obtain⟨v0,v1,v2⟩:=zM h2;go_wp2;have g1:=zD (zD (zC w1 ⟨P,0,none⟩ (.slice none 0 0)) (zC _ ⟨P,1,none⟩ (.slice none 0 0))) (zC _ ⟨P,2,none⟩ (.int .i64 0));have z1:=heap_setCell_same _ P 2 _ _ (.int .i64 0) (heap_setCell_same _ P 1 _ _ (.slice none 0 0) (heap_setCell_same w1 P 0 _ _ (.slice none 0 0) h2));obtain⟨w9,H7⟩:∃ w9,w9=((w1.setCell ⟨P,0,none⟩ (.slice none 0 0)).setCell ⟨P,1,none⟩ (.slice none 0 0)).setCell ⟨P,2,none⟩ (.int .i64 0):=⟨_,rfl⟩;rw[<- H7]at g1 z1 ⊢;simp only[Array.setIfInBounds,List.size_toArray,List.length_cons,List.length_nil]at z1;obtain⟨q0,q1,q2⟩:=zM z1;refine bodyPost_ret (v:=.tuple #[.agg #[.slice none 0 0,.slice none 0 0,.int .i64 0],.string ⟨#[]⟩,.string ⟨#[]⟩,.int .i64 3]) (by simp[results,Try.results19,go_sem,q0,q1,q2,Result.andThen]) rfl ?_;exact⟨_,_,_,_,rfl,(fun w2 d0=>by have:=OfOut.bad (w':=w2) (d:=d) (ps:=ps) (by rw[h6.out];decide);rwa [h6.out]at this),zA h4.out g1 (fun j e=>by have e:P=j:=Oj e;have:=d4.out;omega)⟩
  case neg =>
   have s3:¬ (300:Int)<np:=(by omega);have l5:Hid (ofE d ps=vP d.letters ps):=Kh (ofE_pats g8.out (by rw[<- H0.out];exact h3));have f1:=Kh (dC g8.out);have g3:=f1.out.hk;have j9:=f1.out.k1;have j8:=f1.out.k6;obtain⟨k,hk⟩:∃ k,k=d.letters.toNat:=⟨_,rfl⟩;rw[<- hk]at g3 j9 j8 f1;have r9:dl=(k:Int):=by rw[y1.out,g3]
   have HK:Hid (d.letters=(k:Int)):=Kh g3;have a4:=Kh hk;subst r9;clear g3 hk;have g0:=h0;have c9:Hid (Calls Try.prog 56 #[.slice pa np pc,.int .i64 (k:Int)] w1 (qFE w1 (vP (k:Int) ps) (autD ps (k:Int)))):=Kh (automata_any Bd w1 _ ps (k:Int) (by have:=h4.out.size;omega) (HP.out.kept h4.out (by simp)) (by rw[<- H0.out];exact hp4));obtain⟨E2,a3⟩:∃ E,E=vP (k:Int) ps:=⟨_,rfl⟩;rw[<- a3]at c9;rw[HK.out,<- a3]at l5;obtain⟨c0,c1,c2,c3⟩:=zF H8.out;have y6:=h4.out.size;clear a3;go_wp2_with fail;refine c9.out.mono ?_;rintro e w2 ⟨sa,n2,sc,rfl,b7,f0⟩;have h4:=Kh (zA h4.out b7 (by simp));have h0:=Kh (zB h0.out b7 (by simp));have H8:=Kh (zB H8.out b7 (by simp));have r5:=Kh f0;have h5:Hid (w1.heap.size<=w2.heap.size):=Kh b7.size;clear b7 f0 c9 c0 c1 c2 c3;by_cases a3:E2=0
   case neg =>
    have h6:=l5;have l6:=Kh a3;have e1:(E2 != 0)=true:=by rw[bne_iff_ne];exact a3
    clear a3;have h2:=h0.out;have f40:=zE h2 0;have f41:=zE h2 1;have f42:=zE h2 2;have e0:=zK h2;obtain⟨v0,v1,v2⟩:=zM h2;go_wp2;have g1:=zD (zD (zC w2 ⟨P,0,none⟩ (.slice none 0 0)) (zC _ ⟨P,1,none⟩ (.slice none 0 0))) (zC _ ⟨P,2,none⟩ (.int .i64 0));have z1:=heap_setCell_same _ P 2 _ _ (.int .i64 0) (heap_setCell_same _ P 1 _ _ (.slice none 0 0) (heap_setCell_same w2 P 0 _ _ (.slice none 0 0) h2));obtain⟨w9,H7⟩:∃ w9,w9=((w2.setCell ⟨P,0,none⟩ (.slice none 0 0)).setCell ⟨P,1,none⟩ (.slice none 0 0)).setCell ⟨P,2,none⟩ (.int .i64 0):=⟨_,rfl⟩;rw[<- H7]at g1 z1 ⊢;simp only[Array.setIfInBounds,List.size_toArray,List.length_cons,List.length_nil]at z1;obtain⟨q0,q1,q2⟩:=zM z1;refine bodyPost_ret (v:=.tuple #[.agg #[.slice none 0 0,.slice none 0 0,.int .i64 0],.string ⟨#[]⟩,.string ⟨#[]⟩,.int .i64 E2]) (by simp[results,Try.results19,go_sem,q0,q1,q2,Result.andThen]) rfl ?_;exact⟨_,_,_,_,rfl,(fun w2 d0=>by have:=OfOut.bad (w':=w2) (d:=d) (ps:=ps) (by rw[h6.out];exact l6.out);rwa [h6.out]at this),zA h4.out g1 (fun j e=>by have e:P=j:=Oj e;have:=d4.out;omega)⟩
   case pos =>
    obtain⟨-,j2,lp,j5,n6⟩:=r5.out.resolve_left (fun h=>h a3);have p2:ofE d ps=0:=by rw[l5.out,a3]
    have b1:=Kh p2;have j1:n2=np:=by rw[j2,yY,H0.out]
    subst j1;subst a3;have o4:lp.length=n2:=by have:=congrArg List.length j5;rw[List.length_map,<- j2]at this;exact this
    have b0:=Kh n6;have x5:=Kh j5;have q7:=Kh o4;clear j2 j5 n6 r5 o4 p2;go_upto_region 9 with fail;obtain⟨w5,c5⟩:∃ w5,w5=w2.drew:=⟨_,rfl⟩;have h9:w2.grownBy w5 none:=(by rw[c5];exact zO w2 none);have l1:=Kh c5;have h4:=Kh (zA h4.out h9 (by simp));have h0:=Kh (zB h0.out h9 (by simp));have H8:=Kh (zB H8.out h9 (by simp));have b0:=Kh (b0.out.grow h9);have h5:Hid (w1.heap.size<=w5.heap.size):=Kh (Nat.le_trans h5.out h9.size);have C5:Hid (w5.cell? ⟨Q,0,none⟩=some (.int .i64 (k:Int))/\w5.cell? ⟨Q,1,none⟩=some (.int .i64 ds)/\w5.cell? ⟨Q,2,none⟩=some (.slice fa fl fc)/\w5.cell? ⟨Q,3,none⟩=some (.slice na nl nc)):=Kh (zF H8.out);have f3:Hid (Calls Try.prog 58 #[.agg #[.int .i64 (k:Int),.int .i64 ds,.slice fa fl fc,.slice na nl nc]] w5 (qGX w5 (minD d k))):=Kh (kK Bd w5 _ d _ k (by have:=h4.out.size;omega) (HD.out.kept h4.out (by simp)) f1.out (qFI g8.out));clear h9 c5;refine wp_region_noPanic ?_;refine wQ (G:=tZ 7 (fun _=>True) (fun W=>W.cell? ⟨Q,0,none⟩=some (.int .i64 (k:Int))/\W.cell? ⟨Q,1,none⟩=some (.int .i64 ds)/\W.cell? ⟨Q,2,none⟩=some (.slice fa fl fc)/\W.cell? ⟨Q,3,none⟩=some (.slice na nl nc))) (by kernel_rfl) ?_;rw[<- l1.out];refine zW 0 ⟨trivial,fun _=>C5.out⟩ ?_;refine zW 5 ⟨trivial,fun _=>C5.out⟩ ?_;refine dD 6 ⟨trivial,fun _=>C5.out⟩ ?_;obtain⟨k1,k2,k3,k4⟩:=C5.out;refine oneG (i:=1) (by kernel_rfl) rfl (fun K hK=>?_);go_simp;refine hK.out _ _ ⟨trivial,fun _=>C5.out⟩ ?_;clear hK K k1 k2 k3 k4
    try simp only[Act.put,sPa,sPb,sPc]
    refine oneG (i:=2) (by kernel_rfl) rfl (fun K hK=>?_);go_simp
    go_at_call 58
    refine f3.out.mono ?_;rintro e w6 ⟨v6,rfl,d8,h8⟩;obtain⟨f6,x6,rfl,i4⟩:=d8.t;obtain⟨fa6,fl6,fc6,na6,nl6,nc6,rfl,rfl⟩:=i4.shapes;have q3:=Kh i4;have h4:=Kh (zA h4.out h8 (by simp));have h0:=Kh (zB h0.out h8 (by simp));have H8:=Kh (zB H8.out h8 (by simp));have b0:=Kh (b0.out.grow h8);have h5:Hid (w1.heap.size<=w6.heap.size):=Kh (Nat.le_trans h5.out h8.size);have C6:Hid (w6.cell? ⟨Q,0,none⟩=some (.int .i64 (k:Int))/\w6.cell? ⟨Q,1,none⟩=some (.int .i64 ds)/\w6.cell? ⟨Q,2,none⟩=some (.slice fa fl fc)/\w6.cell? ⟨Q,3,none⟩=some (.slice na nl nc)):=Kh (zF H8.out);obtain⟨ml,j4⟩:∃ x,x=(minD d k).letters:=⟨_,rfl⟩;obtain⟨ms,j3⟩:∃ x,x=(minD d k).start:=⟨_,rfl⟩;rw[<- j4,<- j3];have x1:=Kh j4;have x0:=Kh j3;refine hK.out _ _ ⟨trivial,fun _=>C6.out⟩ ?_;clear hK K C5 d8 h8 i4 f3 j4 j3
    try simp only[Act.put,sPa,sPb,sPc]
    refine oneG (i:=3) (by kernel_rfl) rfl (fun K hK=>?_);go_simp;have g4:=heap_alloc_new w6 (.cells #[.int .i64 ml,.int .i64 ms,.slice fa6 fl6 fc6,.slice na6 nl6 nc6] 42);have H9:=Ga w6 (.cells #[.int .i64 ml,.int .i64 ms,.slice fa6 fl6 fc6,.slice na6 nl6 nc6] 42) none;obtain⟨R7,p1⟩:∃ R,R=w6.heap.size:=⟨_,rfl⟩;obtain⟨w7,n1⟩:∃ w7,w7=w6.alloc (.cells #[.int .i64 ml,.int .i64 ms,.slice fa6 fl6 fc6,.slice na6 nl6 nc6] 42):=⟨_,rfl⟩;rw[<- n1]at g4 H9 ⊢;rw[<- p1]at g4 ⊢;have p9:=Kh (q3.out.grow H9);have h4:=Kh (zA h4.out H9 (by simp));have h0:=Kh (zB h0.out H9 (by simp));have H8:=Kh (zB H8.out H9 (by simp));have b0:=Kh (b0.out.grow H9);have h5:Hid (w1.heap.size<=w7.heap.size):=Kh (Nat.le_trans h5.out H9.size);have C7:Hid (w7.cell? ⟨Q,0,none⟩=some (.int .i64 (k:Int))/\w7.cell? ⟨Q,1,none⟩=some (.int .i64 ds)/\w7.cell? ⟨Q,2,none⟩=some (.slice fa fl fc)/\w7.cell? ⟨Q,3,none⟩=some (.slice na nl nc)):=Kh (zF H8.out);refine hK.out _ _ ⟨trivial,fun _=>C7.out⟩ ?_;clear hK K C6 n1 p1 H9 q3
    try simp only[Act.put,sPa,sPb,sPc]
    have g2:=b0.out.own;rw[q7.out]at g2;have m7:=h5.out;refine oneG (i:=4) (by kernel_rfl) rfl (fun K hK=>?_);refine uX rfl (.tmp 38) (.tmp 41) 84 rfl qU w1.heap.size (.slice sa n2 sc) n2 (nC lp) rfl g2 [.int .i64 ml,.int .i64 ms,.slice fa6 fl6 fc6,.slice na6 nl6 nc6] R7 rfl (0,0) rfl g4 ?z1 ?z2 ?z3 m7 ?_
    case z1=>intro v hv;simp only[List.mem_cons,List.not_mem_nil,or_false]at hv;rcases hv with rfl|rfl|rfl|rfl<;>rfl
    case z2=>unfold maxLen;omega
    case z3=>show (n2+1) * 64<=140737488355328;omega
    intro sN cN wM d7 e4 r8;have d6:=b0.out.push (v':=.slice sN (n2+1) cN) (x:=(minD d k,.slice fa6 fl6 fc6,.slice na6 nl6 nc6)) p9.out (by rw[q7.out];unfold dval;rw[<- x1.out,<- x0.out];exact d7) e4
    have r3:Hid (DsIn wM.heap.size wM (.slice sN (n2+1) cN) (ofT d ps)):=Kh (by
     have:=d6.in_;rw[List.map_append,x5.out]at this;rw[ofT,HK.out,Int.toNat_natCast]
     exact this)
    have l3:Hid (∀ j,(Value.slice sa n2 sc).ownBlock=some j->w1.heap.size<=j):=Kh (fun j e=>(g2.lt j e).1);have f9:=Kh (zB h0.out e4 (fun e=>by have:=l3.out P e;have:=zK g0.out;omega));have l9:=Kh (zB H8.out e4 (fun e=>by have:=l3.out Q e;have:=zK g0.out;have:=q4.out;omega));have q8:=Kh (zA h4.out e4 (fun j e=>by have:=l3.out j e;omega));have CM:Hid (wM.cell? ⟨Q,0,none⟩=some (.int .i64 (k:Int))/\wM.cell? ⟨Q,1,none⟩=some (.int .i64 ds)/\wM.cell? ⟨Q,2,none⟩=some (.slice fa fl fc)/\wM.cell? ⟨Q,3,none⟩=some (.slice na nl nc)):=Kh (zF l9.out);have a1:Hid (Calls Try.prog 57 #[.slice sN (n2+1) cN,.int .i64 (k:Int)] wM (qIA wM (.slice sN (n2+1) cN) (ofT d ps) k)):=Kh (multiply_any wM.heap.size wM _ (ofT d ps) k (Nat.le_refl _) r3.out (by have:=qDW b1.out;rwa [<- a4.out]at this) j9 j8 (by rw[uB,<- H0.out];omega));refine hK.out _ _ ⟨trivial,fun _=>CM.out⟩ ?_;clear hK K C7 g2 m7 g4 d7 e4 r8 d6 b0 p9 h5
    try simp only[Act.put,sPa,sPb,sPc]
    refine oneG (i:=7) (by kernel_rfl) rfl (fun K hK=>?_);go_simp
    go_at_call 57
    refine a1.out.mono ?_;rintro e w8 (⟨o1,rfl,a5⟩|⟨o,mb,L,nxl,fr,bl,rfl,b3,c7,g7,r7,b9,a5⟩)
    ·have t8:=Kh o1
     have h4:=Kh (zA q8.out a5 (by simp));have h0:=Kh (zB f9.out a5 (by simp));refine hK.out _ _ ⟨trivial,fun h=>by simp at h⟩ ?_;clear hK K CM o1 a5 a1
     try simp only[Act.put,sPa,sPb,sPc]
     refine zW 8 ⟨trivial,fun h=>by simp at h⟩ ?_;refine zW 9 ⟨trivial,fun h=>by simp at h⟩ ?_;refine zW 10 ⟨trivial,fun h=>by simp at h⟩ ?_;refine zW 11 ⟨trivial,fun h=>by simp at h⟩ ?_;refine zW 12 ⟨trivial,fun h=>by simp at h⟩ ?_;refine rH (by kernel_rfl) ?_ _;refine NoPanic.normal ?_;have h2:=h0.out;have f40:=zE h2 0;have f41:=zE h2 1;have f42:=zE h2 2;have e0:=zK h2;obtain⟨v0,v1,v2⟩:=zM h2;go_wp2;have g1:=zD (zD (zC w8 ⟨P,0,none⟩ (.slice none 0 0)) (zC _ ⟨P,1,none⟩ (.slice none 0 0))) (zC _ ⟨P,2,none⟩ (.int .i64 0));have z1:=heap_setCell_same _ P 2 _ _ (.int .i64 0) (heap_setCell_same _ P 1 _ _ (.slice none 0 0) (heap_setCell_same w8 P 0 _ _ (.slice none 0 0) h2));obtain⟨w9,H7⟩:∃ w9,w9=((w8.setCell ⟨P,0,none⟩ (.slice none 0 0)).setCell ⟨P,1,none⟩ (.slice none 0 0)).setCell ⟨P,2,none⟩ (.int .i64 0):=⟨_,rfl⟩;rw[<- H7]at g1 z1 ⊢;simp only[Array.setIfInBounds,List.size_toArray,List.length_cons,List.length_nil]at z1;obtain⟨q0,q1,q2⟩:=zM z1;refine bodyPost_ret (v:=.tuple #[.agg #[.slice none 0 0,.slice none 0 0,.int .i64 0],.string ⟨#[]⟩,.string ⟨#[]⟩,.int .i64 3]) (by simp[results,Try.results19,go_sem,q0,q1,q2,Result.andThen]) rfl ?_;exact⟨_,_,_,_,rfl,(fun w2 d0=>OfOut.over b1.out (by rw[<- a4.out];exact t8.out)),zA h4.out g1 (fun j e=>by have e:P=j:=Oj e;have:=d4.out;omega)⟩
    ·have m3:=Kh c7;have y0:=Kh b9
     have c4:0<L.length:=List.length_pos_of_mem c7.mem0;have d5:=b3.view c4 rfl j9;have h4:=Kh (zA q8.out a5 (by simp));have h0:=Kh (zB f9.out a5 (by simp));have f5:=Kh (r3.out.kept a5 (by simp));have m6:=a5.size;refine hK.out _ _ ⟨trivial,fun h=>by simp at h⟩ ?_;clear hK K CM c7 b9 b3 r7 a5 a1
     try simp only[Act.put,sPa,sPb,sPc]
     refine zW 8 ⟨trivial,fun h=>by simp at h⟩ ?_;refine zW 9 ⟨trivial,fun h=>by simp at h⟩ ?_;refine zW 10 ⟨trivial,fun h=>by simp at h⟩ ?_;refine zW 11 ⟨trivial,fun h=>by simp at h⟩ ?_;refine zW 12 ⟨trivial,fun h=>by simp at h⟩ ?_;refine rH (by kernel_rfl) ?_ _;refine NoPanic.normal ?_;obtain⟨sb,sc8,nb,nc8,fb,fc8,bb,bc8,i3⟩:=d5;have p6:=Kh i3
     have x7:Hid (∀ s,s<L.length->InT (ofT d ps) (L.getD s [])):=Kh (fun s hs=>by
      obtain⟨u,hu,e⟩:=m3.out.re (L.getD s []) (by rw[zG hs];exact List.getElem_mem hs);rw[<- e];have i8:=qDW b1.out;rw[<- a4.out]at i8
      exact i8.walk u i8.in0 hu)
     have f7:Hid (Calls Try.prog 59 #[.pointer (some ⟨o,0,none⟩),.int .i64 (n2:Int)] w8 (qHA w8 (ofT d ps) n2 L)):=Kh (prodClasses_any wM.heap.size w8 o k _ (ofT d ps) L nxl fr bl sb sc8 nb nc8 fb fc8 bb bc8 n2 m6 i3 f5.out (by have:=qDW b1.out;rwa [<- a4.out]at this) (by rw[uB,H0.out]) x7.out (by rw[uB,<- H0.out];omega) g7);clear i3;go_wp2_with fail;refine f7.out.mono ?_;rintro e w10 ⟨l,la,lc,rfl,h7,a7,a6⟩;have t9:=Kh h7;have g9:=Kh a7;have h4:=Kh (zA h4.out a6 (by simp));have h0:=Kh (zB h0.out a6 (by simp));have f2:=Kh (p6.out.grow a6);have e0:=a7.len_le
     have b6:0<l.length:=by
      have h1:=a7.all 0 c4;obtain⟨c,hc,_⟩:=List.mem_map.1 h1;exact List.length_pos_of_mem hc
     have a9:Hid (ClsX (fun j=>j<w10.heap.size) w10 (.slice la l.length lc) l):=Kh (lT h7 (fun j e=>(h7.lt j e).2));obtain⟨n,hn⟩:∃ n,n=l.length:=⟨_,rfl⟩;have HN:=Kh hn;rw[<- hn]at e0 b6 a9 ⊢;clear hn a6 h7 a7 f7 p6 f5 m6;obtain⟨wo,n0⟩:∃ wo:World,wo=w10:=⟨_,rfl⟩;rw[<- n0]at h4 h0 f2 a9 ⊢;clear n0 t9;go_wp2
     go_loopg [57] n (fun gh v57 wr=>∃ kk:Nat,gh+kk=n/\v57=.int .i64 kk/\(∀ i,i<kk->lV (l.getD i default)=false)/\wo.grownBy wr none)
     case atStart=>exact⟨0,rfl,rfl,fun i hi=>by omega,zL _ _⟩
     case round =>
      obtain⟨kk,o5,rfl,o3,hg⟩:=hrel;have f4:=Kh o5;have q6:=Kh o3;have x8:=Kh hg;clear o5 o3;by_cases hkn:kk<n
      ·have j7:(kk:Int)<n:=by omega
       obtain⟨b,off,cap,e,_,p0,e7,a0⟩:=(a9.out.grow hg).at_ (by rw[<- HN.out];omega);rw[<- HN.out]at e p0;simp only[Value.slice.injEq,true_and]at e;obtain⟨rfl,rfl⟩:=e;have y7:lc<=9223372036854775807:=by unfold maxLen at e7;omega
       have e3:kk<l.length:=(by rw[<- HN.out];exact hkn);have d1:=a0.m kk e3;have d2:=a0.y kk e3;have d3:=a0.n kk e3;have c8:Hid (l.getD kk default∈l):=Kh (by rw[zG e3];exact List.getElem_mem e3);obtain⟨cc,k9⟩:∃ c,c=l.getD kk default:=⟨_,rfl⟩;rw[<- k9]at d1 d2 d3 c8;have y3:=Kh k9;have m0:Hid (lV cc=decide (0<=cc.yes/\0<=cc.no)):=Kh rfl;obtain⟨U,hU⟩:∃ U,U=mT cc.m:=⟨_,rfl⟩;obtain⟨y,hy⟩:∃ y,y=cc.yes:=⟨_,rfl⟩;obtain⟨z,hz⟩:∃ z,z=cc.no:=⟨_,rfl⟩;rw[<- hU]at d1;rw[<- hy]at d2;rw[<- hz]at d3;rw[<- hy,<- hz]at m0;have HY:=Kh hy;have HZ:=Kh hz;have e8:=heap_alloc_new wr (.cells #[.string U,.int .i64 y,.int .i64 z] 99);have k0:=Ga wr (.cells #[.string U,.int .i64 y,.int .i64 z] 99) none;obtain⟨wR,i2⟩:∃ wR,wR=wr.alloc (.cells #[.string U,.int .i64 y,.int .i64 z] 99):=⟨_,rfl⟩;obtain⟨R,hR⟩:∃ R,R=wr.heap.size:=⟨_,rfl⟩;rw[<- i2]at e8 k0;rw[<- hR]at e8;have s4:=Kh i2;have t6:=Kh hR;have z0:=Kh e8;have a2:=Kh (zA x8.out k0 (by simp));obtain⟨r0,r1,r2⟩:=zM e8;clear a0 p0 e7 hU hy hz i2 hR e8 k0 k9 hg;go_upto_region 16 with fail;rw[<- s4.out,<- t6.out];clear d1 d2 d3;by_cases hyz:0<=y/\0<=z
       case neg =>
        have i0:Hid (lV cc=false):=Kh (by rw[m0.out,decide_eq_false hyz])
        have q5:Hid (∀ i,i<kk+1->lV (l.getD i default)=false):=Kh (fun i hi=>by
         rcases Nat.lt_succ_iff_lt_or_eq.1 hi with hi|rfl
         ·exact q6.out i hi
         ·rw[<- y3.out];exact i0.out)
        by_cases i1:0<=y
        ·have m8:¬ 0<=z:=fun h=>hyz ⟨i1,h⟩
         clear hyz;go_wp2;go_roundg (n - (kk+1))
         case measure=>have:=f4.out;omega
         case rel=>exact⟨kk+1,by have:=f4.out;omega,by go_num,q5.out,a2.out⟩
        ·clear hyz
         go_wp2;go_roundg (n - (kk+1))
         case measure=>have:=f4.out;omega
         case rel=>exact⟨kk+1,by have:=f4.out;omega,by go_num,q5.out,a2.out⟩
       case pos =>
        obtain⟨i1,m8⟩:=hyz;have i0:Hid (lV cc=true):=Kh (by rw[m0.out,decide_eq_true ⟨i1,m8⟩]);obtain⟨yn,zn,e1,e2,m9,m4,b5,b4,d9⟩:=g9.out.both c8.out i0.out;rw[<- HY.out]at e1;rw[<- HZ.out]at e2;subst e1;subst e2;have x4:=Kh b5;have x3:=Kh b4;have x2:=Kh d9;have p5:Hid (∀ (W:World) (s:Nat),wR.grownBy W none->s<L.length->Calls Try.prog 60 #[.pointer (some ⟨o,0,none⟩),.int .i64 (s:Int)] W (qGU W (ofT d ps) k L s)):=Kh (fun W s hW hs=>pword_any W o k _ (ofT d ps) L nxl fr bl sb sc8 nb nc8 fb fc8 bb bc8 s (f2.out.grow (zA a2.out hW (by simp))) y0.out j8 hs g7);have p4:=Kh m9;have p3:=Kh m4;clear b5 b4 d9 m9 m4;go_upto_region 17 with fail;obtain⟨w5,c5⟩:∃ w5,w5=wR.drew:=⟨_,rfl⟩;have h9:wR.grownBy w5 none:=(by rw[c5];exact zO wR none);have l1:=Kh c5;have q9:=Kh h9;have C5:Hid (w5.cell? ⟨R,1,none⟩=some (.int .i64 (yn:Int))/\w5.cell? ⟨R,2,none⟩=some (.int .i64 (zn:Int))):=Kh ⟨xE r1 h9,xE r2 h9⟩;clear h9 c5 r0 r1 r2;refine wp_region_noPanic ?_;refine wQ (G:=tZ 8 (fun _=>True) (fun W=>W.cell? ⟨R,1,none⟩=some (.int .i64 (yn:Int))/\W.cell? ⟨R,2,none⟩=some (.int .i64 (zn:Int)))) (by kernel_rfl) ?_;rw[<- l1.out];refine zW 0 ⟨trivial,fun _=>C5.out⟩ ?_;refine zW 1 ⟨trivial,fun _=>C5.out⟩ ?_;refine zW 2 ⟨trivial,fun _=>C5.out⟩ ?_;refine zW 5 ⟨trivial,fun _=>C5.out⟩ ?_;refine zW 6 ⟨trivial,fun _=>C5.out⟩ ?_;refine dD 7 ⟨trivial,fun _=>C5.out⟩ ?_;obtain⟨k1,k2⟩:=C5.out;refine oneG (i:=3) (by kernel_rfl) rfl (fun K hK=>?_);go_simp;refine hK.out _ _ ⟨trivial,fun _=>C5.out⟩ ?_;clear hK K k1 k2
        try simp only[Act.put,sPa,sPb,sPc]
        refine oneG (i:=4) (by kernel_rfl) rfl (fun K hK=>?_);go_simp
        go_at_call 60
        refine(p5.out w5 yn q9.out p4.out).mono ?_;rintro e w6 ⟨u1,n9,n8,n7,rfl,h8⟩;have l7:=Kh (zD q9.out h8);have p8:=Kh n9;have s9:=Kh n8;have s8:=Kh n7;have C6:Hid (w6.cell? ⟨R,1,none⟩=some (.int .i64 (yn:Int))/\w6.cell? ⟨R,2,none⟩=some (.int .i64 (zn:Int))):=Kh ⟨xE C5.out.1 h8,xE C5.out.2 h8⟩;refine hK.out _ _ ⟨trivial,fun _=>C6.out⟩ ?_;clear hK K C5 h8 n9 n8 n7
        try simp only[Act.put,sPa,sPb,sPc]
        refine oneG (i:=8) (by kernel_rfl) rfl (fun K hK=>?_);go_simp
        go_at_call 60
        refine(p5.out w6 zn l7.out p3.out).mono ?_;rintro e w7 ⟨u2,n5,n4,n3,rfl,H9⟩;have p7:=Kh n5;have s7:=Kh n4;have s6:=Kh n3;have h4:=Kh (zA h4.out (zA a2.out (zD l7.out H9) (by simp)) (by simp));have h0:=Kh (zB h0.out (zA a2.out (zD l7.out H9) (by simp)) (by simp));refine hK.out _ _ ⟨trivial,fun h=>by simp at h⟩ ?_;clear hK K C6 H9 n5 n4 n3
        try simp only[Act.put,sPa,sPb,sPc]
        have h2:=h0.out;have f40:=zE h2 0;have f41:=zE h2 1;have f42:=zE h2 2;have j6:=zK h2;obtain⟨v0,v1,v2⟩:=zM h2;refine oneG (i:=9) (by kernel_rfl) rfl (fun K hK=>?_);go_simp;have g1:=zD (zD (zC w7 ⟨P,0,none⟩ (.slice none 0 0)) (zC _ ⟨P,1,none⟩ (.slice none 0 0))) (zC _ ⟨P,2,none⟩ (.int .i64 0));have z1:=heap_setCell_same _ P 2 _ _ (.int .i64 0) (heap_setCell_same _ P 1 _ _ (.slice none 0 0) (heap_setCell_same w7 P 0 _ _ (.slice none 0 0) h2));obtain⟨w9,H7⟩:∃ w9,w9=((w7.setCell ⟨P,0,none⟩ (.slice none 0 0)).setCell ⟨P,1,none⟩ (.slice none 0 0)).setCell ⟨P,2,none⟩ (.int .i64 0):=⟨_,rfl⟩;rw[<- H7]at g1 z1 ⊢;simp only[Array.setIfInBounds,List.size_toArray,List.length_cons,List.length_nil]at z1;refine hK.out _ _ ⟨trivial,fun h=>by simp at h⟩ ?_;clear hK K v0 v1 v2 f40 f41 f42
        try simp only[Act.put,sPa,sPb,sPc]
        refine oneG (i:=10) (by kernel_rfl) rfl (fun K hK=>?_);go_simp;refine hK.out _ _ ⟨trivial,fun h=>by simp at h⟩ ?_;clear hK K
        try simp only[Act.put,sPa,sPb,sPc]
        refine oneG (i:=11) (by kernel_rfl) rfl (fun K hK=>?_);go_simp;refine hK.out _ _ ⟨trivial,fun h=>by simp at h⟩ ?_;clear hK K
        try simp only[Act.put,sPa,sPb,sPc]
        refine oneG (i:=12) (by kernel_rfl) rfl (fun K hK=>?_);go_simp;refine hK.out _ _ ⟨trivial,fun h=>by simp at h⟩ ?_;clear hK K
        try simp only[Act.put,sPa,sPb,sPc]
        refine rH (by kernel_rfl) ?_ _;refine NoPanic.normal ?_;obtain⟨q0,q1,q2⟩:=zM z1;have t0:=Kh H7;clear H7 h2;obtain⟨s1,i6⟩:∃ s,s=strOfNums (lets u1):=⟨_,rfl⟩;obtain⟨s2,i5⟩:∃ s,s=strOfNums (lets u2):=⟨_,rfl⟩;rw[<- i6,<- i5];have t5:=Kh i6;have t4:=Kh i5;clear i6 i5;go_wp2
        try rw[<- t0.out]
        refine bodyPost_ret (v:=.tuple #[.agg #[.slice none 0 0,.slice none 0 0,.int .i64 0],.string s1,.string s2,.int .i64 20]) (by simp[results,Try.results19,go_sem,q0,q1,q2,Result.andThen]) rfl ?_;have a8:=m3.out;rw[a4.out]at a8;have a0:=g9.out;rw[H0.out]at a0;have j0:ps.length<(ofT d ps).length:=(by rw[uB];omega);have b5:=x4.out;rw[H0.out]at b5;have b4:=x3.out;rw[H0.out]at b4;have d9:=x2.out;rw[H0.out]at d9;obtain⟨t1,t2,t3⟩:=of_conf b1.out a8 (by rw[<- a4.out];exact p8.out) (by rw[<- a4.out];exact p7.out) s8.out s6.out b5 b4 d9;refine⟨_,_,_,_,rfl,?_,zA h4.out g1 (fun j e=>by have e:P=j:=Oj e;have:=d4.out;omega)⟩;intro w2 d0;rw[t5.out,t4.out];exact OfOut.conf b1.out ⟨L,a8,g7⟩ (cls_conf j0 a8 a0 c8.out i0.out) u1 u2 (by rw[<- a4.out];exact p8.out) (by rw[<- a4.out];exact p7.out) (by have:=s9.out;have:=p4.out;omega) (by have:=s7.out;have:=p3.out;omega) t1 t2 t3
      ·have j7:¬ (kk:Int)<n:=by omega
       have r6:Hid (∀ c∈l,lV c=false):=Kh (fun c hc=>by
        obtain⟨i,hi,rfl⟩:=List.getElem_of_mem hc;have:=q6.out i (by have:=f4.out;have:=HN.out;omega)
        rwa [zG hi]at this)
       have b2:=Kh (zA h4.out hg (by simp));have e6:=g9.out;have l8:Hid (Calls Try.prog 61 #[.slice pa n2 pc,.slice la n lc] wr (qIE wr ps l)):=Kh (diagram_any Bd wr _ _ ps l (by have:=b2.out.size;omega) (HP.out.kept b2.out (by simp)) ((a9.out.grow hg).mono (fun j hj=>Nat.lt_of_lt_of_le hj hg.size)) (by rw[<- HN.out];exact b6) (by rw[<- HN.out];omega) (by rw[<- H0.out];exact clsok_of e6 (fun i=>oH _ _ _)) (by rw[<- H0.out];omega) (of_short b1.out));have f8:=Kh (zB h0.out hg (by simp));clear hg e6;go_wp2_with fail;refine l8.out.mono ?_;rintro e w11 ⟨v11,g,rfl,k8,b8,b7,o7,o6,h9,h8,c6⟩;have k7:=k8 w11 (GrownBut.refl _ _);obtain⟨pv2,cv2,rfl,o0,e7⟩:=k7;obtain⟨ap,cp,rfl⟩:=o0.shape;obtain⟨ac,cc,rfl⟩:=e7.shape;have r4:=Kh k8;have h4:=Kh (zA b2.out c6 (by simp));have h0:=Kh (zB f8.out c6 (by simp));have l4:Hid (P<wr.heap.size):=Kh (zK f8.out);have H1:=Kh b8;have H2:=Kh b7;have H3:=Kh o7;have H4:=Kh o6;have H5:=Kh h9;have H6:=Kh h8;obtain⟨m1,b5⟩:∃ m,m=g.pats.length:=⟨_,rfl⟩;obtain⟨m2,b4⟩:∃ m,m=g.chos.length:=⟨_,rfl⟩;obtain⟨rt,i7⟩:∃ m,m=g.root:=⟨_,rfl⟩;rw[<- b5,<- b4,<- i7]at r4 ⊢;have y8:=Kh i7;clear k8 o0 e7 c6 b8 b7 o7 o6 h9 h8 b5 b4 i7;have h2:=h0.out;have f40:=zE h2 0;have f41:=zE h2 1;have f42:=zE h2 2;have j6:=zK h2;obtain⟨v0,v1,v2⟩:=zM h2;go_wp2;have g1:=zD (zD (zC w11 ⟨P,0,none⟩ (.slice ap m1 cp)) (zC _ ⟨P,1,none⟩ (.slice ac m2 cc))) (zC _ ⟨P,2,none⟩ (.int .i64 rt));have z1:=heap_setCell_same _ P 2 _ _ (.int .i64 rt) (heap_setCell_same _ P 1 _ _ (.slice ac m2 cc) (heap_setCell_same w11 P 0 _ _ (.slice ap m1 cp) h2));obtain⟨w9,H7⟩:∃ w9,w9=((w11.setCell ⟨P,0,none⟩ (.slice ap m1 cp)).setCell ⟨P,1,none⟩ (.slice ac m2 cc)).setCell ⟨P,2,none⟩ (.int .i64 rt):=⟨_,rfl⟩;rw[<- H7]at g1 z1 ⊢;simp only[Array.setIfInBounds,List.size_toArray,List.length_cons,List.length_nil]at z1;obtain⟨q0,q1,q2⟩:=zM z1;refine bodyPost_ret (v:=.tuple #[.agg #[.slice ap m1 cp,.slice ac m2 cc,.int .i64 rt],.string ⟨#[]⟩,.string ⟨#[]⟩,.int .i64 0]) (by simp[results,Try.results19,go_sem,q0,q1,q2,Result.andThen]) rfl ?_;have a8:=m3.out;rw[a4.out]at a8;have a0:=g9.out;rw[H0.out]at a0;have j0:ps.length<(ofT d ps).length:=(by rw[uB];omega);refine⟨_,_,_,_,rfl,(fun w2 d0=>OfOut.ok _ g l L b1.out a8 g7 (cls_noconf j0 a8 a0 r6.out) (r4.out w2 (((GrownBut.refl w11 _).step g1 (fun j e=>.inl (show j<wr.heap.size by have e:P=j:=Oj e;have:=l4.out;omega))).trans' d0 (fun j (hj:j<w.heap.size)=>.inl (show j<wr.heap.size by have:=b2.out.size;omega)))) H1.out H2.out H3.out H4.out (of_dec b1.out a8 a0 r6.out H2.out H4.out H5.out) a0 H6.out),zA h4.out g1 (fun j e=>by have e:P=j:=Oj e;have:=d4.out;omega)⟩
theorem qGK (Bd:Nat)(w:World)(dv pv:Value)(d:DfaV)(ps:List (List ByteArray))(hBd:Bd<=w.heap.size)(hd:uW Bd w dv d)(hp:PatsIn Bd w pv ps)(hp4:ps.length<=4096):
  Calls Try.prog 19 #[dv,pv] w (qIQ w d ps) :=
 (qER Bd w dv pv d ps hBd hd hp hp4).mono fun _ w' ⟨v,u1,u2,E,he,ho,hg⟩=>⟨v,u1,u2,E,he,ho w' (GrownBut.refl _ _),hg⟩
end Go.Proofs.Ytjfdomfendbhfaa
namespace Go.Proofs.Ytjfdomfendbhfaa
open Go.RowKit
theorem lets_at {u:List Nat}{i:Nat}(hu:yJ 2 u)(hi:i<u.length):∃ h:i<(strOfNums (lets u)).size,(((strOfNums (lets u))[i]'h).toNat:Nat)=97+u.getD i 0:=by
 have hq:i<(strOfNums (lets u)).size:=by rw[strOfNums_size];simpa [lets] using hi
 refine⟨hq,?_⟩;have e2:(strOfNums (lets u)).data.toList[i]'(by simpa using hq)=(strOfNums (lets u))[i]'hq:=rfl;have e1:(strOfNums (lets u)).data.toList=(lets u).map (fun n=>UInt8.ofNat n.toNat):=strOfNums_data _;rw[<- e2,zG hi];have e3:(lets u)[i]'(by simpa [lets] using hi)=97+((u[i]:Nat):Int):=by simp[lets]
 simp only[e1,List.getElem_map,e3];have:=hu _ (List.getElem_mem hi);rw[UInt8.toNat_ofNat'];omega
theorem qAM {u:List Nat}{i:Nat}(hi:i<u.length):run dK 0 (u.take (i+1))=nx dK (run dK 0 (u.take i)) (u.getD i 0):=by
 rw[zR (d:=0) hi];unfold run;rw[List.foldl_append];rfl
theorem nxK:nx dK 0 0=1/\nx dK 0 1=0/\nx dK 1 0=1/\nx dK 1 1=2/\nx dK 2 0=1/\nx dK 2 1=2:=by decide +kernel
theorem nxK_ne {q x:Nat}(hq:q<3)(hx:x<2):decide (nx dK q x≠0)=(decide (x=0) || decide (q≠0)):=by
 obtain⟨h1,h2,h3,h4,h5,h6⟩:=nxK;rcases (by omega:q=0\/q=1\/q=2) with rfl|rfl|rfl<;>rcases (by omega:x=0\/x=1) with rfl|rfl<;>simp[h1,h2,h3,h4,h5,h6]
theorem accK (u:List Nat)(hu:yJ 2 u):acc dK 0 u=decide (run dK 0 u=2):=by
 have h:=qCI hu;unfold acc
 generalize run dK 0 u=q at h
 rcases (by omega:q=0\/q=1\/q=2) with rfl|rfl|rfl<;>rfl
theorem qEK (w:World)(u:List Nat)(hu:yJ 2 u)(hl:u.length<=4000):
  Calls Try.prog 46 #[.string (strOfNums (lets u))] w fun e w'=>e=.returned (.bool (acc dK 0 u))/\w=w':=by
 have H2:Hid (∀ i,i<u.length->∃ h:i<(strOfNums (lets u)).size,(((strOfNums (lets u))[i]'h).toNat:Nat)=97+u.getD i 0):=Kh (fun i hi=>lets_at hu hi);obtain⟨S,hS⟩:∃ S,S=strOfNums (lets u):=⟨_,rfl⟩;have a1:S.size=u.length:=by rw[hS,strOfNums_size];simp[lets]
 rw[<- hS]at H2 ⊢;obtain⟨n,hn⟩:∃ n,n=u.length:=⟨_,rfl⟩;rw[<- hn]at a1 H2 hl;have HN:=Kh hn;have H6:=Kh hu;have a0:Hid (∀ i,yJ 2 (u.take i)):=Kh (fun i a ha=>hu a (List.mem_of_mem_take ha));clear hS hn hu;go_enter Try.func46,Try.ntmps46;go_wp2
 go_loopg [3,4] n (fun gh v3 v4 wr=>∃ i:Nat,gh+i=n/\v4=.int .i64 i/\v3=.bool (decide (run dK 0 (u.take i)≠0))/\w=wr)
 case atStart=>exact⟨0,rfl,rfl,rfl,rfl⟩
 case round =>
  obtain⟨i,H9,rfl,rfl,rfl⟩:=hrel;have h8:=Kh H9;clear H9;by_cases hi:i<n
  ·have a2:(i:Int)<S.size:=by omega
   obtain⟨hb,hx⟩:=H2.out i hi;have H0:u.getD i 0<2:=H6.out _ (by rw[zG (by rw[<- HN.out];exact hi)];exact List.getElem_mem _);have H1:=Kh (nxK_ne (qCI (a0.out i)) H0);rw[<- qAM (by rw[<- HN.out];exact hi)]at H1;obtain⟨b,h7⟩:∃ b,b=decide (run dK 0 (u.take i)≠0):=⟨_,rfl⟩;rw[<- h7]at H1 ⊢;rcases (by omega:u.getD i 0=0\/u.getD i 0=1) with e|e
   ·rw[e]at hx H1
    have H3:((S[i].toNat:Nat):Int)=97:=by rw[hx];rfl
    have HE:Hid (decide (run dK 0 (u.take (i+1))≠0)=true):=Kh (by rw[H1.out];simp);clear hx e H0 h7;cases b with
    | true =>
     go_wp2;go_roundg (n - (i+1))
     case measure=>have:=h8.out;omega
     case rel=>exact⟨i+1,by have:=h8.out;omega,by go_num,by rw[HE.out],rfl⟩
    | false =>
     go_wp2;go_roundg (n - (i+1))
     case measure=>have:=h8.out;omega
     case rel=>exact⟨i+1,by have:=h8.out;omega,by go_num,by rw[HE.out],rfl⟩
   ·rw[e]at hx H1
    have H3:((S[i].toNat:Nat):Int)=98:=by rw[hx];rfl
    have HE:Hid (decide (run dK 0 (u.take (i+1))≠0)=b):=Kh (by rw[H1.out];simp);clear hx e H0 h7;cases b with
    | true =>
     go_wp2;go_roundg (n - (i+1))
     case measure=>have:=h8.out;omega
     case rel=>exact⟨i+1,by have:=h8.out;omega,by go_num,by rw[HE.out],rfl⟩
    | false =>
     go_wp2;go_roundg (n - (i+1))
     case measure=>have:=h8.out;omega
     case rel=>exact⟨i+1,by have:=h8.out;omega,by go_num,by rw[HE.out],rfl⟩
  ·have H5:i=n:=by have:=h8.out;omega
   have a2:¬ (i:Int)<S.size:=(by omega);have a3:Hid (u.take i=u):=Kh (List.take_of_length_le (by rw[<- HN.out];omega));obtain⟨bb,h7⟩:∃ b,b=decide (run dK 0 (u.take i)≠0):=⟨_,rfl⟩;rw[<- h7];rw[a3.out]at h7;have H7:=Kh (accK u H6.out);by_cases h0:run dK 0 u=0
   ·have HA:Hid (acc dK 0 u=false):=Kh (by rw[H7.out,h0];rfl)
    obtain rfl:bb=false:=by rw[h7];simp[h0]
    clear h0 H5 h7;go_wp2;go_ret;exact⟨yB HA.out.symm,rfl⟩
   ·obtain rfl:bb=true:=by rw[h7];simp[h0]
    clear h7
    obtain⟨m,rfl⟩:∃ m,n=m+1:=by
     rcases Nat.eq_zero_or_pos n with hz|hz
     ·exfalso
      apply h0;have H4:u=[]:=List.eq_nil_of_length_eq_zero (by rw[<- HN.out];exact hz);rw[H4];rfl
     ·exact⟨n - 1,by omega⟩
    obtain⟨hb,hx⟩:=H2.out m (by omega);have H0:u.getD m 0<2:=H6.out _ (by rw[zG (by rw[<- HN.out];omega)];exact List.getElem_mem _);have h9:=qAM (u:=u) (i:=m) (by rw[<- HN.out];omega);rw[List.take_of_length_le (by rw[<- HN.out];omega)]at h9;have H8:=qCI (a0.out m);have e5:((S.size:Nat):Int) - 1=(m:Int):=by omega
    have e6:IntKind.i64.wrap (((S.size:Nat):Int) - 1)=(m:Int):=by rw[e5];exact sO (by omega)
    have a4:(m:Int)<S.size:=(by omega);have a5:m<S.size:=(by omega);rcases (by omega:u.getD m 0=0\/u.getD m 0=1) with e|e
    ·rw[e]at hx h9
     have H3:((S[m].toNat:Nat):Int)=97:=by rw[hx];rfl
     have HA:Hid (acc dK 0 u=false):=Kh (by
      rw[H7.out,h9];obtain⟨h1,h2,h3,h4,h5,h6⟩:=nxK
      rcases (by omega:run dK 0 (u.take m)=0\/run dK 0 (u.take m)=1\/run dK 0 (u.take m)=2) with q|q|q<;>rw[q]<;>simp[h1,h3,h5])
     clear hx e H0 h9 H8 h0 H5;go_wp2;go_ret;exact⟨yB HA.out.symm,rfl⟩
    ·rw[e]at hx h9
     have H3:((S[m].toNat:Nat):Int)=98:=by rw[hx];rfl
     have HA:Hid (acc dK 0 u=true):=Kh (by
      rw[H7.out];rw[h9]at h0 ⊢;obtain⟨h1,h2,h3,h4,h5,h6⟩:=nxK;rcases (by omega:run dK 0 (u.take m)=0\/run dK 0 (u.take m)=1\/run dK 0 (u.take m)=2) with q|q|q<;>rw[q]at h0 ⊢
      ·exact absurd h2 h0
      ·rw[h4];rfl
      ·rw[h6];rfl)
     clear hx e H0 h9 H8 h0 H5;go_wp2;go_ret;exact⟨yB HA.out.symm,rfl⟩
theorem RowT.litC {B:Nat}{e:TypeId}{w:World}{b:Nat}{cs:Array Value}{m:Nat×Nat}{n:Nat}(h:w.heap[b]?=some (.cells cs e m))(hb:b<B)(hn:cs.size=n)(hm:n<=maxLen):RowT B e w (.slice (some ⟨b,0,none⟩) n n) cs.toList :=
 .inr ⟨b,0,n,cs,m,by simp[hn],hb,by simp[hn],hm,h,fun i hi=>by
  rw[Nat.zero_add]
  have:i<cs.size:=by simpa using hi
  simp[this]⟩
theorem lM {w:World}{v:Value}{svs:List Value}{l:List (List (List Int))}(h:RowT w.heap.size 28 w v svs)(hr:wH w.heap.size 9 strs w svs l)(hs:∀ p∈l,∀ u∈p,u.length<=4096):PatsIn w.heap.size w v (famB l):=by
 refine⟨svs,h.row,by rw[vS];exact hr.1,fun i h1 h2=>?_⟩;have h3:i<l.length:=by rw[vS]at h2;exact h2
 have e:(famB l)[i]=l[i].map strOfNums:=by simp[famB]
 rw[e];refine⟨?_,fun j hj=>?_⟩
 ·have:=(hr.2 i h1 h3).row
  rw[strs_txtV]at this;exact this
 ·have h0:j<l[i].length:=by simpa using hj
  have:=hs l[i] (List.getElem_mem h3) _ (List.getElem_mem h0);have e2:(l[i].map strOfNums)[j]=strOfNums (l[i][j]):=by simp
  rw[e2,strOfNums_size];unfold maxLen;omega
theorem dK_lit (w:World):∃ w',w'=((((w.alloc (.cells #[.bool false,.bool false,.bool true] 4)).alloc (.cells #[.int .i64 1,.int .i64 0] 3)).alloc (.cells #[.int .i64 1,.int .i64 2] 3)).alloc (.cells #[.int .i64 1,.int .i64 2] 3)).alloc (.cells #[.slice (some ⟨w.heap.size+1,0,none⟩) 2 2,.slice (some ⟨w.heap.size+1+1,0,none⟩) 2 2,.slice (some ⟨w.heap.size+1+1+1,0,none⟩) 2 2] 34)/\w.grownBy w' none/\w'.heap.size=w.heap.size+5/\uW w'.heap.size w' (.agg #[.int .i64 2,.int .i64 0,.slice (some ⟨w.heap.size,0,none⟩) 3 3,.slice (some ⟨w.heap.size+1+1+1+1,0,none⟩) 3 3]) dK:=by
 obtain⟨w1,h7⟩:∃ w1,w1=w.alloc (.cells #[.bool false,.bool false,.bool true] 4):=⟨_,rfl⟩;obtain⟨w2,h6⟩:∃ w2,w2=w1.alloc (.cells #[.int .i64 1,.int .i64 0] 3):=⟨_,rfl⟩;obtain⟨w3,h5⟩:∃ w3,w3=w2.alloc (.cells #[.int .i64 1,.int .i64 2] 3):=⟨_,rfl⟩;obtain⟨w4,h4⟩:∃ w4,w4=w3.alloc (.cells #[.int .i64 1,.int .i64 2] 3):=⟨_,rfl⟩;obtain⟨w5,h0⟩:∃ w5,w5=w4.alloc (.cells #[.slice (some ⟨w.heap.size+1,0,none⟩) 2 2,.slice (some ⟨w.heap.size+1+1,0,none⟩) 2 2,.slice (some ⟨w.heap.size+1+1+1,0,none⟩) 2 2] 34):=⟨_,rfl⟩;have g1:w.grownBy w1 none:=by rw[h7];exact Ga _ _ _
 have g2:w1.grownBy w2 none:=by rw[h6];exact Ga _ _ _
 have g3:w2.grownBy w3 none:=by rw[h5];exact Ga _ _ _
 have g4:w3.grownBy w4 none:=by rw[h4];exact Ga _ _ _
 have g5:w4.grownBy w5 none:=by rw[h0];exact Ga _ _ _
 have z1:w1.heap.size=w.heap.size+1:=by rw[h7,zJ]
 have z2:w2.heap.size=w.heap.size+2:=by rw[h6,zJ,z1]
 have z3:w3.heap.size=w.heap.size+3:=by rw[h5,zJ,z2]
 have z4:w4.heap.size=w.heap.size+4:=by rw[h4,zJ,z3]
 have z5:w5.heap.size=w.heap.size+5:=by rw[h0,zJ,z4]
 have b1:w5.heap[w.heap.size]?=some (.cells #[.bool false,.bool false,.bool true] 4 (0,0)):=zB (zB (zB (zB (by rw[h7];exact heap_alloc_new w _) g2 (by simp)) g3 (by simp)) g4 (by simp)) g5 (by simp);have b2:w5.heap[w.heap.size+1]?=some (.cells #[.int .i64 1,.int .i64 0] 3 (0,0)):=zB (zB (zB (by rw[h6,<- z1];exact heap_alloc_new w1 _) g3 (by simp)) g4 (by simp)) g5 (by simp);have b3:w5.heap[w.heap.size+1+1]?=some (.cells #[.int .i64 1,.int .i64 2] 3 (0,0)):=zB (zB (by rw[h5,<- z2];exact heap_alloc_new w2 _) g4 (by simp)) g5 (by simp);have b4:w5.heap[w.heap.size+1+1+1]?=some (.cells #[.int .i64 1,.int .i64 2] 3 (0,0)):=zB (by rw[h4,<- z3];exact heap_alloc_new w3 _) g5 (by simp);have b5:w5.heap[w.heap.size+1+1+1+1]?=some (.cells #[.slice (some ⟨w.heap.size+1,0,none⟩) 2 2,.slice (some ⟨w.heap.size+1+1,0,none⟩) 2 2,.slice (some ⟨w.heap.size+1+1+1,0,none⟩) 2 2] 34 (0,0)):=by rw[h0,<- z4];exact heap_alloc_new w4 _
 have m2:2<=maxLen:=by unfold maxLen;omega
 have m3:3<=maxLen:=by unfold maxLen;omega
 refine⟨w5,by rw[h0,h4,h5,h6,h7],zA (zA (zA (zA g1 g2 (by simp)) g3 (by simp)) g4 (by simp)) g5 (by simp),z5,_,_,rfl,?_,?_⟩
 ·exact(RowT.litC b1 (by omega) rfl m3).row
 ·refine Mat.of_rowT (RowT.litC b5 (by omega) rfl m3) ⟨rfl,fun i h1 h2=>?_⟩ (Nat.le_refl _)
  have h3:i<3:=h2;rcases (by omega:i=0\/i=1\/i=2) with rfl|rfl|rfl
  ·exact RowT.litC b2 (by omega) rfl m2
  ·exact RowT.litC b3 (by omega) rfl m2
  ·exact RowT.litC b4 (by omega) rfl m2
theorem eN {w':World}{v:Value}{g:DiaV}(h:dG w'.heap.size w' v g):∃ ap cp ac cc,v=.agg #[.slice ap g.pats.length cp,.slice ac g.chos.length cc,.int .i64 g.root]:=by
 obtain⟨pv,cv,rfl,h1,h2⟩:=h;obtain⟨ap,cp,rfl⟩:=h1.shape;obtain⟨ac,cc,rfl⟩:=h2.shape;exact⟨ap,cp,ac,cc,rfl⟩
theorem tO (letters:Nat)(u:List Int):(block letters u 0).length=letters:=by simp[block]
theorem block_get {letters c:Nat}(u:List Int)(h:c<letters):(block letters u 0)[c]'(by rw[tO];exact h)=u++[97+(c:Int)]:=by simp[block]
theorem kA (letters:Nat):∀ n,upTo letters (n+1)=[[]]++(upTo letters n).flatMap fun u=>block letters u 0
 | 0=>by simp[upTo,lex]
 | n+1=>by
  have ih:=kA letters n
  rw[xK letters (n+1),kV]
  conv=>rhs;rw[xK letters n,List.flatMap_append,<- List.append_assoc,<- ih]
def grown (letters n i:Nat):List (List Int):=[[]]++((upTo letters n).take i).flatMap fun u=>block letters u 0
theorem qBR {letters n i:Nat}(h:(upTo letters n).length<=i):grown letters n i=upTo letters (n+1):=by
 rw[grown,List.take_of_length_le h,kA]
theorem jS {letters n i:Nat}(h:i<(upTo letters n).length):grown letters n (i+1)=grown letters n i++block letters (upTo letters n)[i] 0:=by
 rw[grown,List.take_succ_eq_append_getElem h,List.flatMap_append,<- List.append_assoc];simp[grown]
theorem qBQ (letters n i:Nat):grown letters n i <+: upTo letters (n+1):=by
 have e:upTo letters (n+1)=grown letters n i++((upTo letters n).drop i).flatMap fun u=>block letters u 0:=by
  rw[kA,grown,List.append_assoc,<- List.flatMap_append,List.take_append_drop]
 rw[e];exact List.prefix_append _ _
theorem iM {letters n:Nat}(h1:1<=letters):∀ i,i<=(upTo letters n).length->i+1<=(grown letters n i).length
 | 0,_=>by simp[grown]
 | i+1,h=>by
  have:=iM (n:=n) h1 i (by omega)
  rw[jS (by omega),List.length_append,tO];omega
theorem upTo_pre (letters n:Nat):upTo letters n <+: upTo letters (n+1):=by rw[xK];exact List.prefix_append _ _
theorem qFS {α:Type}{a b:List α}(h:a <+: b){i:Nat}(hi:i<a.length):a[i]=b[i]'(Nat.lt_of_lt_of_le hi h.length_le):=by
 obtain⟨c,rfl⟩:=h;rw[List.getElem_append_left]
theorem lH {letters n:Nat}{u:List Int}(h:u∈upTo letters n):u.length<n:=by
 simp only[upTo,List.mem_flatMap,List.mem_range]at h;obtain⟨m,hm,hu⟩:=h;rw[(sM hu).1];exact hm
theorem upTo_last {letters n i:Nat}(h:(upTo letters n).length<=i)(hi:i<(upTo letters (n+1)).length):((upTo letters (n+1))[i]).length=n:=by
 have e:(upTo letters (n+1))[i]=(lex letters n)[i - (upTo letters n).length]'(by rw[xK,List.length_append]at hi;omega):=by
  simp only[xK];rw[List.getElem_append_right h]
 rw[e];exact(sM (List.getElem_mem _)).1
theorem grown_step {letters n i x:Nat}(h:i<(upTo letters n).length)(hx:x<letters):grown letters n i++(block letters (upTo letters n)[i] 0).take (x+1)=(grown letters n i++(block letters (upTo letters n)[i] 0).take x)++[(upTo letters n)[i]++[97+(x:Int)]]:=by
 rw[List.take_succ_eq_append_getElem (by rw[tO];exact hx),block_get _ hx,List.append_assoc]
theorem grown_part (letters n i x:Nat)(h:i<(upTo letters n).length):grown letters n i++(block letters (upTo letters n)[i] 0).take x <+: upTo letters (n+1):=by
 refine List.IsPrefix.trans ?_ (qBQ letters n (i+1));rw[jS h];exact List.prefix_append_right_inj _ |>.2 (List.take_prefix _ _)
theorem uC {w w':World}{p:Addr}{u:Value}(h:w.cell? p=some u)(hg:w.grownBy w' none):w'.cell? p=some u:=(World.cell?_of_block (hg.block p.block (World.block_lt_of_cell? w p h) (by simp))).trans h
theorem stepU_app1 {P:Program}{ops:Array Oper}{o:Oper}{a:Act}{w:World}{K:Act->World->Prop}{Q:Exit->Act->World->Prop}{R:Prop}(hgd:o.guard=none)(s x:Operand)(t:TypeId)(ho:o.op=.call { callee:=.builtin .append,args:=#[s,x],argTypes:=#[t,t] }){e:TypeId}{z:Value}{bytes:Nat}(E:ElemOk P t e z bytes)(base:Nat)(v:Value)(n:Nat)(xs:List Value)(hs:a.eval s=v)(hown:w.ownsRow base e 1 v n xs)(u:Value)(blk:Nat)(m:Nat×Nat)(hx:a.eval x=.slice (some ⟨blk,0,none⟩) 1 1)(hblk:w.heap[blk]?=some (.cells #[u] e m))(h1:u.oneCell'=true)(h63:n+1<=maxLen)(hbytes:(n+1) * bytes<=140737488355328)(hbase:base<=w.heap.size)(h:∀ sa sc w',w'.ownsRow base e 1 (.slice sa (n+1) sc) (n+1) (xs++[u])->w.grownBy w' v.ownBlock->K (a.put o.dst (.slice sa (n+1) sc)) w'):
  if Region.wanted o (yielded ops a.tmps)=true then Oper.wp P o a w K Q else R:=by
 have hw:Region.wanted o (yielded ops a.tmps)=true:=by simp[Region.wanted,hgd]
 rw[if_pos hw];obtain⟨i,hi,hz,h0,h3⟩:=info_parts E.hi;refine wp_append_own w s x t ho base e i z 1 bytes E.ht hi hz h0 h3 E.hz (by decide) v n xs hs hown ⟨blk,0,none⟩ 1 1 [u] hx rfl ?_ ?_ h63 hbytes hbase ?_
 ·intro j u' hj
  match j,hj with
  | 0,hj=>simp at hj;subst hj;simpa [Addr.add] using zH hblk 0 (by simp)
 ·intro u' hu;simp at hu;subst hu;exact h1
 ·intro v' w' h1 h2 _
  obtain⟨sa,sc,rfl⟩:=rP h1;exact h sa sc w' h1 h2
theorem qAG {w:World}{kb:Nat}{l:List (List Int)}(h:Arr w kb 9 (strs l))(i:Nat)(hi:i<l.length):w.cell? ⟨kb,i,none⟩=some (.string (strOfNums l[i])):=by
 rw[h.cell i (by rw[yT];exact hi)];simp[strs]
theorem strs_catU (u:List Int)(c:Int):strOfNums u++strOfNums [c]=strOfNums (u++[c]):=by
 have h:(strOfNums u++strOfNums [c]).data.toList=(strOfNums (u++[c])).data.toList:=by
  rw[ByteArray.data_append,Array.toList_append,strOfNums_data,strOfNums_data,strOfNums_data,List.map_append]
 have h2:=Array.toList_inj.1 h;cases h3:strOfNums u++strOfNums [c];cases h4:strOfNums (u++[c])
 simp_all
theorem upto_any (letters n:Nat)(w:World)(h1:1<=letters)(h6:letters<=6)(hn8:n<=8)(hlim:(upTo letters (n+1)).length<=1000):Calls Try.prog 76 #[.int .i64 letters,.int .i64 n] w (eZ w (upTo letters (n+1))):=by
 obtain⟨P,hP⟩:∃ P,P=w.heap.size:=⟨_,rfl⟩;have a8:=Kh hP;have HF:Hid (∀ i,(grown letters n i).length<=1000):=Kh (fun i=>Nat.le_trans (qBQ letters n i).length_le hlim);have d9:=Kh hlim
 have ho:(w.alloc (.cells #[.string ⟨#[]⟩] 9)).ownsRow P 9 1 (.slice (some ⟨P,0,none⟩) 1 1) 1 (strs (grown letters n 0)):=by
  rw[hP];exact World.ownsRow_lit (e:=9) (size:=1) w #[.string ⟨#[]⟩] 1 (Nat.le_refl _) (by unfold maxLen;omega) (by simp)
 have b5:w.grownBy (w.alloc (.cells #[.string ⟨#[]⟩] 9)) none:=Ga _ _ _;have HO:=Kh ho;have HG:=Kh b5;clear ho b5 hlim;go_enter Try.func76,Try.ntmps76;go_upto_region 2 with fail;rw[<- a8.out];obtain⟨w1,b1⟩:∃ w1,w1=w.alloc (.cells #[.string ⟨#[]⟩] 9):=⟨_,rfl⟩;rw[<- b1]at HO HG ⊢;clear b1 hP;go_wp2;obtain⟨U,hU⟩:∃ U,U=upTo letters n:=⟨_,rfl⟩;obtain⟨V,hV⟩:∃ V,V=upTo letters (n+1):=⟨_,rfl⟩;have b6:Hid (U <+: V):=Kh (by rw[hU,hV];exact upTo_pre letters n);have e8:V.length<=1000:=by rw[hV];exact d9.out
 have h3:=Kh hU;have H2:=Kh hV;rw[<- hV];clear hU hV;have f0:=b6.out.length_le
 go_loopg [5,6,7] V.length (fun gh lv iv av wr=>∃ (i L:Nat) (sa:Option Addr) (sc:Nat),gh+i=V.length/\iv=.int .i64 (i:Int)/\lv=.slice sa L sc/\Hid (L=(grown letters n i).length)/\Hid (wr.ownsRow P 9 1 (.slice sa L sc) L (strs (grown letters n i)))/\w.grownBy wr none)
 case atStart=>exact⟨0,1,some ⟨P,0,none⟩,1,rfl,rfl,rfl,Kh (by simp[grown]),HO,HG.out⟩
 case round =>
  obtain⟨i,L,sa,sc,hg,rfl,rfl,hL,h0,H5⟩:=hrel;have a1:=Kh hg;have a0:=Kh H5;have a7:L<=1000:=by rw[hL.out];exact HF.out i
  clear hg H5 HO HG;rcases Nat.lt_or_ge i U.length with hiU|hiU
  ·
   have b3:i<L:=by
    have:=iM (n:=n) h1 i (by rw[<- h3.out];omega);rw[<- hL.out]at this;omega
   have H4:(i:Int)<L:=(by omega);have hm:=List.getElem_mem hiU;have c5:(U[i]).length<n:=lH (by rw[<- h3.out];exact hm);obtain⟨u,hu⟩:∃ u,u=U[i]:=⟨_,rfl⟩;have HU:=Kh hu;rw[<- hu]at c5;obtain⟨X,hX⟩:∃ X,X=strOfNums u:=⟨_,rfl⟩;have c4:X.size=u.length:=by rw[hX,strOfNums_size]
   have HX:=Kh hX
   have d4:Hid (∀ x,x<letters->grown letters n i++(block letters u 0).take (x+1)=(grown letters n i++(block letters u 0).take x)++[u++[97+(x:Int)]]):=Kh (fun x hx=>by
    have:=grown_step (letters:=letters) (n:=n) (i:=i) (x:=x) (by rw[<- h3.out];exact hiU) hx;have e:(upTo letters n)[i]'(by rw[<- h3.out];exact hiU)=u:=by rw[hu];congr 1;exact h3.out.symm
    rw[e]at this;exact this)
   have b7:Hid (∀ x,grown letters n i++(block letters u 0).take x <+: V):=Kh (fun x=>by
    have:=grown_part letters n i x (by rw[<- h3.out];exact hiU);have e:(upTo letters n)[i]'(by rw[<- h3.out];exact hiU)=u:=by rw[hu];congr 1;exact h3.out.symm
    rw[e,<- H2.out]at this;exact this)
   have d3:Hid (∀ h:i<V.length,V[i]=u):=Kh (fun h=>by rw[hu];exact(qFS b6.out hiU).symm)
   have b9:Hid (grown letters n (i+1)=grown letters n i++block letters u 0):=Kh (by
    rw[jS (by rw[<- h3.out];exact hiU)];have e:(upTo letters n)[i]'(by rw[<- h3.out];exact hiU)=u:=by rw[hu];congr 1;exact h3.out.symm
    rw[e])
   clear hu hX hm;obtain⟨wo,a9⟩:∃ wo,wo=wr:=⟨_,rfl⟩;rw[<- a9]at h0 a0 ⊢;clear a9 wr;go_wp2
   go_loopg [5,7] letters (fun gh lv av wr=>∃ (a:Nat) (sb:Option Addr) (sd:Nat),gh+a=letters/\av=.int .i64 (a:Int)/\lv=.slice sb (L+a) sd/\Hid (wr.ownsRow P 9 1 (.slice sb (L+a) sd) (L+a) (strs (grown letters n i++(block letters u 0).take a)))/\w.grownBy wr none)
   case atStart=>exact⟨0,sa,sc,rfl,rfl,rfl,Kh (by simpa using h0.out),a0.out⟩
   case round =>
    obtain⟨a,sb,sd,hg,rfl,rfl,h0,H5⟩:=hrel;obtain⟨kb,rfl,c8,H8,h4⟩:=yW h0.out (by omega);have h5:(grown letters n i++(block letters u 0).take a).length=L+a:=by rw[List.length_append,List.length_take,tO,<- hL.out];omega
    have h2:=qAG h4 i (by rw[h5];omega);have f1:L+a<=V.length:=by rw[<- h5];exact(b7.out a).length_le
    rw[qFS (b7.out a) (by rw[h5];omega),d3.out (by omega),<- HX.out]at h2;have e2:(i:Int)<(L:Int)+(a:Int):=(by omega);have c7:i<L+a:=(by omega);have c2:=Kh hg;have H3:=Kh H5;have h7:=h0;have a6:sd<=9223372036854775807:=by unfold maxLen at H8;omega
    clear hg H5 h4 H8 h5 h0;by_cases ha:a<letters
    ·have e7:(a:Int)<letters:=by omega
     have e1:(X.size:Int)<n:=(by omega);have f3:(L:Int)+(a:Int)<2000:=(by omega);have f2:IntKind.i64.wrap (97+(a:Int))=97+(a:Int):=IntWalk.i64_in _ (by omega);have e6:IntKind.u8.wrap (97+(a:Int))=97+(a:Int):=IntWalk.u8_in _ (by omega);obtain⟨Y,hY⟩:∃ Y,Y=strOfNums [97+(a:Int)]:=⟨_,rfl⟩;have e4:∀ (W:World) (g:Nat),W.cell? ⟨g,0,none⟩=some (.int .u8 (97+(a:Int)))->(convert 106 9 (.slice (some ⟨g,0,none⟩) 1 1)).run Try.prog W=.ok (.string Y) W:=fun W g h=>by rw[hY];exact qAK 106 5 Try.underlying106 Try.underlying5 9 Try.underlying9 h
     have e5:∀ W:World,(Op.stringOp .add X Y).run Try.prog W=.ok (.string (X++Y)) W:=fun W=>run_string_add_sum W X Y (by
      rw[hY,strOfNums_size];simp;omega)
     have d1:Hid (X++Y=strOfNums (u++[97+(a:Int)])):=Kh (by rw[HX.out,hY,strs_catU]);clear hY;obtain⟨w5,a2⟩:∃ w5,w5=wr.drew:=⟨_,rfl⟩;have H9:wr.grownBy w5 none:=(by rw[a2];exact zO wr none);have d2:=Kh a2;have b8:=Kh (yR h7.out H9 (by simp));have c1:=Kh (zA H3.out H9 (by simp));have C:=Kh (uC h2 H9);clear a2 H9 h7 H3;go_upto_region 8 with fail;clear h2;refine wp_region_noPanic ?_;refine wQ (G:=tZ 10 (fun _=>True) (fun W=>W.cell? ⟨kb,i,none⟩=some (.string X))) (by kernel_rfl) ?_;rw[<- d2.out];refine zW 0 ⟨trivial,fun _=>C.out⟩ ?_;refine zW 1 ⟨trivial,fun _=>C.out⟩ ?_;refine zW 2 ⟨trivial,fun _=>C.out⟩ ?_;refine zW 3 ⟨trivial,fun _=>C.out⟩ ?_;refine dD 4 ⟨trivial,fun _=>C.out⟩ ?_;refine zW 5 ⟨trivial,fun _=>C.out⟩ ?_;refine zW 6 ⟨trivial,fun _=>C.out⟩ ?_;refine zW 7 ⟨trivial,fun _=>C.out⟩ ?_;refine oneG (i:=8) (by kernel_rfl) rfl (fun K hK=>?_);go_simp;have H0:=heap_alloc_new w5 (.cells #[.int .u8 (97+(a:Int))] 5);have H7:=Ga w5 (.cells #[.int .u8 (97+(a:Int))] 5) none;obtain⟨g6,H6⟩:∃ g6,g6=w5.heap.size:=⟨_,rfl⟩;obtain⟨w6,b0⟩:∃ w6,w6=w5.alloc (.cells #[.int .u8 (97+(a:Int))] 5):=⟨_,rfl⟩;rw[<- H6]at H0 ⊢;rw[<- b0]at H0 H7 ⊢;have c9:=zH H0 0 (by simp);simp only[List.getElem_toArray,List.getElem_cons_zero]at c9;have d6:=Kh (yR b8.out H7 (by simp));have c0:=Kh (zA c1.out H7 (by simp));have C6:=Kh (uC C.out H7);refine hK.out _ _ ⟨trivial,fun _=>C6.out⟩ ?_;clear hK K H0 H7 H6 b0 b8 c1 C
     try simp only[Act.put,sPa,sPb,sPc]
     refine oneG (i:=9) (by kernel_rfl) rfl (fun K hK=>?_);go_simp;refine hK.out _ _ ⟨trivial,fun _=>C6.out⟩ ?_;clear hK K
     try simp only[Act.put,sPa,sPb,sPc]
     refine oneG (i:=10) (by kernel_rfl) rfl (fun K hK=>?_);go_simp;refine hK.out _ _ ⟨trivial,fun h=>by simp at h⟩ ?_;clear hK K
     try simp only[Act.put,sPa,sPb,sPc]
     refine oneG (i:=11) (by kernel_rfl) rfl (fun K hK=>?_);go_simp;have H0:=heap_alloc_new w6 (.cells #[.string (X++Y)] 9);have a5:=Ga w6 (.cells #[.string (X++Y)] 9) none;have a3:=yR d6.out a5 (by simp);refine hK.out _ _ ⟨trivial,fun h=>by simp at h⟩ ?_;clear hK K
     try simp only[Act.put,sPa,sPb,sPc]
     have c6:P<=w6.heap.size:=by have:=c0.out.size;have:=a8.out;omega
     refine oneG (i:=12) (by kernel_rfl) rfl (fun K hK=>?_);refine stepU_app1 rfl (.tmp 34) (.tmp 45) 26 rfl uO P _ _ _ rfl a3 _ _ _ rfl H0 rfl ?g1 ?g2 ?g3 ?_
     case g1=>unfold maxLen;omega
     case g2=>omega
     case g3=>rw[zJ];omega
     intro sa' sc' w8 h8 b4;refine hK.out _ _ ⟨trivial,fun h=>by simp at h⟩ ?_;clear hK K
     try simp only[Act.put,sPa,sPb,sPc]
     refine oneG (i:=13) (by kernel_rfl) rfl (fun K hK=>?_);go_simp;refine hK.out _ _ ⟨trivial,fun h=>by simp at h⟩ ?_;clear hK K
     try simp only[Act.put,sPa,sPb,sPc]
     refine rH (by kernel_rfl) ?_ _;refine NoPanic.normal ?_;have d5:=Kh h8;have e0:=Kh (zA (zA c0.out a5 (by simp)) b4 (fun k e=>by have:=(a3.lt k e).1;have:=a8.out;omega));clear h8 b4 a5 a3 H0;go_wp2;go_roundg (letters - (a+1))
     case measure=>have:=c2.out;omega
     case rel =>
      refine⟨a+1,sa',sc',by omega,by go_num,by rw[Nat.add_assoc],Kh ?_,e0.out⟩;rw[d4.out a ha,tH,<- Nat.add_assoc];have e9:strs [u++[97+(a:Int)]]=[.string (X++Y)]:=by rw[d1.out];rfl
      rw[e9];exact d5.out
    ·have d0:a=letters:=by have:=c2.out;omega
     subst d0;have b2:(block a u 0).take a=block a u 0:=List.take_of_length_le (by rw[tO];exact Nat.le_refl _);rw[b2,<- b9.out]at h7;have d8:Hid (L+a=(grown a n (i+1)).length):=Kh (by rw[b9.out,List.length_append,tO,<- hL.out]);clear b2 h2;go_wp2;go_roundg (V.length - (i+1))
     case measure=>have:=a1.out;omega
     case rel=>exact⟨i+1,L+a,some ⟨kb,0,none⟩,sd,by have:=a1.out;omega,by go_num,rfl,d8,h7,H3.out⟩
  ·
   have H1:grown letters n i=V:=by rw[qBR (by rw[<- h3.out];exact hiU),H2.out]
   rw[H1]at hL h0;have d7:=hL;by_cases b3:i<L
   ·have H4:(i:Int)<L:=by omega
    obtain⟨kb,rfl,c8,H8,h4⟩:=yW h0.out (by omega);have a4:i<V.length:=(by rw[<- hL.out];exact b3);have h2:=qAG h4 i a4
    have h9:(V[i]).length=n:=by
     have:=upTo_last (letters:=letters) (n:=n) (i:=i) (by rw[<- h3.out];exact hiU) (by rw[<- H2.out];exact a4);have e:V[i]=(upTo letters (n+1))[i]'(by rw[<- H2.out];exact a4):=by congr 1
     rw[e];exact this
    obtain⟨X,hX⟩:∃ X,X=strOfNums V[i]:=⟨_,rfl⟩;have c4:¬ (X.size:Int)<n:=(by rw[hX,strOfNums_size,h9];omega);rw[<- hX]at h2;have a6:sc<=9223372036854775807:=by unfold maxLen at H8;omega
    have e3:(0:Int)<letters:=(by omega);have c3:Hid (grown letters n (i+1)=V):=Kh (by rw[qBR (by rw[<- h3.out];omega),H2.out]);clear h4 H8 hX h9 H1;obtain⟨wo,rfl⟩:∃ wo:World,wo=wr:=⟨_,rfl⟩;go_wp2
    go_loopg [5,7] 0 (fun gh lv av wq=>lv=.slice (some ⟨kb,0,none⟩) L sc/\av=.int .i64 0/\wq=wo)
    case atStart=>exact⟨rfl,rfl,rfl⟩
    case round =>
     obtain⟨rfl,rfl,rfl⟩:=hrel;go_wp2;go_roundg (V.length - (i+1))
     case measure=>have:=a1.out;omega
     case rel=>exact⟨i+1,L,some ⟨kb,0,none⟩,sc,by have:=a1.out;have:=hL.out;omega,by go_num,rfl,by rw[c3.out];exact d7,by rw[c3.out];exact h0,a0.out⟩
   ·have H4:¬ (i:Int)<L:=by omega
    clear H1;go_wp2;go_ret;exact⟨sa,sc,by rw[<- H2.out,<- hL.out];rfl,by rw[<- H2.out,<- hL.out];exact RowT.of_owns h0.out,a0.out⟩
end Go.Proofs.Ytjfdomfendbhfaa
