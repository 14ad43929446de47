/- Part 39 of the proof: COf. -/
import Derived.Test.YtjfdomfendbhfaaQe38
set_option linter.unusedVariables false
set_option linter.unusedSimpArgs false
namespace Go.Proofs.Ytjfdomfendbhfaa
open Go.RowKit Go.Maps
def qDA (w:World) (d:DfaV) (ps:List (List ByteArray)) (e:Ending) (w':World):Prop :=
 ∃ v u1 u2 E,e=.returned (.tuple #[v,.string u1,.string u2,.int .i64 E])/\OfOut w' d ps v u1 u2 E/\w.grownBy w' none
theorem mC (w:World) (c1:Array Value) (e1:Nat) (c2:Array Value) (e2:Nat):((w.alloc (.cells c1 e1)).alloc (.cells c2 e2)).heap[w.heap.size]?=some (.cells c1 e1 (0,0))/\((w.alloc (.cells c1 e1)).alloc (.cells c2 e2)).heap[w.heap.size+1]?=some (.cells c2 e2 (0,0))/\w.grownBy ((w.alloc (.cells c1 e1)).alloc (.cells c2 e2)) none/\((w.alloc (.cells c1 e1)).alloc (.cells c2 e2)).heap.size=w.heap.size+2 :=
 ⟨tR w _ _,tO w _ _,xO (Ga w _ none) _,by rw[zM,zM]⟩
set_option maxRecDepth 100000 in
set_option maxHeartbeats 4000000 in
theorem qBJ (Bd:Nat) (w:World) (dv pv:Value) (d:DfaV) (ps:List (List ByteArray)) (hBd:Bd<=w.heap.size) (hd:tE Bd w dv d) (hp:vI Bd w pv ps) (hp4:ps.length<=4096) :
  Calls Try.prog 19 #[dv,pv] w (qDA w d ps):=by
 have e6:=hd
 obtain⟨fv,nv,rfl,hf,hn⟩:=hd
 obtain⟨fa,fc,rfl⟩:=hf.shape
 rw[xE]at e6 hf ⊢
 obtain⟨na,nc,rfl⟩:=hn.shape
 obtain⟨pa,pc,rfl⟩:=hp.shape
 obtain⟨np,j0⟩:∃ n,n=ps.length:=⟨_,rfl⟩
 obtain⟨fl,o9⟩:∃ n,n=d.final.length:=⟨_,rfl⟩
 obtain⟨nl,o3⟩:∃ n,n=d.next.length:=⟨_,rfl⟩
 obtain⟨dl,k7⟩:∃ n,n=d.letters:=⟨_,rfl⟩
 obtain⟨ds,p0⟩:∃ n,n=d.start:=⟨_,rfl⟩
 have H8:=Kh j0;have HP:=Kh hp;have y2:=Kh k7
 rw[<- j0]at hp4 HP ⊢
 rw[<- o9,<- o3,<- k7,<- p0]at e6 ⊢
 have HD:=Kh e6
 obtain⟨f0,g7,g6,m6⟩:=mC w #[.int .i64 dl,.int .i64 ds,.slice fa fl fc,.slice na nl nc] 42 #[.slice none 0 0,.slice none 0 0,.int .i64 0] 25
 obtain⟨wA,l1⟩:∃ wA,wA=(w.alloc (.cells #[.int .i64 dl,.int .i64 ds,.slice fa fl fc,.slice na nl nc] 42)).alloc (.cells #[.slice none 0 0,.slice none 0 0,.int .i64 0] 25):=⟨_,rfl⟩
 rw[<- l1]at f0 g7 g6 m6
 obtain⟨c0,c1,c2,c3⟩:=zG f0
 obtain⟨Q,hQ⟩:∃ Q,Q=w.heap.size:=⟨_,rfl⟩
 obtain⟨P,hP⟩:∃ P,P=w.heap.size+1:=⟨_,rfl⟩
 have t8:=Kh hQ;have q5:Hid (P=Q+1):=Kh (by omega);have d5:Hid (w.heap.size<=P):=Kh (by omega)
 rw[<- hP]at g7
 rw[<- hQ]at f0 c0 c1 c2 c3
 have y6:=Kh f0;have y5:=Kh g7;have y0:=Kh g6;have s6:=Kh l1
 have y3:=Kh (e6.kept g6 (by simp))
 have s3:Bd<=wA.heap.size:=by omega
 have l3:=Kh (vQ Bd wA _ d s3 y3.out)
 obtain⟨E,hE⟩:∃ E,E=xW d:=⟨_,rfl⟩
 rw[<- hE]at l3
 have HE:=Kh hE
 clear f0 g7 g6 l1 m6 hP hQ hf hn e6 hp j0 o9 o3 k7 p0 hE
 go_enter Try.func19,Try.ntmps19
 go_upto_region 1 with fail
 rw[<- s6.out,<- t8.out,<- q5.out]
 go_wp2_with fail
 refine l3.out.mono ?_
 rintro e w1 ⟨rfl,b9⟩
 have h6:=Kh (zB y0.out b9 (by simp))
 have h0:=Kh (zA y5.out b9 (by simp));have a0:=Kh (zA y6.out b9 (by simp))
 have z0:=Kh b9
 clear b9 l3 c0 c1 c2 c3
 by_cases hE0:E=0
 case neg =>
  have h8:Hid (ofE d ps=E):=Kh (by rw[ofE_bad (by rw[<- HE.out];exact hE0),HE.out])
  have l7:=Kh hE0
  have e1:(E != 0)=true:=by rw[bne_iff_ne];exact hE0
  clear hE0
  have h5:=h0.out
  have f40:=zE h5 0
  have f41:=zE h5 1
  have f42:=zE h5 2
  have e3:=zH h5
  obtain⟨v0,v1,v2⟩:=zJ h5
  go_wp2
  have g1:=zD (zD (zC w1 ⟨P,0,none⟩ (.slice none 0 0)) (zC _ ⟨P,1,none⟩ (.slice none 0 0))) (zC _ ⟨P,2,none⟩ (.int .i64 0))
  have z1:=heap_setCell_same _ P 2 _ _ (.int .i64 0) (heap_setCell_same _ P 1 _ _ (.slice none 0 0) (heap_setCell_same w1 P 0 _ _ (.slice none 0 0) h5))
  obtain⟨w9,H9⟩:∃ w9,w9=((w1.setCell ⟨P,0,none⟩ (.slice none 0 0)).setCell ⟨P,1,none⟩ (.slice none 0 0)).setCell ⟨P,2,none⟩ (.int .i64 0):=⟨_,rfl⟩
  rw[<- H9]at g1 z1 ⊢
  simp only[Array.setIfInBounds,List.size_toArray,List.length_cons,List.length_nil]at z1
  obtain⟨q0,q1,q2⟩:=zJ z1
  refine bodyPost_ret (v:=.tuple #[.agg #[.slice none 0 0,.slice none 0 0,.int .i64 0],.string ⟨#[]⟩,.string ⟨#[]⟩,.int .i64 E]) (by simp[results,Try.results19,go_sem,q0,q1,q2,Result.andThen]) rfl ?_
  exact⟨_,_,_,_,rfl,(by have:=OfOut.bad (w':=w9) (d:=d) (ps:=ps) (by rw[h8.out];exact l7.out);rwa [h8.out]at this),zB h6.out g1 (fun j e=>by have e:P=j:=Oj e;have:=d5.out;omega)⟩
 case pos =>
  have g9:Hid (xW d=0):=Kh (by rw[<- HE.out];exact hE0)
  subst hE0
  by_cases h3:300 < np
  case pos =>
   have s4:(300:Int) < np:=by omega
   have h8:Hid (ofE d ps=3):=Kh (ofE_many g9.out (by rw[<- H8.out];exact h3))
   have h5:=h0.out
   have f40:=zE h5 0
   have f41:=zE h5 1
   have f42:=zE h5 2
   have e3:=zH h5
   obtain⟨v0,v1,v2⟩:=zJ h5
   go_wp2
   have g1:=zD (zD (zC w1 ⟨P,0,none⟩ (.slice none 0 0)) (zC _ ⟨P,1,none⟩ (.slice none 0 0))) (zC _ ⟨P,2,none⟩ (.int .i64 0))
   have z1:=heap_setCell_same _ P 2 _ _ (.int .i64 0) (heap_setCell_same _ P 1 _ _ (.slice none 0 0) (heap_setCell_same w1 P 0 _ _ (.slice none 0 0) h5))
   obtain⟨w9,H9⟩:∃ w9,w9=((w1.setCell ⟨P,0,none⟩ (.slice none 0 0)).setCell ⟨P,1,none⟩ (.slice none 0 0)).setCell ⟨P,2,none⟩ (.int .i64 0):=⟨_,rfl⟩
   rw[<- H9]at g1 z1 ⊢
   simp only[Array.setIfInBounds,List.size_toArray,List.length_cons,List.length_nil]at z1
   obtain⟨q0,q1,q2⟩:=zJ z1
   refine bodyPost_ret (v:=.tuple #[.agg #[.slice none 0 0,.slice none 0 0,.int .i64 0],.string ⟨#[]⟩,.string ⟨#[]⟩,.int .i64 3]) (by simp[results,Try.results19,go_sem,q0,q1,q2,Result.andThen]) rfl ?_
   exact⟨_,_,_,_,rfl,(by have:=OfOut.bad (w':=w9) (d:=d) (ps:=ps) (by rw[h8.out];decide);rwa [h8.out]at this),zB h6.out g1 (fun j e=>by have e:P=j:=Oj e;have:=d5.out;omega)⟩
  case neg =>
   have s4:¬ (300:Int) < np:=by omega
   have l6:Hid (ofE d ps=wW d.letters ps):=Kh (ofE_pats g9.out (by rw[<- H8.out];exact h3))
   have f2:=Kh (bA g9.out)
   have g4:=f2.out.hk
   have k0:=f2.out.k1;have j9:=f2.out.k6
   obtain⟨k,hk⟩:∃ k,k=d.letters.toNat:=⟨_,rfl⟩
   rw[<- hk]at g4 k0 j9 f2
   have s0:dl=(k:Int):=by rw[y2.out,g4]
   have HK:Hid (d.letters=(k:Int)):=Kh g4
   have a6:=Kh hk
   subst s0
   clear g4 hk
   have g2:=h0
   have d4:Hid (Calls Try.prog 56 #[.slice pa np pc,.int .i64 (k:Int)] w1 (qCE w1 (wW (k:Int) ps) (autD ps (k:Int)))):=Kh (lN Bd w1 _ ps (k:Int) (by have:=h6.out.size;omega) (HP.out.kept h6.out (by simp)) (by rw[<- H8.out];exact hp4))
   obtain⟨E2,a5⟩:∃ E,E=wW (k:Int) ps:=⟨_,rfl⟩
   rw[<- a5]at d4
   rw[HK.out,<- a5]at l6
   obtain⟨c0,c1,c2,c3⟩:=zG a0.out
   have y7:=h6.out.size
   clear a5
   go_wp2_with fail
   refine d4.out.mono ?_
   rintro e w2 ⟨sa,n2,sc,rfl,b8,f1⟩
   have h6:=Kh (zB h6.out b8 (by simp))
   have h0:=Kh (zA h0.out b8 (by simp));have a0:=Kh (zA a0.out b8 (by simp))
   have r6:=Kh f1
   have h7:Hid (w1.heap.size<=w2.heap.size):=Kh b8.size
   clear b8 f1 d4 c0 c1 c2 c3
   by_cases a5:E2=0
   case neg =>
    have h8:=l6
    have l7:=Kh a5
    have e1:(E2 != 0)=true:=by rw[bne_iff_ne];exact a5
    clear a5
    have h5:=h0.out
    have f40:=zE h5 0
    have f41:=zE h5 1
    have f42:=zE h5 2
    have e3:=zH h5
    obtain⟨v0,v1,v2⟩:=zJ h5
    go_wp2
    have g1:=zD (zD (zC w2 ⟨P,0,none⟩ (.slice none 0 0)) (zC _ ⟨P,1,none⟩ (.slice none 0 0))) (zC _ ⟨P,2,none⟩ (.int .i64 0))
    have z1:=heap_setCell_same _ P 2 _ _ (.int .i64 0) (heap_setCell_same _ P 1 _ _ (.slice none 0 0) (heap_setCell_same w2 P 0 _ _ (.slice none 0 0) h5))
    obtain⟨w9,H9⟩:∃ w9,w9=((w2.setCell ⟨P,0,none⟩ (.slice none 0 0)).setCell ⟨P,1,none⟩ (.slice none 0 0)).setCell ⟨P,2,none⟩ (.int .i64 0):=⟨_,rfl⟩
    rw[<- H9]at g1 z1 ⊢
    simp only[Array.setIfInBounds,List.size_toArray,List.length_cons,List.length_nil]at z1
    obtain⟨q0,q1,q2⟩:=zJ z1
    refine bodyPost_ret (v:=.tuple #[.agg #[.slice none 0 0,.slice none 0 0,.int .i64 0],.string ⟨#[]⟩,.string ⟨#[]⟩,.int .i64 E2]) (by simp[results,Try.results19,go_sem,q0,q1,q2,Result.andThen]) rfl ?_
    exact⟨_,_,_,_,rfl,(by have:=OfOut.bad (w':=w9) (d:=d) (ps:=ps) (by rw[h8.out];exact l7.out);rwa [h8.out]at this),zB h6.out g1 (fun j e=>by have e:P=j:=Oj e;have:=d5.out;omega)⟩
   case pos =>
    obtain⟨-,j3,lp,j6,n7⟩:=r6.out.resolve_left (fun h=>h a5)
    have p3:ofE d ps=0:=by rw[l6.out,a5]
    have b3:=Kh p3
    have j2:n2=np:=by rw[j3,xG,H8.out]
    subst j2
    subst a5
    have o5:lp.length=n2:=by have:=congrArg List.length j6;rw[List.length_map,<- j3]at this;exact this
    have b2:=Kh n7;have x7:=Kh j6;have q8:=Kh o5
    clear j3 j6 n7 r6 o5 p3
    go_upto_region 9 with fail
    obtain⟨w5,c6⟩:∃ w5,w5=w2.drew:=⟨_,rfl⟩
    have H7:w2.grownBy w5 none:=by rw[c6];exact zL w2 none
    have l2:=Kh c6
    have h6:=Kh (zB h6.out H7 (by simp))
    have h0:=Kh (zA h0.out H7 (by simp));have a0:=Kh (zA a0.out H7 (by simp))
    have b2:=Kh (b2.out.grow H7)
    have h7:Hid (w1.heap.size<=w5.heap.size):=Kh (Nat.le_trans h7.out H7.size)
    have C5:Hid (w5.cell? ⟨Q,0,none⟩=some (.int .i64 (k:Int))/\w5.cell? ⟨Q,1,none⟩=some (.int .i64 ds)/\w5.cell? ⟨Q,2,none⟩=some (.slice fa fl fc)/\w5.cell? ⟨Q,3,none⟩=some (.slice na nl nc)):=Kh (zG a0.out)
    have f4:Hid (Calls Try.prog 58 #[.agg #[.int .i64 (k:Int),.int .i64 ds,.slice fa fl fc,.slice na nl nc]] w5 (qDF w5 (minD d k))):=Kh (pI Bd w5 _ d _ k (by have:=h6.out.size;omega) (HD.out.kept h6.out (by simp)) f2.out (qAI g9.out))
    clear H7 c6
    refine wp_region_noPanic ?_
    refine wN (G:=uZ 7 (fun _=>True) (fun W=>W.cell? ⟨Q,0,none⟩=some (.int .i64 (k:Int))/\W.cell? ⟨Q,1,none⟩=some (.int .i64 ds)/\W.cell? ⟨Q,2,none⟩=some (.slice fa fl fc)/\W.cell? ⟨Q,3,none⟩=some (.slice na nl nc))) (by kernel_rfl) ?_
    rw[<- l2.out]
    refine takeC (i:=0) (v:=?_) rfl rfl (Or.inl ⟨by rfl,?_⟩) ⟨trivial,fun _=>C5.out⟩ ?_
    rotate_left
    ·(intro wz hz;(try dsimp only at hz);go_simp;(try with_reducible rfl))
    try simp only[Act.put,sPa,sPb,sPc]
    refine takeC (i:=5) (v:=?_) rfl rfl (Or.inl ⟨by rfl,?_⟩) ⟨trivial,fun _=>C5.out⟩ ?_
    rotate_left
    ·(intro wz hz;(try dsimp only at hz);go_simp;(try with_reducible rfl))
    try simp only[Act.put,sPa,sPb,sPc]
    refine takeD (i:=6) (v:=?_) rfl rfl (Or.inl ⟨by rfl,?_⟩) ⟨trivial,fun _=>C5.out⟩ ?_
    rotate_left
    ·(rintro wz ⟨-,hz⟩;obtain⟨h1,h2,h3,h4⟩:=hz;go_simp;(try with_reducible rfl))
    try simp only[Act.put,sPa,sPb,sPc]
    obtain⟨k1,k2,k3,k4⟩:=C5.out
    refine oneG (i:=1) (by kernel_rfl) rfl (fun K hK=>?_)
    go_simp
    refine hK.out _ _ ⟨trivial,fun _=>C5.out⟩ ?_
    clear hK K k1 k2 k3 k4
    try simp only[Act.put,sPa,sPb,sPc]
    refine oneG (i:=2) (by kernel_rfl) rfl (fun K hK=>?_)
    go_simp
    go_at_call 58
    refine f4.out.mono ?_
    rintro e w6 ⟨v6,rfl,d9,H0⟩
    obtain⟨f6,x6,rfl,i5⟩:=d9.t
    obtain⟨fa6,fl6,fc6,na6,nl6,nc6,rfl,rfl⟩:=i5.shapes
    have q4:=Kh i5
    have h6:=Kh (zB h6.out H0 (by simp))
    have h0:=Kh (zA h0.out H0 (by simp));have a0:=Kh (zA a0.out H0 (by simp))
    have b2:=Kh (b2.out.grow H0)
    have h7:Hid (w1.heap.size<=w6.heap.size):=Kh (Nat.le_trans h7.out H0.size)
    have C6:Hid (w6.cell? ⟨Q,0,none⟩=some (.int .i64 (k:Int))/\w6.cell? ⟨Q,1,none⟩=some (.int .i64 ds)/\w6.cell? ⟨Q,2,none⟩=some (.slice fa fl fc)/\w6.cell? ⟨Q,3,none⟩=some (.slice na nl nc)):=Kh (zG a0.out)
    obtain⟨ml,j5⟩:∃ x,x=(minD d k).letters:=⟨_,rfl⟩
    obtain⟨ms,j4⟩:∃ x,x=(minD d k).start:=⟨_,rfl⟩
    rw[<- j5,<- j4]
    have x2:=Kh j5;have x1:=Kh j4
    refine hK.out _ _ ⟨trivial,fun _=>C6.out⟩ ?_
    clear hK K C5 d9 H0 i5 f4 j5 j4
    try simp only[Act.put,sPa,sPb,sPc]
    refine oneG (i:=3) (by kernel_rfl) rfl (fun K hK=>?_)
    go_simp
    have g5:=heap_alloc_new w6 (.cells #[.int .i64 ml,.int .i64 ms,.slice fa6 fl6 fc6,.slice na6 nl6 nc6] 42)
    have a1:=Ga w6 (.cells #[.int .i64 ml,.int .i64 ms,.slice fa6 fl6 fc6,.slice na6 nl6 nc6] 42) none
    obtain⟨R7,p2⟩:∃ R,R=w6.heap.size:=⟨_,rfl⟩
    obtain⟨w7,n3⟩:∃ w7,w7=w6.alloc (.cells #[.int .i64 ml,.int .i64 ms,.slice fa6 fl6 fc6,.slice na6 nl6 nc6] 42):=⟨_,rfl⟩
    rw[<- n3]at g5 a1 ⊢
    rw[<- p2]at g5 ⊢
    have q3:=Kh (q4.out.grow a1)
    have h6:=Kh (zB h6.out a1 (by simp))
    have h0:=Kh (zA h0.out a1 (by simp));have a0:=Kh (zA a0.out a1 (by simp))
    have b2:=Kh (b2.out.grow a1)
    have h7:Hid (w1.heap.size<=w7.heap.size):=Kh (Nat.le_trans h7.out a1.size)
    have C7:Hid (w7.cell? ⟨Q,0,none⟩=some (.int .i64 (k:Int))/\w7.cell? ⟨Q,1,none⟩=some (.int .i64 ds)/\w7.cell? ⟨Q,2,none⟩=some (.slice fa fl fc)/\w7.cell? ⟨Q,3,none⟩=some (.slice na nl nc)):=Kh (zG a0.out)
    refine hK.out _ _ ⟨trivial,fun _=>C7.out⟩ ?_
    clear hK K C6 n3 p2 a1 q4
    try simp only[Act.put,sPa,sPb,sPc]
    have g3:=b2.out.own
    rw[q8.out]at g3
    have m8:=h7.out
    refine oneG (i:=4) (by kernel_rfl) rfl (fun K hK=>?_)
    refine qJ rfl (.tmp 38) (.tmp 41) 84 rfl fV w1.heap.size (.slice sa n2 sc) n2 (mO lp) rfl g3 [.int .i64 ml,.int .i64 ms,.slice fa6 fl6 fc6,.slice na6 nl6 nc6] R7 rfl (0,0) rfl g5 ?z1 ?z2 ?z3 m8 ?_
    case z1=>intro v hv;simp only[List.mem_cons,List.not_mem_nil,or_false]at hv;rcases hv with rfl|rfl|rfl|rfl <;> rfl
    case z2=>unfold maxLen;omega
    case z3=>show (n2+1) * 64<=140737488355328;omega
    intro sN cN wM d8 e5 r9
    have d7:=b2.out.push (v':=.slice sN (n2+1) cN) (x:=(minD d k,.slice fa6 fl6 fc6,.slice na6 nl6 nc6)) q3.out (by rw[q8.out];unfold dval;rw[<- x2.out,<- x1.out];exact d8) e5
    have r4:Hid (DsIn wM.heap.size wM (.slice sN (n2+1) cN) (ofT d ps)):=Kh (by
     have:=d7.in_
     rw[List.map_append,x7.out]at this
     rw[ofT,HK.out,Int.toNat_natCast]
     exact this)
    have l4:Hid (∀ j,(Value.slice sa n2 sc).ownBlock=some j->w1.heap.size<=j):=Kh (fun j e=>(g3.lt j e).1)
    have g0:=Kh (zA h0.out e5 (fun e=>by have:=l4.out P e;have:=zH g2.out;omega))
    have m0:=Kh (zA a0.out e5 (fun e=>by have:=l4.out Q e;have:=zH g2.out;have:=q5.out;omega))
    have q9:=Kh (zB h6.out e5 (fun j e=>by have:=l4.out j e;omega))
    have CM:Hid (wM.cell? ⟨Q,0,none⟩=some (.int .i64 (k:Int))/\wM.cell? ⟨Q,1,none⟩=some (.int .i64 ds)/\wM.cell? ⟨Q,2,none⟩=some (.slice fa fl fc)/\wM.cell? ⟨Q,3,none⟩=some (.slice na nl nc)):=Kh (zG m0.out)
    have a3:Hid (Calls Try.prog 57 #[.slice sN (n2+1) cN,.int .i64 (k:Int)] wM (qCW wM (.slice sN (n2+1) cN) (ofT d ps) k)):=Kh (lD wM.heap.size wM _ (ofT d ps) k (Nat.le_refl _) r4.out (by have:=qAW b3.out;rwa [<- a6.out]at this) k0 j9 (by rw[vB,<- H8.out];omega))
    refine hK.out _ _ ⟨trivial,fun _=>CM.out⟩ ?_
    clear hK K C7 g3 m8 g5 d8 e5 r9 d7 b2 q3 h7
    try simp only[Act.put,sPa,sPb,sPc]
    refine oneG (i:=7) (by kernel_rfl) rfl (fun K hK=>?_)
    go_simp
    go_at_call 57
    refine a3.out.mono ?_
    rintro e w8 (⟨o2,rfl,a7⟩|⟨o,mb,L,nxl,fr,bl,rfl,b4,c8,g8,r8,c4,a7⟩)
    ·have t9:=Kh o2
     have h6:=Kh (zB q9.out a7 (by simp))
     have h0:=Kh (zA g0.out a7 (by simp))
     refine hK.out _ _ ⟨trivial,fun h=>by simp at h⟩ ?_
     clear hK K CM o2 a7 a3
     try simp only[Act.put,sPa,sPb,sPc]
     refine takeC (i:=8) (v:=?_) rfl rfl (Or.inl ⟨by rfl,?_⟩) ⟨trivial,fun h=>by simp at h⟩ ?_
     rotate_left
     ·(intro wz hz;(try dsimp only at hz);go_simp;(try with_reducible rfl))
     try simp only[Act.put,sPa,sPb,sPc]
     refine takeC (i:=9) (v:=?_) rfl rfl (Or.inl ⟨by rfl,?_⟩) ⟨trivial,fun h=>by simp at h⟩ ?_
     rotate_left
     ·(intro wz hz;(try dsimp only at hz);go_simp;(try with_reducible rfl))
     try simp only[Act.put,sPa,sPb,sPc]
     refine takeC (i:=10) (v:=?_) rfl rfl (Or.inl ⟨by rfl,?_⟩) ⟨trivial,fun h=>by simp at h⟩ ?_
     rotate_left
     ·(intro wz hz;(try dsimp only at hz);go_simp;(try with_reducible rfl))
     try simp only[Act.put,sPa,sPb,sPc]
     refine takeC (i:=11) (v:=?_) rfl rfl (Or.inl ⟨by rfl,?_⟩) ⟨trivial,fun h=>by simp at h⟩ ?_
     rotate_left
     ·(intro wz hz;(try dsimp only at hz);go_simp;(try with_reducible rfl))
     try simp only[Act.put,sPa,sPb,sPc]
     refine takeC (i:=12) (v:=?_) rfl rfl (Or.inl ⟨by rfl,?_⟩) ⟨trivial,fun h=>by simp at h⟩ ?_
     rotate_left
     ·(intro wz hz;(try dsimp only at hz);go_simp;(try with_reducible rfl))
     try simp only[Act.put,sPa,sPb,sPc]
     refine jI (by kernel_rfl) ?_ _
     refine NoPanic.normal ?_
     have h5:=h0.out
     have f40:=zE h5 0
     have f41:=zE h5 1
     have f42:=zE h5 2
     have e3:=zH h5
     obtain⟨v0,v1,v2⟩:=zJ h5
     go_wp2
     have g1:=zD (zD (zC w8 ⟨P,0,none⟩ (.slice none 0 0)) (zC _ ⟨P,1,none⟩ (.slice none 0 0))) (zC _ ⟨P,2,none⟩ (.int .i64 0))
     have z1:=heap_setCell_same _ P 2 _ _ (.int .i64 0) (heap_setCell_same _ P 1 _ _ (.slice none 0 0) (heap_setCell_same w8 P 0 _ _ (.slice none 0 0) h5))
     obtain⟨w9,H9⟩:∃ w9,w9=((w8.setCell ⟨P,0,none⟩ (.slice none 0 0)).setCell ⟨P,1,none⟩ (.slice none 0 0)).setCell ⟨P,2,none⟩ (.int .i64 0):=⟨_,rfl⟩
     rw[<- H9]at g1 z1 ⊢
     simp only[Array.setIfInBounds,List.size_toArray,List.length_cons,List.length_nil]at z1
     obtain⟨q0,q1,q2⟩:=zJ z1
     refine bodyPost_ret (v:=.tuple #[.agg #[.slice none 0 0,.slice none 0 0,.int .i64 0],.string ⟨#[]⟩,.string ⟨#[]⟩,.int .i64 3]) (by simp[results,Try.results19,go_sem,q0,q1,q2,Result.andThen]) rfl ?_
     exact⟨_,_,_,_,rfl,OfOut.over b3.out (by rw[<- a6.out];exact t9.out),zB h6.out g1 (fun j e=>by have e:P=j:=Oj e;have:=d5.out;omega)⟩
    ·have m4:=Kh c8;have y1:=Kh c4
     have c5:0 < L.length:=List.length_pos_of_mem c8.mem0
     have d6:=b4.view c5 rfl k0
     have h6:=Kh (zB q9.out a7 (by simp))
     have h0:=Kh (zA g0.out a7 (by simp))
     have f7:=Kh (r4.out.kept a7 (by simp))
     have m7:=a7.size
     refine hK.out _ _ ⟨trivial,fun h=>by simp at h⟩ ?_
     clear hK K CM c8 c4 b4 r8 a7 a3
     try simp only[Act.put,sPa,sPb,sPc]
     refine takeC (i:=8) (v:=?_) rfl rfl (Or.inl ⟨by rfl,?_⟩) ⟨trivial,fun h=>by simp at h⟩ ?_
     rotate_left
     ·(intro wz hz;(try dsimp only at hz);go_simp;(try with_reducible rfl))
     try simp only[Act.put,sPa,sPb,sPc]
     refine takeC (i:=9) (v:=?_) rfl rfl (Or.inl ⟨by rfl,?_⟩) ⟨trivial,fun h=>by simp at h⟩ ?_
     rotate_left
     ·(intro wz hz;(try dsimp only at hz);go_simp;(try with_reducible rfl))
     try simp only[Act.put,sPa,sPb,sPc]
     refine takeC (i:=10) (v:=?_) rfl rfl (Or.inl ⟨by rfl,?_⟩) ⟨trivial,fun h=>by simp at h⟩ ?_
     rotate_left
     ·(intro wz hz;(try dsimp only at hz);go_simp;(try with_reducible rfl))
     try simp only[Act.put,sPa,sPb,sPc]
     refine takeC (i:=11) (v:=?_) rfl rfl (Or.inl ⟨by rfl,?_⟩) ⟨trivial,fun h=>by simp at h⟩ ?_
     rotate_left
     ·(intro wz hz;(try dsimp only at hz);go_simp;(try with_reducible rfl))
     try simp only[Act.put,sPa,sPb,sPc]
     refine takeC (i:=12) (v:=?_) rfl rfl (Or.inl ⟨by rfl,?_⟩) ⟨trivial,fun h=>by simp at h⟩ ?_
     rotate_left
     ·(intro wz hz;(try dsimp only at hz);go_simp;(try with_reducible rfl))
     try simp only[Act.put,sPa,sPb,sPc]
     refine jI (by kernel_rfl) ?_ _
     refine NoPanic.normal ?_
     obtain⟨sb,sc8,nb,nc8,fb,fc8,bb,bc8,i4⟩:=d6
     have p7:=Kh i4
     have x8:Hid (∀ s,s < L.length->InT (ofT d ps) (L.getD s [])):=Kh (fun s hs=>by
      obtain⟨u,hu,e⟩:=m4.out.re (L.getD s []) (by rw[zF hs];exact List.getElem_mem hs)
      rw[<- e]
      have i9:=qAW b3.out
      rw[<- a6.out]at i9
      exact i9.walk u i9.in0 hu)
     have f8:Hid (Calls Try.prog 59 #[.pointer (some ⟨o,0,none⟩),.int .i64 (n2:Int)] w8 (qCD w8 (ofT d ps) n2 L)):=Kh (prodClasses_any wM.heap.size w8 o k _ (ofT d ps) L nxl fr bl sb sc8 nb nc8 fb fc8 bb bc8 n2 m7 i4 f7.out (by have:=qAW b3.out;rwa [<- a6.out]at this) (by rw[vB,H8.out]) x8.out (by rw[vB,<- H8.out];omega) g8)
     clear i4
     go_wp2_with fail
     refine f8.out.mono ?_
     rintro e w10 ⟨l,la,lc,rfl,h9,a9,a8⟩
     have x0:=Kh h9;have i0:=Kh a9
     have h6:=Kh (zB h6.out a8 (by simp))
     have h0:=Kh (zA h0.out a8 (by simp))
     have f3:=Kh (p7.out.grow a8)
     have e3:=a9.len_le
     have b7:0 < l.length:=by
      have h1:=a9.all 0 c5
      obtain⟨c,hc,_⟩:=List.mem_map.1 h1
      exact List.length_pos_of_mem hc
     have b1:Hid (ClsX (fun j=>j < w10.heap.size) w10 (.slice la l.length lc) l):=Kh (oX h9 (fun j e=>(h9.lt j e).2))
     obtain⟨n,hn⟩:∃ n,n=l.length:=⟨_,rfl⟩
     have HN:=Kh hn
     rw[<- hn]at e3 b7 b1 ⊢
     clear hn a8 h9 a9 f8 p7 f7 m7
     obtain⟨wo,n1⟩:∃ wo:World,wo=w10:=⟨_,rfl⟩
     rw[<- n1]at h6 h0 f3 b1 ⊢
     clear n1 x0
     go_wp2
     go_loopg [57] n (fun gh v57 wr=>∃ kk:Nat,gh+kk=n/\v57=.int .i64 kk/\(∀ i,i < kk->nA (l.getD i default)=false)/\wo.grownBy wr none)
     case atStart=>exact⟨0,rfl,rfl,fun i hi=>by omega,zN _ _⟩
     case round =>
      obtain⟨kk,o6,rfl,o4,hg⟩:=hrel
      have f5:=Kh o6;have q7:=Kh o4;have x9:=Kh hg
      clear o6 o4
      by_cases hkn:kk < n
      ·have j8:(kk:Int) < n:=by omega
       obtain⟨b,off,cap,e,_,p1,e8,a2⟩:=(b1.out.grow hg).at_ (by rw[<- HN.out];omega)
       rw[<- HN.out]at e p1
       simp only[Value.slice.injEq,true_and]at e
       obtain⟨rfl,rfl⟩:=e
       have y8:lc<=9223372036854775807:=by unfold maxLen at e8;omega
       have e4:kk < l.length:=by rw[<- HN.out];exact hkn
       have d1:=a2.m kk e4
       have d2:=a2.y kk e4
       have d3:=a2.n kk e4
       have c9:Hid (l.getD kk default∈l):=Kh (by rw[zF e4];exact List.getElem_mem e4)
       obtain⟨cc,l0⟩:∃ c,c=l.getD kk default:=⟨_,rfl⟩
       rw[<- l0]at d1 d2 d3 c9
       have y4:=Kh l0
       have m3:Hid (nA cc=decide (0<=cc.yes/\0<=cc.no)):=Kh rfl
       obtain⟨U,hU⟩:∃ U,U=mT cc.m:=⟨_,rfl⟩
       obtain⟨y,hy⟩:∃ y,y=cc.yes:=⟨_,rfl⟩
       obtain⟨z,hz⟩:∃ z,z=cc.no:=⟨_,rfl⟩
       rw[<- hU]at d1
       rw[<- hy]at d2
       rw[<- hz]at d3
       rw[<- hy,<- hz]at m3
       have HY:=Kh hy;have HZ:=Kh hz
       have e9:=heap_alloc_new wr (.cells #[.string U,.int .i64 y,.int .i64 z] 99)
       have k5:=Ga wr (.cells #[.string U,.int .i64 y,.int .i64 z] 99) none
       obtain⟨wR,i3⟩:∃ wR,wR=wr.alloc (.cells #[.string U,.int .i64 y,.int .i64 z] 99):=⟨_,rfl⟩
       obtain⟨R,hR⟩:∃ R,R=wr.heap.size:=⟨_,rfl⟩
       rw[<- i3]at e9 k5
       rw[<- hR]at e9
       have s5:=Kh i3;have t7:=Kh hR;have z4:=Kh e9
       have a4:=Kh (zB x9.out k5 (by simp))
       obtain⟨r0,r1,r2⟩:=zJ e9
       clear a2 p1 e8 hU hy hz i3 hR e9 k5 l0 hg
       go_upto_region 16 with fail
       rw[<- s5.out,<- t7.out]
       clear d1 d2 d3
       by_cases hyz:0<=y/\0<=z
       case neg =>
        have i1:Hid (nA cc=false):=Kh (by rw[m3.out,decide_eq_false hyz])
        have q6:Hid (∀ i,i < kk+1->nA (l.getD i default)=false):=Kh (fun i hi=>by
         rcases Nat.lt_succ_iff_lt_or_eq.1 hi with hi|rfl
         ·exact q7.out i hi
         ·rw[<- y4.out];exact i1.out)
        by_cases i2:0<=y
        ·have m9:¬ 0<=z:=fun h=>hyz ⟨i2,h⟩
         clear hyz
         go_wp2
         go_roundg (n - (kk+1))
         case measure=>have:=f5.out;omega
         case rel=>exact⟨kk+1,by have:=f5.out;omega,by go_num,q6.out,a4.out⟩
        ·clear hyz
         go_wp2
         go_roundg (n - (kk+1))
         case measure=>have:=f5.out;omega
         case rel=>exact⟨kk+1,by have:=f5.out;omega,by go_num,q6.out,a4.out⟩
       case pos =>
        obtain⟨i2,m9⟩:=hyz
        have i1:Hid (nA cc=true):=Kh (by rw[m3.out,decide_eq_true ⟨i2,m9⟩])
        obtain⟨yn,zn,e1,e2,n0,m5,b6,b5,e0⟩:=i0.out.both c9.out i1.out
        rw[<- HY.out]at e1
        rw[<- HZ.out]at e2
        subst e1
        subst e2
        have x5:=Kh b6;have x4:=Kh b5;have x3:=Kh e0
        have p6:Hid (∀ (W:World) (s:Nat),wR.grownBy W none->s < L.length->Calls Try.prog 60 #[.pointer (some ⟨o,0,none⟩),.int .i64 (s:Int)] W (qBY W (ofT d ps) k L s)):=Kh (fun W s hW hs=>pword_any W o k _ (ofT d ps) L nxl fr bl sb sc8 nb nc8 fb fc8 bb bc8 s (f3.out.grow (zB a4.out hW (by simp))) y1.out j9 hs g8)
        have p5:=Kh n0;have p4:=Kh m5
        clear b6 b5 e0 n0 m5
        go_upto_region 17 with fail
        obtain⟨w5,c6⟩:∃ w5,w5=wR.drew:=⟨_,rfl⟩
        have H7:wR.grownBy w5 none:=by rw[c6];exact zL wR none
        have l2:=Kh c6;have r3:=Kh H7
        have C5:Hid (w5.cell? ⟨R,1,none⟩=some (.int .i64 (yn:Int))/\w5.cell? ⟨R,2,none⟩=some (.int .i64 (zn:Int))):=Kh ⟨xI r1 H7,xI r2 H7⟩
        clear H7 c6 r0 r1 r2
        refine wp_region_noPanic ?_
        refine wN (G:=uZ 8 (fun _=>True) (fun W=>W.cell? ⟨R,1,none⟩=some (.int .i64 (yn:Int))/\W.cell? ⟨R,2,none⟩=some (.int .i64 (zn:Int)))) (by kernel_rfl) ?_
        rw[<- l2.out]
        refine takeC (i:=0) (v:=?_) rfl rfl (Or.inl ⟨by rfl,?_⟩) ⟨trivial,fun _=>C5.out⟩ ?_
        rotate_left
        ·(intro wz hz;(try dsimp only at hz);go_simp;(try with_reducible rfl))
        try simp only[Act.put,sPa,sPb,sPc]
        refine takeC (i:=1) (v:=?_) rfl rfl (Or.inl ⟨by rfl,?_⟩) ⟨trivial,fun _=>C5.out⟩ ?_
        rotate_left
        ·(intro wz hz;(try dsimp only at hz);go_simp;(try with_reducible rfl))
        try simp only[Act.put,sPa,sPb,sPc]
        refine takeC (i:=2) (v:=?_) rfl rfl (Or.inl ⟨by rfl,?_⟩) ⟨trivial,fun _=>C5.out⟩ ?_
        rotate_left
        ·(intro wz hz;(try dsimp only at hz);go_simp;(try with_reducible rfl))
        try simp only[Act.put,sPa,sPb,sPc]
        refine takeC (i:=5) (v:=?_) rfl rfl (Or.inl ⟨by rfl,?_⟩) ⟨trivial,fun _=>C5.out⟩ ?_
        rotate_left
        ·(intro wz hz;(try dsimp only at hz);go_simp;(try with_reducible rfl))
        try simp only[Act.put,sPa,sPb,sPc]
        refine takeC (i:=6) (v:=?_) rfl rfl (Or.inl ⟨by rfl,?_⟩) ⟨trivial,fun _=>C5.out⟩ ?_
        rotate_left
        ·(intro wz hz;(try dsimp only at hz);go_simp;(try with_reducible rfl))
        try simp only[Act.put,sPa,sPb,sPc]
        refine takeD (i:=7) (v:=?_) rfl rfl (Or.inl ⟨by rfl,?_⟩) ⟨trivial,fun _=>C5.out⟩ ?_
        rotate_left
        ·(rintro wz ⟨-,hz⟩;obtain⟨h1,h2⟩:=hz;go_simp;(try with_reducible rfl))
        try simp only[Act.put,sPa,sPb,sPc]
        obtain⟨k1,k2⟩:=C5.out
        refine oneG (i:=3) (by kernel_rfl) rfl (fun K hK=>?_)
        go_simp
        refine hK.out _ _ ⟨trivial,fun _=>C5.out⟩ ?_
        clear hK K k1 k2
        try simp only[Act.put,sPa,sPb,sPc]
        refine oneG (i:=4) (by kernel_rfl) rfl (fun K hK=>?_)
        go_simp
        go_at_call 60
        refine(p6.out w5 yn r3.out p5.out).mono ?_
        rintro e w6 ⟨u1,o0,n9,n8,rfl,H0⟩
        have l8:=Kh (zD r3.out H0)
        have p9:=Kh o0;have t0:=Kh n9;have s9:=Kh n8
        have C6:Hid (w6.cell? ⟨R,1,none⟩=some (.int .i64 (yn:Int))/\w6.cell? ⟨R,2,none⟩=some (.int .i64 (zn:Int))):=Kh ⟨xI C5.out.1 H0,xI C5.out.2 H0⟩
        refine hK.out _ _ ⟨trivial,fun _=>C6.out⟩ ?_
        clear hK K C5 H0 o0 n9 n8
        try simp only[Act.put,sPa,sPb,sPc]
        refine oneG (i:=8) (by kernel_rfl) rfl (fun K hK=>?_)
        go_simp
        go_at_call 60
        refine(p6.out w6 zn l8.out p4.out).mono ?_
        rintro e w7 ⟨u2,n6,n5,n4,rfl,a1⟩
        have p8:=Kh n6;have s8:=Kh n5;have s7:=Kh n4
        have h6:=Kh (zB h6.out (zB a4.out (zD l8.out a1) (by simp)) (by simp))
        have h0:=Kh (zA h0.out (zB a4.out (zD l8.out a1) (by simp)) (by simp))
        refine hK.out _ _ ⟨trivial,fun h=>by simp at h⟩ ?_
        clear hK K C6 a1 n6 n5 n4
        try simp only[Act.put,sPa,sPb,sPc]
        have h5:=h0.out
        have f40:=zE h5 0
        have f41:=zE h5 1
        have f42:=zE h5 2
        have j7:=zH h5
        obtain⟨v0,v1,v2⟩:=zJ h5
        refine oneG (i:=9) (by kernel_rfl) rfl (fun K hK=>?_)
        go_simp
        have g1:=zD (zD (zC w7 ⟨P,0,none⟩ (.slice none 0 0)) (zC _ ⟨P,1,none⟩ (.slice none 0 0))) (zC _ ⟨P,2,none⟩ (.int .i64 0))
        have z1:=heap_setCell_same _ P 2 _ _ (.int .i64 0) (heap_setCell_same _ P 1 _ _ (.slice none 0 0) (heap_setCell_same w7 P 0 _ _ (.slice none 0 0) h5))
        obtain⟨w9,H9⟩:∃ w9,w9=((w7.setCell ⟨P,0,none⟩ (.slice none 0 0)).setCell ⟨P,1,none⟩ (.slice none 0 0)).setCell ⟨P,2,none⟩ (.int .i64 0):=⟨_,rfl⟩
        rw[<- H9]at g1 z1 ⊢
        simp only[Array.setIfInBounds,List.size_toArray,List.length_cons,List.length_nil]at z1
        refine hK.out _ _ ⟨trivial,fun h=>by simp at h⟩ ?_
        clear hK K v0 v1 v2 f40 f41 f42
        try simp only[Act.put,sPa,sPb,sPc]
        refine oneG (i:=10) (by kernel_rfl) rfl (fun K hK=>?_)
        go_simp
        refine hK.out _ _ ⟨trivial,fun h=>by simp at h⟩ ?_
        clear hK K
        try simp only[Act.put,sPa,sPb,sPc]
        refine oneG (i:=11) (by kernel_rfl) rfl (fun K hK=>?_)
        go_simp
        refine hK.out _ _ ⟨trivial,fun h=>by simp at h⟩ ?_
        clear hK K
        try simp only[Act.put,sPa,sPb,sPc]
        refine oneG (i:=12) (by kernel_rfl) rfl (fun K hK=>?_)
        go_simp
        refine hK.out _ _ ⟨trivial,fun h=>by simp at h⟩ ?_
        clear hK K
        try simp only[Act.put,sPa,sPb,sPc]
        refine jI (by kernel_rfl) ?_ _
        refine NoPanic.normal ?_
        obtain⟨q0,q1,q2⟩:=zJ z1
        have t4:=Kh H9
        clear H9 h5
        obtain⟨s1,i7⟩:∃ s,s=strOfNums (lets u1):=⟨_,rfl⟩
        obtain⟨s2,i6⟩:∃ s,s=strOfNums (lets u2):=⟨_,rfl⟩
        rw[<- i7,<- i6]
        have t6:=Kh i7;have t5:=Kh i6
        clear i7 i6
        go_wp2
        try rw[<- t4.out]
        refine bodyPost_ret (v:=.tuple #[.agg #[.slice none 0 0,.slice none 0 0,.int .i64 0],.string s1,.string s2,.int .i64 20]) (by simp[results,Try.results19,go_sem,q0,q1,q2,Result.andThen]) rfl ?_
        have b0:=m4.out
        rw[a6.out]at b0
        have a2:=i0.out
        rw[H8.out]at a2
        have j1:ps.length < (ofT d ps).length:=by rw[vB];omega
        have b6:=x5.out
        rw[H8.out]at b6
        have b5:=x4.out
        rw[H8.out]at b5
        have e0:=x3.out
        rw[H8.out]at e0
        obtain⟨t1,t2,t3⟩:=of_conf b3.out b0 (by rw[<- a6.out];exact p9.out) (by rw[<- a6.out];exact p8.out) s9.out s7.out b6 b5 e0
        refine⟨_,_,_,_,rfl,?_,zB h6.out g1 (fun j e=>by have e:P=j:=Oj e;have:=d5.out;omega)⟩
        rw[t6.out,t5.out]
        exact OfOut.conf b3.out ⟨L,b0,g8⟩ (cls_conf j1 b0 a2 c9.out i1.out) u1 u2 (by rw[<- a6.out];exact p9.out) (by rw[<- a6.out];exact p8.out) (by have:=t0.out;have:=p5.out;omega) (by have:=s8.out;have:=p4.out;omega) t1 t2 t3
      ·have j8:¬ (kk:Int) < n:=by omega
       have r7:Hid (∀ c∈l,nA c=false):=Kh (fun c hc=>by
        obtain⟨i,hi,rfl⟩:=List.getElem_of_mem hc
        have:=q7.out i (by have:=f5.out;have:=HN.out;omega)
        rwa [zF hi]at this)
       have d0:=Kh (zB h6.out hg (by simp))
       have e7:=i0.out
       have l9:Hid (Calls Try.prog 61 #[.slice pa n2 pc,.slice la n lc] wr (qCY wr ps l)):=Kh (diagram_any Bd wr _ _ ps l (by have:=d0.out.size;omega) (HP.out.kept d0.out (by simp)) ((b1.out.grow hg).mono (fun j hj=>Nat.lt_of_lt_of_le hj hg.size)) (by rw[<- HN.out];exact b7) (by rw[<- HN.out];omega) (by rw[<- H8.out];exact clsok_of e7 (fun i=>oP _ _ _)) (by rw[<- H8.out];omega) (of_short b3.out))
       have f9:=Kh (zA h0.out hg (by simp))
       clear hg e7
       go_wp2_with fail
       refine l9.out.mono ?_
       rintro e w11 ⟨v11,g,rfl,k9,b9,b8,o8,o7,H7,H0,c7⟩
       have k8:=k9 w11 none (zN _ _) (by simp)
       obtain⟨pv2,cv2,rfl,o1,e8⟩:=k8
       obtain⟨ap,cp,rfl⟩:=o1.shape
       obtain⟨ac,cc,rfl⟩:=e8.shape
       have r5:=Kh k9
       have h6:=Kh (zB d0.out c7 (by simp))
       have h0:=Kh (zA f9.out c7 (by simp))
       have l5:Hid (P < wr.heap.size):=Kh (zH f9.out)
       have H1:=Kh b9;have H2:=Kh b8;have H3:=Kh o8;have H4:=Kh o7;have H5:=Kh H7;have H6:=Kh H0
       obtain⟨m1,b6⟩:∃ m,m=g.pats.length:=⟨_,rfl⟩
       obtain⟨m2,b5⟩:∃ m,m=g.chos.length:=⟨_,rfl⟩
       obtain⟨rt,i8⟩:∃ m,m=g.root:=⟨_,rfl⟩
       rw[<- b6,<- b5,<- i8]at r5 ⊢
       have y9:=Kh i8
       clear k9 o1 e8 c7 b9 b8 o8 o7 H7 H0 b6 b5 i8
       have h5:=h0.out
       have f40:=zE h5 0
       have f41:=zE h5 1
       have f42:=zE h5 2
       have j7:=zH h5
       obtain⟨v0,v1,v2⟩:=zJ h5
       go_wp2
       have g1:=zD (zD (zC w11 ⟨P,0,none⟩ (.slice ap m1 cp)) (zC _ ⟨P,1,none⟩ (.slice ac m2 cc))) (zC _ ⟨P,2,none⟩ (.int .i64 rt))
       have z1:=heap_setCell_same _ P 2 _ _ (.int .i64 rt) (heap_setCell_same _ P 1 _ _ (.slice ac m2 cc) (heap_setCell_same w11 P 0 _ _ (.slice ap m1 cp) h5))
       obtain⟨w9,H9⟩:∃ w9,w9=((w11.setCell ⟨P,0,none⟩ (.slice ap m1 cp)).setCell ⟨P,1,none⟩ (.slice ac m2 cc)).setCell ⟨P,2,none⟩ (.int .i64 rt):=⟨_,rfl⟩
       rw[<- H9]at g1 z1 ⊢
       simp only[Array.setIfInBounds,List.size_toArray,List.length_cons,List.length_nil]at z1
       obtain⟨q0,q1,q2⟩:=zJ z1
       refine bodyPost_ret (v:=.tuple #[.agg #[.slice ap m1 cp,.slice ac m2 cc,.int .i64 rt],.string ⟨#[]⟩,.string ⟨#[]⟩,.int .i64 0]) (by simp[results,Try.results19,go_sem,q0,q1,q2,Result.andThen]) rfl ?_
       have b0:=m4.out
       rw[a6.out]at b0
       have a2:=i0.out
       rw[H8.out]at a2
       have j1:ps.length < (ofT d ps).length:=by rw[vB];omega
       refine⟨_,_,_,_,rfl,OfOut.ok _ g l L b3.out b0 g8 (cls_noconf j1 b0 a2 r7.out) (r5.out w9 _ g1 (fun j e=>by have e:P=j:=Oj e;have:=l5.out;omega)) H1.out H2.out H3.out H4.out (of_dec b3.out b0 a2 r7.out H2.out H4.out H5.out) a2 H6.out,zB h6.out g1 (fun j e=>by have e:P=j:=Oj e;have:=d5.out;omega)⟩
end Go.Proofs.Ytjfdomfendbhfaa
