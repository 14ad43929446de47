/- Part 26 of the proof. -/
import Derived.Test.YtjfdomfendbhfaaQf22
import Derived.Test.YtjfdomfendbhfaaQf25
import Derived.Deep.RegionLaw
import Derived.BigQuiet
import Derived.Deep.DeepCutAuto
import Derived.Deep.CutBlock
import Derived.Shelf.Vars
set_option linter.unusedVariables false
set_option linter.unusedSimpArgs false
set_option maxRecDepth 100000
set_option maxHeartbeats 16000000
namespace Go.Proofs.Ytjfdomfendbhfaa
open Go.RowKit Go.Maps
theorem rfinals_nil (w:World)(a:Option Addr)(c:Nat)(sv nv:Value)(i:Nat):
  Calls Try.prog 53 #[.agg #[.slice a 0 c,sv,nv],.int .i64 (i:Int)] w fun e w'=>e=.returned (.slice none 0 0)/\w.grownBy w' none:=by
 obtain⟨wA,h2⟩:∃ wA,wA=w.alloc (.cells #[.slice a 0 c,sv,nv] 88):=⟨_,rfl⟩;have h1:=Ga w (.cells #[.slice a 0 c,sv,nv] 88) none;have h0:=heap_alloc_new w (.cells #[.slice a 0 c,sv,nv] 88);obtain⟨P,hP⟩:∃ P,P=w.heap.size:=⟨_,rfl⟩;rw[<- h2]at h1 h0;rw[<- hP]at h0;obtain⟨p0,p1,p2⟩:=zH h0;have h3:=Kh h2;have h4:=Kh hP;have h5:=Kh h1;clear h2 h1 h0 hP;go_enter Try.func53,Try.ntmps53;go_upto_region 1 with fail;rw[<- h3.out,<- h4.out];go_wp2;clear p0 p1 p2
 go_loopg [5,6,11] 0 (fun gh v5 v6 v11 wr=>v11=.int .i64 (0:Nat)/\v5=.slice none 0 0/\wA.grownBy wr none)
 case atStart=>exact⟨rfl,rfl,zM _ _⟩
 case round =>
  obtain⟨rfl,rfl,hg⟩:=hrel;go_wp2;go_ret;exact⟨rfl,zB h5.out hg (by simp)⟩
theorem diaL_fin (g:DiaV)(k:Nat)(L:List (List Nat)):(diaA g k L).final=L.map (finD g (autD g.pats (k:Int))):=rfl
theorem xY.natsInts {B:Nat}{e:TypeId}{w:World}{hs:List Value}{T:List (List Nat)}(h:xY B e nats w hs T):xY B e ints w hs (T.map fun r=>r.map fun x:Nat=>(x:Int)):=by
 refine⟨by rw[List.length_map];exact h.1,fun i h1 h2=>?_⟩;have h3:=h.2 i h1 (by rw[List.length_map]at h2;exact h2)
 have e1:ints ((T.map fun r=>r.map fun x:Nat=>(x:Int))[i])=nats (T[i]'(by rw[List.length_map]at h2;exact h2)):=by
  rw[List.getElem_map];simp[ints,nats]
 rw[e1];exact h3
theorem diaA_ok {w:World}{f nx:Value}{g:DiaV}{k:Nat}{L:List (List Nat)}(h:DfaT w f nx (diaA g k L)):uT w.heap.size w (.agg #[.int .i64 (k:Int),.int .i64 0,f,nx]) (diaA g k L):=h.ok
theorem diaA_min {w:World}{f nx:Value}{g:DiaV}{k n:Nat}{L:List (List Nat)}(h:DfaT w f nx (diaA g k L))(hv:VD (diaA g k L) n k):Calls Try.prog 54 #[.agg #[.int .i64 (k:Int),.int .i64 0,f,nx]] w (qHX w (minD (diaA g k L) k)):=eN w.heap.size w _ (diaA g k L) n k (Nat.le_refl _) (diaA_ok h) hv
theorem rdia_any (Bd:Nat)(w:World)(v:Value)(g:DiaV)(letters:Int)(hBd:Bd<=w.heap.size)(h:qM Bd w v g)(hp4:g.pats.length<=4096)(h14:∀ p∈g.pats,patW p letters=0->sY p<=14):
  Calls Try.prog 18 #[v,.int .i64 letters] w (qHU w g letters):=by
 have H:=Kh h;obtain⟨pv,cv,rfl,hp,k0⟩:=h;obtain⟨pa,pc,rfl⟩:=hp.shape;obtain⟨ca,cc,rfl⟩:=k0.shape;obtain⟨np,d8⟩:∃ n,n=g.pats.length:=⟨_,rfl⟩;obtain⟨nc,j0⟩:∃ n,n=g.chos.length:=⟨_,rfl⟩;rw[<- d8,<- j0]at H ⊢;rw[<- d8]at hp;have o5:=Kh hp;obtain⟨c6,e5,b9,i4⟩:=mH w #[.slice pa np pc,.slice ca nc cc,.int .i64 g.root] 25 #[.int .i64 0,.int .i64 0,.slice none 0 0,.slice none 0 0] 42;obtain⟨wA,g0⟩:∃ wA,wA=(w.alloc (.cells #[.slice pa np pc,.slice ca nc cc,.int .i64 g.root] 25)).alloc (.cells #[.int .i64 0,.int .i64 0,.slice none 0 0,.slice none 0 0] 42):=⟨_,rfl⟩;rw[<- g0]at c6 e5 b9 i4;obtain⟨P,hP⟩:∃ P,P=w.heap.size:=⟨_,rfl⟩;obtain⟨Q,hQ⟩:∃ Q,Q=w.heap.size+1:=⟨_,rfl⟩;have l0:=Kh hP;have c7:Hid (Q=P+1):=Kh (by omega);rw[<- hQ]at e5;rw[<- hP]at c6;obtain⟨c0,c1,c2⟩:=zH c6;have a8:=Kh c6;have h3:=Kh e5;have p1:=Kh b9;have n6:=Kh g0;have k7:=Kh (nK Bd wA _ g letters (by have:=b9.size;omega) (H.out.kept b9 (by simp)));have r4:=Kh d8;have q4:=Kh h14;clear c6 e5 b9 g0 hP hQ i4 hp k0 d8 j0 h14;go_enter Try.func18,Try.ntmps18;go_upto_region 1 with fail;rw[<- n6.out,<- l0.out,<- c7.out];go_wp2_with fail;refine k7.out.mono ?_;rintro e w1 ⟨rfl,c3⟩;have f5:=Kh (zB p1.out c3 (by simp));have p0:=Kh c3;have a8:=Kh (zA a8.out c3 (by simp));have h3:=Kh (zA h3.out c3 (by simp));have e7:Hid (w.heap.size=P):=Kh l0.out.symm;clear c3 k7 c0 c1 c2;obtain⟨E,hE⟩:∃ E,E=diaE g letters:=⟨_,rfl⟩;rw[<- hE];have HE:=Kh hE;clear hE;by_cases hE0:E=0
 case neg =>
  obtain⟨q0,q1,q2,q3⟩:=zF h3.out;have f0:=zE h3.out 0;have f1:=zE h3.out 1;have f2:=zE h3.out 2;have f3:=zE h3.out 3;have b6:=zI h3.out;have e1:(E != 0)=true:=by rw[bne_iff_ne];exact hE0
  have o8:=Kh hE0;clear hE0;go_wp2;obtain⟨H3,h6⟩:=xI h3.out (.int .i64 0) (.int .i64 0) (.slice none 0 0) (.slice none 0 0);obtain⟨wz,H1⟩:∃ wz,wz=(((w1.setCell ⟨Q,0,none⟩ (.int .i64 0)).setCell ⟨Q,1,none⟩ (.int .i64 0)).setCell ⟨Q,2,none⟩ (.slice none 0 0)).setCell ⟨Q,3,none⟩ (.slice none 0 0):=⟨_,rfl⟩;rw[<- H1]at H3 h6 ⊢;clear H1;obtain⟨r0,r1,r2,r3⟩:=zF H3;clear q0 q1 q2 q3 f0 f1 f2 f3;refine bodyPost_ret (v:=.tuple #[.agg #[.int .i64 0,.int .i64 0,.slice none 0 0,.slice none 0 0],.int .i64 E]) (by simp[results,Try.results18,go_sem,r0,r1,r2,r3]) rfl ?_;exact⟨E,lD,⟨_,_,rfl,DfaT.zero _,zB f5.out h6 (fun k e=>by have h7:Q=k:=Oj e;have:=c7.out;have:=e7.out;omega)⟩,Or.inl ⟨by rw[<- HE.out];exact o8.out,HE.out,rfl⟩⟩
 case pos =>
  subst hE0;obtain⟨c0,c1,c2⟩:=zH a8.out
  have i3:Hid (Calls Try.prog 51 #[.slice pa np pc,.int .i64 letters] w1 (qDI w1 (autE letters g.pats) (autD g.pats letters))):=Kh (by
   exact autos34_any Bd w1 _ g.pats letters (by have:=f5.out.size;omega) (o5.out.kept f5.out (by simp)) hp4 q4.out)
  obtain⟨F,hF⟩:∃ F,F=autE letters g.pats:=⟨_,rfl⟩;rw[<- hF]at i3;have HF:=Kh hF;clear hF;go_wp2_with fail;refine i3.out.mono ?_;rintro e w2 ⟨sa,n2,sc,rfl,e3,a9⟩;have f4:=Kh (zB f5.out e3 (by simp));have a8:=Kh (zA a8.out e3 (by simp));have h3:=Kh (zA h3.out e3 (by simp));clear e3 i3 c0 c1 c2;by_cases hF0:F=0
  case neg =>
   have h9:=aA HE.out.symm;have h8:=HF.out;unfold autE at h8;rw[if_neg (by omega),h9.2.2.2]at h8;exact absurd h8 hF0
  case pos =>
   subst hF0;have h0:diaE g letters=0:=HE.out.symm
   have j3:1<=letters/\letters<=6/\g.pats.length<=300:=by
    unfold diaE at h0
    split at h0
    ·cases h0
    ·split at h0
     ·cases h0
     ·omega
   have i8:vM letters g.pats=0:=by
    have:=HF.out;unfold autE at this;rw[if_neg (by omega)]at this;exact this.symm
   obtain⟨k,hk⟩:∃ k:Nat,letters=k:=⟨letters.toNat,by omega⟩;subst hk;have b8:1<=k:=by omega
   have b7:k<=6:=by omega
   have h2:n2=(autD g.pats (k:Int)).length/\∃ l,l.map (·.1)=autD g.pats (k:Int)/\DsUp w1.heap.size w2 (.slice sa n2 sc) l:=by
    rcases a9 with h|h
    ·exact absurd rfl h
    ·exact h.2
   obtain⟨d9,lp,j2,i7⟩:=h2;have l4:Hid (DsIn w2.heap.size w2 (.slice sa n2 sc) (autD g.pats (k:Int))):=Kh (by have:=i7.in_;rw[j2]at this;exact this);have H8:=Kh (qDW i8);have o6:=Kh (rproduct_any w2.heap.size w2 _ _ k (Nat.le_refl _) l4.out H8.out b8 b7 (by rw[xS];omega))
   have p5:Hid (∀ (W:World) (sa':Option Addr) (sc':Nat) (ms:List Bool),w2.grownBy W none->Row W.heap.size W (.slice sa' n2 sc') (bls ms)->ms.length=n2->Calls Try.prog 44 #[.agg #[.slice pa np pc,.slice ca nc cc,.int .i64 g.root],.slice sa' n2 sc'] W fun e w'=>e=.returned (.bool (decG g.chos (fun p=>ms.getD p false) g.root))/\W.grownBy w' none):=Kh (fun W sa' sc' ms hW hr hml=>by
    obtain⟨_,_,_,_,_,m8,m1,m0⟩:=nX HE.out.symm
    exact fU W.heap.size W _ g _ ms ((H.out.kept (zB f4.out hW (by simp)) (by simp)).mono (Nat.le_trans hBd (zB f4.out hW (by simp)).size)) m8 m1 m0 (by rw[hml,d9,xS];exact Nat.le_refl _) hr)
   have e8:Hid (n2=(autD g.pats (k:Int)).length):=Kh d9;have k5:diaE g (k:Int)=0:=h0;have H0:=Kh k5;have j1:n2<=300:=by rw[d9,xS];exact j3.2.2
   clear h0 k5 j3 i8 a9 d9 j2 i7;go_wp2_with fail;refine o6.out.mono ?_;rintro e w3 m2;rcases m2 with ⟨hov,rfl,hg3⟩|⟨B8,pv8,L,T,rfl,hB8,hpv,hbfs,b6,htok,hg3⟩
   ·obtain⟨w4,a2⟩:∃ w4,w4=w3.alloc (.cells #[.slice none 0 0,.slice none 0 0,.slice none 0 0] 88):=⟨_,rfl⟩
    have H4:=Ga w3 (.cells #[.slice none 0 0,.slice none 0 0,.slice none 0 0] 88) none;rw[<- a2]at H4;have g4:=Kh a2;have g9:=Kh (zB (zB f4.out hg3 (by simp)) H4 (by simp));have h3:=Kh (zA (zA h3.out hg3 (by simp)) H4 (by simp));clear a2 H4 hg3;go_upto_region 8 with fail;rw[<- g4.out];obtain⟨q0,q1,q2,q3⟩:=zF h3.out;have f0:=zE h3.out 0;have f1:=zE h3.out 1;have f2:=zE h3.out 2;have f3:=zE h3.out 3;have b6:=zI h3.out;go_wp2;obtain⟨H3,h6⟩:=xI h3.out (.int .i64 0) (.int .i64 0) (.slice none 0 0) (.slice none 0 0);obtain⟨wz,H1⟩:∃ wz,wz=(((w4.setCell ⟨Q,0,none⟩ (.int .i64 0)).setCell ⟨Q,1,none⟩ (.int .i64 0)).setCell ⟨Q,2,none⟩ (.slice none 0 0)).setCell ⟨Q,3,none⟩ (.slice none 0 0):=⟨_,rfl⟩;rw[<- H1]at H3 h6 ⊢;clear H1;obtain⟨r0,r1,r2,r3⟩:=zF H3;clear q0 q1 q2 q3 f0 f1 f2 f3;refine bodyPost_ret (v:=.tuple #[.agg #[.int .i64 0,.int .i64 0,.slice none 0 0,.slice none 0 0],.int .i64 3]) (by simp[results,Try.results18,go_sem,r0,r1,r2,r3]) rfl ?_;exact⟨3,lD,⟨_,_,rfl,DfaT.zero _,zB g9.out h6 (fun k e=>by have h7:Q=k:=Oj e;have:=c7.out;have:=e7.out;omega)⟩,.inr ⟨H0.out,k,rfl,b8,b7,.inl ⟨hov,rfl,rfl⟩⟩⟩
   ·have g2:0<L.length:=by have:=hbfs.hd;rcases Nat.eq_zero_or_pos L.length with h|h;(rw[List.eq_nil_of_length_eq_zero h]at this;cases this);exact h
    obtain⟨sb8,sc8,nv8,a4⟩:=hpv.view g2;obtain⟨sS,sN,cS,cN,q6,m5,i6,m3,b5,l9,b3⟩:=hpv;have b4:=a4.val;rw[i6]at b4;cases b4;subst i6;obtain⟨LL,g1⟩:∃ n,n=L.length:=⟨_,rfl⟩;obtain⟨TL,e6⟩:∃ n,n=T.length:=⟨_,rfl⟩;have c9:=Kh g1;have n8:=Kh e6;have c8:=Kh a4;have e9:=Kh b6;have l1:=Kh b5;have o1:=Kh b3;have f6:=Kh hbfs;have n9:=Kh htok;have r5:=Kh g2;rw[<- g1,<- e6]at c8 ⊢;rw[<- e6]at l1;have n3:LL<=4000:=by omega
    clear g1 e6 a4 b5 b3 l9 m3 hbfs htok b6 g2;obtain⟨w4,a2⟩:∃ w4,w4=w3.alloc (.cells #[.slice sa n2 sc,.slice (some ⟨sb8,0,none⟩) LL sc8,.slice sN TL cN] 88):=⟨_,rfl⟩;obtain⟨R,hR⟩:∃ R,R=w3.heap.size:=⟨_,rfl⟩;have H4:=Ga w3 (.cells #[.slice sa n2 sc,.slice (some ⟨sb8,0,none⟩) LL sc8,.slice sN TL cN] 88) none;have a0:=heap_alloc_new w3 (.cells #[.slice sa n2 sc,.slice (some ⟨sb8,0,none⟩) LL sc8,.slice sN TL cN] 88);rw[<- a2]at H4 a0;rw[<- hR]at a0;have g4:=Kh a2;have o4:=Kh hR;have r7:=Kh a0;have d4:=Kh H4;have H9:=Kh (zD hg3 H4);have g9:=Kh (zB f4.out H9.out (by simp));have d6:=Kh (zA a8.out H9.out (by simp));have h3:=Kh (zA h3.out H9.out (by simp));have d5:=Kh hg3;clear a2 hR H4 hg3;obtain⟨b0,b1,b2⟩:=zH a0;go_upto_region 8 with fail;rw[<- g4.out,<- o4.out]
    have p4:Hid (∀ (W:World) (i:Nat),w3.grownBy W none->i<LL->Calls Try.prog 53 #[.agg #[.slice sa n2 sc,.slice (some ⟨sb8,0,none⟩) LL sc8,.slice sN TL cN],.int .i64 (i:Int)] W fun e w'=>∃ sa sc,e=.returned (.slice sa n2 sc)/\w'.ownsRow W.heap.size 4 1 (.slice sa n2 sc) n2 (bls (mtsT (autD g.pats (k:Int)) n2 (L.getD i [])))/\W.grownBy w' none):=Kh (fun W i hW hi=>by
     by_cases hz:n2=0
     ·subst hz
      exact(rfinals_nil W sa sc _ _ i).mono fun e w' h=>⟨none,0,h.1,by rw[show bls (mtsT (autD g.pats (k:Int)) 0 (L.getD i []))=[] from rfl];exact World.ownsRow_nil _ _ _ _,h.2⟩
     ·have:=rfinals_any w2.heap.size W k _ _ _ (autD g.pats (k:Int)) L T sb8 sc8 i (zD d5.out hW).size (c8.out.grow hW) (l4.out.kept (zD d5.out hW) (by simp)) H8.out (by rw[<- c9.out];exact hi) (by
       have j4:i<L.length:=(by rw[<- c9.out];exact hi);obtain⟨u,hu,eu⟩:=f6.out.re _ (List.getElem_mem j4);rw[zG j4,<- eu]
       exact H8.out.walk u H8.out.in0 hu) (by rw[<- e8.out];omega) (by rw[<- e8.out];omega) e9.out
      rw[<- e8.out]at this
      exact this)
    clear b0 b1 b2;obtain⟨w5,d7⟩:∃ w5,w5=w4.alloc (.cells #[.int .i64 (k:Int),.int .i64 0,.slice none 0 0,.slice sN TL cN] 42):=⟨_,rfl⟩;obtain⟨D,hD⟩:∃ D,D=w4.heap.size:=⟨_,rfl⟩;have e2:=Ga w4 (.cells #[.int .i64 (k:Int),.int .i64 0,.slice none 0 0,.slice sN TL cN] 42) none;have e4:=heap_alloc_new w4 (.cells #[.int .i64 (k:Int),.int .i64 0,.slice none 0 0,.slice sN TL cN] 42);have i5:w5.heap.size=D+1:=by rw[d7,zO,hD]
    rw[<- d7]at e2 e4;rw[<- hD]at e4;have n7:=Kh d7;have l6:=Kh hD;have q9:=Kh i5;have p9:=Kh e4;have p2:=Kh e2;have i0:=Kh (zA a0 e2 (by simp));clear d7 hD e2 i5 e4;obtain⟨b0,b1,b2⟩:=zH a0;have c5:=Kh a0;clear a0;go_upto_region 11 with fail;rw[<- n7.out,<- l6.out];clear b0 b1 b2;obtain⟨b0,b1,b2⟩:=zH i0.out;have k8:Hid (∃ (sf:Option Addr) (cf:Nat),w5.heap[D]?=some (.cells #[.int .i64 (k:Int),.int .i64 0,.slice sf 0 cf,.slice sN TL cN] 42 (0,0))/\w5.ownsRow (D+1) 4 1 (.slice sf 0 cf) 0 (bls ((L.take 0).map (finD g (autD g.pats (k:Int)))))):=Kh ⟨none,0,p9.out,World.ownsRow_nil _ _ _ _⟩;go_wp2;clear b0 b1 b2
    go_loopg [11,47] LL (fun gh v11 v47 wr=>∃ (i:Nat) (sf:Option Addr) (cf:Nat),gh+i=LL/\v47=.int .i64 i/\w4.grownBy wr none/\wr.heap[D]?=some (.cells #[.int .i64 (k:Int),.int .i64 0,.slice sf i cf,.slice sN TL cN] 42 (0,0))/\wr.ownsRow (D+1) 4 1 (.slice sf i cf) i (bls ((L.take i).map (finD g (autD g.pats (k:Int))))))
    case atStart =>
     obtain⟨sf,cf,h1,h2⟩:=k8.out;exact⟨0,sf,cf,rfl,rfl,p2.out,h1,h2⟩
    case round =>
     clear k8;obtain⟨i,sf,cf,j5,rfl,hg,a7,h5⟩:=hrel;have g8:=Kh j5;have HG:=Kh hg;have p8:=Kh a7;have HO:=Kh h5;clear j5;by_cases hi:i<LL
     ·have m6:(i:Int)<LL:=by omega
      go_upto_region 14 with fail;have n4:D=w4.heap.size:=l6.out;have n1:=zI d6.out;have n0:=zI c5.out;have n5:=zI a7;refine rdia_reg14 (G:=P) (R:=R) (D:=D) (base:=D+1) (np:=n2) (m:=LL) (tl:=TL) (k:=k) (fs:=(L.take i).map (finD g (autD g.pats (k:Int)))) (ms:=mtsT (autD g.pats (k:Int)) n2 (L.getD i [])) (b:=finD g (autD g.pats (k:Int)) (L.getD i [])) (zA d6.out hg (by simp)) (zA c5.out hg (by simp)) a7 h5 ⟨by omega,by omega,by omega⟩ (by omega) (by omega) (fun W hW=>p4.out W i (zD d4.out (zD hg hW)) hi) (fun W sa' sc' hW hr=>?_) ?_
      ·have h8:=p5.out W sa' sc' _ (zD H9.out (zD hg hW)) hr (oI _ _ _)
       rw[e8.out]at h8 ⊢;exact h8
      ·intro z50 z51 z52 z53 z54 z55 z56 z57 z58 z59 sf' cf' wa wb wc j8 j7 j6 c4 H2
       have p3:Hid (w4.grownBy wc none):=Kh (by
        refine zB (zB (zB hg j8 (by simp)) j7 (fun j e=>?_)) j6 (fun j e=>?_)
        ·have:=(h5.lt j e).1;omega
        ·have e:D=j:=Oj e;omega)
       have i1:=Kh c4
       have o7:Hid (wc.ownsRow (D+1) 4 1 (.slice sf' (i+1) cf') (i+1) (bls ((L.take (i+1)).map (finD g (autD g.pats (k:Int)))))):=Kh (by
        rw[List.take_add_one,List.getElem?_eq_getElem (by rw[<- c9.out];exact hi),List.map_append];rw[zG (by rw[<- c9.out];exact hi)]at H2
        exact H2)
       clear n4 n1 n0 n5 j8 j7 j6 c4 H2 hg a7 h5;go_wp2;go_roundg (LL - (i+1))
       case measure=>have:=g8.out;omega
       case rel=>exact⟨i+1,sf',cf',by have:=g8.out;omega,by go_num,p3.out,i1.out,o7.out⟩
     ·have m6:¬ (i:Int)<LL:=by omega
      have l8:LL=i:=by have:=g8.out;omega
      subst l8
      have p6:Hid (DfaT wr (.slice sf LL cf) (.slice sN TL cN) (diaA g k L)):=Kh (by
       have H5:w3.grownBy wr none:=zD d4.out hg;have q8:TL=T.length:=n8.out;have m9:LL=L.length:=c9.out
       have f7:(L.take LL).map (finD g (autD g.pats (k:Int)))=(diaA g k L).final:=by
        rw[diaL_fin,m9,List.take_length]
       refine⟨m5,by rw[<- f7];exact RowT.of_owns h5,((RowT.of_owns l1.out).kept H5 (by simp)).mono H5.size,?_⟩;have m4:(diaA g k L).next=T.map (fun r=>r.map fun x:Nat=>(x:Int)):=(tok_next n9.out).symm;rw[m4]
       exact xY.natsInts ((o1.out.kept H5 (by simp)).mono H5.size))
      have k6:Hid (VD (diaA g k L) L.length k):=Kh (kH f6.out b8 b7 e9.out);obtain⟨m,hm⟩:∃ m,m=minD (diaA g k L) k:=⟨_,rfl⟩
      have l2:Hid (Calls Try.prog 54 #[.agg #[.int .i64 (k:Int),.int .i64 0,.slice sf LL cf,.slice sN TL cN]] wr (qHX wr m)):=Kh (by
       rw[hm];exact diaA_min p6.out k6.out)
      obtain⟨N,hN⟩:∃ N,N=minN (diaA g k L) k:=⟨_,rfl⟩;have a3:=pS k6.out;rw[<- hm,<- hN]at a3;have k3:m.letters=k:=a3.hk;have k1:m.start=0:=by rw[hm];rfl
      have k4:m.final.length=N:=a3.hn;have k2:m.next.length=N:=a3.nl;have HM:=Kh hm;have HN:=Kh hN;have o2:=Kh k3;have o0:=Kh k1;have o3:=Kh k4;have g5:=Kh k2;have r6:=Kh (zI a7);obtain⟨d0,d1,d2,d3⟩:=zF p8.out;have f9:=zA h3.out hg (by simp);have k9:=Kh (zI f9);have p7:=Kh f9;have g7:=Kh (zB g9.out hg (by simp));clear a3 hm hN k3 k1 k4 k2 hg a7 h5 f9;go_wp2_with fail;refine l2.out.mono ?_;rintro e x9 ⟨v9,rfl,j9,e0⟩;have l5:=Kh j9;obtain⟨o9,q5,sf9,cf9,sn9,cn9,rfl,q7,f8⟩:=j9;rw[o2.out,o0.out,o3.out,g5.out]at l5 ⊢;have H6:=Ga x9 (.cells #[.int .i64 (k:Int),.int .i64 0,.slice sf9 N cf9,.slice sn9 N cn9] 42) none;have H7:=heap_alloc_new x9 (.cells #[.int .i64 (k:Int),.int .i64 0,.slice sf9 N cf9,.slice sn9 N cn9] 42);obtain⟨x10,a1⟩:∃ x10,x10=x9.alloc (.cells #[.int .i64 (k:Int),.int .i64 0,.slice sf9 N cf9,.slice sn9 N cn9] 42):=⟨_,rfl⟩;obtain⟨o10,a5⟩:∃ o10,o10=x9.heap.size:=⟨_,rfl⟩;rw[<- a1]at H6 H7;rw[<- a5]at H7;have l3:=Kh (zB g7.out e0 (by simp));have h4:=Kh (zA (zA p7.out e0 (by simp)) H6 (by simp));have g3:=Kh a1;have g6:=Kh a5;have a6:=Kh H6;have i2:=Kh H7;have i9:Q≠o10:=(by have:=e0.size;have:=k9.out;omega);clear f8 e0 d0 d1 d2 d3 l2 H6 H7 a1 a5;have f0:=zE h4.out 0;have f1:=zE h4.out 1;have f2:=zE h4.out 2;have f3:=zE h4.out 3;have b6:=zI h4.out;go_upto_region 17 with fail;rw[<- g3.out,<- g6.out];obtain⟨q0,q1,q2,q3⟩:=zF h4.out;obtain⟨t0,t1,t2,t3⟩:=zF i2.out;by_cases h512:(512:Int)<N
      ·go_wp2
       obtain⟨H3,h6⟩:=xI h4.out (.int .i64 0) (.int .i64 0) (.slice none 0 0) (.slice none 0 0);obtain⟨wz,H1⟩:∃ wz,wz=(((x10.setCell ⟨Q,0,none⟩ (.int .i64 0)).setCell ⟨Q,1,none⟩ (.int .i64 0)).setCell ⟨Q,2,none⟩ (.slice none 0 0)).setCell ⟨Q,3,none⟩ (.slice none 0 0):=⟨_,rfl⟩;rw[<- H1]at H3 h6 ⊢;clear H1;obtain⟨r0,r1,r2,r3⟩:=zF H3;clear q0 q1 q2 q3 f0 f1 f2 f3 t0 t1 t2 t3;refine bodyPost_ret (v:=.tuple #[.agg #[.int .i64 0,.int .i64 0,.slice none 0 0,.slice none 0 0],.int .i64 3]) (by simp[results,Try.results18,go_sem,r0,r1,r2,r3]) rfl ?_;exact⟨3,lD,⟨_,_,rfl,DfaT.zero _,zB (zB l3.out a6.out (by simp)) h6 (fun k e=>by have h7:Q=k:=Oj e;have:=c7.out;have:=e7.out;omega)⟩,.inr ⟨H0.out,k,rfl,b8,b7,.inr ⟨L,⟨f6.out,e9.out⟩,.inl ⟨by rw[<- HN.out];omega,rfl,rfl⟩⟩⟩⟩
      ·go_wp2
       obtain⟨H3,h6⟩:=xI h4.out (.int .i64 (k:Int)) (.int .i64 0) (.slice sf9 N cf9) (.slice sn9 N cn9);obtain⟨wz,H1⟩:∃ wz,wz=(((x10.setCell ⟨Q,0,none⟩ (.int .i64 (k:Int))).setCell ⟨Q,1,none⟩ (.int .i64 0)).setCell ⟨Q,2,none⟩ (.slice sf9 N cf9)).setCell ⟨Q,3,none⟩ (.slice sn9 N cn9):=⟨_,rfl⟩;rw[<- H1]at H3 h6 ⊢;clear H1;obtain⟨r0,r1,r2,r3⟩:=zF H3;clear q0 q1 q2 q3 f0 f1 f2 f3 t0 t1 t2 t3;refine bodyPost_ret (v:=.tuple #[.agg #[.int .i64 (k:Int),.int .i64 0,.slice sf9 N cf9,.slice sn9 N cn9],.int .i64 0]) (by simp[results,Try.results18,go_sem,r0,r1,r2,r3]) rfl ?_;have m7:=(l5.out.grow a6.out).far h6 h4.out k9.out;obtain⟨fv9,nv9,a3,l7⟩:=m7.t;refine⟨0,m,⟨fv9,nv9,?_,l7,zB (zB l3.out a6.out (by simp)) h6 (fun y e=>by have h7:Q=y:=Oj e;have:=c7.out;have:=e7.out;omega)⟩,.inr ⟨H0.out,k,rfl,b8,b7,.inr ⟨L,⟨f6.out,e9.out⟩,.inr ⟨by rw[<- HN.out];omega,rfl,HM.out⟩⟩⟩⟩;rw[<- a3]
end Go.Proofs.Ytjfdomfendbhfaa
namespace Go.Proofs.Ytjfdomfendbhfaa
open Go.RowKit
theorem diaH_no {g:DiaV}{s:ByteArray}(h:diaE g 6≠0):diaH g s=false:=by
 unfold diaH;rw[show decide (diaE g 6=0)=false by rw[decide_eq_false_iff_not];exact h];rfl
theorem diaH_word {g:DiaV}{s:ByteArray}(h:zW s 6=false):diaH g s=false:=by
 unfold diaH;rw[h];simp
theorem diaH_yes {g:DiaV}{s:ByteArray}(h:diaE g 6=0)(hw:zW s 6=true):diaH g s=decG g.chos (fun p=>(mtsW g.pats s).getD p false) g.root:=by
 obtain⟨_,_,_,_,_,h6,_,h8⟩:=nX h;unfold diaH;rw[show decide (diaE g 6=0)=true by rw[decide_eq_true_eq];exact h,hw];simp only[Bool.true_and];unfold decG
 have key:∀ (f:Nat) (r:Int),r<=1+(g.chos.length:Int)->decF g.chos (fun p=>yG (g.pats.getD p []) s) f r=decF g.chos (fun p=>(mtsW g.pats s).getD p false) f r:=by
  intro f
  induction f with
  | zero=>exact fun r _=>rfl
  | succ f ih =>
   intro r hr;rw[decF,decF]
   split
   ·rfl
   ·rename_i h2
    have hc:=qJ (h6 (r.toNat - 2) (by omega));have e:yG (g.pats.getD (g.chos.getD (r.toNat - 2) default).p.toNat []) s=(mtsW g.pats s).getD (g.chos.getD (r.toNat - 2) default).p.toNat false:=(mtsW_get (by omega)).symm;rw[e]
    split
    ·exact ih _ (by omega)
    ·exact ih _ (by omega)
 exact key _ _ h8
theorem iS (B:Nat)(w:World)(v:Value)(g:DiaV)(s:ByteArray)(hB:B<=w.heap.size)(h:qM B w v g)(hs:s.size<=maxLen):
  Calls Try.prog 12 #[v,.string s] w fun e w'=>e=.returned (.bool (diaH g s))/\w.grownBy w' none:=by
 obtain⟨pv,cv,rfl,hp,hc⟩:=h;obtain⟨ps,cs,root⟩:=g;simp only at hp hc ⊢;have h1:=Ga w (.cells #[pv,cv,.int .i64 root] 25) none;have h4:=heap_alloc_new w (.cells #[pv,cv,.int .i64 root] 25);obtain⟨wA,H1⟩:∃ w1,w1=w.alloc (.cells #[pv,cv,.int .i64 root] 25):=⟨_,rfl⟩;obtain⟨P,hP⟩:∃ P,P=w.heap.size:=⟨_,rfl⟩;rw[<- H1]at h1 h4;rw[<- hP]at h4;have H2:=Kh H1;have H3:=Kh hP;have H4:=Kh h1;have a2:=Kh h4;have HP:=Kh (hp.kept h1 (by simp));have HC:=Kh (hc.kept h1 (by simp));have a3:=h1.size
 have HV:Hid (∀ W:World,wA.grownBy W none->Calls Try.prog 10 #[.agg #[pv,cv,.int .i64 root],.int .i64 6] W fun e w'=>e=.returned (.int .i64 (diaE ⟨ps,cs,root⟩ 6))/\wA.grownBy w' none):=Kh (fun W hW =>
  (nK B W _ ⟨ps,cs,root⟩ 6 (by have:=hW.size;omega) ⟨pv,cv,rfl,HP.out.kept hW (by simp),HC.out.kept hW (by simp)⟩).mono fun e w' ⟨he,hg⟩=>⟨he,zD hW hg⟩)
 have H0:Hid (∀ W:World,wA.grownBy W none->Calls Try.prog 43 #[.string s,.int .i64 6] W fun e w'=>e=.returned (.bool (zW s 6))/\wA.grownBy w' none):=Kh (fun W hW=>(lO s 6 W hs).mono fun e w' ⟨he,hg⟩=>⟨he,by rw[<- hg];exact hW⟩);have a1:Hid (∀ W:World,wA.grownBy W none->W.cell? ⟨P,0,none⟩=some pv/\W.cell? ⟨P,1,none⟩=some cv/\W.cell? ⟨P,2,none⟩=some (.int .i64 root)):=Kh (fun W hW=>zH (zA a2.out hW (by simp)));obtain⟨p0,p1,p2⟩:=zH h4;have GA:wA.grownBy wA.drew none:=zP _ _;clear h4 h1 H1 hP hp hc;by_cases hE:diaE ⟨ps,cs,root⟩ 6=0
 case neg =>
  have HR:=Kh (diaH_no (s:=s) hE);obtain⟨E,H6⟩:∃ E,E=diaE ⟨ps,cs,root⟩ 6:=⟨_,rfl⟩;rw[<- H6]at HV hE;have e1:(E == 0)=false:=by rw[beq_eq_false_iff_ne];exact hE
  clear H6;go_enter Try.func12,Try.ntmps12;go_upto_region 1 with fail;rw[<- H2.out,<- H3.out]
  first|go_region_law (first|(go_simp;go_at_call 10;(with_reducible refine(HV.out _ (by first|assumption|exact zM _ _)).mono ?_);rintro e w7 ⟨rfl,h9⟩)|(go_simp;go_at_call 43;(with_reducible refine(H0.out _ (by assumption)).mono ?_);rintro e w8 ⟨rfl,h5⟩;have h9:=h5)|fail)|fail
  all_goals
   go_wp2;go_ret;exact⟨zY HR.out.symm,zB H4.out (by assumption) (by simp)⟩
 obtain⟨vb,h2⟩:∃ b,b=zW s 6:=⟨_,rfl⟩;rw[hE]at HV;rw[<- h2]at H0;cases vb with
 | false =>
  have HR:=Kh (diaH_word (g:=⟨ps,cs,root⟩) h2.symm);clear h2 hE;go_enter Try.func12,Try.ntmps12;go_upto_region 1 with fail;rw[<- H2.out,<- H3.out]
  first|go_region_law (first|(go_simp;go_at_call 10;(with_reducible refine(HV.out _ (by first|assumption|exact zM _ _)).mono ?_);rintro e w7 ⟨rfl,h9⟩)|(go_simp;go_at_call 43;(with_reducible refine(H0.out _ (by assumption)).mono ?_);rintro e w8 ⟨rfl,h5⟩;have h9:=h5)|fail)|fail
  all_goals
   go_wp2;go_ret;exact⟨zY HR.out.symm,zB H4.out (by assumption) (by simp)⟩
 | true =>
  have HR:=Kh (diaH_yes (g:=⟨ps,cs,root⟩) hE h2.symm);obtain⟨_,_,h3,_,_,h6,h7,h8⟩:=nX hE;simp only at h3 h6 h7 h8;obtain⟨n,hn⟩:∃ n,n=ps.length:=⟨_,rfl⟩
  have HM:Hid (∀ W:World,wA.grownBy W none->Calls Try.prog 24 #[pv,.string s] W fun e w'=>∃ sa sc,e=.returned (.slice sa n sc)/\Row w'.heap.size w' (.slice sa n sc) (bls (mtsW ps s))/\wA.grownBy w' none):=Kh (fun W hW=>by
   rw[hn]
   exact(rmatched_any B W pv ps s (by have:=hW.size;omega) (HP.out.kept hW (by simp)) (by omega) hs).mono fun e w' ⟨sa,sc,he,ho,hg⟩=>⟨sa,sc,he,Row.of_owns ho,zD hW hg⟩)
  have H7:Hid (∀ (W:World) (sa:Option Addr) (sc:Nat),wA.grownBy W none->Row W.heap.size W (.slice sa n sc) (bls (mtsW ps s))->Calls Try.prog 44 #[.agg #[pv,cv,.int .i64 root],.slice sa n sc] W fun e w'=>e=.returned (.bool (decG cs (fun p=>(mtsW ps s).getD p false) root))/\wA.grownBy w' none):=Kh (fun W sa sc hW hr =>
   (fU W.heap.size W _ ⟨ps,cs,root⟩ _ (mtsW ps s) (qM.mono (B:=B) ⟨pv,cv,rfl,HP.out.kept hW (by simp),HC.out.kept hW (by simp)⟩ (by have:=hW.size;omega)) h6 h7 h8 (by rw[eL];exact Nat.le_refl _) hr).mono fun e w' ⟨he,hg⟩=>⟨he,zD hW hg⟩)
  obtain⟨ans,h0⟩:∃ b,b=decG cs (fun p=>(mtsW ps s).getD p false) root:=⟨_,rfl⟩;rw[<- h0]at H7;have a0:Hid (diaH ⟨ps,cs,root⟩ s=ans):=Kh (by rw[HR.out,h0]);clear h2 hE h0 HR h3 h6 h7 h8 hn;go_enter Try.func12,Try.ntmps12;go_upto_region 1 with fail;rw[<- H2.out,<- H3.out]
  go_region_held3 (fun w'=>w'.cell? ⟨P,0,none⟩=some pv/\w'.cell? ⟨P,1,none⟩=some cv/\w'.cell? ⟨P,2,none⟩=some (.int .i64 root))
   (first|go_keep|exact a1.out _ (by assumption)|fail)
   (first|(go_at_call 10;(with_reducible refine(HV.out _ (by assumption)).mono ?_);rintro e w7 ⟨rfl,h9⟩)|(go_at_call 43;(with_reducible refine(H0.out _ (by assumption)).mono ?_);rintro e w8 ⟨rfl,h5⟩)|(go_at_call 24;(with_reducible refine(HM.out _ (by assumption)).mono ?_);rintro e w9 ⟨sa9,sc9,rfl,H5,a4⟩;have H9:=Kh H5;clear H5)|(go_at_call 44;(with_reducible refine(H7.out _ _ _ (by assumption) H9.out).mono ?_);rintro e w10 ⟨rfl,H8⟩)|fail)
  all_goals
   go_wp2;go_ret;exact⟨zY a0.out.symm,zB H4.out (by assumption) (by simp)⟩
end Go.Proofs.Ytjfdomfendbhfaa
namespace Go.Proofs.Ytjfdomfendbhfaa
open Go.RowKit Go.Maps
theorem qGL:psF.length=7:=by decide +kernel
theorem qGK:psP.length=2:=by decide +kernel
theorem smallF:∀ p∈psFL,∀ u∈p,u.length<=4096:=by decide
theorem smallP:∀ p∈psPL,∀ u∈p,u.length<=4096:=by decide
theorem qHQ:acc dK 0 [0,1]=true/\acc dK 0 [1,0]=false/\acc dK 0 [1,1]=false:=by decide +kernel
theorem knF {w':World}{v:Value}{u1 u2:ByteArray}{E:Int}(h:OfOut w' dK psF v u1 u2 E):E=0/\∃ g,qM w'.heap.size w' v g/\∀ s,zW s 2=true->diaH g s=acc dK 0 (zL s):=by
 cases h with
 | bad h=>exact absurd ofEF h
 | over h ho=>exact(mG underF ho).elim
 | conf h hu hc=>exact(noConfF (by rw[<- qGL];exact hc)).elim
 | ok _ g l L h hL hl4 hn hg h1 h2 h3 h4 h5 hc h6=>exact⟨rfl,g,hg,fun s hs=>of_holds h h1 h2 h3 h4 (by have:=hc.len_le;omega) h5 hs⟩
theorem knP {w':World}{v:Value}{u1 u2:ByteArray}{E:Int}(h:OfOut w' dK psP v u1 u2 E):E=20/\v=.agg #[.slice none 0 0,.slice none 0 0,.int .i64 0]/\∃ u v,u1=strOfNums (lets u)/\u2=strOfNums (lets v)/\yI 2 u/\yI 2 v/\u.length<=4000/\v.length<=4000/\acc dK 0 u=true/\acc dK 0 v=false:=by
 cases h with
 | bad h=>exact absurd ofEP h
 | over h ho=>exact(mG underP ho).elim
 | conf h hu hc u v h1 h2 h3 h4 h5 h6 h7=>exact⟨rfl,rfl,u,v,rfl,rfl,h1,h2,h3,h4,h6,h7⟩
 | ok _ g l L h hL hl4 hn=>exact(hn (by rw[qGK];exact confP)).elim
theorem known34_any (w:World)(hL:SomeLen w):Calls Try.prog 13 #[] w fun e w'=>e=.returned (.bool true)/\w.grownBy w' none:=by
 obtain⟨w5,d4,e2,f0,b8⟩:=dK_lit w;have H8:=Ga w5 (.cells #[.int .i64 2,.int .i64 0,.slice (some ⟨w.heap.size,0,none⟩) 3 3,.slice (some ⟨w.heap.size+1+1+1+1,0,none⟩) 3 3] 42) none;have H6:=heap_alloc_new w5 (.cells #[.int .i64 2,.int .i64 0,.slice (some ⟨w.heap.size,0,none⟩) 3 3,.slice (some ⟨w.heap.size+1+1+1+1,0,none⟩) 3 3] 42);obtain⟨w6,a9⟩:∃ w6,w6=w5.alloc (.cells #[.int .i64 2,.int .i64 0,.slice (some ⟨w.heap.size,0,none⟩) 3 3,.slice (some ⟨w.heap.size+1+1+1+1,0,none⟩) 3 3] 42):=⟨_,rfl⟩;rw[<- a9]at H8 H6;obtain⟨fb,b7⟩:∃ b,b=w.heap.size:=⟨_,rfl⟩;obtain⟨nb,b4⟩:∃ b,b=w.heap.size+1+1+1+1:=⟨_,rfl⟩;obtain⟨P,hP⟩:∃ b,b=w.heap.size+1+1+1+1+1:=⟨_,rfl⟩;have f5:=Kh d4;have e3:=Kh a9;have f9:=Kh b7;have f7:=Kh b4;have HP:=Kh hP;rw[<- b4,<- b7]at b8 H6 e3;rw[show w5.heap.size=P by omega]at H6;have e9:=Kh H6;have HD:=Kh (b8.kept H8 (by simp));have e6:=Kh (zB e2 H8 (by simp));have HZ:Hid (w5.heap.size<=w6.heap.size):=Kh H8.size;have HL:=Kh hL;obtain⟨c0,c1,c2,c3⟩:=zF H6;clear d4 e2 f0 b8 H8 H6 a9 b7 b4 hP;go_enter Try.func13,Try.ntmps13;go_upto_region 2 with fail;rw[<- f5.out,<- HP.out,<- f7.out,<- f9.out,<- e3.out]
 have e8:Hid (∀ W:World,Calls Try.prog 45 #[.int .i64 5,.int .i64 2,.int .i64 1,.int .i64 0] W (mE W 0 psFL)):=Kh (fun W=>by
  have h:=rfam5_any 2 1 0 W (by decide) (by decide) (by decide) (by decide) rfl;rw[show famE 5 ((2:Nat):Int) ((1:Nat):Int) ((0:Nat):Int)=0 from famFE,show famL 5 ((2:Nat):Int) ((1:Nat):Int) ((0:Nat):Int)=psFL from famF]at h
  exact h)
 have e7:Hid (∀ W:World,Calls Try.prog 45 #[.int .i64 6,.int .i64 2,.int .i64 1,.int .i64 0] W (mE W 0 psPL)):=Kh (fun W=>by
  have h:=rfam6_any 2 1 0 W (by decide) (by decide) (by decide) (by decide) rfl;rw[show famE 6 ((2:Nat):Int) ((1:Nat):Int) ((0:Nat):Int)=0 from famPE,show famL 6 ((2:Nat):Int) ((1:Nat):Int) ((0:Nat):Int)=psPL from famPP]at h
  exact h)
 have H2:Hid (∀ (W:World) (pv:Value) (ps:List (List ByteArray)),w6.grownBy W none->uJ W.heap.size W pv ps->ps.length<=4096->Calls Try.prog 19 #[.agg #[.int .i64 2,.int .i64 0,.slice (some ⟨fb,0,none⟩) 3 3,.slice (some ⟨nb,0,none⟩) 3 3],pv] W (qJH W dK ps)):=Kh (fun W pv ps hW hp h4=>cof_any W.heap.size W _ pv dK ps (Nat.le_refl _) ((HD.out.kept hW (by simp)).mono (by have:=HZ.out;have:=hW.size;omega)) hp h4);go_wp2_with fail;refine(e8.out _).mono ?_;rintro e w7 ⟨sa,sc,svs,rfl,h7,H7,b6⟩;have c5:=Kh (qA h7 H7 smallF);have e5:=Kh b6;have g3:=Kh (zA e9.out b6 (by simp));obtain⟨c0,c1,c2,c3⟩:=zF g3.out;have f3:psFL.length=7:=rfl;rw[f3]at c5 ⊢;clear h7 H7 b6 e8;go_wp2_with fail;refine(H2.out _ _ psF e5.out c5.out (by rw[qGL];omega)).mono ?_;rintro e w8 ⟨v8,u1,u2,E8,rfl,h0,e1⟩;obtain⟨rfl,g,H1,hh⟩:=knF h0;obtain⟨ap,cp,ac,cc,rfl⟩:=cells_holds H1;have a5:=Kh H1;have HH:=Kh hh;have e4:=Kh (zB e5.out e1 (by simp));obtain⟨m1,e0⟩:∃ m,m=g.pats.length:=⟨_,rfl⟩;obtain⟨m2,d9⟩:∃ m,m=g.chos.length:=⟨_,rfl⟩;obtain⟨rt,h7⟩:∃ m,m=g.root:=⟨_,rfl⟩;rw[<- e0,<- d9,<- h7]at a5 ⊢;have a6:=Ga w8 (.cells #[.slice ap m1 cp,.slice ac m2 cc,.int .i64 rt] 25) none;have a7:=heap_alloc_new w8 (.cells #[.slice ap m1 cp,.slice ac m2 cc,.int .i64 rt] 25);obtain⟨w9,a8⟩:∃ w9,w9=w8.alloc (.cells #[.slice ap m1 cp,.slice ac m2 cc,.int .i64 rt] 25):=⟨_,rfl⟩;obtain⟨R,hR⟩:∃ R,R=w8.heap.size:=⟨_,rfl⟩;rw[<- a8]at a6 a7;rw[<- hR]at a7;have f4:=Kh a8;have f6:=Kh hR;have g2:=Kh a7;have c7:=Kh a6;have f8:=Kh (zB e4.out a6 (by simp));clear h0 e1 H1 hh e0 d9 h7 a6 a7 a8 hR c0 c1 c2 c3 c5;go_upto_region 4 with fail;rw[<- f4.out,<- f6.out];go_wp2_with fail;refine(e7.out _).mono ?_;rintro e w10 ⟨sb,sd,svs2,rfl,h7,H7,h6⟩;have c4:=Kh (qA h7 H7 smallP);have a2:=Kh (zD c7.out h6);have a4:=Kh h6;have H4:=Kh (zB f8.out h6 (by simp));obtain⟨c0,c1,c2,c3⟩:=zF (zA e9.out H4.out (by simp));have b5:psPL.length=2:=rfl;rw[b5]at c4 ⊢;clear h7 H7 h6 e7;go_wp2_with fail;refine(H2.out _ _ psP H4.out c4.out (by rw[qGK];omega)).mono ?_;rintro e w11 ⟨v11,s1,s2,E11,rfl,h0,h5⟩;obtain⟨rfl,rfl,u,v,b3,b2,d8,d6,b1,b0,d7,d5⟩:=knP h0
 have g1:Hid (∀ W:World,Calls Try.prog 46 #[.string s1] W fun e w'=>e=.returned (.bool true)/\W=w'):=Kh (fun W=>by
  have:=qFH W u d8 b1
  rwa [<- b3,d7]at this)
 have g0:Hid (∀ W:World,Calls Try.prog 46 #[.string s2] W fun e w'=>e=.returned (.bool false)/\W=w'):=Kh (fun W=>by
  have:=qFH W v d6 b0
  rwa [<- b2,d5]at this)
 have g8:s1.size<=4000:=by rw[b3,strOfNums_size];simpa [lets] using b1
 have g7:s2.size<=4000:=by rw[b2,strOfNums_size];simpa [lets] using b0
 have a1:=Kh (zD a2.out h5);have H3:=Kh h5;have d2:=Kh (zB H4.out h5 (by simp));clear h0 h5 b3 b2 d8 d6 b1 b0 d7 d5 c0 c1 c2 c3 c4 H2;obtain⟨w12,H0⟩:∃ w12,w12=w11.alloc (.cells #[.slice none 0 0,.slice none 0 0,.int .i64 0] 25):=⟨_,rfl⟩;have h2:=Ga w11 (.cells #[.slice none 0 0,.slice none 0 0,.int .i64 0] 25) none;rw[<- H0]at h2;have b9:=Kh H0;have h9:=Kh (zD a1.out h2);have d1:=Kh (zB d2.out h2 (by simp))
 have c6:Hid (∀ (W:World) (s:ByteArray) (b:Bool),w8.grownBy W none->s.size<=maxLen->diaH g s=b->Calls Try.prog 11 #[.agg #[.slice ap m1 cp,.slice ac m2 cc,.int .i64 rt],.string s] W fun e w'=>e=.returned (.bool b)/\W.grownBy w' none):=Kh (fun W s b hW hs hb=>by
  have:=iJ w8.heap.size W _ g s hW.size (a5.out.kept hW (by simp)) hs (HL.out.kept (zB (zB e6.out e4.out (by simp)) hW (by simp)) (by simp))
  rwa [hb]at this)
 have g6:Hid (diaH g ⟨#[97,98]⟩=true):=Kh (by rw[HH.out _ (by decide)];exact qHQ.1);have g5:Hid (diaH g ⟨#[98,97]⟩=false):=Kh (by rw[HH.out _ (by decide)];exact qHQ.2.1);have g4:Hid (diaH g ⟨#[98,98]⟩=false):=Kh (by rw[HH.out _ (by decide)];exact qHQ.2.2);have hm:(2:Nat)<=maxLen:=by unfold maxLen;omega
 have a3:Hid (w9.grownBy w12 none):=Kh (zD (zD a4.out H3.out) h2);have H5:=Kh (zA g2.out (a3.out) (by simp));clear H0 h2;go_upto_region 6 with fail;rw[<- b9.out];obtain⟨x0,x1,x2⟩:=zH H5.out;go_wp2_with fail;refine(c6.out _ ⟨#[97,98]⟩ true h9.out hm g6.out).mono ?_;rintro e w13 ⟨rfl,h1⟩;have h8:=Kh (zD h9.out h1);have d0:=Kh (zB d1.out h1 (by simp));obtain⟨x0,x1,x2⟩:=zH (zA H5.out h1 (by simp));have d3:=Kh (zA H5.out h1 (by simp));clear h1;go_wp2_with fail;refine(c6.out _ ⟨#[98,97]⟩ false h8.out hm g5.out).mono ?_;rintro e w14 ⟨rfl,h3⟩;have a0:=Kh (zD h8.out h3);have c9:=Kh (zB d0.out h3 (by simp));obtain⟨x0,x1,x2⟩:=zH (zA d3.out h3 (by simp));clear h3;go_wp2_with fail;refine(c6.out _ ⟨#[98,98]⟩ false a0.out hm g4.out).mono ?_;rintro e w15 ⟨rfl,H9⟩;have c8:=Kh (zB c9.out H9 (by simp));clear H9 x0 x1 x2;go_wp2_with fail;refine(g1.out _).mono ?_;rintro e w15 ⟨rfl,rfl⟩;go_wp2_with fail;refine(g0.out _).mono ?_;rintro e w15 ⟨rfl,rfl⟩;have f2:(s1.size:Int)<=4000:=by omega
 have f1:(s2.size:Int)<=4000:=by omega
 go_wp2;go_ret;exact⟨rfl,zB e6.out c8.out (by simp)⟩
end Go.Proofs.Ytjfdomfendbhfaa
namespace Go.Proofs.Ytjfdomfendbhfaa
open Go.RowKit
theorem dsame_vd (B1 B2:Nat)(w:World)(v1 v2:Value)(d:DfaV)(n k:Nat)(hd:VD d n k)(h1:uT B1 w v1 d)(h2:uT B2 w v2 d):
  Calls Try.prog 29 #[v1,v2] w fun e w'=>e=.returned (.bool true)/\w.grownBy w' none:=by
 obtain⟨fb,fo,fc,b,off,cap,RB,RO,RC,rfl,H2⟩:=h1.at hd;obtain⟨fb',fo',fc',b',off',cap',RB',RO',RC',rfl,h3⟩:=h2.at hd;have hn:=hd.nbig;have b0:=hd.k6;obtain⟨S,hS⟩:∃ S,S=st0 d:=⟨_,rfl⟩;have a0:dAgg k (st0 d) fb fo fc b off cap n=.agg #[.int .i64 (k:Int),.int .i64 (S:Int),.slice (some ⟨fb,fo,none⟩) n fc,.slice (some ⟨b,off,none⟩) n cap]:=by rw[hS];rfl
 have H9:dAgg k (st0 d) fb' fo' fc' b' off' cap' n=.agg #[.int .i64 (k:Int),.int .i64 (S:Int),.slice (some ⟨fb',fo',none⟩) n fc',.slice (some ⟨b',off',none⟩) n cap']:=by rw[hS];rfl
 rw[a0,H9];obtain⟨H0,h9,H3,H8⟩:=rX w #[.int .i64 (k:Int),.int .i64 (S:Int),.slice (some ⟨fb,fo,none⟩) n fc,.slice (some ⟨b,off,none⟩) n cap] #[.int .i64 (k:Int),.int .i64 (S:Int),.slice (some ⟨fb',fo',none⟩) n fc',.slice (some ⟨b',off',none⟩) n cap'] 42;obtain⟨wA,H4⟩:∃ wA,wA=(w.alloc (.cells #[.int .i64 (k:Int),.int .i64 (S:Int),.slice (some ⟨fb,fo,none⟩) n fc,.slice (some ⟨b,off,none⟩) n cap] 42)).alloc (.cells #[.int .i64 (k:Int),.int .i64 (S:Int),.slice (some ⟨fb',fo',none⟩) n fc',.slice (some ⟨b',off',none⟩) n cap'] 42):=⟨_,rfl⟩;rw[<- H4]at H0 h9 H3 H8;obtain⟨P,hP⟩:∃ P,P=w.heap.size:=⟨_,rfl⟩;obtain⟨Q,hQ⟩:∃ Q,Q=w.heap.size+1:=⟨_,rfl⟩;rw[<- hP]at H0;rw[<- hQ]at h9;have a9:=Kh hP;have a8:Hid (Q=P+1):=Kh (by omega);have H6:=Kh H0;have H5:=Kh h9;have h4:=Kh H3;have a7:=Kh H4;have H7:=Kh H2;have h5:=Kh h3;have a6:=H2.cap;have a5:=h3.cap;have a4:=H2.fcap;have a3:=h3.fcap;unfold maxLen at a6 a5 a4 a3;have q1:=zF H0;have q2:=zF h9;clear H2 h3 hd h1 h2 a0 H9 H0 h9 H3 H8 H4 hP hQ hS;go_enter Try.func29,Try.ntmps29;go_upto_region 1 with fail;rw[<- a7.out,<- a9.out,<- a8.out];obtain⟨p0,p1,p2,p3⟩:=q1;obtain⟨q0,q1,q2,q3⟩:=q2;go_wp2;clear p0 p1 p2 p3 q0 q1 q2 q3
 go_loopg [5,41] n (fun gh s5 i wr=>∃ q:Nat,gh+q=n/\i=.int .i64 q/\wA.grownBy wr none)
 case atStart=>exact⟨0,rfl,rfl,zM _ _⟩
 case round =>
  obtain⟨q,h8,rfl,hg⟩:=hrel;have h6:=Kh h8;have HG:=Kh hg;clear h8;obtain⟨p0,p1,p2,p3⟩:=zF (zA H6.out hg (by simp));obtain⟨q0,q1,q2,q3⟩:=zF (zA H5.out hg (by simp));have ha:=(H7.out.kept h4.out (by simp)).kept hg (by simp);have h0:=(h5.out.kept h4.out (by simp)).kept hg (by simp);by_cases hq:q<n
  ·have H1:(q:Int)<n:=by omega
   have c1:=ha.fin hq;have c2:=h0.fin hq;obtain⟨x,hx⟩:∃ x,x=d.final.getD q false:=⟨_,rfl⟩;rw[<- hx]at c1 c2;clear hx ha h0 hg;go_wp2
   go_quiet (fail)
   go_wp2;go_roundg (n - (q+1))
   case measure=>have:=h6.out;omega
   case rel=>exact⟨q+1,by have:=h6.out;omega,by go_num,zB HG.out (by first|exact zP _ none|exact zN _ _ none) (by simp)⟩
  ·have H1:¬ (q:Int)<n:=by omega
   clear ha h0 hg;go_wp2;clear p0 p1 p2 p3 q0 q1 q2 q3
   go_loopg [6,7,59,81] n (fun gh s6 s7 i s81 wr=>∃ q:Nat,gh+q=n/\i=.int .i64 q/\wA.grownBy wr none)
   case atStart=>exact⟨0,rfl,rfl,HG.out⟩
   case round =>
    clear HG h6 hq H1;obtain⟨q,h8,rfl,hg⟩:=hrel;have h6:=Kh h8;have HG:=Kh hg;clear h8;obtain⟨p0,p1,p2,p3⟩:=zF (zA H6.out hg (by simp));obtain⟨q0,q1,q2,q3⟩:=zF (zA H5.out hg (by simp));have ha:=(H7.out.kept h4.out (by simp)).kept hg (by simp);have h0:=(h5.out.kept h4.out (by simp)).kept hg (by simp);by_cases hq:q<n
    ·have H1:(q:Int)<n:=by omega
     have c1:=ha.hd q hq;have c2:=h0.hd q hq;clear ha h0 hg;go_wp2
     go_quiet (fail)
     go_wp2
     go_loopg [7,81] k (fun gh s7 i wr=>∃ x:Nat,gh+x=k/\i=.int .i64 x/\wA.grownBy wr none)
     case atStart=>exact⟨0,rfl,rfl,zB HG.out (by first|exact zP _ none|exact zN _ _ none) (by simp)⟩
     case round =>
      clear HG p0 p1 p2 p3 q0 q1 q2 q3 c1 c2;obtain⟨x,h7,rfl,hg⟩:=hrel;have a1:=Kh h7;have HG:=Kh hg;clear h7;obtain⟨p0,p1,p2,p3⟩:=zF (zA H6.out hg (by simp));obtain⟨q0,q1,q2,q3⟩:=zF (zA H5.out hg (by simp));have ha:=(H7.out.kept h4.out (by simp)).kept hg (by simp);have h0:=(h5.out.kept h4.out (by simp)).kept hg (by simp);by_cases hx:x<k
      ·have a2:(x:Int)<k:=by omega
       have c1:=ha.hd q hq;have c2:=h0.hd q hq;have e1:=ha.el q x hq hx;have e2:=h0.el q x hq hx;have r1:=ha.rcap q hq;have r2:=h0.rcap q hq;unfold maxLen at r1 r2;obtain⟨y,hy⟩:∃ y,y=nx d q x:=⟨_,rfl⟩;rw[<- hy]at e1 e2;clear hy ha h0 hg;go_wp2
       go_quiet (fail)
       go_wp2;go_roundg (k - (x+1))
       case measure=>have:=a1.out;omega
       case rel=>exact⟨x+1,by have:=a1.out;omega,by go_num,zB HG.out (by first|exact zP _ none|exact zN _ _ none) (by simp)⟩
      ·have a2:¬ (x:Int)<k:=by omega
       clear ha h0 hg;go_wp2;go_roundg (n - (q+1))
       case measure=>have:=h6.out;omega
       case rel=>exact⟨q+1,by have:=h6.out;omega,by go_num,HG.out⟩
    ·have H1:¬ (q:Int)<n:=by omega
     clear ha h0 hg;go_wp2;go_ret;exact⟨rfl,zB h4.out HG.out (by simp)⟩
theorem dsame_zero (B1 B2:Nat)(w:World)(v1 v2:Value)(h1:uT B1 w v1 lD)(h2:uT B2 w v2 lD):
  Calls Try.prog 29 #[v1,v2] w fun e w'=>e=.returned (.bool true)/\w.grownBy w' none:=by
 obtain⟨fv,nv,rfl,hf,hn⟩:=h1;obtain⟨fv',nv',rfl,h8,h7⟩:=h2;obtain⟨a1,c1,rfl⟩:=hf.shape;obtain⟨a2,c2,rfl⟩:=hn.shape;obtain⟨a3,c3,rfl⟩:=h8.shape;obtain⟨a4,c4,rfl⟩:=h7.shape;show Calls Try.prog 29 #[.agg #[.int .i64 0,.int .i64 0,.slice a1 0 c1,.slice a2 0 c2],.agg #[.int .i64 0,.int .i64 0,.slice a3 0 c3,.slice a4 0 c4]] w _;clear hf hn h8 h7;obtain⟨h3,h0,h4,h6⟩:=rX w #[.int .i64 0,.int .i64 0,.slice a1 0 c1,.slice a2 0 c2] #[.int .i64 0,.int .i64 0,.slice a3 0 c3,.slice a4 0 c4] 42;obtain⟨wA,h5⟩:∃ wA,wA=(w.alloc (.cells #[.int .i64 0,.int .i64 0,.slice a1 0 c1,.slice a2 0 c2] 42)).alloc (.cells #[.int .i64 0,.int .i64 0,.slice a3 0 c3,.slice a4 0 c4] 42):=⟨_,rfl⟩;rw[<- h5]at h3 h0 h4 h6;obtain⟨P,hP⟩:∃ P,P=w.heap.size:=⟨_,rfl⟩;obtain⟨Q,hQ⟩:∃ Q,Q=w.heap.size+1:=⟨_,rfl⟩;rw[<- hP]at h3;rw[<- hQ]at h0;have H1:=Kh hP;have H0:Hid (Q=P+1):=Kh (by omega);have H2:=Kh h4;have h9:=Kh h5;obtain⟨p0,p1,p2,p3⟩:=zF h3;obtain⟨q0,q1,q2,q3⟩:=zF h0;clear h3 h0 h4 h6 h5 hP hQ;go_enter Try.func29,Try.ntmps29;go_upto_region 1 with fail;rw[<- h9.out,<- H1.out,<- H0.out];go_wp2;refine wp_loop_rounds 1 ?_;rw[rounds_succ];go_wp2;refine wp_loop_rounds 1 ?_;rw[rounds_succ];go_wp2;go_ret;exact⟨rfl,H2.out⟩
end Go.Proofs.Ytjfdomfendbhfaa
namespace Go.Proofs.Ytjfdomfendbhfaa
open Go.RowKit Go.Maps
theorem dia_same {B1 B2:Nat}{w:World}{v1 v2:Value}{g:DiaV}{letters E:Int}{m:DfaV}(h:gI g letters E m)(h1:uT B1 w v1 m)(h2:uT B2 w v2 m):Calls Try.prog 29 #[v1,v2] w fun e w'=>e=.returned (.bool true)/\w.grownBy w' none:=by
 by_cases hE:E=0
 ·subst hE
  obtain⟨k,_,h3,h0,L,hL,_,rfl,_⟩:=h.ok;exact dsame_vd B1 B2 w v1 v2 _ _ k (qHD h3 h0 hL) h1 h2
 ·have e:=h.err hE
  subst e;exact dsame_zero B1 B2 w v1 v2 h1 h2
theorem combineMade_walk (w:World)(v0:Value)(z0:List Int)(how at_ v:Int)(h0:Row w.heap.size w v0 (z0.map (Value.int .i64)))(hL:SomeLen w):
  Calls Try.prog 6 #[v0,.int .i64 how,.int .i64 at_,.int .i64 v] w fun e w'=>e=.returned (.bool true)/\w.grownBy w' none:=by
 have HL:=Kh hL;clear hL;go_enter Try.func6,Try.ntmps6;go_wp2_with fail;refine(new_any w.heap.size w v0 z0 h0 (Nat.le_refl _)).mono ?_;rintro e w1 ⟨rfl,i1,g8⟩;go_wp2_with fail;refine(sR w.heap.size w.heap.size w1 2 (by omega) i1).mono ?_;rintro e w2 ⟨r,rfl,n8,f9,e6,g7⟩;replace f9:=f9 (by omega);have GW2:=Kh (zB g8 g7 (by simp));obtain⟨k,hk⟩:∃ k:Nat,1+r=(k:Int):=⟨(1+r).toNat,by omega⟩;have j9:1<=k:=by omega
 have o0:k<=2:=by omega
 have e8:=Kh e6.lt;have j0:=Kh (ldia_any w.heap.size w.heap.size w2 k j9 (by omega) e6);clear i1 g8 e6 g7;go_wp2_with fail;refine j0.out.mono ?_;rintro e w3 ⟨pa,ca,np,nc,pc,cc,root,L,cs,rfl,H1⟩;have GW3:=Kh (zB GW2.out H1.gr (fun j e=>by have e:w.heap.size=j:=Oj e;omega));have c7:=heap_alloc_new w3 (.cells #[.slice pa np pc,.slice ca nc cc,.int .i64 root] 25);have b0:=Ga w3 (.cells #[.slice pa np pc,.slice ca nc cc,.int .i64 root] 25) none;obtain⟨w4,d5⟩:∃ w4,w4=w3.alloc (.cells #[.slice pa np pc,.slice ca nc cc,.int .i64 root] 25):=⟨_,rfl⟩;obtain⟨G,hG⟩:∃ G,G=w3.heap.size:=⟨_,rfl⟩;rw[<- d5]at c7 b0;rw[<- hG]at c7;have l6:=Kh d5;have m4:=Kh hG;have m9:=Kh c7;have k0:=H1.tape.lt;have n7:w.heap.size<G:=by omega
 have GW4:=Kh (zB GW3.out b0 (by simp));have H0:w.heap.size<w2.heap.size:=e8.out;have b5:=Kh (H1.step b0 (by simp) H0 (H1.tape.kept b0 (by simp)));clear H1 c7 b0 d5 hG k0 j0;go_upto_region 4 with fail;rw[<- l6.out,<- m4.out];go_wp2_with fail;refine(aH w.heap.size w.heap.size w4 (k:Int) 8 (by omega) (by omega) (by omega) (by omega) b5.out.tape).mono ?_;rintro e w5 ⟨l,rfl,j8,e4,i0,c4⟩;have H1:=b5.out.step c4 (fun j e=>(Oj e).symm) H0 i0;have d2:=Kh (zA m9.out c4 (fun e=>by have:=Oj e;omega));have GW5:=Kh (zB GW4.out c4 (fun j e=>by have e:w.heap.size=j:=Oj e;omega));obtain⟨s,hs⟩:∃ s,s=strOfNums l:=⟨_,rfl⟩;have f8:s.size<=maxLen:=by rw[hs,strOfNums_size];unfold maxLen;omega
 rw[<- hs];obtain⟨ps,b7⟩:∃ ps,ps=famB L:=⟨_,rfl⟩;have a0:=H1.dia;have d8:=H1.small;rw[<- b7]at a0 d8;have i9:=Kh a0;have l9:=Kh d8;have b4:=Kh H1;have i4:Hid (ps.length<=4096):=Kh (by rw[b7,kG];have:=H1.np_;have:=H1.few;omega);have c9:=Kh f8;have j2:=Kh (cdfa_any w5.heap.size w5 _ ⟨ps,cs,root⟩ (k:Int) (Nat.le_refl _) a0 i4.out);have j6:=H1.few.2.2;obtain⟨c0,c1,c2⟩:=zH d2.out;have H5:=Kh b7;clear j8 e4 i0 c4 H1 a0 d8 hs f8 b7;go_wp2_with fail;refine j2.out.mono ?_;rintro e w6 ⟨E,m,⟨f1,n1,rfl,d7,g6⟩,a8⟩;obtain⟨fa,mf,fc,na,mn,nc1,rfl,rfl⟩:=d7.shapes;obtain⟨ml,e0⟩:∃ x,x=m.letters:=⟨_,rfl⟩;obtain⟨ms,d9⟩:∃ x,x=m.start:=⟨_,rfl⟩;rw[<- e0,<- d9];have m6:=Kh (qFN d7 e0 d9);have b2:=Kh a8;have c6:=heap_alloc_new w6 (.cells #[.int .i64 ml,.int .i64 ms,.slice fa mf fc,.slice na mn nc1] 42);have c3:=Ga w6 (.cells #[.int .i64 ml,.int .i64 ms,.slice fa mf fc,.slice na mn nc1] 42) none;obtain⟨w7,d4⟩:∃ w7,w7=w6.alloc (.cells #[.int .i64 ml,.int .i64 ms,.slice fa mf fc,.slice na mn nc1] 42):=⟨_,rfl⟩;obtain⟨X,hX⟩:∃ X,X=w6.heap.size:=⟨_,rfl⟩;rw[<- d4]at c6 c3;rw[<- hX]at c6;have l5:=Kh d4;have l2:=Kh hX;have m8:=Kh c6;have H7:=Kh (zD g6 c3);have f4:=Kh c3;clear c6 c3 d4 hX e0 d9 d7 g6 a8 j2 c0 c1 c2;go_upto_region 6 with fail;rw[<- l5.out,<- l2.out];obtain⟨c0,c1,c2⟩:=zH (zA d2.out H7.out (by simp));have i3:=Kh (rdia_any w5.heap.size w7 _ ⟨ps,cs,root⟩ (k:Int) H7.out.size (i9.out.kept H7.out (by simp)) i4.out (fun p hp _=>by have:=l9.out p hp;omega));go_wp2_with fail;refine i3.out.mono ?_;rintro e w8 ⟨F,m',⟨f2,n2,rfl,d6,g5⟩,H9⟩;obtain⟨rfl,rfl⟩:=diaOut_same b2.out H9;obtain⟨fa2,mf2,fc2,na2,mn2,nc2,rfl,rfl⟩:=d6.shapes;obtain⟨ml2,a3⟩:∃ x,x=m.letters:=⟨_,rfl⟩;obtain⟨ms2,a2⟩:∃ x,x=m.start:=⟨_,rfl⟩;rw[<- a3,<- a2];have m5:=Kh (qFN d6 a3 a2);have c5:=heap_alloc_new w8 (.cells #[.int .i64 ml2,.int .i64 ms2,.slice fa2 mf2 fc2,.slice na2 mn2 nc2] 42);have b9:=Ga w8 (.cells #[.int .i64 ml2,.int .i64 ms2,.slice fa2 mf2 fc2,.slice na2 mn2 nc2] 42) none;obtain⟨w9,d3⟩:∃ w9,w9=w8.alloc (.cells #[.int .i64 ml2,.int .i64 ms2,.slice fa2 mf2 fc2,.slice na2 mn2 nc2] 42):=⟨_,rfl⟩;obtain⟨Y,hY⟩:∃ Y,Y=w8.heap.size:=⟨_,rfl⟩;rw[<- d3]at c5 b9;rw[<- hY]at c5;have l4:=Kh d3;have l1:=Kh hY;have m7:=Kh c5;have a6:=Kh (zD g5 b9);have H2:=Kh (zD H7.out a6.out);have f3:=Kh b9;clear c5 b9 d3 hY a3 a2 d6 g5 H9 i3 c0 c1 c2;go_upto_region 7 with fail;rw[<- l4.out,<- l1.out];have e1:(E != E)=false:=by simp
 have i2:Hid (∀ W:World,w9.grownBy W none->Calls Try.prog 29 #[.agg #[.int .i64 ml,.int .i64 ms,.slice fa mf fc,.slice na mn nc1],.agg #[.int .i64 ml2,.int .i64 ms2,.slice fa2 mf2 fc2,.slice na2 mn2 nc2]] W fun e w'=>e=.returned (.bool true)/\w9.grownBy w' none):=Kh (fun W hW =>
  (dia_same b2.out ((m6.out.kept (zD f4.out a6.out) (by simp)).kept hW (by simp)) ((m5.out.kept f3.out (by simp)).kept hW (by simp))).mono fun e w' h=>⟨h.1,zD hW h.2⟩)
 have m0:=Kh (HL.out.kept (zB GW5.out H2.out (by simp)) (by simp));have b3:=Kh (i9.out.kept H2.out (by simp));obtain⟨ans,a4⟩:∃ b,b=diaH ⟨ps,cs,root⟩ s:=⟨_,rfl⟩
 have i7:Hid (∀ W:World,w9.grownBy W none->Calls Try.prog 11 #[.agg #[.slice pa np pc,.slice ca nc cc,.int .i64 root],.string s] W fun e w'=>e=.returned (.bool ans)/\w9.grownBy w' none):=Kh (fun W hW=>by
  have h8:=iJ w5.heap.size W _ ⟨ps,cs,root⟩ s (zD H2.out hW).size (b3.out.kept hW (by simp)) c9.out (m0.out.kept hW (by simp));rw[<- a4]at h8
  exact h8.mono fun e w' h=>⟨h.1,zD hW h.2⟩)
 have i6:Hid (∀ W:World,w9.grownBy W none->Calls Try.prog 12 #[.agg #[.slice pa np pc,.slice ca nc cc,.int .i64 root],.string s] W fun e w'=>e=.returned (.bool ans)/\w9.grownBy w' none):=Kh (fun W hW=>by
  have h8:=iS w5.heap.size W _ ⟨ps,cs,root⟩ s (zD H2.out hW).size (b3.out.kept hW (by simp)) c9.out;rw[<- a4]at h8
  exact h8.mono fun e w' h=>⟨h.1,zD hW h.2⟩)
 have f5:Hid (∀ W:World,w9.grownBy W none->(W.cell? ⟨G,0,none⟩=some (.slice pa np pc)/\W.cell? ⟨G,1,none⟩=some (.slice ca nc cc)/\W.cell? ⟨G,2,none⟩=some (.int .i64 root))/\(W.cell? ⟨X,0,none⟩=some (.int .i64 ml)/\W.cell? ⟨X,1,none⟩=some (.int .i64 ms)/\W.cell? ⟨X,2,none⟩=some (.slice fa mf fc)/\W.cell? ⟨X,3,none⟩=some (.slice na mn nc1))/\(W.cell? ⟨Y,0,none⟩=some (.int .i64 ml2)/\W.cell? ⟨Y,1,none⟩=some (.int .i64 ms2)/\W.cell? ⟨Y,2,none⟩=some (.slice fa2 mf2 fc2)/\W.cell? ⟨Y,3,none⟩=some (.slice na2 mn2 nc2))):=Kh (fun W hW=>⟨zH (zA d2.out (zD H2.out hW) (by simp)),zF (zA m8.out (zD a6.out hW) (by simp)),zF (zA m7.out hW (by simp))⟩);obtain⟨⟨g0,g1,g2⟩,⟨x0,x1,x2,x3⟩,y0,y1,y2,y3⟩:=f5.out w9 (zM _ _);clear a4;go_cut [58] (fun s58 wx=>s58=.bool false/\w9.grownBy wx none)
 case first =>
  go_region_held3 (fun W=>(W.cell? ⟨G,0,none⟩=some (.slice pa np pc)/\W.cell? ⟨G,1,none⟩=some (.slice ca nc cc)/\W.cell? ⟨G,2,none⟩=some (.int .i64 root))/\(W.cell? ⟨X,0,none⟩=some (.int .i64 ml)/\W.cell? ⟨X,1,none⟩=some (.int .i64 ms)/\W.cell? ⟨X,2,none⟩=some (.slice fa mf fc)/\W.cell? ⟨X,3,none⟩=some (.slice na mn nc1))/\(W.cell? ⟨Y,0,none⟩=some (.int .i64 ml2)/\W.cell? ⟨Y,1,none⟩=some (.int .i64 ms2)/\W.cell? ⟨Y,2,none⟩=some (.slice fa2 mf2 fc2)/\W.cell? ⟨Y,3,none⟩=some (.slice na2 mn2 nc2)))
   (first|go_keep|exact f5.out _ (by assumption)|fail)
   (first|(go_at_call 29;(with_reducible refine(i2.out _ (by first|assumption|exact zP _ none)).mono ?_);rintro e w7 ⟨rfl,k8⟩)|(go_at_call 11;(with_reducible refine(i7.out _ (by first|assumption|exact zP _ none)).mono ?_);rintro e w7 ⟨rfl,k7⟩)|(go_at_call 12;(with_reducible refine(i6.out _ (by first|assumption|exact zP _ none)).mono ?_);rintro e w7 ⟨rfl,k6⟩)|fail)
  all_goals
   go_wp2_with fail
   go_meet
   exact⟨by simp,by assumption⟩
 case rest =>
  obtain⟨rfl,g4⟩:=hcut;have d0:=Kh (zD H2.out g4);have b1:=b4.out.step d0.out (by simp) H0 (b4.out.tape.kept d0.out (by simp));have h4:=Kh b1;have d1:=Kh (zA d2.out d0.out (by simp));have i8:=Kh (zB GW5.out d0.out (by simp));clear g4 b1 g0 g1 g2 x0 x1 x2 x3 y0 y1 y2 y3 i2 i7 i6 f5;go_wp2_with fail;refine(eM v 12 wc (by omega)).mono ?_;rintro e w10 ⟨rfl,rfl⟩;obtain⟨x,hx⟩:∃ x,x=modI v 12:=⟨_,rfl⟩;have n5:0<=x:=by rw[hx];exact oJ _ _
  have n4:x<12:=by rw[hx];exact aZ _ _ (by omega)
  rw[<- hx];clear hx;obtain⟨x',f6⟩:∃ y,y=x - 1:=⟨_,rfl⟩;have l3:=Kh f6.symm;obtain⟨c0,c1,c2⟩:=zH d1.out
  go_upto_if 65 with fail
  rw[l3.out];clear f6;go_cut [17,76,82,88,94] (fun s17 s76 s82 s88 s94 wx=>∃ (cs':List ChoV) (root':Int),wx.heap[G]?=some (.cells #[.slice pa np pc,.slice ca nc cc,.int .i64 root'] 25 (0,0))/\qM wx.heap.size wx (.agg #[.slice pa np pc,.slice ca nc cc,.int .i64 root']) ⟨ps,cs',root'⟩/\w.grownBy wx none)
  case first =>
   by_cases hn:0<nc
   ·have j7:(0:Int)<nc:=by omega
    obtain⟨q,hq⟩:∃ q:Nat,modI at_ (nc:Int)=(q:Int):=⟨(modI at_ nc).toNat,by have:=oJ at_ nc;omega⟩;have g3:q<nc:=(by have:=aZ at_ nc (by omega);omega);obtain⟨kb,rfl,k1,k2,k3,k4,-⟩:=h4.out.put g3 (f:=0) (by omega)
    have a5:Hid (∀ (W:World) (f:Nat),wc.grownBy W none->f<3->(∃ y:Int,W.cell? ⟨kb,q * 3+f,none⟩=some (.int .i64 y))/\W.frozen? ⟨kb,q * 3+f,none⟩=false/\∀ x:Int,∃ cs':List ChoV,qM (W.setCell ⟨kb,q * 3+f,none⟩ (.int .i64 x)).heap.size (W.setCell ⟨kb,q * 3+f,none⟩ (.int .i64 x)) (.agg #[.slice pa np pc,.slice (some ⟨kb,0,none⟩) nc cc,.int .i64 root]) ⟨famB L,cs',root⟩):=Kh (fun W f hW hf=>by
     obtain⟨kb',e',-,-,-,-,h1,h2,h3⟩:=(h4.out.step hW (by simp) H0 (h4.out.tape.kept hW (by simp))).put g3 hf;cases e'
     exact⟨h1,h2,h3⟩)
    have j5:(q:Int)<nc:=(by omega);have o1:cc<=9223372036854775807:=by unfold maxLen at k2;omega
    have n6:w.heap.size<=kb:=by omega
    have c8:G≠kb:=by
     intro e;subst e;obtain⟨base,k5,ho⟩:=h4.out.own;rcases ho.2 with ⟨h',h0⟩|⟨g,cap,cur,h1,hb,hg,-⟩
     ·cases h'
     ·simp only[Value.slice.injEq,Option.some.injEq,Addr.mk.injEq]at h1
      obtain⟨⟨rfl,-,-⟩,-,-⟩:=h1;have:=d1.out;rw[hg]at this;cases this
    have HQ:=Kh hq;go_upto_region 11 with fail
    go_quiet ((go_at_call 30;exact bC (eM _ _ _ (by omega))))
    clear hq c0 c1 c2;go_wp2_with fail;refine(eM how 4 _ (by omega)).mono ?_;rintro e w11 ⟨rfl,a7⟩;have H3:wc.grownBy w11 none:=(by rw[<- a7];first|exact zN _ _ _|exact zP _ _|exact zM _ _);have h6:=Kh H3;have h5:=Kh (zA d1.out H3 (by simp));have H6:Hid (kb<w11.heap.size):=Kh (Nat.lt_of_lt_of_le k3 H3.size);have h7:=Kh (zB i8.out H3 (by simp));clear a7 H3;obtain⟨y,hy⟩:∃ y,y=modI how 4:=⟨_,rfl⟩;have n3:0<=y:=by rw[hy];exact oJ _ _
    have n0:y<4:=(by rw[hy];exact aZ _ _ (by omega));rw[<- hy];clear hy;obtain rfl|rfl|rfl|rfl:y=0\/y=1\/y=2\/y=3:=by omega
    ·obtain⟨⟨o,ho⟩,hf,hd⟩:=a5.out w11 0 h6.out (by omega)
     simp only[Nat.add_zero]at ho hf hd;obtain⟨cs',a1⟩:=hd x';have b6:=Kh a1;have a9:=H6.out;clear hd a1;go_wp2
     go_meet
     exact⟨cs',root,zA h5.out (zC w11 ⟨kb,q * 3,none⟩ (.int .i64 x')) (fun e=>c8 (Oj e).symm),by rw[H5.out];exact b6.out,zB h7.out (zC w11 ⟨kb,q * 3,none⟩ (.int .i64 x')) (fun j e=>by have e:kb=j:=Oj e;omega)⟩
    ·obtain⟨⟨o,ho⟩,hf,hd⟩:=a5.out w11 1 h6.out (by omega)
     have hz:=H6.out;obtain⟨cs',a1⟩:=hd x';have b6:=Kh a1;have a9:=H6.out;clear hd a1;go_wp2
     go_meet
     exact⟨cs',root,zA h5.out (zC w11 ⟨kb,q * 3+1,none⟩ (.int .i64 x')) (fun e=>c8 (Oj e).symm),by rw[H5.out];exact b6.out,zB h7.out (zC w11 ⟨kb,q * 3+1,none⟩ (.int .i64 x')) (fun j e=>by have e:kb=j:=Oj e;omega)⟩
    ·obtain⟨⟨o,ho⟩,hf,hd⟩:=a5.out w11 2 h6.out (by omega)
     have hz:=H6.out;obtain⟨cs',a1⟩:=hd x';have b6:=Kh a1;have a9:=H6.out;clear hd a1;go_wp2
     go_meet
     exact⟨cs',root,zA h5.out (zC w11 ⟨kb,q * 3+2,none⟩ (.int .i64 x')) (fun e=>c8 (Oj e).symm),by rw[H5.out];exact b6.out,zB h7.out (zC w11 ⟨kb,q * 3+2,none⟩ (.int .i64 x')) (fun j e=>by have e:kb=j:=Oj e;omega)⟩
    ·obtain⟨g0,g1,g2⟩:=zH h5.out
     have f2:=zE h5.out 2;have n9:=zI h5.out;go_wp2
     go_meet
     exact⟨cs,x',heap_setCell_same w11 G 2 _ _ (.int .i64 x') h5.out,by
      have g9:=zC w11 ⟨G,2,none⟩ (.int .i64 x');obtain⟨svs,j3,j4⟩:=(h4.out.step h6.out (by simp) H0 (h4.out.tape.kept h6.out (by simp))).pats;obtain⟨base,k5,ho⟩:=(h4.out.step h6.out (by simp) H0 (h4.out.tape.kept h6.out (by simp))).own;rw[H5.out];refine⟨_,_,rfl,qA ((j3.kept g9 (fun j e=>.inr (qB h5.out (by decide) j e))).mono g9.size) ((j4.kept g9 (fun j e=>.inr (qB h5.out (by decide) j e))).mono g9.size) (fun p hp u hu=>by have:=mY (h4.out.good p hp) u hu;omega),?_⟩;have h9:=ho.kept g9 (.inr (fun e=>c8 (Oj e).symm));have e9:=h4.out.nc_;subst e9
      exact pE h9 (Nat.le_refl _),zB h7.out (zC w11 ⟨G,2,none⟩ (.int .i64 x')) (fun j e=>by have e:G=j:=Oj e;omega)⟩
   ·have j7:¬ (0:Int)<nc:=by omega
    go_wp2
    go_meet
    exact⟨cs,root,d1.out,by rw[H5.out];exact h4.out.dia,i8.out⟩
  case rest =>
   obtain⟨cs',root',e5,a0,b8⟩:=hcut;obtain⟨wf,f7⟩:∃ wf:World,wf=wc:=⟨_,rfl⟩;rw[<- f7]at e5 a0 b8 ⊢;have f0:=Kh b8;have i5:=Kh (HL.out.kept b8 (by simp));have H8:=Kh a0;obtain⟨E2,e7⟩:∃ E,E=diaE ⟨ps,cs',root'⟩ (k:Int):=⟨_,rfl⟩;obtain⟨ans2,H4⟩:∃ b,b=diaH ⟨ps,cs',root'⟩ s:=⟨_,rfl⟩;have e2:(E2 == E2)=true:=by simp
   have e3:(ans2 == ans2)=true:=by simp
   have l8:Hid (∀ W:World,wf.grownBy W none->Calls Try.prog 9 #[.agg #[.slice pa np pc,.slice ca nc cc,.int .i64 root'],.int .i64 (k:Int)] W fun e w'=>e=.returned (.int .i64 E2)/\wf.grownBy w' none):=Kh (fun W hW=>by
    rw[e7]
    exact(iI wf.heap.size W _ ⟨ps,cs',root'⟩ (k:Int) hW.size (H8.out.kept hW (by simp))).mono fun e w' h=>⟨h.1,zD hW h.2⟩)
   have l7:Hid (∀ W:World,wf.grownBy W none->Calls Try.prog 10 #[.agg #[.slice pa np pc,.slice ca nc cc,.int .i64 root'],.int .i64 (k:Int)] W fun e w'=>e=.returned (.int .i64 E2)/\wf.grownBy w' none):=Kh (fun W hW=>by
    rw[e7]
    exact(nK wf.heap.size W _ ⟨ps,cs',root'⟩ (k:Int) hW.size (H8.out.kept hW (by simp))).mono fun e w' h=>⟨h.1,zD hW h.2⟩)
   have m3:Hid (∀ W:World,wf.grownBy W none->Calls Try.prog 11 #[.agg #[.slice pa np pc,.slice ca nc cc,.int .i64 root'],.string s] W fun e w'=>e=.returned (.bool ans2)/\wf.grownBy w' none):=Kh (fun W hW=>by
    rw[H4]
    exact(iJ wf.heap.size W _ ⟨ps,cs',root'⟩ s hW.size (H8.out.kept hW (by simp)) c9.out (i5.out.kept hW (by simp))).mono fun e w' h=>⟨h.1,zD hW h.2⟩)
   have m2:Hid (∀ W:World,wf.grownBy W none->Calls Try.prog 12 #[.agg #[.slice pa np pc,.slice ca nc cc,.int .i64 root'],.string s] W fun e w'=>e=.returned (.bool ans2)/\wf.grownBy w' none):=Kh (fun W hW=>by
    rw[H4]
    exact(iS wf.heap.size W _ ⟨ps,cs',root'⟩ s hW.size (H8.out.kept hW (by simp)) c9.out).mono fun e w' h=>⟨h.1,zD hW h.2⟩)
   have m1:Hid (∀ W:World,wf.grownBy W none->Calls Try.prog 13 #[] W fun e w'=>e=.returned (.bool true)/\wf.grownBy w' none):=Kh (fun W hW=>(known34_any W (i5.out.kept hW (by simp))).mono fun e w' h=>⟨h.1,zD hW h.2⟩);have j1:Hid (∀ W:World,wf.grownBy W none->W.cell? ⟨G,0,none⟩=some (.slice pa np pc)/\W.cell? ⟨G,1,none⟩=some (.slice ca nc cc)/\W.cell? ⟨G,2,none⟩=some (.int .i64 root')):=Kh (fun W hW=>zH (zA e5 hW (by simp)));obtain⟨g0,g1,g2⟩:=j1.out wf (zM _ _);clear e5 a0 b8 f7 e7 H4;go_upto_region 21 with fail
   go_region_held3 (fun W=>W.cell? ⟨G,0,none⟩=some (.slice pa np pc)/\W.cell? ⟨G,1,none⟩=some (.slice ca nc cc)/\W.cell? ⟨G,2,none⟩=some (.int .i64 root'))
    (first|go_keep|exact j1.out _ (by assumption)|fail)
    (first|(go_at_call 9;(with_reducible refine(l8.out _ (by first|assumption|exact zP _ none)).mono ?_);rintro e w7 ⟨rfl,k8⟩)|(go_at_call 10;(with_reducible refine(l7.out _ (by first|assumption|exact zP _ none)).mono ?_);rintro e w7 ⟨rfl,k7⟩)|(go_at_call 11;(with_reducible refine(m3.out _ (by first|assumption|exact zP _ none)).mono ?_);rintro e w7 ⟨rfl,k6⟩)|(go_at_call 12;(with_reducible refine(m2.out _ (by first|assumption|exact zP _ none)).mono ?_);rintro e w7 ⟨rfl,l0⟩)|(go_at_call 13;(with_reducible refine(m1.out _ (by first|assumption|exact zP _ none)).mono ?_);rintro e w7 ⟨rfl,k9⟩)|fail)
   all_goals
    go_wp2;go_ret;exact⟨rfl,zB f0.out (by assumption) (by simp)⟩
end Go.Proofs.Ytjfdomfendbhfaa
namespace Go.Proofs.Ytjfdomfendbhfaa
open Go.RowKit
theorem someLen_of_shaped {w:World}(h:w.ShapedOpen Try.prog):SomeLen w:=by
 obtain⟨m,hm⟩:=Go.Proofs.cell_of_shapedOpen_int (P:=Try.prog) (w:=w) (g:=0) (t:=3) (zero:=#[.int .i64 0]) (k:=.i64) h (of_decide_eq_true (by kernel_rfl)) (by kernel_rfl) rfl (by kernel_rfl) (by kernel_rfl) Try.underlying3;exact⟨World.block_lt_of_cell? w _ hm,m,hm⟩
end Go.Proofs.Ytjfdomfendbhfaa
