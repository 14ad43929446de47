/- Part 25 of the proof. -/
import Derived.Test.YtjfdomfendbhfaaQg24
import Derived.Deep.DeepCutAuto
import Derived.Deep.CutBlock
import Derived.SliceStrings
import Derived.ChangeSame
import Derived.Deep.Matrix
set_option linter.unusedVariables false
set_option linter.unusedSimpArgs false
set_option maxRecDepth 100000
set_option maxHeartbeats 16000000
namespace Go.Proofs.Ytjfdomfendbhfaa
open Go.Maps Go.RowKit
def qIB (w:World)(d:DfaV)(kind most:Int)(e:Ending)(w':World):Prop:=∃ (a b:Option Addr) (n1 c1 n2 c2:Nat) (r k m E:Int),e=.returned (.tuple #[.agg #[.slice a n1 c1,.slice b n2 c2,.int .i64 r],.int .i64 k,.int .i64 m,.int .i64 E])/\w.grownBy w' none/\jI (qCY d) d kind most k m E
def qGY (w:World)(d:DfaV)(kind most:Int)(e:Ending)(w':World):Prop:=∃ (a b:Option Addr) (n1 c1 n2 c2:Nat) (r k m E:Int),e=.returned (.tuple #[.agg #[.slice a n1 c1,.slice b n2 c2,.int .i64 r],.int .i64 k,.int .i64 m,.int .i64 E])/\w.grownBy w' none/\jI (qCY d) d kind most k m E /\
 (E=0->xD d=0/\fX (famL kind d.letters k m)=true/\famE kind d.letters k m=0/\∃ u1 u2,OfOut w' d (famB (famL kind d.letters k m)) (.agg #[.slice a n1 c1,.slice b n2 c2,.int .i64 r]) u1 u2 0)
theorem ord_cells {w0 w:World}{sa:Option Addr}{n sc:Nat}{l:List (Int×Int)}(h:OrdI w0 w sa n sc l){i:Nat}(hi:i<n):∃ g,sa=some ⟨g,0,none⟩/\n<=sc/\sc<=maxLen/\w.cell? ⟨g,i * 2,none⟩=some (.int .i64 (l.getD i (0,0)).1)/\w.cell? ⟨g,i * 2+1,none⟩=some (.int .i64 (l.getD i (0,0)).2):=by
 obtain⟨hn,ho,_⟩:=h;have h3:∀ g j,(⟨g,0,none⟩:Addr).add j=⟨g,j,none⟩:=fun g j=>by unfold Addr.add;split<;>simp_all
 have h2:i<l.length:=by omega
 rcases ho.2 with ⟨h',h0⟩|⟨g,cap,cur,h1,hb,hg,hnc,hcm,_⟩
 ·omega
 ·simp only[Value.slice.injEq]at h1
  obtain⟨rfl,-,rfl⟩:=h1;have c1:=ho.cells (g:=g) rfl _ _ (fC l i h2).1;have c2:=ho.cells (g:=g) rfl _ _ (fC l i h2).2;rw[h3]at c1 c2;rw[zG h2];exact⟨g,rfl,hnc,hcm,c1,c2⟩
theorem cleastS_any (Bd:Nat)(w:World)(dv:Value)(d:DfaV)(kind most:Int)(hBd:Bd<=w.heap.size)(hd:uW Bd w dv d)(hmost:most<=2\/8<most):Calls Try.prog 34 #[dv,.int .i64 kind,.int .i64 most] w (qGY w d kind most):=by
 have a7:=hd;obtain⟨fv,nv,rfl,hf,hn⟩:=hd;obtain⟨fa,fc,rfl⟩:=hf.shape;rw[yL]at a7 hf ⊢;obtain⟨na,nc,rfl⟩:=hn.shape;obtain⟨fl,H1⟩:∃ n,n=d.final.length:=⟨_,rfl⟩;obtain⟨nl,f7⟩:∃ n,n=d.next.length:=⟨_,rfl⟩;obtain⟨dl,d8⟩:∃ n,n=d.letters:=⟨_,rfl⟩;obtain⟨ds,g0⟩:∃ n,n=d.start:=⟨_,rfl⟩;have g7:=Kh d8;rw[<- H1,<- f7,<- d8,<- g0]at a7 ⊢;have HD:=Kh a7;obtain⟨b2,c7,c4,f5⟩:=dO w #[.int .i64 dl,.int .i64 ds,.slice fa fl fc,.slice na nl nc] 42 #[.slice none 0 0,.slice none 0 0,.int .i64 0] 25;obtain⟨wA,d9⟩:∃ wA,wA=(w.alloc (.cells #[.int .i64 dl,.int .i64 ds,.slice fa fl fc,.slice na nl nc] 42)).alloc (.cells #[.slice none 0 0,.slice none 0 0,.int .i64 0] 25):=⟨_,rfl⟩;rw[<- d9]at b2 c7 c4 f5;obtain⟨c0,c1,c2,c3⟩:=zF b2;obtain⟨Q,hQ⟩:∃ Q,Q=w.heap.size:=⟨_,rfl⟩;obtain⟨P,hP⟩:∃ P,P=w.heap.size+1:=⟨_,rfl⟩;have i9:=Kh hQ;have j2:Hid (P=Q+1):=Kh (by omega);have a1:Hid (w.heap.size<=P):=Kh (by omega);rw[<- hP]at c7;rw[<- hQ]at b2 c0 c1 c2 c3;have k4:=Kh b2;have k0:=Kh c7;have j5:=Kh c4;have i5:=Kh d9;have g8:=Kh (a7.kept c4 (by simp));have i2:Bd<=wA.heap.size:=by omega
 have e0:=Kh (tQ Bd wA _ d i2 g8.out);obtain⟨E,hE⟩:∃ E,E=xD d:=⟨_,rfl⟩;rw[<- hE]at e0;have HE:=Kh hE;clear b2 c7 c4 d9 f5 hP hQ hf hn a7 H1 f7 d8 g0 hE;go_enter Try.func34,Try.ntmps34;go_upto_region 1 with fail;rw[<- i5.out,<- i9.out,<- j2.out];go_wp2_with fail;refine e0.out.mono ?_;rintro e w1 ⟨rfl,a6⟩;have e4:=Kh (zA j5.out a6 (by simp));have H9:=Kh (zB k0.out a6 (by simp));have j8:=Kh (zB k4.out a6 (by simp));have j6:=Kh a6;clear a6 e0 c0 c1 c2 c3;by_cases hE0:E=0
 case neg =>
  have b3:=Kh hE0;have e1:(E != 0)=true:=by rw[bne_iff_ne];exact hE0
  clear hE0;have h0:=H9.out;have f40:=zE h0 0;have f41:=zE h0 1;have f42:=zE h0 2;have a3:=zK h0;obtain⟨v0,v1,v2⟩:=zM h0;go_wp2;have g1:=zD (zD (zC w1 ⟨P,0,none⟩ (.slice none 0 0)) (zC _ ⟨P,1,none⟩ (.slice none 0 0))) (zC _ ⟨P,2,none⟩ (.int .i64 0));have z1:=heap_setCell_same _ P 2 _ _ (.int .i64 0) (heap_setCell_same _ P 1 _ _ (.slice none 0 0) (heap_setCell_same w1 P 0 _ _ (.slice none 0 0) h0));obtain⟨w99,h8⟩:∃ w99,w99=((w1.setCell ⟨P,0,none⟩ (.slice none 0 0)).setCell ⟨P,1,none⟩ (.slice none 0 0)).setCell ⟨P,2,none⟩ (.int .i64 0):=⟨_,rfl⟩;rw[<- h8]at g1 z1 ⊢;simp only[Array.setIfInBounds,List.size_toArray,List.length_cons,List.length_nil]at z1;obtain⟨q0,q1,q2⟩:=zM z1;refine bodyPost_ret (v:=.tuple #[.agg #[.slice none 0 0,.slice none 0 0,.int .i64 0],.int .i64 (0),.int .i64 (0),.int .i64 (E)]) (by simp[results,Try.results34,go_sem,q0,q1,q2]) rfl ?_;exact⟨none,none,0,0,0,0,0,0,0,E,rfl,zA e4.out g1 (fun j e=>by have e:P=j:=Oj e;have:=a1.out;omega),.inl ⟨by rw[<- HE.out];exact b3.out,rfl,rfl,HE.out⟩,fun h=>absurd h b3.out⟩
 case pos =>
  subst hE0;have f6:xD d=0:=HE.out.symm;have H5:=Kh f6;clear f6;have b0:(kind<1\/7<kind\/most<0\/8<most)\/¬ (kind<1\/7<kind\/most<0\/8<most):=by omega
  rcases b0 with hbad|hgood
  ·have f4:=Kh hbad
   have hc:kind<1\/(¬ kind<1/\7<kind)\/(¬ kind<1/\¬ 7<kind/\most<0)\/(¬ kind<1/\¬ 7<kind/\¬ most<0/\8<most):=(by omega);clear hbad;rcases hc with h1|⟨h1,h2⟩|⟨h1,h2,h3⟩|⟨h1,h2,h3,h4⟩
   all_goals
    have h0:=H9.out;have f40:=zE h0 0;have f41:=zE h0 1;have f42:=zE h0 2;have a3:=zK h0;obtain⟨v0,v1,v2⟩:=zM h0;go_wp2;have g1:=zD (zD (zC w1 ⟨P,0,none⟩ (.slice none 0 0)) (zC _ ⟨P,1,none⟩ (.slice none 0 0))) (zC _ ⟨P,2,none⟩ (.int .i64 0));have z1:=heap_setCell_same _ P 2 _ _ (.int .i64 0) (heap_setCell_same _ P 1 _ _ (.slice none 0 0) (heap_setCell_same w1 P 0 _ _ (.slice none 0 0) h0));obtain⟨w99,h8⟩:∃ w99,w99=((w1.setCell ⟨P,0,none⟩ (.slice none 0 0)).setCell ⟨P,1,none⟩ (.slice none 0 0)).setCell ⟨P,2,none⟩ (.int .i64 0):=⟨_,rfl⟩;rw[<- h8]at g1 z1 ⊢;simp only[Array.setIfInBounds,List.size_toArray,List.length_cons,List.length_nil]at z1;obtain⟨q0,q1,q2⟩:=zM z1;refine bodyPost_ret (v:=.tuple #[.agg #[.slice none 0 0,.slice none 0 0,.int .i64 0],.int .i64 (0),.int .i64 (0),.int .i64 (1)]) (by simp[results,Try.results34,go_sem,q0,q1,q2]) rfl ?_;exact⟨none,none,0,0,0,0,0,0,0,1,rfl,zA e4.out g1 (fun j e=>by have e:P=j:=Oj e;have:=a1.out;omega),.inr (.inl ⟨H5.out,f4.out,rfl,rfl,rfl⟩),fun h=>absurd h (by decide)⟩
  ·have h1:¬ kind<1:=by omega
   have h2:¬ 7<kind:=(by omega);have h3:¬ most<0:=(by omega);have h4:¬ 8<most:=(by omega);obtain⟨mo,g9⟩:∃ mo:Nat,most=(mo:Int):=⟨most.toNat,by omega⟩;subst g9;have d3:mo<=2:=by omega
   have h6:=Kh hgood;clear hgood hmost;go_wp2_with fail;refine(orders_any w1 kind mo (by omega)).mono ?_;rintro e w2 ⟨sa,n,sc,rfl,h5⟩;obtain⟨l,hl⟩:∃ l,l=ordL kind mo:=⟨_,rfl⟩;rw[<- hl]at h5;have HL:=Kh hl;have j4:=Kh h5;have H2:=Kh h5.2.2
   have i8:Hid (∀ i,i<n->fX (famL kind d.letters (l.getD i (0,0)).1 (l.getD i (0,0)).2)=true):=Kh (fun i hi=>by
    have a4:i<l.length:=by rw[<- h5.1];exact hi
    have d4:l.getD i (0,0)∈ordL kind 2:=by
     rw[zG a4];have h7:l[i]∈ordL kind mo:=(by rw[<- hl];exact List.getElem_mem a4);exact qAW d3 h7
    have hv:=dC H5.out;have:=hv.k1;have:=hv.k6;have:=hv.hk
    exact bI kind (by simp;omega) d.letters (by simp;omega) _ d4)
   have g2:Hid (∀ k m E,LeastR (qCY d) kind d.letters (l.drop 0) k m E->LeastR (qCY d) kind d.letters l k m E):=Kh (fun k m E h=>by rwa [List.drop_zero]at h);clear hl h5;go_wp2
   go_loopg [12,13,14,15,16,17,18,19,45] n (fun gh v12 v13 v14 v15 v16 v17 v18 v19 v45 wr=>∃ i:Nat,gh+i=n/\v45=.int .i64 (i:Nat)/\w2.grownBy wr none/\Hid (∀ k m E,LeastR (qCY d) kind d.letters (l.drop i) k m E->LeastR (qCY d) kind d.letters l k m E))
   case atStart=>exact⟨0,rfl,rfl,zL _ _,g2⟩
   case round =>
    clear g2;obtain⟨i,f8,rfl,hg,H0⟩:=hrel;have e6:=Kh f8;have HG:=Kh hg;have g5:=Kh (zA (zA e4.out H2.out (by simp)) hg (by simp));have b6:=Kh (zB (zB H9.out H2.out (by simp)) hg (by simp));have f1:=Kh (zB (zB j8.out H2.out (by simp)) hg (by simp));have h5:=j4.out;clear f8 hg;by_cases hi:i<n
    ·have i0:(i:Int)<n:=by omega
     obtain⟨g,rfl,k1,k2,ce1,ce2⟩:=ord_cells h5 hi;have a9:=xE ce1 HG.out;have a8:=xE ce2 HG.out;obtain⟨p1,b9⟩:∃ x,x=(l.getD i (0,0)).1:=⟨_,rfl⟩;obtain⟨p2,b8⟩:∃ x,x=(l.getD i (0,0)).2:=⟨_,rfl⟩;rw[<- b9]at a9;rw[<- b8]at a8;have k3:sc<=9223372036854775807:=by unfold maxLen at k2;omega
     have a4:i<l.length:=by have:=h5.1;omega
     have a2:Hid (l.drop i=(p1,p2)::l.drop (i+1)):=Kh (by
      rw[List.drop_eq_getElem_cons a4,b9,b8,zG a4])
     have H6:Hid (fX (famL kind d.letters p1 p2)=true):=Kh (by rw[b9,b8];exact i8.out i hi);have b1:=heap_alloc_new wr (.cells #[.int .i64 p1,.int .i64 p2] 119);have d6:=Ga wr (.cells #[.int .i64 p1,.int .i64 p2] 119) none;obtain⟨w5,d0⟩:∃ w5,w5=wr.alloc (.cells #[.int .i64 p1,.int .i64 p2] 119):=⟨_,rfl⟩;obtain⟨X,hX⟩:∃ X,X=wr.heap.size:=⟨_,rfl⟩;rw[<- d0]at b1 d6;rw[<- hX]at b1;have i7:=Kh d0;have i4:=Kh hX;have c8:=Kh d6;have x0:=zH b1 0 (by simp);have x1:=zH b1 1 (by simp);simp only[List.getElem_toArray,List.getElem_cons_zero,List.getElem_cons_succ]at x0 x1;clear h5 ce1 ce2 b9 b8 d0 hX d6 b1;go_upto_region 9 with fail;rw[<- i7.out,<- i4.out];clear a9 a8;go_cut [13,14] (fun s13 s14 wx=>s13=.int .i64 p1/\s14=.int .i64 p2/\w5.grownBy wx none)
     case first =>
      go_region
      all_goals (try go_frame)
      all_goals
       go_wp2_with fail
       go_meet
       exact⟨rfl,rfl,by first|exact zN _ _ none|exact zO _ none⟩
     case rest =>
      obtain⟨rfl,rfl,a0⟩:=hcut;have k8:=Kh a0;have e5:=Kh (zA (zA g5.out c8.out (by simp)) a0 (by simp));have f3:=Kh (zB (zB b6.out c8.out (by simp)) a0 (by simp));have b5:=Kh (zB (zB f1.out c8.out (by simp)) a0 (by simp));have e9:=Kh (zD (zD HG.out c8.out) a0);obtain⟨c0,c1,c2,c3⟩:=zF b5.out;clear a0 x0 x1;go_wp2_with fail;refine(familyP_any kind dl p1 p2 wc).mono ?_;rintro e w6 ⟨fs,fcap,svs,rfl,d1,d2,a5⟩;obtain⟨F,hF⟩:∃ F,F=famE kind dl p1 p2:=⟨_,rfl⟩;rw[<- hF];have HF:Hid (F=famE kind d.letters p1 p2):=Kh (by rw[hF,g7.out]);have H3:=Kh (zB f3.out a5 (by simp));have f2:=Kh (zB b5.out a5 (by simp));have e8:=Kh (zA e5.out a5 (by simp));have b4:=Kh (zD e9.out a5);obtain⟨fl6,H1⟩:∃ x,x=(famL kind dl p1 p2).length:=⟨_,rfl⟩;rw[<- H1];rw[<- H1]at d1;rw[g7.out]at d2 H1;have f9:FamD w6 (.slice fs fl6 fcap) (famL kind d.letters p1 p2):=⟨H6.out,svs,d1,d2,fs,fcap,by rw[H1]⟩;have j1:=Kh f9.pats;have i1:fl6<=300:=by have:=(rZ H6.out).1;rw[vS]at this;omega
      have j7:=Kh H1;clear hF d1 d2 a5 f9 H1 c0 c1 c2 c3;by_cases hF0:F=0
      case neg =>
       have e1:(F != 0)=true:=by rw[bne_iff_ne];exact hF0
       have g4:=Kh hF0;clear hF0;have h0:=H3.out;have f40:=zE h0 0;have f41:=zE h0 1;have f42:=zE h0 2;have a3:=zK h0;obtain⟨v0,v1,v2⟩:=zM h0;go_wp2;have g1:=zD (zD (zC w6 ⟨P,0,none⟩ (.slice none 0 0)) (zC _ ⟨P,1,none⟩ (.slice none 0 0))) (zC _ ⟨P,2,none⟩ (.int .i64 0));have z1:=heap_setCell_same _ P 2 _ _ (.int .i64 0) (heap_setCell_same _ P 1 _ _ (.slice none 0 0) (heap_setCell_same w6 P 0 _ _ (.slice none 0 0) h0));obtain⟨w99,h8⟩:∃ w99,w99=((w6.setCell ⟨P,0,none⟩ (.slice none 0 0)).setCell ⟨P,1,none⟩ (.slice none 0 0)).setCell ⟨P,2,none⟩ (.int .i64 0):=⟨_,rfl⟩;rw[<- h8]at g1 z1 ⊢;simp only[Array.setIfInBounds,List.size_toArray,List.length_cons,List.length_nil]at z1;obtain⟨q0,q1,q2⟩:=zM z1;refine bodyPost_ret (v:=.tuple #[.agg #[.slice none 0 0,.slice none 0 0,.int .i64 0],.int .i64 (0),.int .i64 (0),.int .i64 (F)]) (by simp[results,Try.results34,go_sem,q0,q1,q2]) rfl ?_;exact⟨none,none,0,0,0,0,0,0,0,F,rfl,zA e8.out g1 (fun j e=>by have e:P=j:=Oj e;have:=a1.out;omega),.inr (.inr ⟨H5.out,h6.out,by show LeastR _ _ _ (ordL kind mo) _ _ _;rw[<- HL.out];refine H0.out _ _ _ ?_;rw[a2.out,HF.out];exact .fam (p:=(p1,p2)) (by rw[<- HF.out];exact g4.out)⟩),fun h=>absurd h g4.out⟩
      case pos =>
       subst hF0;have g3:=Kh (qER w6.heap.size w6 _ _ d (famB (famL kind d.letters p1 p2)) (Nat.le_refl _) ((g8.out.kept (zD (zD j6.out H2.out) b4.out) (by simp)).mono (by have:=e8.out.size;omega)) j1.out (by rw[vS,<- j7.out];omega));obtain⟨c0,c1,c2,c3⟩:=zF f2.out;go_wp2_with fail;refine g3.out.mono ?_;rintro e w7 ⟨v7,s1,s2,E,rfl,h9,d5⟩;have H4:=h9 w7 (GrownBut.refl _ _);obtain⟨⟨ap,n1,cp,ac,n2,cc,rt,rfl⟩,-⟩:=qDV H4;have H7:=Kh H4;have j3:=Kh h9;have c6:=heap_alloc_new w7 (.cells #[.slice ap n1 cp,.slice ac n2 cc,.int .i64 rt] 25);have c5:=Ga w7 (.cells #[.slice ap n1 cp,.slice ac n2 cc,.int .i64 rt] 25) none;obtain⟨w8,c9⟩:∃ w8,w8=w7.alloc (.cells #[.slice ap n1 cp,.slice ac n2 cc,.int .i64 rt] 25):=⟨_,rfl⟩;obtain⟨Y,hY⟩:∃ Y,Y=w7.heap.size:=⟨_,rfl⟩;rw[<- c9]at c6 c5;rw[<- hY]at c6;have i6:=Kh c9;have i3:=Kh hY;have j9:=Kh c6;have e7:=Kh c5;have H8:=Kh (zD d5 c5);have g6:=Kh (zA e8.out H8.out (by simp));have f0:=Kh (zD b4.out H8.out);have b7:=Kh (zB H3.out H8.out (by simp));have j0:Hid (P≠Y):=Kh (by have:=zK H3.out;have:=d5.size;omega);clear H4 h9 d5 c6 c5 c9 hY g3 c0 c1 c2 c3;go_upto_region 14 with fail;rw[<- i6.out,<- i3.out];by_cases hE:E=0
       ·subst hE
        have k5:=j0.out;obtain⟨y0,y1,y2⟩:=zM j9.out;have h0:=b7.out;have f40:=zE h0 0;have f41:=zE h0 1;have f42:=zE h0 2;have a3:=zK h0;obtain⟨v0,v1,v2⟩:=zM h0;go_wp2;have g1:=zD (zD (zC w8 ⟨P,0,none⟩ (.slice ap n1 cp)) (zC _ ⟨P,1,none⟩ (.slice ac n2 cc))) (zC _ ⟨P,2,none⟩ (.int .i64 rt));have z1:=heap_setCell_same _ P 2 _ _ (.int .i64 rt) (heap_setCell_same _ P 1 _ _ (.slice ac n2 cc) (heap_setCell_same w8 P 0 _ _ (.slice ap n1 cp) h0));obtain⟨w99,h8⟩:∃ w99,w99=((w8.setCell ⟨P,0,none⟩ (.slice ap n1 cp)).setCell ⟨P,1,none⟩ (.slice ac n2 cc)).setCell ⟨P,2,none⟩ (.int .i64 rt):=⟨_,rfl⟩;rw[<- h8]at g1 z1 ⊢;simp only[Array.setIfInBounds,List.size_toArray,List.length_cons,List.length_nil]at z1;obtain⟨q0,q1,q2⟩:=zM z1;refine bodyPost_ret (v:=.tuple #[.agg #[.slice ap n1 cp,.slice ac n2 cc,.int .i64 rt],.int .i64 (p1),.int .i64 (p2),.int .i64 (0)]) (by simp[results,Try.results34,go_sem,q0,q1,q2]) rfl ?_
        have d7:qGY w d kind (mo:Int) (.returned (.tuple #[.agg #[.slice ap n1 cp,.slice ac n2 cc,.int .i64 rt],.int .i64 p1,.int .i64 p2,.int .i64 0])) w99:=by
         refine⟨ap,ac,n1,cp,n2,cc,rt,p1,p2,0,rfl,zA g6.out g1 (fun j e=>by have e:P=j:=Oj e;have:=a1.out;omega),.inr (.inr ⟨H5.out,h6.out,?_⟩),fun _=>⟨H5.out,H6.out,HF.out.symm,_,_,j3.out _ (((GrownBut.refl w7 _).step e7.out (by simp)).step g1 (fun j e=>.inl (show j<w6.heap.size by have e:P=j:=Oj e;have:=zK H3.out;omega)))⟩⟩
         ·show LeastR _ _ _ (ordL kind mo) _ _ _
          rw[<- HL.out];refine H0.out _ _ _ ?_;rw[a2.out];exact .ok (p:=(p1,p2)) HF.out.symm ⟨_,_,_,_,H7.out⟩
        exact d7
       ·by_cases hE20:E=20
        ·subst hE20
         go_wp2;go_roundg (n - (i+1))
         case measure=>have:=e6.out;omega
         case rel=>exact⟨i+1,by have:=e6.out;omega,by go_num,f0.out,Kh (fun k m E h=>H0.out k m E (by rw[a2.out];exact .next (p:=(p1,p2)) HF.out.symm ⟨_,_,_,_,H7.out⟩ h))⟩
        ·have e1:(E == 0)=false:=by rw[beq_eq_false_iff_ne];exact hE
         have e2:(E != 20)=true:=by rw[bne_iff_ne];exact hE20
         have b3:=Kh hE;have e3:=Kh hE20;clear hE hE20;have h0:=b7.out;have f40:=zE h0 0;have f41:=zE h0 1;have f42:=zE h0 2;have a3:=zK h0;obtain⟨v0,v1,v2⟩:=zM h0;go_wp2;have g1:=zD (zD (zC w8 ⟨P,0,none⟩ (.slice none 0 0)) (zC _ ⟨P,1,none⟩ (.slice none 0 0))) (zC _ ⟨P,2,none⟩ (.int .i64 0));have z1:=heap_setCell_same _ P 2 _ _ (.int .i64 0) (heap_setCell_same _ P 1 _ _ (.slice none 0 0) (heap_setCell_same w8 P 0 _ _ (.slice none 0 0) h0));obtain⟨w99,h8⟩:∃ w99,w99=((w8.setCell ⟨P,0,none⟩ (.slice none 0 0)).setCell ⟨P,1,none⟩ (.slice none 0 0)).setCell ⟨P,2,none⟩ (.int .i64 0):=⟨_,rfl⟩;rw[<- h8]at g1 z1 ⊢;simp only[Array.setIfInBounds,List.size_toArray,List.length_cons,List.length_nil]at z1;obtain⟨q0,q1,q2⟩:=zM z1;refine bodyPost_ret (v:=.tuple #[.agg #[.slice none 0 0,.slice none 0 0,.int .i64 0],.int .i64 (0),.int .i64 (0),.int .i64 (E)]) (by simp[results,Try.results34,go_sem,q0,q1,q2]) rfl ?_;exact⟨none,none,0,0,0,0,0,0,0,E,rfl,zA g6.out g1 (fun j e=>by have e:P=j:=Oj e;have:=a1.out;omega),.inr (.inr ⟨H5.out,h6.out,by show LeastR _ _ _ (ordL kind mo) _ _ _;rw[<- HL.out];refine H0.out _ _ _ ?_;rw[a2.out];exact .bad (p:=(p1,p2)) HF.out.symm ⟨_,_,_,_,H7.out⟩ b3.out e3.out⟩),fun h=>absurd h b3.out⟩
    ·have i0:¬ (i:Int)<n:=by omega
     have k7:i=n:=by have:=e6.out;omega
     have a2:Hid (l.drop i=[]):=Kh (List.drop_eq_nil_of_le (by have:=h5.1;omega));clear h5;have h0:=b6.out;have f40:=zE h0 0;have f41:=zE h0 1;have f42:=zE h0 2;have a3:=zK h0;obtain⟨v0,v1,v2⟩:=zM h0;go_wp2;have g1:=zD (zD (zC wr ⟨P,0,none⟩ (.slice none 0 0)) (zC _ ⟨P,1,none⟩ (.slice none 0 0))) (zC _ ⟨P,2,none⟩ (.int .i64 0));have z1:=heap_setCell_same _ P 2 _ _ (.int .i64 0) (heap_setCell_same _ P 1 _ _ (.slice none 0 0) (heap_setCell_same wr P 0 _ _ (.slice none 0 0) h0));obtain⟨w99,h8⟩:∃ w99,w99=((wr.setCell ⟨P,0,none⟩ (.slice none 0 0)).setCell ⟨P,1,none⟩ (.slice none 0 0)).setCell ⟨P,2,none⟩ (.int .i64 0):=⟨_,rfl⟩;rw[<- h8]at g1 z1 ⊢;simp only[Array.setIfInBounds,List.size_toArray,List.length_cons,List.length_nil]at z1;obtain⟨q0,q1,q2⟩:=zM z1;refine bodyPost_ret (v:=.tuple #[.agg #[.slice none 0 0,.slice none 0 0,.int .i64 0],.int .i64 (0),.int .i64 (0),.int .i64 (9)]) (by simp[results,Try.results34,go_sem,q0,q1,q2]) rfl ?_;exact⟨none,none,0,0,0,0,0,0,0,9,rfl,zA g5.out g1 (fun j e=>by have e:P=j:=Oj e;have:=a1.out;omega),.inr (.inr ⟨H5.out,h6.out,by show LeastR _ _ _ (ordL kind mo) _ _ _;rw[<- HL.out];refine H0.out _ _ _ ?_;rw[a2.out];exact .nil⟩),fun h=>absurd h (by decide)⟩
theorem cleast_any (Bd:Nat)(w:World)(dv:Value)(d:DfaV)(kind most:Int)(hBd:Bd<=w.heap.size)(hd:uW Bd w dv d)(hmost:most<=2\/8<most):
  Calls Try.prog 34 #[dv,.int .i64 kind,.int .i64 most] w (qIB w d kind most) :=
 (cleastS_any Bd w dv d kind most hBd hd hmost).mono fun _ w' ⟨a,b,n1,c1,n2,c2,r,k,m,E,h,hg,ho,_⟩=>⟨a,b,n1,c1,n2,c2,r,k,m,E,h,hg,ho⟩
def qCX (w:World)(d:DfaV)(kind most:Int)(e:Ending)(w':World):Prop:=∃ k m E:Int,e=.returned (.tuple #[.int .i64 k,.int .i64 m,.int .i64 E])/\w.grownBy w' none/\jI (uG d) d kind most k m E
def LPre (R:List (List ByteArray)->Int->Prop)(kind letters:Int)(l pre:List (Int×Int)):Prop:=pre <+: l/\∀ suf k m E,l=pre++suf->LeastR R kind letters suf k m E->LeastR R kind letters l k m E
section
variable {R:List (List ByteArray)->Int->Prop} {kind letters:Int} {l pre:List (Int×Int)}
theorem LPre.nil:LPre R kind letters l []:=⟨List.nil_prefix,fun suf k m E h hr=>by rw[h];exact hr⟩
theorem LPre.here (h:LPre R kind letters l pre){p:Int×Int}(hp:pre++[p] <+: l){k m E:Int}(hr:∀ r,LeastR R kind letters (p::r) k m E):LeastR R kind letters l k m E:=by
 obtain⟨r,e⟩:=hp;exact h.2 (p::r) k m E (by rw[<- e,List.append_assoc];rfl) (hr r)
theorem LPre.next (h:LPre R kind letters l pre){p:Int×Int}(hp:pre++[p] <+: l)(h0:famE kind letters p.1 p.2=0)(hR:R (famB (famL kind letters p.1 p.2)) 20):LPre R kind letters l (pre++[p]) :=
 ⟨hp,fun suf k m E e hr=>h.2 (p::suf) k m E (by rw[e,List.append_assoc];rfl) (.next h0 hR hr)⟩
theorem LPre.done (h:LPre R kind letters l l):LeastR R kind letters l 0 0 9:=h.2 [] 0 0 9 (by simp) .nil
end
theorem ordO_pre {f b n:Nat}(hf:f<=b)(hb:b<n):ordO f b++[((b:Int),0)] <+: ordO f n:=by
 rw[<- kO hf]
 induction n with
 | zero=>omega
 | succ n ih =>
  by_cases h:b=n
  ·subst h;exact List.prefix_refl _
  ·rw[kO (f:=f) (b:=n) (by omega)]
   exact(ih (by omega)).trans (List.prefix_append _ _)
theorem ordC_pre {s n : Nat}(h : s ≤ n): ordC s <+: ordC n := by
  induction n with
  | zero => have : s = 0 := by omega
            subst this; exact List.prefix_refl _
  | succ n ih =>
    by_cases e : s = n + 1
    · subst e; exact List.prefix_refl _
    · rw [nN]; exact (ih (by omega)).trans (List.prefix_append _ _)
theorem ordK_pre {s b:Nat}(h1:max 1 (s - 4)<=b)(h:b<=s):ordK s (b+1) <+: ordK s (s+1):=by
 obtain⟨j,rfl⟩:∃ j,s=b+j:=⟨s - b,by omega⟩
 have:∀ j t,max 1 (t - 4)<=b->ordK t (b+1) <+: ordK t (b+j+1):=fun j t ht=>by
  induction j with
  | zero=>exact List.prefix_refl _
  | succ j ih=>rw[show b+(j+1)+1=(b+j+1)+1 by omega,kP (s:=t) (b:=b+j+1) (by omega)];exact ih.trans (List.prefix_append _ _)
 exact this j _ h1
theorem ordCK_pre {s b n:Nat}(hs:1<=s)(hsn:s<=n)(h1:max 1 (s - 4)<=b)(h:b<=s):(ordC (s - 1)++ordK s b)++[((b:Int),(s:Int) - (b:Int))] <+: ordC n:=by
 rw[List.append_assoc,<- kP h1];have e:=nN (s - 1);rw[show s - 1+1=s by omega,show s - 1+2=s+1 by omega]at e;refine List.IsPrefix.trans ?_ (ordC_pre hsn);rw[e];obtain⟨r,hr⟩:=ordK_pre h1 h;exact⟨r,by rw[List.append_assoc,hr]⟩
theorem rleast_any (Bd:Nat)(w:World)(dv:Value)(d:DfaV)(kind most:Int)(hBd:Bd<=w.heap.size)(hd:uW Bd w dv d)(hmost:most<=2\/8<most):Calls Try.prog 35 #[dv,.int .i64 kind,.int .i64 most] w (qCX w d kind most):=by
 have b7:=hd;obtain⟨fv,nv,rfl,hf,hn⟩:=hd;obtain⟨fa,fc,rfl⟩:=hf.shape;rw[yL]at b7 hf ⊢;obtain⟨na,nc,rfl⟩:=hn.shape;obtain⟨fl,h9⟩:∃ n,n=d.final.length:=⟨_,rfl⟩;obtain⟨nl,e0⟩:∃ n,n=d.next.length:=⟨_,rfl⟩;obtain⟨dl,c8⟩:∃ n,n=d.letters:=⟨_,rfl⟩;obtain⟨ds,e5⟩:∃ n,n=d.start:=⟨_,rfl⟩;have f3:=Kh c8;rw[<- h9,<- e0,<- c8,<- e5]at b7 ⊢;obtain⟨wA,c9⟩:∃ wA,wA=w.alloc (.cells #[.int .i64 dl,.int .i64 ds,.slice fa fl fc,.slice na nl nc] 42):=⟨_,rfl⟩;have a9:=Ga w (.cells #[.int .i64 dl,.int .i64 ds,.slice fa fl fc,.slice na nl nc] 42) none;have H8:=heap_alloc_new w (.cells #[.int .i64 dl,.int .i64 ds,.slice fa fl fc,.slice na nl nc] 42);obtain⟨Q,hQ⟩:∃ Q,Q=w.heap.size:=⟨_,rfl⟩;rw[<- c9]at a9 H8;rw[<- hQ]at H8;obtain⟨c0,c1,c2,c3⟩:=zF H8;have f9:=Kh hQ;have g3:=Kh H8;have g2:=Kh a9;have f8:=Kh c9;have d7:=Kh (b7.kept a9 (by simp));have d0:=Kh (pV Bd wA _ d (by have:=a9.size;omega) d7.out);obtain⟨E,hE⟩:∃ E,E=xD d:=⟨_,rfl⟩;rw[<- hE]at d0;have HE:=Kh hE;clear H8 a9 c9 hQ hf hn b7 h9 e0 c8 e5 hE;go_enter Try.func35,Try.ntmps35;go_upto_region 1 with fail;rw[<- f8.out,<- f9.out];go_wp2_with fail;refine d0.out.mono ?_;rintro e w1 ⟨rfl,b6⟩;have a5:=Kh (zA g2.out b6 (by simp));have b8:=Kh (zB g3.out b6 (by simp));have f2:=Kh b6;clear b6 d0 c0 c1 c2 c3;by_cases hE0:E=0
 case neg =>
  have g0:=Kh hE0;have e1:(E != 0)=true:=by rw[bne_iff_ne];exact hE0
  clear hE0;go_wp2;refine bodyPost_ret (v:=.tuple #[.int .i64 0,.int .i64 0,.int .i64 E]) (by simp[results,Try.results35,go_sem]) rfl ?_;exact⟨0,0,E,rfl,a5.out,.inl ⟨by rw[<- HE.out];exact g0.out,rfl,rfl,HE.out⟩⟩
 case pos =>
  subst hE0;have d9:xD d=0:=HE.out.symm;have d1:=Kh d9;clear d9;have H1:(kind<1\/7<kind\/most<0\/8<most)\/¬ (kind<1\/7<kind\/most<0\/8<most):=by omega
  rcases H1 with hbad|hgood
  ·have d8:=Kh hbad
   have hc:kind<1\/(¬ kind<1/\7<kind)\/(¬ kind<1/\¬ 7<kind/\most<0)\/(¬ kind<1/\¬ 7<kind/\¬ most<0/\8<most):=(by omega);clear hbad;rcases hc with h1|⟨h1,h2⟩|⟨h1,h2,h3⟩|⟨h1,h2,h3,h4⟩
   all_goals
    go_wp2;refine bodyPost_ret (v:=.tuple #[.int .i64 0,.int .i64 0,.int .i64 1]) (by simp[results,Try.results35,go_sem]) rfl ?_;exact⟨0,0,1,rfl,a5.out,.inr (.inl ⟨d1.out,d8.out,rfl,rfl,rfl⟩)⟩
  ·have h1:¬ kind<1:=by omega
   have h2:¬ 7<kind:=(by omega);have h3:¬ most<0:=(by omega);have h4:¬ 8<most:=(by omega);obtain⟨mo,f5⟩:∃ mo:Nat,most=(mo:Int):=⟨most.toNat,by omega⟩;subst f5;have c6:mo<=2:=by omega
   have b3:=Kh hgood;clear hgood hmost;obtain⟨l,hl⟩:∃ l,l=ordL kind mo:=⟨_,rfl⟩;have HL:=Kh hl;have h6:Hid (∀ (w':World) (k m E:Int),w.grownBy w' none->LeastR (uG d) kind d.letters l k m E->qCX w d kind (mo:Int) (.returned (.tuple #[.int .i64 k,.int .i64 m,.int .i64 E])) w'):=Kh (fun w' k m E hg h=>⟨k,m,E,rfl,hg,.inr (.inr ⟨d1.out,b3.out,by show LeastR _ _ _ (ordL kind mo) _ _ _;rw[<- HL.out];exact h⟩)⟩)
   have e9:Hid (∀ p:Int×Int,p∈l->fX (famL kind d.letters p.1 p.2)=true):=Kh (fun p hp=>by
    have hv:=dC d1.out;have:=hv.k1;have:=hv.k6;have:=hv.hk
    exact bI kind (by simp;omega) d.letters (by simp;omega) _ (qAW c6 (by rw[<- HL.out];exact hp)))
   clear hl;by_cases hk7:kind=7
   ·have f1:Hid (l=ordC mo):=Kh (by rw[HL.out,ordL,if_pos hk7])
    have e7:(kind != 7)=false:=by rw[hk7];rfl
    have e8:(kind == 1)=false:=by rw[hk7];rfl
    clear hk7;have b1:Hid (LPre (uG d) kind d.letters l (ordC 0)):=Kh LPre.nil;go_wp2
    go_loopg [11,12,13,14,15] mo (fun gh v11 v12 v13 v14 v15 wr=>∃ s:Nat,gh+s=mo+1/\1<=s/\v11=.int .i64 (s:Nat)/\w1.grownBy wr none/\Hid (LPre (uG d) kind d.letters l (ordC (s - 1))))
    case atStart=>exact⟨1,rfl,Nat.le_refl _,rfl,zL _ _,b1⟩
    case round =>
     clear b1;obtain⟨s,a8,f4,rfl,hg,H9⟩:=hrel;have a6:=Kh a8;have a0:=Kh hg;clear a8 hg;by_cases hs:s<=mo
     ·have c4:(s:Int)<=mo:=by omega
      have c5:max 1 (s - 4)=1:=by omega
      have a4:Hid (LPre (uG d) kind d.letters l (ordC (s - 1)++ordK s 1)):=Kh (by
       have e:ordK s 1=[]:=by rw[ordK,c5];rfl
       rw[e,List.append_nil];exact H9.out)
      have g1:=Kh c5;clear c5 H9;go_wp2
      go_loopg [12,13,14,15] s (fun gh v12 v13 v14 v15 wr=>∃ b:Nat,gh+b=s+1/\1<=b/\v12=.int .i64 (b:Nat)/\w1.grownBy wr none/\Hid (LPre (uG d) kind d.letters l (ordC (s - 1)++ordK s b)))
      case atStart=>exact⟨1,rfl,Nat.le_refl _,rfl,a0.out,a4⟩
      case round =>
       clear a0 a4;obtain⟨b,e3,H8,rfl,hg,H0⟩:=hrel;have d5:=Kh e3;have HG:=Kh hg;clear e3 hg;by_cases hb:b<=s
       ·have f7:(b:Int)<=s:=by omega
        have H3:Hid ((ordC (s - 1)++ordK s b)++[(((b:Nat):Int),((s:Nat):Int) - ((b:Nat):Int))] <+: l):=Kh (by rw[f1.out];exact ordCK_pre f4 hs (by rw[g1.out];exact H8) hb);have h5:Hid (fX (famL kind d.letters ((b:Nat):Int) (((s:Nat):Int) - ((b:Nat):Int)))=true):=Kh (e9.out (((b:Nat):Int),((s:Nat):Int) - ((b:Nat):Int)) (H3.out.subset (by simp)));have g5:¬ (4:Int)<(s:Int) - b:=(by omega);go_upto_region 19 with fail;have a3:Hid (Calls Try.prog 45 #[.int .i64 kind,.int .i64 dl,.int .i64 (((b:Nat):Int)),.int .i64 (((s:Nat):Int) - ((b:Nat):Int))] wr (vE wr (famE kind d.letters (((b:Nat):Int)) (((s:Nat):Int) - ((b:Nat):Int))) (famL kind d.letters (((b:Nat):Int)) (((s:Nat):Int) - ((b:Nat):Int))))):=Kh (by rw[<- f3.out];exact gU kind dl (((b:Nat):Int)) (((s:Nat):Int) - ((b:Nat):Int)) wr);obtain⟨F,hF⟩:∃ F,F=famE kind d.letters (((b:Nat):Int)) (((s:Nat):Int) - ((b:Nat):Int)):=⟨_,rfl⟩;obtain⟨PS,H4⟩:∃ x,x=famL kind d.letters (((b:Nat):Int)) (((s:Nat):Int) - ((b:Nat):Int)):=⟨_,rfl⟩;rw[<- hF,<- H4]at a3;rw[<- H4]at h5;have HF:=Kh hF;have a4:=Kh H4;obtain⟨c0,c1,c2,c3⟩:=zF (zB b8.out HG.out (by simp));have d4:=Kh (zA a5.out HG.out (by simp));clear hF H4;go_wp2_with fail;refine a3.out.mono ?_;rintro e w6 ⟨fs,fcap,svs,rfl,H5,a7,H7⟩;have a1:=Kh (zA d4.out H7 (by simp));have h7:=Kh (zD HG.out H7);obtain⟨fl6,h9⟩:∃ x,x=PS.length:=⟨_,rfl⟩;rw[<- h9];rw[<- h9]at H5;have b0:FamD w6 (.slice fs fl6 fcap) PS:=⟨h5.out,svs,H5,a7,fs,fcap,by rw[h9]⟩;have d2:=Kh b0.pats;have c7:fl6<=300:=by have:=(rZ h5.out).1;rw[vS]at this;omega
        have d6:=Kh h9;clear H5 a7 H7 b0 h9 c0 c1 c2 c3 a3;by_cases hF0:F=0
        case neg =>
         have e1:(F != 0)=true:=by rw[bne_iff_ne];exact hF0
         have d3:=Kh hF0;have h0:Hid (LeastR (uG d) kind d.letters l 0 0 F):=Kh (H0.out.here H3.out (fun r=>by rw[HF.out];exact .fam (p:=(((b:Nat):Int),((s:Nat):Int) - ((b:Nat):Int))) (by rw[<- HF.out];exact d3.out)));clear hF0;go_wp2;refine bodyPost_ret (v:=.tuple #[.int .i64 0,.int .i64 0,.int .i64 F]) (by simp[results,Try.results35,go_sem]) rfl ?_;exact h6.out _ 0 0 F a1.out h0.out
        case pos =>
         subst hF0;have b5:=Kh (bX w6.heap.size w6 _ _ d (famB PS) (Nat.le_refl _) ((d7.out.kept (zD f2.out h7.out) (by simp)).mono (by have:=a1.out.size;omega)) d2.out (by rw[vS,<- d6.out];omega) (fun q hq _=>by have:=(rZ h5.out).2 q hq;omega));obtain⟨c0,c1,c2,c3⟩:=zF (zB b8.out h7.out (by simp));go_wp2_with fail;refine b5.out.mono ?_;rintro e w7 ⟨cn,E,rfl,H6,H2⟩;have h8:Hid (uG d (famB (famL kind d.letters (((b:Nat):Int)) (((s:Nat):Int) - ((b:Nat):Int)))) E):=Kh (by rw[<- a4.out];exact⟨_,H2⟩);have b4:=Kh (zA a1.out H6 (by simp));have a2:=Kh (zD h7.out H6);clear H2 H6 b5 c0 c1 c2 c3;by_cases hE:E=0
         ·subst hE
          have h0:Hid (LeastR (uG d) kind d.letters l (((b:Nat):Int)) (((s:Nat):Int) - ((b:Nat):Int)) 0):=Kh (H0.out.here H3.out (fun r=>.ok (p:=(((b:Nat):Int),((s:Nat):Int) - ((b:Nat):Int))) HF.out.symm h8.out));go_wp2;refine bodyPost_ret (v:=.tuple #[.int .i64 (((b:Nat):Int)),.int .i64 (((s:Nat):Int) - ((b:Nat):Int)),.int .i64 0]) (by simp[results,Try.results35,go_sem]) rfl ?_;exact h6.out _ (((b:Nat):Int)) (((s:Nat):Int) - ((b:Nat):Int)) 0 b4.out h0.out
         ·by_cases hE20:E=20
          ·subst hE20
           have b2:Hid (LPre (uG d) kind d.letters l (ordC (s - 1)++ordK s (b+1))):=Kh (by rw[kP (by omega),<- List.append_assoc];exact H0.out.next H3.out HF.out.symm h8.out);go_wp2;go_roundg (s - b)
           case measure=>have:=d5.out;omega
           case rel=>exact⟨b+1,by have:=d5.out;omega,by omega,by go_num,a2.out,b2⟩
          ·have e1:(E == 0)=false:=by rw[beq_eq_false_iff_ne];exact hE
           have e2:(E != 20)=true:=by rw[bne_iff_ne];exact hE20
           have h0:Hid (LeastR (uG d) kind d.letters l 0 0 E):=Kh (H0.out.here H3.out (fun r=>.bad (p:=(((b:Nat):Int),((s:Nat):Int) - ((b:Nat):Int))) HF.out.symm h8.out hE hE20));clear hE hE20;go_wp2;refine bodyPost_ret (v:=.tuple #[.int .i64 0,.int .i64 0,.int .i64 E]) (by simp[results,Try.results35,go_sem]) rfl ?_;exact h6.out _ 0 0 E b4.out h0.out
       ·have f7:¬ (b:Int)<=s:=by omega
        have e6:b=s+1:=by have:=d5.out;omega
        have b2:Hid (LPre (uG d) kind d.letters l (ordC (s+1 - 1))):=Kh (by
         have e:=nN (s - 1);rw[show s - 1+1=s by omega,show s - 1+2=s+1 by omega]at e
         rw[Nat.add_sub_cancel,e,<- e6];exact H0.out)
        clear e6;go_wp2;go_roundg (mo - s)
        case measure=>have:=a6.out;omega
        case rel=>exact⟨s+1,by have:=a6.out;omega,by omega,by go_num,HG.out,b2⟩
     ·have c4:¬ (s:Int)<=mo:=by omega
      have b9:s=mo+1:=by have:=a6.out;omega
      have h0:Hid (LeastR (uG d) kind d.letters l 0 0 9):=Kh (by
       have h:=H9.out;rw[b9,Nat.add_sub_cancel,<- f1.out]at h
       exact h.done)
      have hg:=zA a5.out a0.out (by simp);go_wp2;refine bodyPost_ret (v:=.tuple #[.int .i64 0,.int .i64 0,.int .i64 9]) (by simp[results,Try.results35,go_sem]) rfl ?_;exact h6.out _ 0 0 9 hg h0.out
   ·obtain⟨f,hf⟩:∃ f:Nat,f=(if kind=1 then 0 else 1):=⟨_,rfl⟩
    have f0:Hid (l=ordO f (mo+1)):=Kh (by rw[HL.out,ordL,if_neg hk7,hf]);have g6:f<=1:=by rw[hf];split<;>omega
    have e7:(kind != 7)=true:=by rw[bne_iff_ne];exact hk7
    have H1:((kind == 1)=true/\((f:Nat):Int)=0)\/((kind == 1)=false/\((f:Nat):Int)=1):=by
     by_cases h1:kind=1
     ·rw[if_pos h1]at hf;exact .inl ⟨by rw[h1];rfl,by rw[hf];rfl⟩
     ·rw[if_neg h1]at hf;exact .inr ⟨by rw[beq_eq_false_iff_ne];exact h1,by rw[hf];rfl⟩
    clear hf hk7;have b1:Hid (LPre (uG d) kind d.letters l (ordO f f)):=Kh (by rw[ordO,Nat.sub_self];exact LPre.nil);rcases H1 with ⟨e2,q2⟩|⟨e2,q2⟩
    all_goals
     have Q2:=Kh q2;clear q2;go_wp2
     go_loopg [11,12,13,14,15] (mo+1 - f) (fun gh v11 v12 v13 v14 v15 wr=>∃ s:Nat,gh+s=mo+1/\f<=s/\v11=.int .i64 (s:Nat)/\w1.grownBy wr none/\Hid (LPre (uG d) kind d.letters l (ordO f s)))
     case atStart=>exact⟨f,by omega,Nat.le_refl _,by rw[Q2.out],zL _ _,b1⟩
     case round =>
      clear b1;obtain⟨s,a8,e4,rfl,hg,H0⟩:=hrel;have a6:=Kh a8;have a0:=Kh hg;clear a8 hg;by_cases hs:s<=mo
      ·have c4:(s:Int)<=mo:=by omega
       go_wp2
       go_loopg [12,13,14,15] 1 (fun gh v12 v13 v14 v15 wr=>(gh=1/\v12=.int .i64 (f:Nat)/\w1.grownBy wr none/\Hid (LPre (uG d) kind d.letters l (ordO f s)))\/(gh=0/\v12=.int .i64 ((s+1:Nat):Int)/\w1.grownBy wr none/\Hid (LPre (uG d) kind d.letters l (ordO f (s+1)))))
       case atStart=>exact .inl ⟨rfl,by rw[Q2.out],a0.out,H0⟩
       case round =>
        clear a0;rcases hrel with ⟨rfl,rfl,hg,HPR2⟩|⟨rfl,rfl,hg,HPR2⟩
        ·have HG:=Kh hg
         clear hg;have H3:Hid (ordO f s++[(((s:Nat):Int),0)] <+: l):=Kh (by rw[f0.out];exact ordO_pre e4 (by omega));have h5:Hid (fX (famL kind d.letters ((s:Nat):Int) 0)=true):=Kh (e9.out (((s:Nat):Int),0) (H3.out.subset (by simp)));have f6:((f:Nat):Int)<=s:=by omega
         clear Q2;go_upto_region 19 with fail;have a3:Hid (Calls Try.prog 45 #[.int .i64 kind,.int .i64 dl,.int .i64 (((s:Nat):Int)),.int .i64 (0)] wr (vE wr (famE kind d.letters (((s:Nat):Int)) (0)) (famL kind d.letters (((s:Nat):Int)) (0)))):=Kh (by rw[<- f3.out];exact gU kind dl (((s:Nat):Int)) (0) wr);obtain⟨F,hF⟩:∃ F,F=famE kind d.letters (((s:Nat):Int)) (0):=⟨_,rfl⟩;obtain⟨PS,H4⟩:∃ x,x=famL kind d.letters (((s:Nat):Int)) (0):=⟨_,rfl⟩;rw[<- hF,<- H4]at a3;rw[<- H4]at h5;have HF:=Kh hF;have a4:=Kh H4;obtain⟨c0,c1,c2,c3⟩:=zF (zB b8.out HG.out (by simp));have d4:=Kh (zA a5.out HG.out (by simp));clear hF H4;go_wp2_with fail;refine a3.out.mono ?_;rintro e w6 ⟨fs,fcap,svs,rfl,H5,a7,H7⟩;have a1:=Kh (zA d4.out H7 (by simp));have h7:=Kh (zD HG.out H7);obtain⟨fl6,h9⟩:∃ x,x=PS.length:=⟨_,rfl⟩;rw[<- h9];rw[<- h9]at H5;have b0:FamD w6 (.slice fs fl6 fcap) PS:=⟨h5.out,svs,H5,a7,fs,fcap,by rw[h9]⟩;have d2:=Kh b0.pats;have c7:fl6<=300:=by have:=(rZ h5.out).1;rw[vS]at this;omega
         have d6:=Kh h9;clear H5 a7 H7 b0 h9 c0 c1 c2 c3 a3;by_cases hF0:F=0
         case neg =>
          have e1:(F != 0)=true:=by rw[bne_iff_ne];exact hF0
          have d3:=Kh hF0;have h0:Hid (LeastR (uG d) kind d.letters l 0 0 F):=Kh (H0.out.here H3.out (fun r=>by rw[HF.out];exact .fam (p:=(((s:Nat):Int),0)) (by rw[<- HF.out];exact d3.out)));clear hF0;go_wp2;refine bodyPost_ret (v:=.tuple #[.int .i64 0,.int .i64 0,.int .i64 F]) (by simp[results,Try.results35,go_sem]) rfl ?_;exact h6.out _ 0 0 F a1.out h0.out
         case pos =>
          subst hF0;have b5:=Kh (bX w6.heap.size w6 _ _ d (famB PS) (Nat.le_refl _) ((d7.out.kept (zD f2.out h7.out) (by simp)).mono (by have:=a1.out.size;omega)) d2.out (by rw[vS,<- d6.out];omega) (fun q hq _=>by have:=(rZ h5.out).2 q hq;omega));obtain⟨c0,c1,c2,c3⟩:=zF (zB b8.out h7.out (by simp));go_wp2_with fail;refine b5.out.mono ?_;rintro e w7 ⟨cn,E,rfl,H6,H2⟩;have h8:Hid (uG d (famB (famL kind d.letters (((s:Nat):Int)) (0))) E):=Kh (by rw[<- a4.out];exact⟨_,H2⟩);have b4:=Kh (zA a1.out H6 (by simp));have a2:=Kh (zD h7.out H6);clear H2 H6 b5 c0 c1 c2 c3;by_cases hE:E=0
          ·subst hE
           have h0:Hid (LeastR (uG d) kind d.letters l (((s:Nat):Int)) (0) 0):=Kh (H0.out.here H3.out (fun r=>.ok (p:=(((s:Nat):Int),0)) HF.out.symm h8.out));go_wp2;refine bodyPost_ret (v:=.tuple #[.int .i64 (((s:Nat):Int)),.int .i64 (0),.int .i64 0]) (by simp[results,Try.results35,go_sem]) rfl ?_;exact h6.out _ (((s:Nat):Int)) (0) 0 b4.out h0.out
          ·by_cases hE20:E=20
           ·subst hE20
            have b2:Hid (LPre (uG d) kind d.letters l (ordO f (s+1))):=Kh (by rw[kO e4];exact H0.out.next H3.out HF.out.symm h8.out);go_wp2;go_roundg 0
            case measure=>omega
            case rel=>exact .inr ⟨rfl,by go_num,a2.out,b2⟩
           ·have e1:(E == 0)=false:=by rw[beq_eq_false_iff_ne];exact hE
            have e2:(E != 20)=true:=by rw[bne_iff_ne];exact hE20
            have h0:Hid (LeastR (uG d) kind d.letters l 0 0 E):=Kh (H0.out.here H3.out (fun r=>.bad (p:=(((s:Nat):Int),0)) HF.out.symm h8.out hE hE20));clear hE hE20;go_wp2;refine bodyPost_ret (v:=.tuple #[.int .i64 0,.int .i64 0,.int .i64 E]) (by simp[results,Try.results35,go_sem]) rfl ?_;exact h6.out _ 0 0 E b4.out h0.out
        ·have g4:¬ ((s+1:Nat):Int)<=(s:Nat):=by omega
         have HG:=Kh hg;clear hg;go_wp2;go_roundg (mo+1 - (s+1))
         case measure=>have:=a6.out;omega
         case rel=>exact⟨s+1,by omega,by omega,by go_num,HG.out,HPR2⟩
      ·have c4:¬ (s:Int)<=mo:=by omega
       have b9:s=mo+1:=by have:=a6.out;omega
       have h0:Hid (LeastR (uG d) kind d.letters l 0 0 9):=Kh (by
        have h:=H0.out;rw[b9,<- f0.out]at h
        exact h.done)
       have hg:=zA a5.out a0.out (by simp);go_wp2;refine bodyPost_ret (v:=.tuple #[.int .i64 0,.int .i64 0,.int .i64 9]) (by simp[results,Try.results35,go_sem]) rfl ?_;exact h6.out _ 0 0 9 hg h0.out
end Go.Proofs.Ytjfdomfendbhfaa
namespace Go.Proofs.Ytjfdomfendbhfaa
open Go.RowKit
def SomeB (w:World)(e:Ending)(w':World):Prop:=∃ b,e=.returned (.bool b)/\w.grownBy w' none
theorem few_any (Bd:Nat)(w:World)(v:Value)(d:DfaV)(hBd:Bd<=w.heap.size)(h:uW Bd w v d):Calls Try.prog 31 #[v] w (SomeB w):=by
 obtain⟨fv,nv,rfl,hf,hn⟩:=h;obtain⟨fa,fc,rfl⟩:=hf.shape;obtain⟨fl,H0⟩:∃ n,n=(bls d.final).length:=⟨_,rfl⟩;rw[<- H0];obtain⟨na,nc,rfl⟩:=hn.shape;obtain⟨nl,h3⟩:∃ n,n=d.next.length:=⟨_,rfl⟩;rw[<- h3]at hn ⊢;obtain⟨dl,H2⟩:∃ n,n=d.letters:=⟨_,rfl⟩;obtain⟨ds,H1⟩:∃ n,n=d.start:=⟨_,rfl⟩;rw[<- H2,<- H1];obtain⟨wA,h5⟩:∃ wA,wA=w.alloc (.cells #[.int .i64 dl,.int .i64 ds,.slice fa fl fc,.slice na nl nc] 42):=⟨_,rfl⟩;have h4:=Ga w (.cells #[.int .i64 dl,.int .i64 ds,.slice fa fl fc,.slice na nl nc] 42) none;have h2:=heap_alloc_new w (.cells #[.int .i64 dl,.int .i64 ds,.slice fa fl fc,.slice na nl nc] 42);obtain⟨Q,hQ⟩:∃ Q,Q=w.heap.size:=⟨_,rfl⟩;rw[<- h5]at h4 h2;rw[<- hQ]at h2;obtain⟨c0,c1,c2,c3⟩:=zF h2;have H8:=Kh hQ;have h7:=Kh h4;have H7:=Kh h5;have HN:=Kh hn;have H3:=Kh h3;clear h2 h4 h5 hQ hf hn H0 h3 H2 H1;go_enter Try.func31,Try.ntmps31;go_upto_region 1 with fail;rw[<- H7.out,<- H8.out];have h1:(40:Int)<fl\/(¬ (40:Int)<fl/\(40:Int)<nl)\/(¬ (40:Int)<fl/\¬ (40:Int)<nl):=by omega
 rcases h1 with q1|⟨q1,q2⟩|⟨q1,q2⟩
 ·go_wp2
  go_ret;exact⟨false,rfl,h7.out⟩
 ·go_wp2
  go_ret;exact⟨false,rfl,h7.out⟩
 ·go_wp2
  clear c0 c1 c2 c3 q1 q2
  go_loopg [4,18] nl (fun gh v4 v18 wr=>∃ i:Nat,gh+i=nl/\v18=.int .i64 (i:Nat)/\wA.grownBy wr none)
  case atStart=>exact⟨0,rfl,rfl,zL _ _⟩
  case round =>
   obtain⟨i,h9,rfl,hg⟩:=hrel;have H4:=Kh h9;have HG:=Kh hg;have h6:=Kh (zA h7.out hg (by simp));clear h9 hg;by_cases hi:i<nl
   ·have H5:(i:Int)<nl:=by omega
    rcases HN.out with ⟨a,c,e,h0⟩|⟨b,off,cap,A,C,e,hc1,hc2,hat⟩
    ·simp only[Value.slice.injEq]at e;omega
    ·simp only[Value.slice.injEq]at e
     obtain⟨rfl,e2,rfl⟩:=e;have H6:=xE (hat.hd i (by rw[<- H3.out];exact hi)) h6.out;have k3:nc<=9223372036854775807:=by unfold maxLen at hc2;omega
     have k4:nl<=nc:=by rw[H3.out];exact hc1
     obtain⟨ln,h8⟩:∃ x,x=(d.next.getD i []).length:=⟨_,rfl⟩;rw[<- h8]at H6;clear hat hc2 h8 e2 hc1;by_cases hl:(10:Int)<ln
     ·go_wp2
      go_ret;exact⟨false,rfl,h6.out⟩
     ·go_wp2
      go_roundg (nl - (i+1))
      case measure=>have:=H4.out;omega
      case rel=>exact⟨i+1,by have:=H4.out;omega,by go_num,HG.out⟩
   ·have H5:¬ (i:Int)<nl:=by omega
    go_wp2;go_ret;exact⟨true,rfl,h6.out⟩
open Go.Maps
theorem qFR:psF.length=7:=by decide +kernel
theorem qFQ:psP.length=2:=by decide +kernel
theorem smallF:∀ p∈psFL,∀ u∈p,u.length<=4096:=by decide
theorem smallP:∀ p∈psPL,∀ u∈p,u.length<=4096:=by decide
theorem qGT:acc dK 0 [0,1]=true/\acc dK 0 [1,0]=false/\acc dK 0 [1,1]=false:=by decide +kernel
theorem knF {w':World}{v:Value}{u1 u2:ByteArray}{E:Int}(h:OfOut w' dK psF v u1 u2 E):E=0/\∃ g,dG w'.heap.size w' v g/\∀ s,zY s 2=true->diaH g s=acc dK 0 (zI s):=by
 cases h with
 | bad h=>exact absurd ofEF h
 | over h ho=>exact(pG underF ho).elim
 | conf h hu hc=>exact(noConfF (by rw[<- qFR];exact hc)).elim
 | ok _ g l L h hL hl4 hn hg h1 h2 h3 h4 h5 hc h6=>exact⟨rfl,g,hg,fun s hs=>of_holds h h1 h2 h3 h4 (by have:=hc.len_le;omega) h5 hs⟩
theorem knP {w':World}{v:Value}{u1 u2:ByteArray}{E:Int}(h:OfOut w' dK psP v u1 u2 E):E=20/\v=.agg #[.slice none 0 0,.slice none 0 0,.int .i64 0]/\∃ u v,u1=strOfNums (lets u)/\u2=strOfNums (lets v)/\yJ 2 u/\yJ 2 v/\u.length<=4000/\v.length<=4000/\acc dK 0 u=true/\acc dK 0 v=false:=by
 cases h with
 | bad h=>exact absurd ofEP h
 | over h ho=>exact(pG underP ho).elim
 | conf h hu hc u v h1 h2 h3 h4 h5 h6 h7=>exact⟨rfl,rfl,u,v,rfl,rfl,h1,h2,h3,h4,h6,h7⟩
 | ok _ g l L h hL hl4 hn=>exact(hn (by rw[qFQ];exact confP)).elim
theorem known34_any (w:World)(hL:pF w):Calls Try.prog 13 #[] w fun e w'=>e=.returned (.bool true)/\w.grownBy w' none:=by
 obtain⟨w5,d4,e2,f0,b8⟩:=dK_lit w;have H8:=Ga w5 (.cells #[.int .i64 2,.int .i64 0,.slice (some ⟨w.heap.size,0,none⟩) 3 3,.slice (some ⟨w.heap.size+1+1+1+1,0,none⟩) 3 3] 42) none;have H6:=heap_alloc_new w5 (.cells #[.int .i64 2,.int .i64 0,.slice (some ⟨w.heap.size,0,none⟩) 3 3,.slice (some ⟨w.heap.size+1+1+1+1,0,none⟩) 3 3] 42);obtain⟨w6,a9⟩:∃ w6,w6=w5.alloc (.cells #[.int .i64 2,.int .i64 0,.slice (some ⟨w.heap.size,0,none⟩) 3 3,.slice (some ⟨w.heap.size+1+1+1+1,0,none⟩) 3 3] 42):=⟨_,rfl⟩;rw[<- a9]at H8 H6;obtain⟨fb,b7⟩:∃ b,b=w.heap.size:=⟨_,rfl⟩;obtain⟨nb,b4⟩:∃ b,b=w.heap.size+1+1+1+1:=⟨_,rfl⟩;obtain⟨P,hP⟩:∃ b,b=w.heap.size+1+1+1+1+1:=⟨_,rfl⟩;have f5:=Kh d4;have e3:=Kh a9;have f9:=Kh b7;have f7:=Kh b4;have HP:=Kh hP;rw[<- b4,<- b7]at b8 H6 e3;rw[show w5.heap.size=P by omega]at H6;have e9:=Kh H6;have HD:=Kh (b8.kept H8 (by simp));have e6:=Kh (zA e2 H8 (by simp));have HZ:Hid (w5.heap.size<=w6.heap.size):=Kh H8.size;have HL:=Kh hL;obtain⟨c0,c1,c2,c3⟩:=zF H6;clear d4 e2 f0 b8 H8 H6 a9 b7 b4 hP;go_enter Try.func13,Try.ntmps13;go_upto_region 2 with fail;rw[<- f5.out,<- HP.out,<- f7.out,<- f9.out,<- e3.out]
 have e8:Hid (∀ W:World,Calls Try.prog 45 #[.int .i64 5,.int .i64 2,.int .i64 1,.int .i64 0] W (vE W 0 psFL)):=Kh (fun W=>by
  have h:=qCJ 5 2 1 0 W (by decide);rw[show famE 5 ((2:Nat):Int) ((1:Nat):Int) ((0:Nat):Int)=0 from famFE,show famL 5 ((2:Nat):Int) ((1:Nat):Int) ((0:Nat):Int)=psFL from famF]at h
  exact h)
 have e7:Hid (∀ W:World,Calls Try.prog 45 #[.int .i64 6,.int .i64 2,.int .i64 1,.int .i64 0] W (vE W 0 psPL)):=Kh (fun W=>by
  have h:=qCJ 6 2 1 0 W (by decide);rw[show famE 6 ((2:Nat):Int) ((1:Nat):Int) ((0:Nat):Int)=0 from famPE,show famL 6 ((2:Nat):Int) ((1:Nat):Int) ((0:Nat):Int)=psPL from famPP]at h
  exact h)
 have H2:Hid (∀ (W:World) (pv:Value) (ps:List (List ByteArray)),w6.grownBy W none->PatsIn W.heap.size W pv ps->ps.length<=4096->Calls Try.prog 19 #[.agg #[.int .i64 2,.int .i64 0,.slice (some ⟨fb,0,none⟩) 3 3,.slice (some ⟨nb,0,none⟩) 3 3],pv] W (qIQ W dK ps)):=Kh (fun W pv ps hW hp h4=>qGK W.heap.size W _ pv dK ps (Nat.le_refl _) ((HD.out.kept hW (by simp)).mono (by have:=HZ.out;have:=hW.size;omega)) hp h4);go_wp2_with fail;refine(e8.out _).mono ?_;rintro e w7 ⟨sa,sc,svs,rfl,h7,H7,b6⟩;have c5:=Kh (lM h7 H7 smallF);have e5:=Kh b6;have g3:=Kh (zB e9.out b6 (by simp));obtain⟨c0,c1,c2,c3⟩:=zF g3.out;have f3:psFL.length=7:=rfl;rw[f3]at c5 ⊢;clear h7 H7 b6 e8;go_wp2_with fail;refine(H2.out _ _ psF e5.out c5.out (by rw[qFR];omega)).mono ?_;rintro e w8 ⟨v8,u1,u2,E8,rfl,h0,e1⟩;obtain⟨rfl,g,H1,hh⟩:=knF h0;obtain⟨ap,cp,ac,cc,rfl⟩:=eN H1;have a5:=Kh H1;have HH:=Kh hh;have e4:=Kh (zA e5.out e1 (by simp));obtain⟨m1,e0⟩:∃ m,m=g.pats.length:=⟨_,rfl⟩;obtain⟨m2,d9⟩:∃ m,m=g.chos.length:=⟨_,rfl⟩;obtain⟨rt,h7⟩:∃ m,m=g.root:=⟨_,rfl⟩;rw[<- e0,<- d9,<- h7]at a5 ⊢;have a6:=Ga w8 (.cells #[.slice ap m1 cp,.slice ac m2 cc,.int .i64 rt] 25) none;have a7:=heap_alloc_new w8 (.cells #[.slice ap m1 cp,.slice ac m2 cc,.int .i64 rt] 25);obtain⟨w9,a8⟩:∃ w9,w9=w8.alloc (.cells #[.slice ap m1 cp,.slice ac m2 cc,.int .i64 rt] 25):=⟨_,rfl⟩;obtain⟨R,hR⟩:∃ R,R=w8.heap.size:=⟨_,rfl⟩;rw[<- a8]at a6 a7;rw[<- hR]at a7;have f4:=Kh a8;have f6:=Kh hR;have g2:=Kh a7;have c7:=Kh a6;have f8:=Kh (zA e4.out a6 (by simp));clear h0 e1 H1 hh e0 d9 h7 a6 a7 a8 hR c0 c1 c2 c3 c5;go_upto_region 4 with fail;rw[<- f4.out,<- f6.out];go_wp2_with fail;refine(e7.out _).mono ?_;rintro e w10 ⟨sb,sd,svs2,rfl,h7,H7,h6⟩;have c4:=Kh (lM h7 H7 smallP);have a2:=Kh (zD c7.out h6);have a4:=Kh h6;have H4:=Kh (zA f8.out h6 (by simp));obtain⟨c0,c1,c2,c3⟩:=zF (zB e9.out H4.out (by simp));have b5:psPL.length=2:=rfl;rw[b5]at c4 ⊢;clear h7 H7 h6 e7;go_wp2_with fail;refine(H2.out _ _ psP H4.out c4.out (by rw[qFQ];omega)).mono ?_;rintro e w11 ⟨v11,s1,s2,E11,rfl,h0,h5⟩;obtain⟨rfl,rfl,u,v,b3,b2,d8,d6,b1,b0,d7,d5⟩:=knP h0
 have g1:Hid (∀ W:World,Calls Try.prog 46 #[.string s1] W fun e w'=>e=.returned (.bool true)/\W=w'):=Kh (fun W=>by
  have:=qEK W u d8 b1
  rwa [<- b3,d7]at this)
 have g0:Hid (∀ W:World,Calls Try.prog 46 #[.string s2] W fun e w'=>e=.returned (.bool false)/\W=w'):=Kh (fun W=>by
  have:=qEK W v d6 b0
  rwa [<- b2,d5]at this)
 have g8:s1.size<=4000:=by rw[b3,strOfNums_size];simpa [lets] using b1
 have g7:s2.size<=4000:=by rw[b2,strOfNums_size];simpa [lets] using b0
 have a1:=Kh (zD a2.out h5);have H3:=Kh h5;have d2:=Kh (zA H4.out h5 (by simp));clear h0 h5 b3 b2 d8 d6 b1 b0 d7 d5 c0 c1 c2 c3 c4 H2;obtain⟨w12,H0⟩:∃ w12,w12=w11.alloc (.cells #[.slice none 0 0,.slice none 0 0,.int .i64 0] 25):=⟨_,rfl⟩;have h2:=Ga w11 (.cells #[.slice none 0 0,.slice none 0 0,.int .i64 0] 25) none;rw[<- H0]at h2;have b9:=Kh H0;have h9:=Kh (zD a1.out h2);have d1:=Kh (zA d2.out h2 (by simp))
 have c6:Hid (∀ (W:World) (s:ByteArray) (b:Bool),w8.grownBy W none->s.size<=maxLen->diaH g s=b->Calls Try.prog 11 #[.agg #[.slice ap m1 cp,.slice ac m2 cc,.int .i64 rt],.string s] W fun e w'=>e=.returned (.bool b)/\W.grownBy w' none):=Kh (fun W s b hW hs hb=>by
  have:=cholds_any w8.heap.size W _ g s hW.size (a5.out.kept hW (by simp)) hs (HL.out.kept (zA (zA e6.out e4.out (by simp)) hW (by simp)) (by simp))
  rwa [hb]at this)
 have g6:Hid (diaH g ⟨#[97,98]⟩=true):=Kh (by rw[HH.out _ (by decide)];exact qGT.1);have g5:Hid (diaH g ⟨#[98,97]⟩=false):=Kh (by rw[HH.out _ (by decide)];exact qGT.2.1);have g4:Hid (diaH g ⟨#[98,98]⟩=false):=Kh (by rw[HH.out _ (by decide)];exact qGT.2.2);have hm:(2:Nat)<=maxLen:=by unfold maxLen;omega
 have a3:Hid (w9.grownBy w12 none):=Kh (zD (zD a4.out H3.out) h2);have H5:=Kh (zB g2.out (a3.out) (by simp));clear H0 h2;go_upto_region 6 with fail;rw[<- b9.out];obtain⟨x0,x1,x2⟩:=zM H5.out;go_wp2_with fail;refine(c6.out _ ⟨#[97,98]⟩ true h9.out hm g6.out).mono ?_;rintro e w13 ⟨rfl,h1⟩;have h8:=Kh (zD h9.out h1);have d0:=Kh (zA d1.out h1 (by simp));obtain⟨x0,x1,x2⟩:=zM (zB H5.out h1 (by simp));have d3:=Kh (zB H5.out h1 (by simp));clear h1;go_wp2_with fail;refine(c6.out _ ⟨#[98,97]⟩ false h8.out hm g5.out).mono ?_;rintro e w14 ⟨rfl,h3⟩;have a0:=Kh (zD h8.out h3);have c9:=Kh (zA d0.out h3 (by simp));obtain⟨x0,x1,x2⟩:=zM (zB d3.out h3 (by simp));clear h3;go_wp2_with fail;refine(c6.out _ ⟨#[98,98]⟩ false a0.out hm g4.out).mono ?_;rintro e w15 ⟨rfl,H9⟩;have c8:=Kh (zA c9.out H9 (by simp));clear H9 x0 x1 x2;go_wp2_with fail;refine(g1.out _).mono ?_;rintro e w15 ⟨rfl,rfl⟩;go_wp2_with fail;refine(g0.out _).mono ?_;rintro e w15 ⟨rfl,rfl⟩;have f2:(s1.size:Int)<=4000:=by omega
 have f1:(s2.size:Int)<=4000:=by omega
 go_wp2;go_ret;exact⟨rfl,zA e6.out c8.out (by simp)⟩
theorem combineErrors_walk (w:World)(dv pv:Value)(d:DfaV)(ps:List (List ByteArray))(kind most:Int)(hd:uW w.heap.size w dv d)(hp:PatsIn w.heap.size w pv ps)(hL:pF w):
  Calls Try.prog 8 #[dv,pv,.int .i64 kind,.int .i64 most] w fun e w'=>e=.returned (.bool true)/\w.grownBy w' none:=by
 have HL:=Kh hL;clear hL;have b2:=hd;obtain⟨fv,nv,rfl,hf,hn⟩:=hd;obtain⟨fa,fc,rfl⟩:=hf.shape;rw[yL]at b2 hf ⊢;obtain⟨na,nc,rfl⟩:=hn.shape;obtain⟨pa,pc,rfl⟩:=hp.shape;obtain⟨np,c6⟩:∃ n,n=ps.length:=⟨_,rfl⟩;obtain⟨fl,g2⟩:∃ n,n=d.final.length:=⟨_,rfl⟩;obtain⟨nl,f1⟩:∃ n,n=d.next.length:=⟨_,rfl⟩;obtain⟨dl,d5⟩:∃ n,n=d.letters:=⟨_,rfl⟩;obtain⟨ds,g3⟩:∃ n,n=d.start:=⟨_,rfl⟩;have k4:=Kh d5;have H5:=Kh c6;have HP:=Kh hp;rw[<- c6]at HP ⊢;rw[<- g2,<- f1,<- d5,<- g3]at b2 ⊢;obtain⟨wA,d6⟩:∃ wA,wA=w.alloc (.cells #[.int .i64 dl,.int .i64 ds,.slice fa fl fc,.slice na nl nc] 42):=⟨_,rfl⟩;have H3:=Ga w (.cells #[.int .i64 dl,.int .i64 ds,.slice fa fl fc,.slice na nl nc] 42) none;have a3:=heap_alloc_new w (.cells #[.int .i64 dl,.int .i64 ds,.slice fa fl fc,.slice na nl nc] 42);obtain⟨Q,hQ⟩:∃ Q,Q=w.heap.size:=⟨_,rfl⟩;rw[<- d6]at H3 a3;rw[<- hQ]at a3;obtain⟨c0,c1,c2,c3⟩:=zF a3;have j1:=Kh hQ;have g9:=Kh a3;have a9:=Kh H3;have i7:=Kh d6;have H7:=Kh (b2.kept H3 (by simp));have e0:=Kh (HP.out.kept H3 (by simp));have e9:=Kh (few_any w.heap.size wA _ d H3.size H7.out);have g4:Hid (∀ W:World,wA.grownBy W none->Calls Try.prog 32 #[.agg #[.int .i64 dl,.int .i64 ds,.slice fa fl fc,.slice na nl nc]] W fun e w'=>e=.returned (.int .i64 (xD d))/\wA.grownBy w' none):=Kh (fun W hW=>(pV w.heap.size W _ d (Nat.le_trans a9.out.size hW.size) (H7.out.kept hW (by simp))).mono fun e w' h=>⟨h.1,zD hW h.2⟩);clear a3 H3 d6 hQ hf hn b2 g2 f1 d5 g3 c6 hp;go_enter Try.func8,Try.ntmps8;go_upto_region 1 with fail;rw[<- i7.out,<- j1.out];go_cut [45] (fun v wx=>∃ b:Bool,v=.bool b/\Hid (b=false->np<=5)/\wA.grownBy wx none)
 case first =>
  go_wp2_with fail;refine e9.out.mono ?_;rintro e w1 ⟨b1,rfl,d4⟩;have b5:=Kh d4;obtain⟨c0,c1,c2,c3⟩:=zF (zB g9.out d4 (by simp));clear d4 e9;cases b1 with
  | false =>
   go_wp2
   go_meet
   exact⟨_,rfl,Kh (fun h=>by cases h),b5.out⟩
  | true =>
   by_cases h5:(5:Int)<np
   ·go_wp2
    go_meet
    exact⟨_,rfl,Kh (fun h=>by cases h),b5.out⟩
   ·have b3:Hid (np<=5):=Kh (by omega)
    by_cases h4:(4:Int)<fl
    ·obtain⟨E,hE⟩:∃ E,E=xD d:=⟨_,rfl⟩
     have a5:=Kh (g4.out w1 b5.out);rw[<- hE]at a5;clear hE;go_wp2_with fail;refine a5.out.mono ?_;rintro e w2 ⟨rfl,i2⟩;clear c0 c1 c2 c3;go_wp2
     go_meet
     exact⟨_,rfl,Kh (fun _=>b3.out),i2⟩
    ·go_wp2
     go_meet
     exact⟨_,rfl,Kh (fun _=>b3.out),b5.out⟩
 case rest =>
  obtain⟨b,rfl,c7,f7⟩:=hcut;have e4:=Kh f7;have b3:=c7;clear f7 e9 g4 c7;cases b with
  | true =>
   have c9:=zA a9.out e4.out (by simp);go_wp2;go_ret;exact⟨rfl,c9⟩
  | false =>
   have c7:=b3.out rfl;go_wp2
   go_loopg [10,11,13,48] np (fun gh v10 v11 v13 v48 wr=>∃ i:Nat,gh+i=np/\v48=.int .i64 (i:Nat)/\wA.grownBy wr none/\Hid (∀ j,j<i->patW (ps.getD j []) 6=0->sG (ps.getD j [])<=8))
   case atStart=>exact⟨0,rfl,rfl,e4.out,Kh (fun j hj=>by omega)⟩
   case round =>
    clear e4;obtain⟨i,f8,rfl,hg,a6⟩:=hrel;have a8:=Kh f8;have HG:=Kh hg;have H6:=Kh (zA a9.out hg (by simp));clear f8;by_cases hi:i<np
    ·have i1:(i:Int)<np:=by omega
     obtain⟨b,off,cap,e,k3,i4,i3,a4⟩:=(e0.out.kept hg (by simp)).at_ (by rw[<- H5.out];omega);rw[<- H5.out]at e i4;simp only[Value.slice.injEq]at e;obtain⟨rfl,-,rfl⟩:=e;obtain⟨sa,sc,ch,h0,c5⟩:=a4 i (by rw[<- H5.out];exact hi);obtain⟨u,hu⟩:∃ u,u=ps.getD i []:=⟨_,rfl⟩;rw[<- hu]at ch h0 c5;obtain⟨ul,b9⟩:∃ x,x=u.length:=⟨_,rfl⟩;rw[<- b9]at ch h0;have k1:pc<=9223372036854775807:=by unfold maxLen at i3;omega
     have H8:ul<=maxLen:=by have:=h0.len_le;rw[zX]at this;omega
     have f0:ul<=9223372036854775807:=by unfold maxLen at H8;omega
     have a2:=heap_alloc_new wr (.cells #[.slice sa ul sc] 28);have b0:=Ga wr (.cells #[.slice sa ul sc] 28) none;obtain⟨w5,b8⟩:∃ w5,w5=wr.alloc (.cells #[.slice sa ul sc] 28):=⟨_,rfl⟩;obtain⟨X,hX⟩:∃ X,X=wr.heap.size:=⟨_,rfl⟩;rw[<- b8]at a2 b0;rw[<- hX]at a2;have i9:=Kh b8;have i6:=Kh hX;have k6:=Kh a2;have HU:=Kh hu;have H4:=Kh b9;have g5:=Kh c5;have a7:=Kh (h0.kept b0 (by simp));have e7:=Kh (zD HG.out b0);have x0:w5.cell? ⟨X,0,none⟩=some (.slice sa ul sc):=by simpa using zH a2 0 (by simp)
     clear a4 h0 c5 b8 hX a2 b0 hu b9 hg H8;go_upto_region 6 with fail;rw[<- i9.out,<- i6.out];clear ch;go_wp2
     go_loopg [11,13,55] ul (fun gh v11 v13 v55 wx=>w5=wx/\∃ k:Nat,gh+k=ul/\v55=.int .i64 k/\v11=.int .i64 (totW (u.take k)))
     case atStart=>exact⟨rfl,0,rfl,rfl,rfl⟩
     case round =>
      obtain⟨rfl,k,f9,rfl,rfl⟩:=hrel;have b4:=Kh f9;clear f9;by_cases hlt:k<ul
      ·have c8:(k:Int)<ul:=by omega
       obtain⟨kb,off2,kc,e,_,i0,f6,f5⟩:=a7.out.some_ (by rw[zX,<- H4.out];omega);rw[zX,<- H4.out]at e i0;simp only[Value.slice.injEq]at e;obtain⟨rfl,_,rfl⟩:=e;have hc:=vU f5 k (by rw[<- H4.out];exact hlt);have g6:=Kh (kD u k (by rw[<- H4.out];exact hlt));obtain⟨s,hs⟩:∃ s,s=u.getD k ⟨#[]⟩:=⟨_,rfl⟩
       have k0:s.size<=9223372036854775807:=by
        have h7:k<u.length:=(by rw[<- H4.out];exact hlt);rw[hs,zG h7];have:=g5.out k h7;unfold maxLen at this;omega
       have k5:sc<=9223372036854775807:=by unfold maxLen at f6;omega
       rw[<- hs]at hc g6;clear f5 hs f6;go_wp2;go_roundg (ul - (k+1))
       case measure=>have:=b4.out;omega
       case rel=>exact⟨rfl,k+1,by have:=b4.out;omega,by go_num,by rw[g6.out]⟩
      ·have c8:¬ (k:Int)<ul:=by omega
       have f4:k=ul:=by have:=b4.out;omega
       have HT:Hid (totW (u.take k)=totW u):=Kh (by rw[f4,H4.out,List.take_length]);rw[HT.out];clear f4 b4 hlt;obtain⟨tw,c4⟩:∃ tw,tw=totW u:=⟨_,rfl⟩;rw[<- c4];have j0:=Kh c4;clear c4;have a5:Hid (Calls Try.prog 33 #[.agg #[.slice sa ul sc],.int .i64 6] w5 fun e w'=>e=.returned (.int .i64 (patW u 6))/\w5.grownBy w' none):=Kh (gR w.heap.size w5 _ u 6 a7.out g5.out);obtain⟨E2,d7⟩:∃ E,E=patW u 6:=⟨_,rfl⟩;rw[<- d7]at a5;have j8:=Kh d7;clear d7;have H0:=zA a9.out e7.out (by simp)
       have g7:Hid (∀ (b:Bool),((8<tw)->E2≠0)->∀ j,j<i+1->patW (ps.getD j []) 6=0->sG (ps.getD j [])<=8):=Kh (fun _ h1 j hj hp0=>by
        rcases Nat.lt_succ_iff_lt_or_eq.1 hj with hj|rfl
        ·exact a6.out j hj hp0
        ·rw[<- HU.out]at hp0 ⊢
         obtain⟨_,h4,_,_,h5⟩:=jP hp0;have h6:=bP h4 h5;have:=j0.out;by_cases h8:8<tw
         ·exact absurd (j8.out.trans hp0) (h1 h8)
         ·omega)
       by_cases h12:(12:Int)<ul
       ·go_wp2
        go_ret;exact⟨rfl,H0⟩
       ·by_cases h8:8<tw
        ·clear H0
         go_wp2_with fail;refine a5.out.mono ?_;rintro e w6 ⟨rfl,H9⟩;have g8:=Kh (zD e7.out H9);have h9:=zA a9.out g8.out (by simp);clear H9;by_cases hE0:E2=0
         ·have e1:(E2 == 0)=true:=by rw[hE0];rfl
          clear hE0;go_wp2;go_ret;exact⟨rfl,h9⟩
         ·have e1:(E2 == 0)=false:=by rw[beq_eq_false_iff_ne];exact hE0
          have e3:=Kh (g7.out true (fun _=>hE0));clear hE0;by_cases d8:100<tw
          ·go_wp2
           go_ret;exact⟨rfl,h9⟩
          ·clear h9
           go_wp2;go_roundg (np - (i+1))
           case measure=>have:=a8.out;omega
           case rel=>exact⟨i+1,by have:=a8.out;omega,by go_num,g8.out,e3⟩
        ·have d8:¬ 100<tw:=by omega
         have e3:=Kh (g7.out true (fun h=>absurd h h8));clear H0;go_wp2;go_roundg (np - (i+1))
         case measure=>have:=a8.out;omega
         case rel=>exact⟨i+1,by have:=a8.out;omega,by go_num,e7.out,e3⟩
    ·have i1:¬ (i:Int)<np:=by omega
     have j7:Hid (i=np):=Kh (by have:=a8.out;omega);go_upto_region 15 with fail;go_cut [87] (fun v wx=>v=.bool (decide (2<most/\most<=8))/\wr=wx)
     case first =>
      by_cases hm1:2<most
      ·have HM:=Kh hm1
       go_wp2
       go_meet
       exact⟨congrArg Value.bool (by simp[HM.out]),rfl⟩
      ·have HM:=Kh hm1
       go_wp2
       go_meet
       exact⟨congrArg Value.bool (by simp[HM.out];have:=HM.out;omega),rfl⟩
     case rest =>
      obtain⟨rfl,rfl⟩:=hcut
      go_upto_if 87 with fail
      go_cut [3] (fun v wx=>∃ mo:Int,v=.int .i64 mo/\(mo<=2\/8<mo)/\wr=wx)
      case first =>
       by_cases hc:2<most/\most<=8
       ·rw[decide_eq_true hc]
        clear hc;go_wp2
        go_meet
        exact⟨2,rfl,by omega,rfl⟩
       ·rw[decide_eq_false hc]
        have HC:=Kh hc;clear hc;go_wp2
        go_meet
        exact⟨most,rfl,by have:=HC.out;omega,rfl⟩
      case rest =>
       obtain⟨mo,rfl,hM,rfl⟩:=hcut;have j2:=Kh (qGK w.heap.size wr _ _ d ps H6.out.size (H7.out.kept hg (by simp)) (e0.out.kept hg (by simp)) (by rw[<- H5.out];omega))
       have j9:Hid (∀ W:World,wr.grownBy W none->Calls Try.prog 20 #[.agg #[.int .i64 dl,.int .i64 ds,.slice fa fl fc,.slice na nl nc],.slice pa np pc] W (qIF W d ps)):=Kh (fun W hW=>bX w.heap.size W _ _ d ps (Nat.le_trans H6.out.size hW.size) ((H7.out.kept HG.out (by simp)).kept hW (by simp)) ((e0.out.kept HG.out (by simp)).kept hW (by simp)) (by rw[<- H5.out];omega) (fun p hp hp0=>by
        obtain⟨j,hj,rfl⟩:=List.getElem_of_mem hp;have k2:=(jP hp0).1;have:=a6.out j (by rw[j7.out,H5.out];exact hj) (by rw[zG hj];exact qAS hp0 (by omega));rw[zG hj]at this
        omega))
       have j4:Hid (∀ W:World,wr.grownBy W none->Calls Try.prog 34 #[.agg #[.int .i64 dl,.int .i64 ds,.slice fa fl fc,.slice na nl nc],.int .i64 kind,.int .i64 mo] W (qIB W d kind mo)):=Kh (fun W hW=>cleast_any w.heap.size W _ d kind mo (Nat.le_trans H6.out.size hW.size) ((H7.out.kept HG.out (by simp)).kept hW (by simp)) hM);have j3:Hid (∀ W:World,wr.grownBy W none->Calls Try.prog 35 #[.agg #[.int .i64 dl,.int .i64 ds,.slice fa fl fc,.slice na nl nc],.int .i64 kind,.int .i64 mo] W (qCX W d kind mo)):=Kh (fun W hW=>rleast_any w.heap.size W _ d kind mo (Nat.le_trans H6.out.size hW.size) ((H7.out.kept HG.out (by simp)).kept hW (by simp)) hM);have j6:Hid (∀ W:World,wr.grownBy W none->Calls Try.prog 13 #[] W fun e w'=>e=.returned (.bool true)/\wr.grownBy w' none):=Kh (fun W hW=>(known34_any W (HL.out.kept (zD H6.out hW) (by simp))).mono fun e w' h=>⟨h.1,zD hW h.2⟩);have b6:=Kh (zB g9.out hg (by simp));clear hg hM;obtain⟨c0,c1,c2,c3⟩:=zF b6.out;go_wp2_with fail;refine j2.out.mono ?_;rintro e w6 ⟨v6,s1,s2,E1,rfl,h3,H9⟩;obtain⟨⟨ap,n1,cp,ac,n2,cc,rt,rfl⟩,-⟩:=qDV h3;have e2:=Kh h3;obtain⟨w7,b7⟩:∃ w7,w7=w6.alloc (.cells #[.slice ap n1 cp,.slice ac n2 cc,.int .i64 rt] 25):=⟨_,rfl⟩;have d0:=Ga w6 (.cells #[.slice ap n1 cp,.slice ac n2 cc,.int .i64 rt] 25) none;rw[<- b7]at d0;have i8:=Kh b7;have e6:=Kh (zD H9 d0);clear h3 H9 d0 b7 c0 c1 c2 c3;go_upto_region 18 with fail;rw[<- i8.out];obtain⟨c0,c1,c2,c3⟩:=zF (zB b6.out e6.out (by simp));go_wp2_with fail;refine(j9.out _ e6.out).mono ?_;rintro e w8 ⟨cn,F1,rfl,g1,a1⟩;have i5:=qHN e2.out a1;subst i5;have e5:=Kh (zD e6.out g1);clear a1 g1 c0 c1 c2 c3;obtain⟨c0,c1,c2,c3⟩:=zF (zB b6.out e5.out (by simp));go_wp2_with fail;refine(j4.out _ e5.out).mono ?_;rintro e w9 ⟨la,lb,m1,d1,m2,d2,lr,lk,lm,lE,rfl,g0,f3⟩;have j5:=Kh f3;obtain⟨w10,h2⟩:∃ w10,w10=w9.alloc (.cells #[.slice la m1 d1,.slice lb m2 d2,.int .i64 lr] 25):=⟨_,rfl⟩;have H1:=Ga w9 (.cells #[.slice la m1 d1,.slice lb m2 d2,.int .i64 lr] 25) none;rw[<- h2]at H1;have d9:=Kh h2;have H2:=Kh (zD e5.out (zD g0 H1));clear f3 g0 H1 h2 c0 c1 c2 c3;go_upto_region 20 with fail;rw[<- d9.out];obtain⟨c0,c1,c2,c3⟩:=zF (zB b6.out H2.out (by simp));go_wp2_with fail;refine(j3.out _ H2.out).mono ?_;rintro e w11 ⟨qk,qm,qE,rfl,a0,f2⟩;obtain⟨rfl,rfl,rfl⟩:=leastOut_same j5.out f2;have e8:=Kh (zD H2.out a0);have t1:(E1 == E1)=true:=by simp
       have t2:(lE == lE)=true:=by simp
       have t3:(lk == lk)=true:=by simp
       have t4:(lm == lm)=true:=by simp
       clear f2 a0 c0 c1 c2 c3;go_wp2_with fail;refine(j6.out _ e8.out).mono ?_;rintro e w12 ⟨rfl,d3⟩;go_wp2;go_ret;exact⟨rfl,zD H6.out d3⟩
end Go.Proofs.Ytjfdomfendbhfaa
namespace Go.Proofs.Ytjfdomfendbhfaa
open Go.ChangeShapes Go.RowKit Go.WideShapes
section
variable {H:Type} {enc:TypeId×Value->H} {w:World} {fuel:Nat} {cs:List Value} {x:DataW H×List MemPlace}
theorem open_txt {t e:TypeId}{base:Nat}{held:Bool}{P:Program}(ht:P.underlying t=some (.slice e))(he:P.underlying e=some .string)(hc:P.cellsOf e=1)(h:DataW.trod enc P w base (fun _=>true) held fuel t cs=some x):∃ (v:Value) (bs:List ByteArray),cs=[v]/\Row w.heap.size w v (txtV bs)/\∀ i (hi:i<bs.length),bs[i].size<=maxLen:=by
 rcases open_strings ht he hc h with ⟨hcs,_⟩|⟨a,l,c,ss,hcs,_,hl,hm,hz,_,hcell,hsz⟩
 ·exact⟨_,[],hcs,.inl ⟨_,_,rfl,rfl⟩,fun i hi=>by simp at hi⟩
 ·have h6:ss.length=c:=by simpa using hz
  by_cases h0:l=0
  ·subst h0
   exact⟨_,[],hcs,.inl ⟨_,_,rfl,rfl⟩,fun i hi=>by simp at hi⟩
  obtain⟨b,off,spot⟩:=a;have h5:=hcell 0 (by omega);have h2:spot=none:=by simpa [Addr.add] using World.cell?_spot h5
  subst h2;have h3:∀ i,(⟨b,off,none⟩:Addr).add i=⟨b,off+i,none⟩:=fun i=>by unfold Addr.add;split<;>simp_all
  have hb:b<w.heap.size:=by
   have:=World.block_lt_of_cell? w _ h5;rw[h3]at this;exact this
  have h4:(ss.take l).length=l:=by rw[List.length_take];omega
  refine⟨_,ss.take l,hcs,.inr ⟨b,off,c,by rw[zX,h4],hb,by rw[zX,h4];exact hl,hm,hb,fun i hi=>?_⟩,fun i hi=>hsz _ (List.mem_of_mem_take (List.getElem_mem hi))⟩;have h7:i<l:=by rw[zX,h4]at hi;exact hi
  have h1:=hcell i (by omega);rw[h3]at h1;rw[h1];simp[txtV,List.getD,List.getElem?_eq_getElem (show i<ss.length by omega)]
theorem trod_pat {held:Bool}(h:DataW.trod enc Try.prog w 0 (fun _=>true) held fuel 28 cs=some x):∃ (sv:Value) (bs:List ByteArray),cs=[sv]/\(Row w.heap.size w sv (txtV bs)/\∀ i (hi:i<bs.length),bs[i].size<=maxLen):=by
 obtain⟨y0,n,_,hl,h0⟩:=trod_struct1 Try.underlying28 h;have c0:Try.prog.cellsOf 26=1:=by kernel_rfl
 have h2:cs.length=1:=hl.trans (by kernel_rfl)
 match cs,h2 with
 | [a],_ =>
  simp only[c0]at h0;simp at h0;obtain⟨v,bs,hv,hr,h1⟩:=open_txt Try.underlying26 Try.underlying9 (by kernel_rfl) h0;simp at hv;subst hv;exact⟨a,bs,rfl,hr,h1⟩
end
end Go.Proofs.Ytjfdomfendbhfaa
namespace Go.Proofs.Ytjfdomfendbhfaa
open Go.ChangeShapes Go.Deep Go.RowKit Go.WideShapes
section
variable {H:Type} {enc:TypeId×Value->H} {w:World} {fuel:Nat} {cs:List Value} {x:DataW H×List MemPlace}
theorem open_pats {held:Bool}(h:DataW.trod enc Try.prog w 0 (fun _=>true) held fuel 22 cs=some x):∃ (v:Value) (ps:List (List ByteArray)),cs=[v]/\PatsIn w.heap.size w v ps:=by
 rcases open_slice Try.underlying22 h with ⟨hcs,_⟩|⟨a,len,cap,m,n,D,Pl,hcs,_,hl,hm,hmm,_,hall⟩
 ·exact⟨_,[],hcs,PatsIn.nil _ _⟩
 ·by_cases h0:len=0
  ·subst h0
   exact⟨_,[],hcs,PatsIn.nil _ _⟩
  simp only[if_true]at hmm;subst hmm;have c5:Try.prog.cellsOf 28=1:=by kernel_rfl
  rw[c5]at hall
  have each:∀ i,i<m->∃ st:Value×List ByteArray,w.cells? 0 (a.add (i * 1)) 1=some [st.1]/\(Row w.heap.size w st.1 (txtV st.2)/\∀ i (hi:i<st.2.length),st.2[i].size<=maxLen):=fun i hi=>by
   obtain⟨cs',h1,h2⟩:=hall i hi;obtain⟨sv,bs,rfl,h3⟩:=trod_pat h2;exact⟨(sv,bs),h1,h3⟩
  obtain⟨S,hS⟩:=choose_lt each;obtain⟨b,off,spot⟩:=a
  have h4:∀ i,i<m->w.cell? (((⟨b,off,spot⟩:Addr).add (i * 1)).add 0)=some (S i).1:=fun i hi=>by
   have:=(World.cells?_some (hS i hi).1).2.2 0 (by omega);simpa using this
  have h7:w.cell? ((⟨b,off,spot⟩:Addr).add 0)=some (S 0).1:=by simpa [Addr.add] using h4 0 (by omega)
  have h5:spot=none:=by simpa [Addr.add] using World.cell?_spot h7
  subst h5;have h6:∀ o i,(⟨b,o,none⟩:Addr).add i=⟨b,o+i,none⟩:=fun o i=>by unfold Addr.add;split<;>simp_all
  simp only[h6]at h4;have hb:b<w.heap.size:=World.block_lt_of_cell? w _ (by rw[h6]at h7;exact h7);refine⟨_,(List.range len).map (fun i=>(S i).2),hcs,(List.range len).map (fun i=>(S i).1),.inr ⟨b,off,m,by simp,hb,by simpa using hl,hm,hb,fun i hi=>?_⟩,by simp,fun i h1 h2=>?_⟩
  ·have h8:i<len:=by simpa using hi
   have:=h4 i (by omega);simp only[Nat.mul_one,Nat.add_zero]at this;rw[this];simp
  ·have h8:i<len:=by simpa using h1
   have:=(hS i (by omega)).2;simp only[List.getElem_map,List.getElem_range];exact this
end
end Go.Proofs.Ytjfdomfendbhfaa
