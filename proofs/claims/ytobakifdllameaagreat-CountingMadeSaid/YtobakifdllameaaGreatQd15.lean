/- Part 15 of the proof. -/
import Derived.Test.YtobakifdllameaaGreatQd14
set_option linter.unusedVariables false
set_option linter.unusedSimpArgs false
set_option maxRecDepth 100000
set_option maxHeartbeats 16000000
namespace Go.Proofs.YtobakifdllameaaGreat
structure FinE (gs:List (List Nat))(n:Nat)(el:List (List Nat))(pr la:List Int)(ri:List (List Nat))(d:Nat):Prop extends Enm gs n el pr la ri d where
 proc:wI gs (yO gs n gs.length) d=((el,pr,la),ri)
theorem qLE {gs:List (List Nat)}{n d:Nat}{el:List (List Nat)}{pr la:List Int}{ri:List (List Nat)}(hg:∀g∈gs,IsT n g)(h1:1<=n)(hk:1<=gs.length)(hp:wI gs (yO gs n gs.length) d=((el,pr,la),ri))(a9:∀f∈el,IsT n f):FinE gs n el pr la ri d:=⟨qSV hg h1 hk hp a9,hp⟩
def qDL (gs:List (List Nat))(n:Nat):Prop:=∀el pr la ri,FinE gs n el pr la ri el.length->400<el.length
section
variable {gs el el':List (List Nat)} {n:Nat} {pr la pr' la':List Int} {ri ri':List (List Nat)}
theorem FinE.le (h:FinE gs n el pr la ri el.length)(h':FinE gs n el' pr' la' ri' el'.length)(h1:1<=n)(hk:1<=gs.length):el'.length<=el.length:=by
 rcases Nat.lt_or_ge el.length el'.length with h3|h3
 ·have:=aY (s:=yO gs n gs.length) (d:=el'.length) h1 hk (by rw[h'.proc];exact h'.en.it) el.length h3
  rw[h.proc]at this;exact absurd this (Nat.lt_irrefl _)
 exact h3
theorem FinE.eq (h:FinE gs n el pr la ri el.length)(h':FinE gs n el' pr' la' ri' el'.length)(h1:1<=n)(hk:1<=gs.length):el=el'/\pr=pr'/\la=la'/\ri=ri':=by
 have e:el.length=el'.length:=Nat.le_antisymm (h'.le h h1 hk) (h.le h' h1 hk);have e1:=h.proc;rw[e,h'.proc]at e1;simp only[Prod.mk.injEq]at e1;exact⟨e1.1.1.symm,e1.1.2.1.symm,e1.1.2.2.symm,e1.2.symm⟩
theorem FinE.nosyn (h:FinE gs n el pr la ri el.length)(h4:400<el.length)(h1:1<=n)(hk:1<=gs.length):qDL gs n:=fun _ _ _ _ h'=>Nat.lt_of_lt_of_le h4 (h'.le h h1 hk)
theorem qFO (gs:List (List Nat))(d:Nat)(s:List (List Nat)×List Int×List Int)(x:Nat):∀e,(rQ gs d s x).1 <+: (rQ gs d s (x+e)).1
 | 0=>List.prefix_refl _
 | e+1=>by
  refine(qFO gs d s x e).trans ?_
  rw[Nat.add_succ,rQ]
  unfold dH
  split
  ·exact List.prefix_refl _
  ·exact List.prefix_append _ _
theorem bE (h1:1<=n)(hk:1<=gs.length)(h:mE gs (yO gs n gs.length) n):qDL gs n:=by
 intro el pr la ri hf;obtain⟨d,x,hd,hx,hl,h0⟩:=h;rcases Nat.lt_or_ge d el.length with h3|h3
 ·have p1:=qFO gs d (wI gs (yO gs n gs.length) d).1 x (gs.length-x)
  have p2:=aW gs (yO gs n gs.length) (d+1) (el.length-(d+1));rw[show d+1+(el.length-(d+1))=el.length by omega,hf.proc,wI]at p2;rw[show x+(gs.length-x)=gs.length by omega]at p1;have:=(p1.trans p2).length_le;rw[hl]at this;simp only at this;omega
 exfalso;rcases Nat.lt_or_ge el.length d with h4|h4
 ·have:=aY (s:=yO gs n gs.length) (d:=d) h1 hk (fun f hf=>h0 f ((aQ gs d _ x).subset hf)) el.length h4
  rw[hf.proc]at this;exact absurd this (Nat.lt_irrefl _)
 have e:d=el.length:=by omega
 subst e;rw[hf.proc]at hd;exact absurd hd (Nat.lt_irrefl _)
end
open Go.RowKit
theorem dX (gs:List (List Nat))(n:Nat):∀x,(yO gs n x).1.length<=x+1
 | 0=>by simp[yO]
 | x+1=>by
  have:=dX gs n x
  rw[yO]
  split
  ·omega
  ·simp only[List.length_append,List.length_singleton];omega
theorem RowX.one {X:Nat->Prop}{e:TypeId}{w:World}{v:Value}{xs:List Value}(h:RowX X e w v xs):v.oneCell'=true:=by
 obtain⟨a,c,rfl⟩:=h.1.shape;rfl
theorem xU.one {α:Type}{X:Nat->Prop}{e:TypeId}{f:α->List Value}{w:World}{hs:List Value}{ts:List α}(h:xU X e f w hs ts):∀v∈hs,v.oneCell'=true:=by
 intro v hv;obtain⟨i,hi,rfl⟩:=List.getElem_of_mem hv;exact(h.2 i hi (by rw[<-h.1];exact hi)).one
def Big (n:Nat):Prop:=∃el:List (List Nat),el.Nodup/\400<el.length/\∀f∈el,IsT n f
theorem qEY {gs:List (List Nat)}{n:Nat}(hg:∀g∈gs,IsT n g)(h1:1<=n)(hk:1<=gs.length)(h:mE gs (yO gs n gs.length) n):Big n:=by
 obtain⟨d,x,hd,hx,hl,h0⟩:=h;have hE:=aX hg (iF hg gs.length (Nat.le_refl _)) d (aY h1 hk (fun f hf=>h0 f ((aQ gs d _ x).subset hf)));have hr:=qDX hg hE.en hd x hx;exact⟨_,hr.en.nodup,by rw[hl];decide,h0⟩
def qSI (gs:List (List Nat))(n:Nat)(w:World)(e:Ending)(w':World):Prop :=
 (e=.returned (.tuple #[.agg #[.int .i64 0,.bool false,.slice none 0 0,.slice none 0 0,.slice none 0 0,.slice none 0 0,.slice none 0 0,.slice none 0 0,.int .i64 0],.int .i64 3])/\(Big n/\qDL gs n)/\w.grownBy w' none) \/
 ∃(el:List (List Nat)) (pr la:List Int) (ri:List (List Nat)) (m gN uN:Nat) (gA uA:Option Addr) (gC uC:Nat) (vP vL vR:Value) (sE:Option Addr) (cE:Nat),
  e=.returned (.tuple #[.agg #[.int .i64 n,.bool true,.slice gA gN gC,.slice sE m cE,vP,vL,vR,.slice uA uN uC,.int .i64 m],.int .i64 0])/\FinE gs n el pr la ri m/\el.length=m/\m<=2000 /\
  TMat w'.heap.size w' (.slice sE m cE) el/\Row w'.heap.size w' vP (ints pr)/\Row w'.heap.size w' vL (ints la)/\TMat w'.heap.size w' vR ri/\w.grownBy w' none
theorem qEW (B:Nat)(w:World)(v0:Value)(gs:List (List Nat))(n:Nat)(hB:B<=w.heap.size)(h:TMat B w v0 gs)(a8:∀g∈gs,IsT n g)(h1:1<=n)(a6:n<=32)(a9:1<=gs.length)(a7:gs.length<=6):Calls Tryz.prog 60 #[v0,.bool true] w (qSI gs n w):=by
 obtain⟨w1,H1⟩:=Nm (w.alloc (.cells #[.int .i64 0,.bool false,.slice none 0 0,.slice none 0 0,.slice none 0 0,.slice none 0 0,.slice none 0 0,.slice none 0 0,.int .i64 0] 106));have H5:w.grownBy w1 none:=by rw[H1];exact Ga w _ none
 have H6:=heap_alloc_new w (.cells #[.int .i64 0,.bool false,.slice none 0 0,.slice none 0 0,.slice none 0 0,.slice none 0 0,.slice none 0 0,.slice none 0 0,.int .i64 0] 106);rw[<-H1]at H6;have d1:=Kh (qDV B w1 v0 gs n (Nat.le_trans hB H5.size) (h.kept H5 (by simp)) a8 h1 a6 a9 a7);obtain⟨P,hP⟩:=Nm w.heap.size;obtain⟨a3,d0,d5,H7⟩:=K4 hP H1 H5 a8;rw[<-hP]at H6;have d7:=Kh H6;clear H1 H5 H6 a8 h;go_enter Tryz.func60,Tryz.ntmps60;go_upto_region 1 with fail;rw[<-d0.out,<-a3.out];clear hP;go_wp2_with fail;refine d1.out.mono ?_;rintro e w2 ⟨X,els,pre,las,m,u,us,c6,gv,sE,cE,sP,cP,sL,cL,sU,cU,rfl,H2,hl,H3,H4,hu,b0,hM,hE,hG,H9⟩;have h9:=iL (gs:=gs) (n:=n) gs.length (Nat.le_refl _);have H8:=dX gs n gs.length;rw[H2]at h9 H8;simp only at h9 H8;obtain⟨gA,gC,rfl⟩:=hG.tmat.shape;have c0:=zB d7.out H9;have h2:=(iF H7.out gs.length (Nat.le_refl _)).it;rw[H2]at h2;simp only at h2;obtain⟨w4,H0⟩:=Nm (w2.alloc (.cells #[.int .i64 n,.bool true,.slice gA gs.length gC,.slice sE m cE,.slice sP m cP,.slice sL m cL,.slice none 0 0,.slice sU u cU,.int .i64 0] 106));have h5:w2.grownBy w4 none:=by rw[H0];exact Ga w2 _ none
 have a2:=heap_alloc_new w2 (.cells #[.int .i64 n,.bool true,.slice gA gs.length gC,.slice sE m cE,.slice sP m cP,.slice sL m cL,.slice none 0 0,.slice sU u cU,.int .i64 0] 106);rw[<-H0]at a2;have k4:=hM.keep h5
 have b4:Calls Tryz.prog 91 #[.agg #[.int .i64 n,.bool true,.slice gA gs.length gC,.slice sE m cE,.slice sP m cP,.slice sL m cL,.slice none 0 0,.slice sU u cU,.int .i64 0],.int .i64 2001] w4 (qQN gs els pre las n 2001 (.slice gA gs.length gC) w4) :=
  aV w4 w1.heap.size X gs els pre las n m u us c6 gA gs.length gC sE cE sP cP sL cL sU cU 2001 (hM.grow h5) (hE.kept k4 h5.size) (hG.kept k4 h5.size) hE.one b0 hl H3 H4 h2 H7.out rfl a6 (by rw[hl]at h9;exact h9.1) a7 (by omega) (by omega) (by omega)
 have d2:=Kh b4;obtain⟨q0,q1,q2,q3,q4,q5,q6,q7,q8⟩:=zZ a2;have b9:=zB c0 h5;have c4:=Kh b9;have c3:=Kh (zC (zC d5.out H9) h5);have c9:=Kh H0;have h6:=Kh H2;clear h9 H8 hl H3 H4 hu b0 hM hE hG H9 c0 h2 h5 a2 k4 b4 b9 H0 H2;go_upto_region 2 with fail;rw[<-c9.out];go_wp2_with fail;refine d2.out.mono ?_;rintro e w5 (⟨rfl,a0,h4⟩|⟨X2,el,pr,la,ri,m2,d,u2,us2,h8,b1,sE2,cE2,sP2,cP2,sL2,cL2,sR2,cR2,sU2,cU2,rfl,b3,b5,c7,c8,hl,H3,H4,b2,h2,hM,hE,hR,hG,h4⟩)
 ·have a5:Hid (Big n/\qDL gs n):=Kh ⟨qEY H7.out h1 a9 (by rw[h6.out];exact a0),bE h1 a9 (by rw[h6.out];exact a0)⟩
  clear a0;have h0:=zB c4.out h4;have h7:=Kh h0;have a4:=Kh (zC c3.out h4);obtain⟨p0,p1,p2,p3,p4,p5,p6,p7,p8⟩:=zZ h0;have f0:=zA h0 0;have f1:=zA h0 1;have f2:=zA h0 2;have f3:=zA h0 3;have f4:=zA h0 4;have f5:=zA h0 5;have f6:=zA h0 6;have f7:=zA h0 7;have f8:=zA h0 8;clear h4 h0 q0 q1 q2 q3 q4 q5 q6 q7 q8;go_wp2;refine bodyPost_ret (v:=.tuple #[.agg #[.int .i64 0,.bool false,.slice none 0 0,.slice none 0 0,.slice none 0 0,.slice none 0 0,.slice none 0 0,.slice none 0 0,.int .i64 0],.int .i64 3]) (by simp[results,Tryz.results60,go_sem,p0,p1,p2,p3,p4,p5,p6,p7,p8]) rfl ?_;obtain⟨c5,h3⟩:=rZ h7.out (.int .i64 0) (.bool false) (.slice none 0 0) (.slice none 0 0) (.slice none 0 0) (.slice none 0 0) (.slice none 0 0) (.slice none 0 0) (.int .i64 0);exact .inl ⟨rfl,a5.out,yG a4.out h3 (by show _<=P;have:=a3.out;omega)⟩
 have a1:d=m2:=by rcases b5 with h|h<;>omega
 subst a1;have b8:=qLE H7.out h1 a9 (by rw[h6.out];exact b3) h2;have h0:=zB c4.out h4;have h7:=Kh h0;have a4:=Kh (zC c3.out h4);obtain⟨d6,HM,HE,HR,HL⟩:=K5 b8 hM hE hR hl;obtain⟨p0,p1,p2,p3,p4,p5,p6,p7,p8⟩:=zZ h0;have f0:=zA h0 0;have f1:=zA h0 1;have f2:=zA h0 2;have f3:=zA h0 3;have f4:=zA h0 4;have f5:=zA h0 5;have f6:=zA h0 6;have f7:=zA h0 7;have f8:=zA h0 8;have c2:OwnT w4.heap.size w5 (.slice sE2 d cE2) d el:=⟨h8,hM.own ⟨w4.heap.size,22,.slice sE2 d cE2,d,h8,1⟩ (by simp),hE.rowsT,hl⟩;have c1:OwnT w4.heap.size w5 (.slice sR2 d cR2) d ri:=⟨b1,hM.own ⟨w4.heap.size,22,.slice sR2 d cR2,d,b1,1⟩ (by simp),hR.rowsT,b2⟩;have d4:=Kh c2;have d3:=Kh c1;clear b3 b5 c8 hl H3 H4 b2 h2 hM hE hR hG c2 c1 b8 h4 h0 q0 q1 q2 q3 q4 q5 q6 q7 q8;go_wp2;refine bodyPost_ret (v:=.tuple #[.agg #[.int .i64 n,.bool true,.slice gA gs.length gC,.slice sE2 d cE2,.slice sP2 d cP2,.slice sL2 d cL2,.slice sR2 d cR2,.slice sU2 u2 cU2,.int .i64 d],.int .i64 0]) (by simp[results,Tryz.results60,go_sem,p0,p1,p2,p3,p4,p5,p6,p7,p8]) rfl ?_;obtain⟨c5,h3⟩:=rZ h7.out (.int .i64 n) (.bool true) (.slice gA gs.length gC) (.slice sE2 d cE2) (.slice sP2 d cP2) (.slice sL2 d cL2) (.slice sR2 d cR2) (.slice sU2 u2 cU2) (.int .i64 d);have b6:w5.ownsRow w4.heap.size 3 1 (.slice sP2 d cP2) d (ints pr):=HM.out.own ⟨w4.heap.size,3,.slice sP2 d cP2,d,ints pr,1⟩ (by simp);have b7:w5.ownsRow w4.heap.size 3 1 (.slice sL2 d cL2) d (ints la):=HM.out.own ⟨w4.heap.size,3,.slice sL2 d cL2,d,ints la,1⟩ (by simp);exact .inr ⟨el,pr,la,ri,d,_,_,_,_,_,_,_,_,_,sE2,cE2,rfl,d6.out,HL.out,c7,(d4.out.other h3 h7.out (by decide) (by decide)).tmat,Row.of_owns (b6.kept h3 (.inr (zV b6 h7.out (by decide)))),Row.of_owns (b7.kept h3 (.inr (zV b7 h7.out (by decide)))),(d3.out.other h3 h7.out (by decide) (by decide)).tmat,yG a4.out h3 (by show _<=P;have:=a3.out;omega)⟩
theorem xT (w:World)(n:Int):Calls Tryz.prog 45 #[.int .i64 n] w fun e w'=>e=.returned (.bool (decide (1<=n/\n<=6)))/\w=w':=by
 by_cases h:1<=n
 ·go_enter Tryz.func45,Tryz.ntmps45
  go_wp2;go_ret;exact⟨yT (by simp[h]),rfl⟩
 go_enter Tryz.func45,Tryz.ntmps45;go_wp2;go_ret;exact⟨yT (by simp;omega),rfl⟩
theorem bX (B:Nat)(w:World)(v:Value)(d:DfaV)(hB:B<=w.heap.size)(h:tR B w v d):Calls Tryz.prog 32 #[v] w fun e w'=>e=.returned (.int .i64 (uJ d))/\w.grownBy w' none:=by
 obtain⟨fv,nv,rfl,hf,hn⟩:=h;have a2:=hf.len_le;rw[zX]at a2;unfold maxLen at a2;have a5:=hn.len_le;unfold maxLen at a5;obtain⟨fa,fc,rfl⟩:=hf.shape;rw[zX]at hf⊢;obtain⟨na,nc,rfl⟩:=hn.shape;have HN:=Kh hn;obtain⟨n,a0⟩:=Nm d.final.length;obtain⟨m,a1⟩:=Nm d.next.length;obtain⟨L,hL⟩:=Nm d.letters;obtain⟨S,hS⟩:=Nm d.start;rw[<-a0]at a2⊢;rw[<-a1]at a5 HN⊢;rw[<-hL,<-hS];obtain⟨H0,H1,H8,b0⟩:=K4 a0 a1 hL hS;clear hf hn a0 a1 hL hS;obtain⟨wA,H6⟩:=Nm (w.alloc (.cells #[.int .i64 L,.int .i64 S,.slice fa n fc,.slice na m nc] 29));have h3:wA.heap[w.heap.size]?=some (.cells #[.int .i64 L,.int .i64 S,.slice fa n fc,.slice na m nc] 29 (0,0)):=by rw[H6];exact heap_alloc_new w _
 have a7:w.grownBy wA none:=by rw[H6];exact Ga w _ none
 have c0:=zH h3 0;have c1:=zH h3 1;have c2:=zH h3 2;have c3:=zH h3 3;simp only[List.getElem_toArray,List.getElem_cons_zero,List.getElem_cons_succ]at c0 c1 c2 c3;have h4:=Kh a7;have h9:=Kh H6;clear h3 a7 H6;by_cases hl:L<1\/6<L
 ·have HE:=Kh (kK (d:=d) (by rw[<-H8.out];exact hl))
  have h8:decide (1<=L/\L<=6)=false:=decide_eq_false (by omega);go_enter Tryz.func32,Tryz.ntmps32;go_wp2_with fail;rw[<-h9.out];refine(xT wA L).mono ?_;rintro e w1 ⟨rfl,rfl⟩;rw[h8];go_wp2;go_ret;exact⟨yX HE.out.symm,h4.out⟩
 have c7:1<=L:=by omega
 have c6:L<=6:=by omega
 have H2:Hid (¬(d.letters<1\/6<d.letters)):=Kh (by rw[<-H8.out];exact hl);have h8:decide (1<=L/\L<=6)=true:=decide_eq_true (by omega);clear hl;by_cases h5:512<n
 ·have HE:=Kh (dU H2.out (by rw[<-H0.out];exact h5))
  go_enter Tryz.func32,Tryz.ntmps32;go_wp2_with fail;rw[<-h9.out];refine(xT wA L).mono ?_;rintro e w1 ⟨rfl,rfl⟩;rw[h8];go_wp2;go_ret;exact⟨yX HE.out.symm,h4.out⟩
 have H5:Hid (¬512<d.final.length):=Kh (by rw[<-H0.out];exact h5);by_cases hsh:n=0\/m≠n\/S<0\/n<=S
 ·have HE:=Kh (gK H2.out H5.out (by rw[<-H0.out,<-H1.out,<-b0.out];exact hsh))
  by_cases h0:n=0
  ·have e0:((n:Int) == 0)=true:=by rw[beq_iff_eq];omega
   clear hsh h0;go_enter Tryz.func32,Tryz.ntmps32;go_wp2_with fail;rw[<-h9.out];refine(xT wA L).mono ?_;rintro e w1 ⟨rfl,rfl⟩;rw[h8];go_wp2;go_ret;exact⟨yX HE.out.symm,h4.out⟩
  have e0:((n:Int) == 0)=false:=by rw[beq_eq_false_iff_ne];omega
  by_cases h7:m=n
  ·have e1:((m:Int) != n)=false:=by rw[h7];simp
   have b7:=Kh h7;by_cases hs:S<0
   ·clear hsh h7
    go_enter Tryz.func32,Tryz.ntmps32;go_wp2_with fail;rw[<-h9.out];refine(xT wA L).mono ?_;rintro e w1 ⟨rfl,rfl⟩;rw[h8];go_wp2;go_ret;exact⟨yX HE.out.symm,h4.out⟩
   have b1:(n:Int)<=S:=by omega
   clear hsh h7;go_enter Tryz.func32,Tryz.ntmps32;go_wp2_with fail;rw[<-h9.out];refine(xT wA L).mono ?_;rintro e w1 ⟨rfl,rfl⟩;rw[h8];go_wp2;go_ret;exact⟨yX HE.out.symm,h4.out⟩
  have e1:((m:Int) != n)=true:=by rw[bne_iff_ne];omega
  clear hsh;go_enter Tryz.func32,Tryz.ntmps32;go_wp2_with fail;rw[<-h9.out];refine(xT wA L).mono ?_;rintro e w1 ⟨rfl,rfl⟩;rw[h8];go_wp2;go_ret;exact⟨yX HE.out.symm,h4.out⟩
 have H7:Hid (¬(d.final.length=0\/d.next.length≠d.final.length\/d.start<0\/d.final.length<=d.start)):=Kh (by rw[<-H0.out,<-H1.out,<-b0.out];exact hsh);have h0:0<n:=(by omega);have e0:((n:Int) == 0)=false:=by rw[beq_eq_false_iff_ne];omega
 have h7:m=n:=by omega
 have e1:((m:Int) != n)=false:=by rw[h7];simp
 have c4:0<=S:=by omega
 have b1:S<n:=(by omega);have b2:0<m:=(by omega);have a9:Mat B wA (.slice na m nc) d.next:=HN.out.kept h4.out (by simp);obtain⟨b,off,cap,A,C,e,b6,b5,a6⟩:=a9.some_ (by rw[<-H1.out];exact b2);simp only[Value.slice.injEq]at e;obtain⟨rfl,-,rfl⟩:=e;rw[<-H1.out]at b6;have c5:nc<=9223372036854775807:=by unfold maxLen at b5;omega
 have HM:=Kh a6;have b7:=Kh h7;clear hsh h7 a9 a6;go_enter Tryz.func32,Tryz.ntmps32;go_wp2_with fail;rw[<-h9.out];refine(xT wA L).mono ?_;rintro e w1 ⟨rfl,rfl⟩;rw[h8];go_wp2
 go_loopg [40] m (fun g i wr=>∃k:Nat,g+k=m/\i=.int .i64 k/\qTQ d k/\wA=wr)
 case atStart=>exact⟨0,rfl,rfl,fun x hx=>absurd hx (by omega),rfl⟩
 obtain⟨k,hg,rfl,H3,rfl⟩:=hrel;have OK:=Kh H3;have HG:=Kh hg;clear H3 hg;by_cases hk:k<m
 ·have H4:k<d.next.length:=by rw[<-H1.out];exact hk
  have a8:=HM.out.hd k H4;have h6:=HM.out.row k H4;have H9:=h6.len_le;rw[zJ]at H9;unfold maxLen at H9;obtain⟨r,hr⟩:=Nm (d.next.getD k []);rw[<-hr]at a8 h6 H9;have HR:=Kh hr;have a3:=Kh H4;clear hr H4;by_cases hlr:(r.length:Int)=L
  ·have b8:=Kh hlr
   have b3:((r.length:Int) != L)=false:=by rw[hlr];simp
   obtain⟨rb,ro,rc,e,hb,h1,h2,a4⟩:=h6.some_ (by rw[zJ];omega);simp only[Value.slice.injEq]at e;obtain⟨eA,-,rfl⟩:=e;rw[eA]at a8;rw[zJ]at h1;have HA:=Kh eA;have RA:=Kh a4;clear eA a4 hlr h6;go_wp2
   go_loopg [51] r.length (fun g j wr'=>∃y:Nat,g+y=r.length/\j=.int .i64 y/\qMF n r y/\wA=wr')
   case atStart=>exact⟨0,rfl,rfl,fun x hx=>absurd hx (by omega),rfl⟩
   obtain⟨y,hg,rfl,H3,rfl⟩:=hrel;have OKY:=Kh H3;have b9:=Kh hg;clear H3 hg;by_cases hy:y<r.length
   ·have b4:=RA.out.int y hy
    obtain⟨z,hz⟩:=Nm (r.getD y 0);rw[<-hz]at b4;have HZ:=Kh hz;clear hz;by_cases hb1:z<0
    ·have HE:=Kh (qS H2.out H5.out H7.out a3.out (by rw[<-HR.out];exact fI (y:=y) hy (by rw[<-HZ.out];exact .inl hb1)))
     go_wp2;go_ret;exact⟨yX HE.out.symm,h4.out⟩
    by_cases hb2:(n:Int)<=z
    ·have HE:=Kh (qS H2.out H5.out H7.out a3.out (by rw[<-HR.out];exact fI (y:=y) hy (by rw[<-HZ.out,<-H0.out];exact .inr hb2)))
     go_wp2;go_ret;exact⟨yX HE.out.symm,h4.out⟩
    go_wp2;go_roundg (r.length-(y+1))
    case measure=>have:=b9.out;omega
    refine⟨y+1,by omega,by go_num,fun x hx=>?_,rfl⟩;rcases Nat.lt_succ_iff_lt_or_eq.1 hx with hx|rfl
    ·exact OKY.out x hx
    rw[<-HZ.out];omega
   go_wp2;go_roundg (m-(k+1))
   case measure=>have:=HG.out;omega
   refine⟨k+1,by omega,by go_num,fun x hx=>?_,rfl⟩;rcases Nat.lt_succ_iff_lt_or_eq.1 hx with hx|rfl
   ·exact OK.out x hx
   rw[<-HR.out,nG,<-H0.out,<-H8.out];exact⟨b8.out,fun z hz=>OKY.out z (by omega)⟩
  have b3:((r.length:Int) != L)=true:=by rw[bne_iff_ne];exact hlr
  have HE:=Kh (qS H2.out H5.out H7.out a3.out (by rw[<-HR.out];exact qFP (by rw[<-H8.out];exact hlr)));clear hlr;go_wp2;go_ret;exact⟨yX HE.out.symm,h4.out⟩
 have HE:=Kh (qBC H2.out H5.out H7.out (fun q hq=>OK.out q (by have:=H1.out;omega)));go_wp2;go_ret;exact⟨yX HE.out.symm,h4.out⟩
theorem qAF {n:Nat}{l:List Nat}{q:Nat}(h:q∈l\/n<=q):metL n (l++[q])=metL n l:=by
 refine List.ext_getElem (by simp[metL]) fun i h1 h2=>?_;simp only[metL,List.getElem_map,List.getElem_range,List.mem_append,List.mem_singleton];congr 1;refine propext ⟨?_,.inl⟩;rintro (h3|rfl)
 ·exact h3
 rcases h with h|h
 ·exact h
 simp[metL]at h1;omega
theorem qJD (B:Nat)(w:World)(v:Value)(l:List Nat)(n:Nat)(h:Row B w v (nats l))(hB:B<=w.heap.size)(hn:n<=100000):Calls Tryz.prog 93 #[v,.int .i64 (n:Int)] w fun e w'=>e=.returned (.slice (some ⟨w.heap.size,0,none⟩) n n)/\Arr w' w.heap.size 4 (bls (metL n l))/\w.grownBy w' none:=by
 have h5:=h.len_le;rw[zT]at h5;unfold maxLen at h5;obtain⟨va,vc,rfl⟩:=h.shape;rw[zT]at h⊢;have H:=Kh h;clear h;go_enter Tryz.func93,Tryz.ntmps93;go_wp2_with (first|(at_make;refine qG rfl _ _ _ rfl wF rfl .i64 .i64 _ _ n rfl rfl rfl rfl ?b1 ?b2 ?_;(case b1=>omega);(case b2=>(unfold maxLen;omega));intro w2 h0 h6 H1)|fail);have h9:=Kh h0;have h8:=Kh h6;clear h0 h6
 go_loopg [7,12] l.length (fun gh a7 i wr=>∃k:Nat,gh+k=l.length/\i=.int .i64 k/\Arr wr w.heap.size 4 (bls (metL n (l.take k)))/\w.grownBy wr none)
 case atStart=>exact⟨0,rfl,rfl,by rw[List.take_zero,qAG,qQ];exact h9.out,h8.out⟩
 clear h9 h8;obtain⟨k,hg,rfl,h0,h2⟩:=hrel;obtain⟨HG,HA,h4⟩:=K3 hg h0 h2;clear hg;by_cases hk:k<l.length
 ·have H2:(k:Int)<l.length:=by omega
  obtain⟨ib,io,ic,e,_,H4,H3,h3⟩:=(H.out.kept h2 (by simp)).some_ (by rw[zT];omega);simp only[Value.slice.injEq]at e;obtain⟨rfl,-,rfl⟩:=e;have ck:=h3.nat k hk;have h1:l.take (k+1)=l.take k++[l.getD k 0]:=yB hk;obtain⟨x,hx⟩:=Nm (l.getD k 0);rw[<-hx]at ck h1;by_cases hxn:x<n
  ·have H0:(x:Int)<n:=by omega
   have cg:=h0.bool x (by rw[xR];exact hxn);have fg:=h0.frozen x;have HS:Hid ((metL n (l.take k)).set x true=metL n (l.take (k+1))):=Kh (by rw[jU,h1]);clear h0 h2 h3 hx h1;go_wp2;go_roundg (l.length-(k+1))
   case measure=>have:=HG.out;omega
   refine⟨k+1,by omega,by go_num,?_,zC h4.out (zF wr ⟨w.heap.size,x,none⟩ _) (fun q e=>by have h7:w.heap.size=q:=Oj e;omega)⟩;rw[<-HS.out];exact HA.out.bool_set x (by rw[xR];exact hxn) true
  have H0:(n:Int)<=x:=by omega
  have HS:Hid (metL n (l.take (k+1))=metL n (l.take k)):=Kh (by rw[h1,qAF (.inr (by omega))]);clear h0 h2 h3 hx h1;go_wp2;go_roundg (l.length-(k+1))
  case measure=>have:=HG.out;omega
  exact⟨k+1,by omega,by go_num,by rw[HS.out];exact HA.out,h4.out⟩
 have HE:Hid (l.take k=l):=Kh (List.take_of_length_le (by omega));rw[HE.out]at HA;clear h0 h2;go_wp2;go_ret;exact⟨rfl,HA.out,h4.out⟩
def mT (bs:List Bool):List Nat:=(List.range bs.length).filter fun i=>bs.getD i false
def pQ (bs:List Bool)(k:Nat):List Nat:=(List.range k).filter fun i=>bs.getD i false
theorem qEH {bs:List Bool}{k:Nat}:pQ bs (k+1)=pQ bs k++if bs.getD k false then [k] else []:=by
 unfold pQ;rw[List.range_succ,List.filter_append,List.filter_cons,List.filter_nil]
theorem qKR (bs:List Bool)(k:Nat):(pQ bs k).length<=k:=by
 have:=List.length_filter_le (fun i=>bs.getD i false) (List.range k);rw[List.length_range]at this;exact this
theorem qEG (w:World)(g:Nat)(bs:List Bool)(h:vQ w g 0 (bls bs))(hn:bs.length<=100000):Calls Tryz.prog 94 #[.slice (some ⟨g,0,none⟩) bs.length bs.length] w fun e w'=>(∃(sa:Option Addr) (sc:Nat),e=.returned (.slice sa (mT bs).length sc)/\w'.ownsRow w.heap.size 3 1 (.slice sa (mT bs).length sc) (mT bs).length (nats (mT bs)))/\w.grownBy w' none:=by
 have H:=Kh h;have H3:=h.1;clear h;go_enter Tryz.func94,Tryz.ntmps94;go_wp2
 go_loopg [3,4,5,8] bs.length (fun gh v3 a4 a5 i wr=>∃(k:Nat) (sa:Option Addr) (sc:Nat),gh+k=bs.length/\i=.int .i64 k/\v3=.slice sa (pQ bs k).length sc/\wr.ownsRow w.heap.size 3 1 (.slice sa (pQ bs k).length sc) (pQ bs k).length (nats (pQ bs k))/\w.grownBy wr none)
 case atStart=>exact⟨0,none,0,rfl,rfl,rfl,World.ownsRow_nil _ _ _ _,zU _ _⟩
 obtain⟨k,sa,sc,hg,rfl,rfl,h2,h3⟩:=hrel;obtain⟨HG,HO,h4⟩:=K3 hg h2 h3;have h8:=qKR bs k;clear hg h2;by_cases hk:k<bs.length
 ·have H4:(k:Int)<bs.length:=by omega
  have ck:=vQ.map (H.out.kept h3 (by simp)) k hk;rw[<-zN (d:=false) hk,Nat.zero_add]at ck;have H0:=h3.size;have h1:=qEH (bs:=bs) (k:=k);clear h3;cases hb:bs.getD k false with
  | true =>
   rw[hb]at ck h1;have HS:Hid (pQ bs (k+1)=pQ bs k++[k]):=Kh (by rw[h1];rfl);obtain⟨A,hA⟩:=Nm (pQ bs k);rw[<-hA]at HO HS h8⊢;clear hb h1 hA;go_wp2_with (first|(at_builtin;refine app1 rfl _ _ _ rfl yH w.heap.size _ A.length (nats A) rfl HO.out _ rfl rfl ?c1 ?c2 ?c3 ?_)|fail)
   case c1=>unfold maxLen;omega
   case c2=>omega
   case c3=>exact H0
   intro sa' sc' w6 h0 h6 h9;have H1:=Kh h0;have H2:=Kh h6;clear h0 h6;go_wp2;go_roundg (bs.length-(k+1))
   case measure=>have:=HG.out;omega
   refine⟨k+1,sa',sc',by omega,by go_num,by rw[HS.out];simp,?_,zC h4.out H2.out (fun q e=>(HO.out.lt q e).1)⟩;rw[HS.out,qF,List.length_append];exact H1.out
  | false =>
   rw[hb]at ck h1;have HS:Hid (pQ bs (k+1)=pQ bs k):=Kh (by rw[h1];simp);clear hb h1;go_wp2;go_roundg (bs.length-(k+1))
   case measure=>have:=HG.out;omega
   exact⟨k+1,sa,sc,by omega,by go_num,by rw[HS.out],by rw[HS.out];exact HO.out,h4.out⟩
 have h5:k=bs.length:=by have:=HG.out;omega
 have HE:Hid (pQ bs k=mT bs):=Kh (by rw[h5];rfl);rw[HE.out]at HO⊢;obtain⟨A,hA⟩:=Nm (mT bs);have h7:=Kh hA;rw[<-hA]at HO⊢;clear h5 h3 hA;go_wp2;go_ret;exact⟨⟨sa,sc,by rw[<-h7.out];rfl,by rw[<-h7.out];exact HO.out⟩,h4.out⟩
def oB (t:List (List Int))(m:List Nat):Prop:=∀x∈m,∀y∈m,entN t x y∈m
def qPW (t:List (List Int))(m:List Nat)(k j:Nat):Prop:=∀x∈m,∀y∈m,(x<k\/(x=k/\y<j))->entN t x y∈m
structure GenI (t:List (List Int))(gs m:List Nat):Prop where
 nd:m.Nodup
 lt:∀x∈m,x<t.length
 base:∀x∈gs,x∈m
 gen:∀x∈m,Gen t gs x
theorem GenI.add {t:List (List Int)}(hs:Shape t){gs m:List Nat}(h:GenI t gs m){x y:Nat}(hx:x∈m)(hy:y∈m)(hz:entN t x y ∉ m):GenI t gs (m++[entN t x y]) where
 nd:=by
  rw[List.nodup_append];exact⟨h.nd,by simp,fun a ha b hb=>by rw[List.mem_singleton]at hb;subst hb;rintro rfl;exact hz ha⟩
 lt:=fun z hz=>by
  rcases List.mem_append.1 hz with hz|hz
  ·exact h.lt z hz
  ·rw[List.mem_singleton]at hz;subst hz;exact pH hs (h.lt x hx) (h.lt y hy)
 base:=fun z hz=>List.mem_append_left _ (h.base z hz)
 gen:=fun z hz=>by
  rcases List.mem_append.1 hz with hz|hz
  ·exact h.gen z hz
  ·rw[List.mem_singleton]at hz;subst hz;exact .mul x y (h.gen x hx) (h.gen y hy)
def qUM (w:World)(t:List (List Int))(gs:List Nat)(e:Ending)(w':World):Prop :=
 ∃m:List Nat,GenI t gs m/\oB t m/\(∃(sa:Option Addr) (sc:Nat),e=.returned (.slice sa (mT (metL t.length m)).length sc)/\w'.ownsRow w.heap.size 3 1 (.slice sa (mT (metL t.length m)).length sc) (mT (metL t.length m)).length (nats (mT (metL t.length m))))/\w.grownBy w' none
theorem qAM (B C:Nat)(w:World)(v gv:Value)(t:List (List Int))(gs:List Nat)(hB:B<=w.heap.size)(hC:C<=w.heap.size)(h:Mat B w v t)(hs:Shape t)(hg:Row C w gv (nats gs))(a9:∀g∈gs,g<t.length):Calls Tryz.prog 64 #[v,gv] w (qUM w t gs):=by
 obtain⟨tb,off,cap,RB,RO,RC,rfl,c8,b5,hq⟩:=h.sq hs;have d8:cap<=9223372036854775807:=by unfold maxLen at b5;omega
 obtain⟨n,hn⟩:=Nm t.length;have c5:=hs.le;have c6:=hs.pos;have b6:=Kh (qJD C w gv gs n hg hC (by omega));obtain⟨HQ,HS,h5,d2⟩:=K4 hq hs hn a9;rw[<-hn]at c8 c5 c6⊢;clear h hs hg hq a9 b5 hn;go_enter Tryz.func64,Tryz.ntmps64;go_wp2_with fail;refine b6.out.mono ?_;rintro e w1 ⟨rfl,H7,b3⟩
 have H4:metL n gs=metL n (yQ gs):=by
  refine List.ext_getElem (by simp[metL]) fun i h1 h2=>?_;simp only[metL,List.getElem_map,List.getElem_range,xX]
 rw[H4]at H7;have b8:Hid (GenI t gs (yQ gs)):=Kh ⟨sX _,fun x hx=>d2.out x (xX.1 hx),fun x hx=>xX.2 hx,fun x hx=>.base x (xX.1 hx)⟩;obtain⟨G,hG⟩:=Nm w.heap.size;have d3:=Kh hG;rw[<-hG]at H7⊢;have c3:=Kh H7;have c1:=Kh b3;clear H7 b3 H4 hG b6;go_wp2
 go_loopg [6] (2*n+1) (fun gh v6 wr=>∃(m:List Nat) (b:Bool),v6=.bool b/\2*(n-m.length)+(if b then 1 else 0)<=gh/\GenI t gs m/\(b=false->oB t m)/\Arr wr G 4 (bls (metL n m))/\w.grownBy wr none)
 case atStart=>exact⟨yQ gs,true,rfl,by simp;omega,b8.out,(fun h=>by cases h),c3.out,c1.out⟩
 clear c3 c1 b8;obtain⟨m,b,rfl,b1,H6,b4,h3,h8⟩:=hrel;obtain⟨c0,b9,d5,HA,h4⟩:=K5 b1 H6 b4 h3 h8;have d9:m.length<=n:=qN H6.nd (fun q hq=>by rw[h5.out];exact H6.lt q hq);clear b1 H6 b4 h3 h8;cases b with
 | false =>
  have H5:=d5.out rfl;have HM:=Kh (fun W hW=>qEG W G (metL n m) hW (by rw[xR];omega));have a5:=xR n m;obtain⟨bs,c9⟩:=Nm (metL n m);have a4:=HA.out.row;have b7:=Kh (HM.out wr a4);rw[a5]at b7;have a3:=Kh H5;clear a4 a5 c9 H5 HM;go_wp2_with fail;refine b7.out.mono ?_;rintro e w5 ⟨⟨sa,sc,rfl,ho⟩,b2⟩;have HO:=Kh ho;have d4:=Kh b2;obtain⟨A,hA⟩:=Nm (mT (metL n m));have c2:=Kh hA;rw[<-hA]at HO⊢;clear ho b2 hA;go_wp2;go_ret;refine⟨m,b9.out,a3.out,⟨sa,sc,?_,?_⟩,zG h4.out d4.out⟩
  ·rw[<-h5.out,<-c2.out];rfl
  rw[<-h5.out,<-c2.out];exact wV HO.out h4.out.size
 | true =>
  go_wp2
  go_loopg [6,7,16] n (fun gx v6 a7 i wr=>∃(k:Nat) (m':List Nat) (c:Bool),gx+k=n/\i=.int .i64 k/\v6=.bool c/\m.length<=m'.length/\(c=true->m.length<m'.length)/\(c=false->qPW t m' k 0)/\GenI t gs m'/\Arr wr G 4 (bls (metL n m'))/\w.grownBy wr none)
  case atStart=>exact⟨0,m,false,rfl,rfl,rfl,Nat.le_refl _,(fun h=>by cases h),(fun _ x hx y hy h=>by omega),b9.out,HA.out,h4.out⟩
  clear HA h4;obtain⟨k,m',c,b0,rfl,rfl,H2,hc,H3,h6,h3,h8⟩:=hrel;obtain⟨d1,HC,H0,h0,HA,h4⟩:=K6 b0 hc H3 h6 h3 h8;have h9:=Kh H2;clear b0 hc H3 h6 h3 h8 H2;by_cases hk:k<n
  ·have e1:(k:Int)<n:=by omega
   go_wp2
   go_loopg [6,8,21] n (fun gy v6 a8 i wr=>∃(j:Nat) (m':List Nat) (c:Bool),gy+j=n/\i=.int .i64 j/\v6=.bool c/\m.length<=m'.length/\(c=true->m.length<m'.length)/\(c=false->qPW t m' k j)/\GenI t gs m'/\Arr wr G 4 (bls (metL n m'))/\w.grownBy wr none)
   case atStart=>exact⟨0,m',c,rfl,rfl,rfl,h9.out,HC.out,H0.out,h0.out,HA.out,h4.out⟩
   clear HA h4 HC H0 h0 h9;obtain⟨j,m',c,a6,rfl,rfl,H2,hc,H3,h6,h3,h8⟩:=hrel;obtain⟨H8,HC,H0,h0,HA,h4⟩:=K6 a6 hc H3 h6 h3 h8;have h9:=Kh H2;clear a6 hc H3 h6 H2;by_cases hj:j<n
   ·have e2:(j:Int)<n:=by omega
    have hq:=HQ.out.kept h8 (fun x e=>by cases e);have ch:=hq.hd k (by rw[<-h5.out];exact hk);have ce:=hq.el k j (by rw[<-h5.out];exact hk) (by rw[<-h5.out];exact hj);have c4:=(hq.cap k (by rw[<-h5.out];exact hk)).1;rw[<-h5.out]at ch c4;have hz:=pH HS.out (show k<t.length by rw[<-h5.out];exact hk) (show j<t.length by rw[<-h5.out];exact hj);rw[<-h5.out]at hz;have cx:=h3.bool k (by rw[xR];exact hk);have cy:=h3.bool j (by rw[xR];exact hj);rw[lY hk]at cx;rw[lY hj]at cy;obtain⟨z,H9⟩:=Nm (entN t k j);rw[<-H9]at ce hz;have cz:=h3.bool z (by rw[xR];exact hz);rw[lY hz]at cz;have fz:=h3.frozen z;have d6:(z:Int)<n:=(by omega);have a0:=Kh H9;clear H9 hq h3 h8
    have skip:(k∈m'->j∈m'->z∈m')->Hid (c=false->qPW t m' k (j+1)):=fun h=>Kh (fun hcf x hx y hy hxy=>by
     rcases hxy with hxy|⟨rfl,hy1⟩
     ·exact H0.out hcf x hx y hy (.inl hxy)
     rcases Nat.lt_succ_iff_lt_or_eq.1 hy1 with hy1|rfl
     ·exact H0.out hcf x hx y hy (.inr ⟨rfl,hy1⟩)
     rw[<-a0.out];exact h hx hy)
    have a1:=Kh skip;clear skip;by_cases hkm:k∈m'
    ·rw[decide_eq_true hkm]at cx
     by_cases hjm:j∈m'
     ·rw[decide_eq_true hjm]at cy
      by_cases hzm:z∈m'
      ·rw[decide_eq_true hzm]at cz
       have H1:=a1.out (fun _ _=>hzm);clear hkm hjm hzm;go_wp2;go_roundg (n-(j+1))
       case measure=>have:=H8.out;omega
       exact⟨j+1,m',c,by omega,by go_num,rfl,h9.out,HC.out,H1.out,h0.out,HA.out,h4.out⟩
      rw[decide_eq_false hzm]at cz;have d0:Hid (GenI t gs (m'++[z])):=Kh (by have:=h0.out.add HS.out hkm hjm (by rw[<-a0.out];exact hzm);rwa [<-a0.out]at this);clear hkm hjm hzm;go_wp2;go_roundg (n-(j+1))
      case measure=>have:=H8.out;omega
      refine⟨j+1,m'++[z],true,by omega,by go_num,rfl,by have:=h9.out;simp;omega,fun _=>by have:=h9.out;simp;omega,(fun h=>by cases h),d0.out,?_,zC h4.out (zF wr ⟨G,z,none⟩ _) (fun q e=>by have h7:G=q:=Oj e;have:=d3.out;omega)⟩;have h1:=HA.out.bool_set z (by rw[xR];exact hz) true;rw[jU]at h1;exact h1
     rw[decide_eq_false hjm]at cy;have H1:=a1.out (fun _ h=>absurd h hjm);clear hkm hjm cz;go_wp2;go_roundg (n-(j+1))
     case measure=>have:=H8.out;omega
     exact⟨j+1,m',c,by omega,by go_num,rfl,h9.out,HC.out,H1.out,h0.out,HA.out,h4.out⟩
    rw[decide_eq_false hkm]at cx;have H1:=a1.out (fun h=>absurd h hkm);clear hkm cz;go_wp2;go_roundg (n-(j+1))
    case measure=>have:=H8.out;omega
    exact⟨j+1,m',c,by omega,by go_num,rfl,h9.out,HC.out,H1.out,h0.out,HA.out,h4.out⟩
   have H1:Hid (c=false->qPW t m' (k+1) 0):=Kh (fun hcf x hx y hy hxy=>by
    have d7:=h0.out.lt y hy;have:=h5.out;refine H0.out hcf x hx y hy ?_
    omega)
   clear h3 h8;go_wp2;go_roundg (n-(k+1))
   case measure=>have:=d1.out;omega
   exact⟨k+1,m',c,by omega,by go_num,rfl,h9.out,HC.out,H1.out,h0.out,HA.out,h4.out⟩
  have a2:Hid (c=false->oB t m'):=Kh (fun hcf x hx y hy=>H0.out hcf x hx y hy (.inl (by have:=h0.out.lt x hx;have:=h5.out;omega)));have c7:m'.length<=n:=qN h0.out.nd (fun q hq=>by rw[h5.out];exact h0.out.lt q hq);cases c with
  | true =>
   have e0:=HC.out rfl;go_wp2;go_roundg (2*(n-m'.length)+1)
   case measure=>have:=c0.out;simp at this;omega
   exact⟨m',true,rfl,by simp,h0.out,(fun h=>by cases h),HA.out,h4.out⟩
  | false =>
   have H2:=h9.out;go_wp2;go_roundg (2*(n-m'.length))
   case measure=>have:=c0.out;simp at this;omega
   exact⟨m',false,rfl,by simp,h0.out,(fun _=>a2.out trivial),HA.out,h4.out⟩
theorem qNF {w:World}{b m:Nat}(h:(madeCells #[.bool false] m).toList=bls (List.replicate m false))(hb:b<=w.heap.size)(hm:m<=maxLen):(w.alloc (.cells (madeCells #[.bool false] m) 4)).ownsRow b 4 1 (.slice (some ⟨w.heap.size,0,none⟩) m m) m (bls (List.replicate m false)):=by
 refine⟨by simp[bls],.inr ⟨w.heap.size,m,_,rfl,hb,heap_alloc_new w _,Nat.le_refl _,hm,?_,?_⟩⟩
 ·rw[<-Array.length_toList,h];simp[bls]
 rw[h];simp[bls]
inductive of4I (k m b8:Nat)(T:List (List Nat))(vg y0 y1 y2 vE y4 y5 y6 y7 y8:Value)(w5:World)(a0:Act)(l:Array Bool)(a:Act)(w:World):Prop
 | mk (x34:Value) (x38:Value) (x39:Value) (x10:Value) (o:Nat) (ha:a=zP a0 [(34,x34),(38,x38),(39,x39),(10,x10)]) (HR:∀j∈[0,1,2,4,5,6],l.getD j true=true) (H3:Hid (l.getD 3 true=true->∃sa sc,x34=.slice sa m sc/\OwnT 0 w (.slice sa m sc) m T)) (H7:Hid (l.getD 7 true=true->∃g,x38=.slice (some ⟨g,0,none⟩) m m/\w.ownsRow w5.heap.size 4 1 (.slice (some ⟨g,0,none⟩) m m) m (bls (List.replicate m false)))) (H8:Hid (l.getD 8 true=true->l.getD 3 true=true/\l.getD 7 true=true/\x39=.agg #[.int .i64 k,x34,.slice none 0 0,.slice none 0 0,.slice none 0 0,x38])) (H9:Hid (l.getD 9 true=true->x10=.pointer (some ⟨o,0,none⟩)/\w5.heap.size<=o)) (B1:Hid (l.getD 9 true=true->(l.getD 10 true=false->w.heap[o]?=some (.cells #[.int .i64 0,.slice none 0 0,.slice none 0 0,.slice none 0 0,.slice none 0 0,.slice none 0 0] 39 (0,0))))) (B2:Hid (l.getD 10 true=true->l.getD 3 true=true/\l.getD 7 true=true/\l.getD 8 true=true/\l.getD 9 true=true/\w.heap[o]?=some (.cells #[.int .i64 k,x34,.slice none 0 0,.slice none 0 0,.slice none 0 0,x38] 39 (0,0)))) (HG:(w5.grownBy w none))
theorem qUC {k m b8:Nat}{T:List (List Nat)}{vg y0 y1 y2 vE y4 y5 y6 y7 y8:Value}{w5:World}{a0:Act}{l:Array Bool}{a:Act}{w:World}(a9:w5.heap[b8]?=some (.cells #[y0,y1,y2,vE,y4,y5,y6,y7,y8] 106 (0,0)))(h:of4I k m b8 T vg y0 y1 y2 vE y4 y5 y6 y7 y8 w5 a0 l a w):wH 10 (fun W=>W.cell? ⟨b8,0,none⟩=some y0/\W.cell? ⟨b8,1,none⟩=some y1/\W.cell? ⟨b8,2,none⟩=some y2/\W.cell? ⟨b8,3,none⟩=some vE/\W.cell? ⟨b8,4,none⟩=some y4/\W.cell? ⟨b8,5,none⟩=some y5/\W.cell? ⟨b8,6,none⟩=some y6/\W.cell? ⟨b8,7,none⟩=some y7/\W.cell? ⟨b8,8,none⟩=some y8) (fun _=>True) l w:=by
 obtain⟨x34,x38,x39,x10,o,ha,HR,H3,H7,H8,H9,B1,B2,HG⟩:=h;obtain⟨q0,q1,q2,q3,q4,q5,q6,q7,q8⟩:=zZ (zB a9 HG);exact⟨⟨q0,q1,q2,q3,q4,q5,q6,q7,q8⟩,fun _=>trivial⟩
theorem qHE {k m b8:Nat}{T:List (List Nat)}{vg y0 y1 y2 vE y4 y5 y6 y7 y8:Value}{w5:World}{a0:Act}{l:Array Bool}{a:Act}{w:World}(h:of4I k m b8 T vg y0 y1 y2 vE y4 y5 y6 y7 y8 w5 a0 l a w):∀j∈[0,1,2,4,5,6],l.getD j true=true:=by
 obtain⟨x34,x38,x39,x10,o,ha,HR,H3,H7,H8,H9,B1,B2,HG⟩:=h;exact HR
theorem qKC {k m b8:Nat}{T:List (List Nat)}{vg y0 y1 y2 vE y4 y5 y6 y7 y8:Value}{w5:World}{v0 v1 v2 v3 v4 v5 v6 v7 v8 v9 l7 l8 l9 k6 k7 k8 k9 j0 j1 j2 j3 j4 j5 j6 j7 j8 j9 i0 i1 i2 i3 i4 i5 i6 i7 i8 i9 g0 g1 g2 g3 g4 g5 g6 g8 g9 f6 f7 f8 f9 e0 e1 e2 e3 e4 e5 e6 e7 e8 e9 d0 d1 d2 d3 d4 d5 d6 d7 d8 d9 c0 c1 c2 c3 c4 c5 c6 c7 c8 c9 b0 b1 b2 b3 b4 b5 b6 b7 b9 a1 a2 a3 a4 a5 a8:Value}{dd:_}{a0:Act}(a9:a0=⟨#[v0,v1,v2,v3,v4,v5,v6,v7,v8,v9,l7,l8,l9,k6,k7,k8,k9,j0,j1,j2,j3,j4,j5,j6,j7,j8,j9,i0,i1,i2,i3,vg,.int .i64 k,.agg #[y0,y1,y2,vE,y4,y5,y6,y7,y8],i4,.pointer (some ⟨b8,3,none⟩),vE,.int .i64 m,i5,i6,i7,i8,i9,g0,g1,g2,g3,g4,g5,g6,g8,g9,f6,f7,f8,f9,e0,e1,e2,e3,e4,e5,e6,e7,e8,e9,d0,d1,d2,d3,d4,d5,d6,d7,d8,d9,c0,c1,c2,c3,c4,c5,c6,c7,c8,c9,b0,b1,b2,b3,b4,b5,b6,b7,b9,a1,a2,a3,a4,a5,a8],dd⟩)(l4:∀W:World,w5.grownBy W none->Calls Tryz.prog 61 #[.agg #[y0,y1,y2,vE,y4,y5,y6,y7,y8]] W (dG W T))(l5:T.length=m)(l3:∀w:World,(Instr.makeSlice 26 (.int .i64 (m:Int)) (.int .i64 (m:Int))).run Tryz.prog w=.ok (.slice (some ⟨w.heap.size,0,none⟩) m m) (w.alloc (.cells (madeCells #[.bool false] m) 4)))(a6:Hid ((madeCells #[.bool false] m).toList=bls (List.replicate m false)))(l6:m<=maxLen)(a7:Array Oper)(Q7:Exit->Act->World->Prop):pU (iJ Tryz.prog .any a7 Q7 (of4I k m b8 T vg y0 y1 y2 vE y4 y5 y6 y7 y8 w5 a0)) 0 (qD Tryz.f33 4).toList:=by
 refine⟨?s0,?s1,?s2,?s3,?s4,?s5,?s6,?s7,?s8,?s9,?s10,trivial⟩
 case s0 =>
  exact fun l a w h h1=>absurd (qHE h 0 (by simp)) (by rw[h1];simp)
 case s1 =>
  exact fun l a w h h1=>absurd (qHE h 1 (by simp)) (by rw[h1];simp)
 case s2 =>
  exact fun l a w h h1=>absurd (qHE h 2 (by simp)) (by rw[h1];simp)
 case s3 =>
  intro l a w h h1 h0 K hK;obtain⟨x34,x38,x39,x10,o,ha,HR,H3,H7,H8,H9,B1,B2,HG⟩:=h;subst ha;rw[a9];simp only[zP,List.foldl_cons,List.foldl_nil,Act.put,sPa,sPb,sPc];go_simp
  go_at_call 61
  refine(l4 w HG).mono ?_;rintro e w6 ⟨sa,sc,rfl,h2,h5⟩;rw[l5]at h2⊢;refine hK.out _ _ ?_;refine⟨(.slice sa m sc),x38,x39,x10,o,?fa3,fun j hj=>zD (HR j hj),Kh (fun _=>⟨sa,sc,rfl,h2.base (Nat.zero_le _)⟩),Kh (fun h=>let ⟨g,e,ho⟩:=H7.out (zE (by decide) h);⟨g,e,zY ho h5⟩),(hs7A H8 h1),(hs7P H9),Kh (fun h h9=>zB (B1.out (zE (by decide) h) (zI h9)) h5),(hs7A B2 h1),zC HG h5⟩
  case fa3=>rw[a9];simp only[zP,List.foldl_cons,List.foldl_nil,Act.put,sPa,sPb,sPc]
 case s4 =>
  exact fun l a w h h1=>absurd (qHE h 4 (by simp)) (by rw[h1];simp)
 case s5 =>
  exact fun l a w h h1=>absurd (qHE h 5 (by simp)) (by rw[h1];simp)
 case s6 =>
  exact fun l a w h h1=>absurd (qHE h 6 (by simp)) (by rw[h1];simp)
 case s7 =>
  intro l a w h h1 h0 K hK;obtain⟨x34,x38,x39,x10,o,ha,HR,H3,H7,H8,H9,B1,B2,HG⟩:=h;subst ha;rw[a9];simp only[zP,List.foldl_cons,List.foldl_nil,Act.put,sPa,sPb,sPc];go_simp;have h3:=qNF a6.out HG.size l6;refine hK.out _ _ ?_;refine⟨x34,(.slice (some ⟨w.heap.size,0,none⟩) m m),x39,x10,o,?fa7,fun j hj=>zD (HR j hj),Kh (fun h=>let ⟨sa,sc,e,ho⟩:=H3.out (zE (by decide) h);⟨sa,sc,e,ho.grow (Ga w (.cells (madeCells #[.bool false] m) 4) none)⟩),Kh (fun _=>⟨w.heap.size,rfl,h3⟩),(hs7B H8 h1),(hs7P H9),Kh (fun h h9=>zB (B1.out (zE (by decide) h) (zI h9)) (Ga w (.cells (madeCells #[.bool false] m) 4) none)),(hs7B B2 h1),zC HG (Ga w (.cells (madeCells #[.bool false] m) 4) none)⟩
  case fa7=>rw[a9];simp only[zP,List.foldl_cons,List.foldl_nil,Act.put,sPa,sPb,sPc]
 case s8 =>
  intro l a w h h1 h0 K hK;obtain⟨x34,x38,x39,x10,o,ha,HR,H3,H7,H8,H9,B1,B2,HG⟩:=h;have DH3:=H3.out (zM (h0 ⟨3,.data⟩ (by simp) rfl));have DH7:=H7.out (zM (h0 ⟨7,.data⟩ (by simp) rfl));obtain⟨sa,sc,rfl,h2⟩:=DH3;obtain⟨g7,rfl,h3⟩:=DH7;subst ha;rw[a9];simp only[zP,List.foldl_cons,List.foldl_nil,Act.put,sPa,sPb,sPc];go_simp;refine hK.out _ _ ?_;refine⟨(.slice sa m sc),(.slice (some ⟨g7,0,none⟩) m m),(.agg #[.int .i64 k,.slice sa m sc,.slice none 0 0,.slice none 0 0,.slice none 0 0,.slice (some ⟨g7,0,none⟩) m m]),x10,o,?fa8,fun j hj=>zD (HR j hj),Kh (fun _=>⟨sa,sc,rfl,h2⟩),Kh (fun _=>⟨g7,rfl,h3⟩),Kh (fun _=>⟨zD (zM (h0 ⟨3,.data⟩ (by simp) rfl)),zD (zM (h0 ⟨7,.data⟩ (by simp) rfl)),rfl⟩),(hs7P H9),Kh (fun h h9=>B1.out (zE (by decide) h) (zI h9)),Kh (fun h=>absurd (B2.out (zE (by decide) h)).2.2.1 (by rw[h1];simp)),HG⟩
  case fa8=>rw[a9];simp only[zP,List.foldl_cons,List.foldl_nil,Act.put,sPa,sPb,sPc]
 case s9 =>
  intro l a w h h1 h0 K hK;obtain⟨x34,x38,x39,x10,o,ha,HR,H3,H7,H8,H9,B1,B2,HG⟩:=h;subst ha;rw[a9];simp only[zP,List.foldl_cons,List.foldl_nil,Act.put,sPa,sPb,sPc];go_simp;refine hK.out _ _ ?_;refine⟨x34,x38,x39,(.pointer (some ⟨w.heap.size,0,none⟩)),w.heap.size,?fa9,fun j hj=>zD (HR j hj),Kh (fun h=>let ⟨sa,sc,e,ho⟩:=H3.out (zE (by decide) h);⟨sa,sc,e,ho.grow (Ga w (.cells #[.int .i64 0,.slice none 0 0,.slice none 0 0,.slice none 0 0,.slice none 0 0,.slice none 0 0] 39) none)⟩),Kh (fun h=>let ⟨g,e,ho⟩:=H7.out (zE (by decide) h);⟨g,e,zY ho (Ga w (.cells #[.int .i64 0,.slice none 0 0,.slice none 0 0,.slice none 0 0,.slice none 0 0,.slice none 0 0] 39) none)⟩),(hs7R H8),Kh (fun _=>⟨rfl,HG.size⟩),Kh (fun _ _=>heap_alloc_new w _),Kh (fun h=>absurd (B2.out (zE (by decide) h)).2.2.2.1 (by rw[h1];simp)),zC HG (Ga w (.cells #[.int .i64 0,.slice none 0 0,.slice none 0 0,.slice none 0 0,.slice none 0 0,.slice none 0 0] 39) none)⟩
  case fa9=>rw[a9];simp only[zP,List.foldl_cons,List.foldl_nil,Act.put,sPa,sPb,sPc]
 intro l a w h h1 h0 K hK;obtain⟨x34,x38,x39,x10,o,ha,HR,H3,H7,H8,H9,B1,B2,HG⟩:=h;have DH9:=H9.out (zM (h0 ⟨9,.data⟩ (by simp) rfl));have DB1:=B1.out (zM (h0 ⟨9,.data⟩ (by simp) rfl));have DH8:=H8.out (zM (h0 ⟨8,.data⟩ (by simp) rfl));have DH3:=H3.out (zM (h0 ⟨3,.chain⟩ (by simp) rfl));have DH7:=H7.out (zM (h0 ⟨7,.phase⟩ (by simp) rfl));obtain⟨rfl,ho⟩:=DH9;obtain⟨h7,h6,rfl⟩:=DH8;obtain⟨sa,sc,rfl,h2⟩:=H3.out h7;have H1:=zM (h0 ⟨8,.data⟩ (by simp) rfl);have H0:=zM (h0 ⟨9,.data⟩ (by simp) rfl);obtain⟨g7,rfl,h3⟩:=H7.out h6;have hb:=DB1 h1;subst ha;rw[a9];simp only[zP,List.foldl_cons,List.foldl_nil,Act.put,sPa,sPb,sPc];obtain⟨k0,k1,k2,k3,k4,k5⟩:=yD hb;have f0:=zA hb 0;have f1:=zA hb 1;have f2:=zA hb 2;have f3:=zA hb 3;have f4:=zA hb 4;have f5:=zA hb 5;go_simp;obtain⟨h8,h4⟩:=uM hb (.int .i64 k) (.slice sa m sc) (.slice none 0 0) (.slice none 0 0) (.slice none 0 0) (.slice (some ⟨g7,0,none⟩) m m);refine hK.out _ _ ?_;refine⟨(.slice sa m sc),(.slice (some ⟨g7,0,none⟩) m m),(.agg #[.int .i64 k,.slice sa m sc,.slice none 0 0,.slice none 0 0,.slice none 0 0,.slice (some ⟨g7,0,none⟩) m m]),(.pointer (some ⟨o,0,none⟩)),o,?fa10,fun j hj=>zD (HR j hj),Kh (fun _=>⟨sa,sc,rfl,h2.other h4 hb (by decide) (by decide)⟩),Kh (fun _=>⟨g7,rfl,h3.kept h4 (.inr (zV h3 hb (by decide)))⟩),Kh (fun _=>⟨zD h7,zD h6,rfl⟩),Kh (fun _=>⟨rfl,ho⟩),Kh (fun _ h9=>yF h9),Kh (fun _=>⟨zD h7,zD h6,zD H1,zD H0,h8⟩),yG HG h4 (by show _<=o;omega)⟩
 case fa10=>rw[a9];simp only[zP,List.foldl_cons,List.foldl_nil,Act.put,sPa,sPb,sPc]
end Go.Proofs.YtobakifdllameaaGreat
