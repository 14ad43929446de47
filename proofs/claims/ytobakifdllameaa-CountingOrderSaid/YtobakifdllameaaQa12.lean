/- Part 12 of the proof. -/
import Derived.Test.YtobakifdllameaaQa11
set_option linter.unusedVariables false
set_option linter.unusedSimpArgs false
set_option maxRecDepth 100000
set_option maxHeartbeats 16000000
namespace Go.Proofs.Ytobakifdllameaa
open Go.Maps Go.RowKit
section
variable {w0 w w':World} {B o n k m d s ub:Nat} {sG:Option Addr} {cG:Nat} {hsG:List Value} {gs els right:List (List Nat)} {pre las beh:List Int} {sgl:List Nat} {tl:List RowS}
theorem RunS.cells (h:RunS w0 B o n k m d s ub sG cG hsG gs els pre las right beh sgl tl w):w.cell? ⟨o,0,none⟩=some (.int .i64 (n:Int))/\w.cell? ⟨o,2,none⟩=some (.slice sG k cG)/\w.cell? ⟨o,8,none⟩=some (.int .i64 (d:Int))/\gs.length=k/\sgl.length=s:=by
 obtain⟨X,mb,u,us,h1,h0,ws,sE,sP,sL,sR,sU,sW,sB,sS,cE,cP,cL,cR,cU,cW,cB,cS,hB,hE,hR,hG,⟨c,hM⟩,h2,h3,hl,h4,hw,hu⟩:=h;have q0:=zF hB.box 0;have q2:=zF hB.box 2;have q8:=zF hB.box 8;simp only[List.getElem_toArray,List.getElem_cons_zero,List.getElem_cons_succ]at q0 q2 q8;exact⟨q0,q2,q8,hl.2.2.2.2.2.2.2,hl.2.2.2.2.2.2.1⟩
theorem RunS.gen (h:RunS w0 B o n k m d s ub sG cG hsG gs els pre las right beh sgl tl w)(hk:0<k)(a9:∀g∈gs,IsT n g)(h1:1<=n):∃gb,sG=some ⟨gb,0,none⟩/\k<=cG/\cG<=maxLen/\∀x,x<k->∃b off cap,w.cell? ⟨gb,x,none⟩=some (.slice (some ⟨b,off,none⟩) n cap)/\n<=cap/\cap<=maxLen/\Row w.heap.size w (.slice (some ⟨b,off,none⟩) n cap) (nats (gs.getD x [])):=by
 obtain⟨X,mb,u,us,H2,H1,ws,sE,sP,sL,sR,sU,sW,sB,sS,cE,cP,cL,cR,cU,cW,cB,cS,hB,hE,hR,hG,⟨c,hM⟩,H3,H4,hl,H5,hw,hu⟩:=h;have h4:=hB.own (r:=⟨B,22,.slice sG k cG,k,hsG,1⟩) (by simp);simp only at h4;obtain⟨gb,rfl,h2,h3,h0⟩:=yY h4 hk;have h5:gs.length=k:=hl.2.2.2.2.2.2.2;refine⟨gb,rfl,h2,h3,fun x hx=>?_⟩;have h9:IsT n (gs.getD x []):=a9 _ (uP (by rw[h5];exact hx));obtain⟨b1,o1,c1,h6,H0,h8,h7⟩:=dJ hG (i:=x) (by rw[h5];exact hx) h9.1 h1;exact⟨b1,o1,c1,qM h0 h6,H0,h8,h7⟩
theorem RunS.map (h:RunS w0 B o n k m d s ub sG cG hsG gs els pre las right beh sgl tl w):∃mb,∀W:World,w.grownBy W none->W.cell? ⟨o,9,none⟩=some (.map (some mb))/\∃c,MapK 9 (IsT n) (fun f=>.string (txtT f)) W mb m c (numE els):=by
 obtain⟨X,mb,u,us,h1,h0,ws,sE,sP,sL,sR,sU,sW,sB,sS,cE,cP,cL,cR,cU,cW,cB,cS,hB,hE,hR,hG,⟨c,hM⟩,h2,h3,hl,h4,hw,hu⟩:=h;refine⟨mb,fun W hg=>⟨?_,c,hM.kept hg (by simp)⟩⟩;have q9:=zF (hB.grow hg).box 9 (by simp);simpa only[List.getElem_toArray,List.getElem_cons_zero,List.getElem_cons_succ] using q9
end
theorem aB {Q:Exit->Act->World->Prop}{v0 v1 v2 v3 v4 v5 v7 v8 v9 p8 p9 o0 o1 o2 o3 o4 o5 o6 o7 o8 o9 n0 n1 n2 n3 n4 n5 n6 n7 n8 n9 m0 m1 m2 m3 m4 m5 m6 m7 m8 m9 l0 l1 l2 l3 l4 l5 l6 l7 l8 l9 k0 k1 k2 k3 k4 k5 k6 k7 k8 k9 j0 j1 j2 j3 j4 j5 j6 j7 j8 j9 i0 i1 i2 i3 i4 i5 i6 i7 i8 i9 g0 g1 g2 g3 g4 g5 g6 g7 g8 g9 f0 f2 f3 f4 f5 f6 f7 d2 d3 d4 d5 d6 d7 d8 d9 c0 c1 c2 c3 c4 c5 c6 c7 c8 c9 b0 b1 b2 b3 b4 b5 b6 b7 b8 b9 a0 a1 a2 a3 a4 a5 a6 f8 f9 e0 e1 e2 e3 e4 e5 e6 e7 a7 a8:Value}{w0 w:World}{B o n k m d s ub i:Nat}{sG:Option Addr}{cG:Nat}{e9:List Value}{gs p7 right:List (List Nat)}{pre d0 e8:List Int}{a9:List Nat}{tl:List RowS}(h:RunS w0 B o n k m d s ub sG cG e9 gs p7 pre d0 right e8 a9 tl w)(hs:s<=100)(d1:∀(z135 z136 z137 z138 z139 z140 z141 z142 z143 z144:Value) (w':World),RunS w0 B o n k m d (s+1) ub sG cG e9 gs p7 pre d0 right e8 (a9++[i]) tl w'->w.heap.size<=w'.heap.size->Q .normal ⟨(v0::v1::v2::v3::v4::v5::(Value.pointer (some ⟨o,0,none⟩))::v7::v8::v9::p8::p9::o0::(Value.int .i64 (i:Int))::o1::o2::o3::o4::o5::o6::o7::o8::o9::n0::n1::n2::n3::n4::n5::n6::n7::n8::n9::m0::m1::m2::m3::m4::m5::m6::m7::m8::m9::l0::l1::l2::l3::l4::l5::l6::l7::l8::l9::k0::k1::k2::k3::k4::k5::k6::k7::k8::k9::j0::j1::j2::j3::j4::j5::j6::j7::j8::j9::i0::i1::i2::i3::i4::i5::i6::i7::i8::i9::g0::g1::g2::g3::g4::g5::g6::g7::g8::g9::f0::f2::f3::f4::f5::f6::f7::d2::d3::d4::d5::d6::d7::d8::d9::c0::c1::c2::c3::c4::c5::c6::c7::c8::c9::b0::b1::b2::b3::b4::b5::b6::b7::b8::b9::a0::a1::a2::a3::a4::a5::a6::z135::z136::z137::z138::z139::z140::z141::z142::z143::z144::a7::a8::[]).toArray,[]⟩ w'):Code.wp Try.prog (reg Try.f70 23) Q ⟨(v0::v1::v2::v3::v4::v5::(Value.pointer (some ⟨o,0,none⟩))::v7::v8::v9::p8::p9::o0::(Value.int .i64 (i:Int))::o1::o2::o3::o4::o5::o6::o7::o8::o9::n0::n1::n2::n3::n4::n5::n6::n7::n8::n9::m0::m1::m2::m3::m4::m5::m6::m7::m8::m9::l0::l1::l2::l3::l4::l5::l6::l7::l8::l9::k0::k1::k2::k3::k4::k5::k6::k7::k8::k9::j0::j1::j2::j3::j4::j5::j6::j7::j8::j9::i0::i1::i2::i3::i4::i5::i6::i7::i8::i9::g0::g1::g2::g3::g4::g5::g6::g7::g8::g9::f0::f2::f3::f4::f5::f6::f7::d2::d3::d4::d5::d6::d7::d8::d9::c0::c1::c2::c3::c4::c5::c6::c7::c8::c9::b0::b1::b2::b3::b4::b5::b6::b7::b8::b9::a0::a1::a2::a3::a4::a5::a6::f8::f9::e0::e1::e2::e3::e4::e5::e6::e7::a7::a8::[]).toArray,[]⟩ w:=by
 obtain⟨X,mb,u,us,h7,h6,ws,sE,sP,sL,sR,sU,sW,sB,sS,cE,cP,cL,cR,cU,cW,cB,cS,hB,hE,hR,hG,⟨c,hM⟩,H8,p0,hl,H5,hw,hu⟩:=h
 have h2:o≠mb:=fun e=>by
  obtain⟨es,clock,hb⟩:=hM.obj;have:=hB.box;rw[e,hb]at this;simp at this
 have H9:=hM.lt;have H0:=hB.stand H9 (fun r hr=>uJ (es:=#[]) (clock:=0) (hB.mem.own r hr) hM.obj) h2;obtain⟨X1,h9⟩:∃X1:Nat->Prop,X1=fun q=>X q\/q=mb:=⟨_,rfl⟩;rw[<-h9]at H0;obtain⟨HS,H7,HE,HR,HG,HM⟩:=K6 H0 h9 hE hR hG hM;obtain⟨HL,q4,HW⟩:=K3 hl H5 hw;clear hB hE hR hG hM hl H5 hw H0 h9 h2
 conv=>arg 2;whnf
 have q1:=zF HS.out.box 12;simp only[List.getElem_toArray,List.getElem_cons_zero,List.getElem_cons_succ]at q1;have H3:=HS.out.own (r:=⟨B,3,.slice sS s cS,s,nats a9,1⟩) (by simp);have H1:=Nat.le_trans HS.out.base HS.out.wk;go_wp2_with (first|(at_builtin;refine rW rfl _ _ _ rfl yI.toN B (.slice sS s cS) (s) (nats a9) rfl H3 [.int .i64 (i:Int)] rfl rfl ?z1 ?z2 ?z3 ?z4 ?_;(case z1=>(intro v hv;simp only[List.mem_cons,List.not_mem_nil,or_false]at hv;(first|(subst hv;rfl)|(rcases hv with rfl|rfl<;>rfl))));(case z2=>(unfold maxLen;omega));(case z3=>(show (s+1)*8<=140737488355328;omega));(case z4=>exact H1);intro sN1 cN1 wM1 h1 H6 H4;(have h5:Hid (BoxS B X1 o 114 w0 w (⟨B,22,.slice sE m cE,m,h7,1⟩::⟨B,3,.slice sP m cP,m,ints pre,1⟩::⟨B,3,.slice sL m cL,m,ints d0,1⟩::⟨B,22,.slice sR d cR,d,h6,1⟩::⟨B,135,.slice sU u cU,u,us,2⟩::⟨B,9,.slice sW m cW,m,yW ws,1⟩::⟨B,3,.slice sB m cB,m,ints e8,1⟩::⟨B,3,.slice sN1 (s+1) cN1,s+1,nats a9++[.int .i64 (i:Int)],1⟩::⟨B,22,.slice sG k cG,k,e9,1⟩::tl) #[.int .i64 (n:Int),.bool true,.slice sG k cG,.slice sE m cE,.slice sP m cP,.slice sL m cL,.slice sR d cR,.slice sU u cU,.int .i64 (d:Int),.map (some mb),.slice sW m cW,.slice sB m cB,.slice sS s cS] wM1):=Kh (HS.out.appAt (j:=7) rfl h1 H6 H4));(have p1:=zF h5.out.box 12);simp only[List.getElem_toArray,List.getElem_cons_zero,List.getElem_cons_succ]at p1;(have f1:=zA h5.out.box 12);clear h1 H6 H4)|fail);obtain⟨wZ1,h0⟩:=Nm (wM1.setCell ⟨o,12,none⟩ (.slice sN1 (s+1) cN1));have h4:Hid (BoxS B X1 o 114 w0 w (⟨B,22,.slice sE m cE,m,h7,1⟩::⟨B,3,.slice sP m cP,m,ints pre,1⟩::⟨B,3,.slice sL m cL,m,ints d0,1⟩::⟨B,22,.slice sR d cR,d,h6,1⟩::⟨B,135,.slice sU u cU,u,us,2⟩::⟨B,9,.slice sW m cW,m,yW ws,1⟩::⟨B,3,.slice sB m cB,m,ints e8,1⟩::⟨B,3,.slice sN1 (s+1) cN1,s+1,nats a9++[.int .i64 (i:Int)],1⟩::⟨B,22,.slice sG k cG,k,e9,1⟩::tl) #[.int .i64 (n:Int),.bool true,.slice sG k cG,.slice sE m cE,.slice sP m cP,.slice sL m cL,.slice sR d cR,.slice sU u cU,.int .i64 (d:Int),.map (some mb),.slice sW m cW,.slice sB m cB,.slice sN1 (s+1) cN1] wZ1):=Kh (by rw[h0];exact h5.out.set 12 (.slice sN1 (s+1) cN1));rw[<-h0];clear h0 q1 H3 H1 h5 p1 f1;have H2:∀q,X q->X1 q:=fun q hq=>by rw[H7.out];exact .inl hq
 have h8:=(h4.out.less H2).kept;have h3:=h4.out.wk;obtain⟨q3,q2,q0,p6,p5,p4,p3,p2⟩:=HL.out;refine d1 _ _ _ _ _ _ _ _ _ _  _ ⟨X,mb,u,us,h7,h6,ws,sE,sP,sL,sR,sU,sW,sB,sN1,cE,cP,cL,cR,cU,cW,cB,cN1,?_,HE.out.kept h8 h3,HR.out.kept h8 h3,HG.out.kept h8 h3,⟨c,HM.out.of_block (h4.out.kept mb (by rw[H7.out];exact .inr rfl))⟩,H8,p0,⟨q3,q2,q0,p6,p5,p4,by simp[p3],p2⟩,q4.out,HW.out,hu⟩ h3;have:=(h4.out.less H2).rebase;rw[show nats a9++[.int .i64 (i:Int)]=nats (a9++[i]) by simp[nats]]at this;exact this
structure PSt (gs:List (List Nat))(n x m:Nat)(els:List (List Nat))(pre las beh:List Int)(sgl:List Nat):Prop where
 st:yJ gs n x=(els,pre,las)
 len:els.length=m
 pos:1<=m
 le:m<=x+1
 it:∀f∈els,IsT n f
 beh:qLO beh m
 sgl:sgl.length=x/\∀r∈sgl,r<m
theorem qNF:qLO [-1] 1:=⟨rfl,fun i hi=>by
 have e:i=0:=by omega
 subst e
 exact .inl ⟨rfl,rfl⟩⟩
theorem PSt.zero (gs:List (List Nat))(n:Nat):PSt gs n 0 1 [List.range n] [-1] [-1] [-1] [] :=
 ⟨rfl,rfl,Nat.le_refl _,Nat.le_refl _,fun f hf=>by rw[List.mem_singleton]at hf;subst hf;exact lS n,qNF,rfl,fun r hr=>by simp at hr⟩
theorem PSt.known {gs a9:List (List Nat)}{n x m:Nat}{pre a8 beh:List Int}{sgl:List Nat}(h:PSt gs n x m a9 pre a8 beh sgl)(a7:gs.getD x []∈a9):PSt gs n (x+1) m a9 pre a8 beh (sgl++[a9.idxOf (gs.getD x [])]):=by
 refine⟨?_,h.len,h.pos,by have:=h.le;omega,h.it,h.beh,by simp[h.sgl.1],fun r hr=>?_⟩
 ·rw[yJ,h.st];exact if_pos a7
 rcases List.mem_append.1 hr with hr|hr
 ·exact h.sgl.2 r hr
 rw[List.mem_singleton]at hr;subst hr;rw[<-h.len];exact List.idxOf_lt_length_of_mem a7
theorem PSt.new {gs a9:List (List Nat)}{n x m:Nat}{pre a8 beh:List Int}{sgl:List Nat}(h:PSt gs n x m a9 pre a8 beh sgl)(a7:gs.getD x [] ∉ a9)(a6:IsT n (gs.getD x [])):PSt gs n (x+1) (m+1) (a9++[gs.getD x []]) (pre++[0]) (a8++[(x:Int)]) (beh++[0]) (sgl++[m]):=by
 have h0:=h.pos;refine⟨?_,by simp[h.len],by omega,by have:=h.le;omega,fun f hf=>?_,⟨by simp[h.beh.1],fun i hi=>?_⟩,by simp[h.sgl.1],fun r hr=>?_⟩
 ·rw[yJ,h.st];exact if_neg a7
 ·rcases List.mem_append.1 hf with hf|hf
  ·exact h.it f hf
  rw[List.mem_singleton]at hf;subst hf;exact a6
 ·rcases Nat.lt_or_ge i m with h3|h3
  ·rw[xM (by rw[h.beh.1];exact h3)];exact h.beh.2 i h3
  have:i=m:=by omega
  subst this;rw[xX h.beh.1.symm];exact .inr ⟨by omega,by omega⟩
 rcases List.mem_append.1 hr with hr|hr
 ·have:=h.sgl.2 r hr;omega
 rw[List.mem_singleton]at hr;omega
theorem PSt.done {gs a8:List (List Nat)}{n k m:Nat}{pre a9 beh:List Int}{sgl:List Nat}(h:PSt gs n k m a8 pre a9 beh sgl)(hk:gs.length=k)(a7:k<=6):PEn gs n k 0 m a8 pre a9 [] beh sgl :=
 ⟨hk,by rw[xT,h.st],h.len,Nat.zero_le _,by have:=h.le;omega,h.it,h.beh,rfl,fun j hj=>by omega,h.sgl⟩
theorem qDU (B:Nat)(w:World)(v0:Value)(gs:List (List Nat))(n:Nat)(hB:B<=w.heap.size)(h:TMat B w v0 gs)(a7:∀g∈gs,IsT n g)(h1:1<=n)(a9:n<=32)(a5:1<=gs.length)(a6:gs.length<=6):Calls Try.prog 70 #[v0,.bool true] w fun e w'=>∃(o m cG:Nat) (sG:Option Addr) (hsG:List Value) (els:List (List Nat)) (pre las beh:List Int) (sgl:List Nat),e=.returned (.tuple #[.pointer (some ⟨o,0,none⟩),.int .i64 0])/\RunS w w.heap.size o n gs.length m 0 gs.length 6 sG cG hsG gs els pre las [] beh sgl [] w'/\PEn gs n gs.length 0 m els pre las [] beh sgl/\w.grownBy w' none:=by
 obtain⟨b0,o0,c0,rfl,l6,i9,n0,m9,e9⟩:=h.head (by omega);have m4:c0<=9223372036854775807:=by unfold maxLen at i9;omega
 obtain⟨k,hk⟩:=Nm gs.length;rw[<-hk]at a5 a6 l6 e9⊢;have HK:=Kh hk;have d4:=Kh a7
 have H8:∀x,x<k->∃a c,(∀W:World,w.grownBy W none->W.cell? ⟨b0,o0+x,none⟩=some (.slice a n c))/\∀W:World,w.grownBy W none->Row B W (.slice a n c) (nats (gs.getD x [])):=fun x hx=>by
  obtain⟨a,c,h1,h2⟩:=e9 x hx;have hl:(gs.getD x []).length=n:=(a7 _ (uP (by rw[<-hk];exact hx))).1;rw[hl]at h1 h2;exact⟨a,c,fun W hg=>zJ h1 hg,fun W hg=>h2.row.kept hg (by simp)⟩
 have c6:=Kh H8;obtain⟨a0,cp0,c4,e0⟩:=H8 0 (by omega);have c00:=c4 w (yD _ _);rw[Nat.add_zero]at c00;have l0:=@run_makeMap Try.prog;obtain⟨P,hP⟩:=Nm w.heap.size;have d2:=Kh hP;obtain⟨w1,b2⟩:=Nm (w.alloc (.map #[] 0));have i6:w.grownBy w1 none:=by rw[b2];exact Ga w _ none
 have g6:w1.heap.size=P+1:=by rw[b2,zW,hP]
 have j0:MapK 9 (IsT n) (fun f=>.string (txtT f)) w1 P 0 0 (fun _=>none):=by rw[b2,hP];exact MapK.made _ _ _ w
 obtain⟨j3,k0,j2,j7⟩:=K4 b2 i6 g6 j0;have e1:((k:Int) == 0)=false:=by rw[beq_eq_false_iff_ne];omega
 have e2:decide (6<(k:Int))=false:=by rw[decide_eq_false_iff_not];omega
 clear h e9 H8 a7 i9 c4 e0 hP b2 i6 g6 j0 hk;go_enter Try.func70,Try.ntmps70;go_upto_region 4 with fail;rw[<-j3.out,<-d2.out];obtain⟨O,hO⟩:=Nm (P+1);rw[<-hO];obtain⟨w2,a4⟩:=Nm (w1.alloc (.cells #[.int .i64 0,.bool false,.slice none 0 0,.slice none 0 0,.slice none 0 0,.slice none 0 0,.slice none 0 0,.slice none 0 0,.int .i64 0,.map (some P),.slice none 0 0,.slice none 0 0,.slice none 0 0] 114));have f3:w1.grownBy w2 none:=by rw[a4];exact Ga w1 _ none
 have H7:=heap_alloc_new w1 (.cells #[.int .i64 0,.bool false,.slice none 0 0,.slice none 0 0,.slice none 0 0,.slice none 0 0,.slice none 0 0,.slice none 0 0,.int .i64 0,.map (some P),.slice none 0 0,.slice none 0 0,.slice none 0 0] 114);rw[<-a4,j2.out,<-hO]at H7;rw[<-a4];have g4:=Kh (zC k0.out f3);have j8:=Kh (j7.out.kept f3 (by simp));obtain⟨k2,HO,l8⟩:=K3 H7 hO a4;obtain⟨a0',cp0',H2,_⟩:=c6.out 0 (by omega);have c00b:=H2 w2 g4.out;rw[Nat.add_zero]at c00b;have q0:=zF H7 0;have q1:=zF H7 1;simp only[List.getElem_toArray,List.getElem_cons_zero,List.getElem_cons_succ]at q0 q1;have f0:=zA H7 0;have f1:=zA H7 1;clear a4 f3 H7 H2 c00 hO l0;go_upto_region 5 with fail;obtain⟨w3,c8⟩:=Nm ((w2.setCell ⟨O,0,none⟩ (.int .i64 (n:Int))).setCell ⟨O,1,none⟩ (.bool true));rw[<-c8];have d0:=heap_setCell_same _ O 1 _ _ (.bool true) (heap_setCell_same w2 O 0 _ _ (.int .i64 (n:Int)) k2.out);have f2:w2.grownBy w3 (some O):=by rw[c8];exact zH (zG w2 ⟨O,0,none⟩ _) (zG _ ⟨O,1,none⟩ _)
 rw[<-c8]at d0;simp only[sPa,sPb,sPc]at d0;have h3:=RunS.init (w:=w) (j8.out.kept f2 (fun e=>by have e:=Oj e;have:=HO.out;omega)) d0 (by rw[<-d2.out];exact Nat.le_refl _) (by have:=d2.out;have:=HO.out;omega) (zC g4.out f2 (fun q e=>by have e:=Oj e;have:=d2.out;have:=HO.out;omega));have j6:=Kh h3;clear h3 d0 f2 c8 q0 q1 f0 f1 c00b j8 k2 j7 j3 l8 j2 k0 g4 HO;go_wp2
 go_loopg [8,41] k (fun gh a8 i wr=>∃(q cG:Nat) (sG:Option Addr) (hsG:List Value),gh+q=k/\i=.int .i64 q/\RunS w w.heap.size O n q 0 0 0 0 sG cG hsG (gs.take q) [] [] [] [] [] [] [] wr)
 case atStart=>exact⟨0,0,none,[],rfl,rfl,j6.out⟩
 clear j6;obtain⟨q,cG,sG,hsG,c2,rfl,h0⟩:=hrel;have h7:=Kh c2;have h3:=Kh h0;have H0:=h0.facts.1;have g2:=Kh H0;clear c2;by_cases hq:q<k
 ·have i0:(q:Int)<k:=by omega
  obtain⟨aq,cq,i7,d8⟩:=c6.out q hq;have H1:IsT n (gs.getD q []):=d4.out _ (uP (by rw[<-HK.out];exact hq));have cg:=i7 wr H0;have p0:=h0.cells.1;have HV:=Kh (mW B wr _ _ n (d8 wr H0) H1 h1 a9);have m0:=Kh (d8 wr H0);have m3:=Kh H1;have e3:((n:Int) != (n:Int))=false:=by simp
  have l9:Hid (gs.take q++[gs.getD q []]=gs.take (q+1)):=Kh (yF (by rw[<-HK.out];exact hq)).symm;clear i7 d8 H1 h0 H0;go_wp2_with fail;refine HV.out.mono ?_;rintro e wv ⟨rfl,rfl⟩;go_upto_region 10 with fail;refine qMR (C:=B) h3.out (by omega) m3.out h1 a9 hB m0.out ?_;intro z58 z59 z60 z61 z62 z63 z64 z65 z66 z67 z68 z69 z70 w5 sG5 cG5 x5 d9 k6;rw[l9.out]at d9;have m1:=Kh d9;clear d9 cg p0;go_wp2;go_roundg (k-(q+1))
  case measure=>have:=h7.out;omega
  exact⟨q+1,cG5,sG5,hsG++[x5],by have:=h7.out;omega,by go_num,m1.out⟩
 have g8:q=k:=by have:=h7.out;omega
 have h5:=h0;rw[g8,List.take_of_length_le (by rw[<-HK.out];exact Nat.le_refl _)]at h5;have a3:=Kh h5;have i0:¬(q:Int)<k:=(by omega);have p0:=h5.cells.1;have j9:=Kh (qDS wr n h1 a9);clear h0 h5 g8 h3;go_wp2_with fail;refine j9.out.mono ?_;rintro e w5 ⟨g5,rfl,b9,H3,i5⟩;rw[List.length_range];have c7:=Kh (dT a3.out i5 (Nat.le_refl n) (by unfold maxLen;omega) H3 b9 (lS n) (by simp) h1 a9 (by omega) (-1) (-1) (-1) ⟨#[]⟩ (Nat.zero_le _));clear b9 H3 i5 p0 j9;go_wp2_with fail;refine c7.out.mono ?_;rintro e w6 ⟨rfl,b5,l3⟩;simp only[List.nil_append]at b5;obtain⟨gb,rfl,m6,i8,_⟩:=b5.gen (by omega) d4.out h1;have k8:cG<=9223372036854775807:=by unfold maxLen at i8;omega
 have q2:=b5.cells.2.1;have j5:=Kh b5;clear b5 l3 c7 a3 i8;go_wp2
 go_loopg [10,11,12,13,14,87] k (fun gh a10 a11 a12 a13 a14 i wr=>∃(x m ubx:Nat) (els:List (List Nat)) (pre las beh:List Int) (sgl:List Nat),gh+x=k/\i=.int .i64 x/\ubx<=x/\PSt gs n x m els pre las beh sgl/\RunS w w.heap.size O n k m 0 x ubx (some ⟨gb,0,none⟩) cG hsG gs els pre las [] beh sgl [] wr)
 case atStart=>exact⟨0,1,0,_,_,_,_,_,rfl,rfl,Nat.le_refl _,PSt.zero gs n,j5.out⟩
 clear j5 q2 h7 g2 hq i0;obtain⟨x,m,ubx,els,pre,las,beh,sgl,c2,rfl,k5,a2,h0⟩:=hrel;obtain⟨h7,f8,h3⟩:=K3 c2 a2 h0;have H0:=h0.facts.1;have g2:=Kh H0;have k9:m<=x+1:=a2.le;have m5:1<=m:=a2.pos;clear c2;by_cases hx:x<k
 ·have k3:(x:Int)<k:=by omega
  have H1:IsT n (gs.getD x []):=d4.out _ (uP (by rw[<-HK.out];exact hx));obtain⟨gb',e,_,_,c3⟩:=h0.gen (by omega) d4.out h1;simp only[Option.some.injEq,Addr.mk.injEq,and_true]at e;subst e;obtain⟨b1,o1,c1,cg,l5,e4,d1⟩:=c3 x hx;obtain⟨mb,b7⟩:=h0.map;obtain⟨fT,f5⟩:=Nm (gs.getD x []);rw[<-f5]at H1 d1;obtain⟨wo,rfl⟩:=Nm (wr:World);obtain⟨c5,HT,h8,m2⟩:=K4 f5 H1 b7 d1;have j4:Hid (∀W:World,wo.grownBy W none->Calls Try.prog 93 #[.slice (some ⟨b1,o1,none⟩) n c1] W fun e w'=>e=.returned (.string (txtT fT))/\W.grownBy w' none):=Kh (fun W hgW=>iQ wo.heap.size W _ fT n hgW.size (d1.kept hgW (by simp)) H1 h1 a9);obtain⟨ex,f6⟩:=Nm (Go.Utf8.encode (97+(x:Int)));have m8:∀W:World,(convert 21 9 (.int .i32 (97+(x:Int)))).run Try.prog W=.ok (.string ex) W:=fun W=>by rw[f6];exact qCG W (97+(x:Int))
  have k4:IntKind.i32.wrap (97+(x:Int))=97+(x:Int):=by unfold IntKind.wrap;simp[IntKind.bits,IntKind.signed];omega
  have m7:ex.size=1:=by rw[f6];exact cK (by omega)
  clear a2 h0 H0 c3 b7 f5 H1 d1 f6 e4;go_upto_region 19 with fail;obtain⟨w7,d6⟩:=Nm wo.drew;have i4:wo.grownBy w7 none:=(by rw[d6];exact zY wo none);have l7:=Kh d6;have g3:=Kh i4;clear d6 i4;refine wp_region_noPanic ?_;refine yK (G:=xU 99 (fun W=>W.cell? ⟨O,9,none⟩=some (.map (some mb))) (fun _=>True)) (by kernel_rfl) ?_;rw[<-l7.out];have C:=Kh (h8.out w7 g3.out).1;refine zL 0 ⟨C.out,fun _=>trivial⟩ ?_;refine zL 1 ⟨C.out,fun _=>trivial⟩ ?_;refine zL 2 ⟨C.out,fun _=>trivial⟩ ?_;refine zL 3 ⟨C.out,fun _=>trivial⟩ ?_;refine zL 4 ⟨C.out,fun _=>trivial⟩ ?_;refine oneG (i:=5) (by kernel_rfl) rfl (fun K hK=>?_);go_simp
  go_at_call 93
  refine(j4.out w7 g3.out).mono ?_;rintro e w8 ⟨rfl,i3⟩;have H6:=zC g3.out i3;have d5:=Kh H6;have C8:=Kh (h8.out w8 H6).1;refine hK.out _ _ ⟨C8.out,fun _=>trivial⟩ ?_;clear hK K C i3 H6 j4
  try simp only[Act.put,sPa,sPb,sPc]
  obtain⟨cc,j1⟩:=(h8.out w8 d5.out).2;have i1:=j1.lookup (dB a9) (x:=fT) HT.out;obtain⟨ic,e8⟩:=Nm ((numE els fT).getD 0);obtain⟨kn,e5⟩:=Nm ((numE els fT).isSome);rw[<-e8,<-e5]at i1;have g1:=Kh e8;have d3:=Kh e5;clear e8 e5 j1;refine oneG (i:=6) (by kernel_rfl) rfl (fun K hK=>?_);go_simp;refine hK.out _ _ ⟨C8.out,fun _=>trivial⟩ ?_;clear hK K i1
  try simp only[Act.put,sPa,sPb,sPc]
  refine zL 7 ⟨C8.out,fun _=>trivial⟩ ?_;refine zL 8 ⟨C8.out,fun _=>trivial⟩ ?_;refine zL 9 ⟨C8.out,fun _=>trivial⟩ ?_;refine zL 10 ⟨C8.out,fun _=>trivial⟩ ?_;refine zL 11 ⟨C8.out,fun _=>trivial⟩ ?_;refine tY (by kernel_rfl) ?_ _;refine NoPanic.normal ?_;have H4:=Kh (h3.out.grow d5.out);clear C8 h8 h3;by_cases hin:fT∈els
  ·have l1:kn=true:=by rw[d3.out,numE,if_pos hin];rfl
   have e6:ic=els.idxOf fT:=by rw[g1.out,numE,if_pos hin];rfl
   subst l1;have e7:ic<m:=(by rw[e6,<-f8.out.len];exact List.idxOf_lt_length_of_mem hin);have h4:=f8.out.known (by rw[<-c5.out];exact hin);rw[<-c5.out,<-e6]at h4;have H9:=Kh h4;clear e6 h4 g1 d3 cg;go_upto_region 21 with fail;refine qMQ H4.out e7 (by omega) (by omega) ?_;intro z107 z108 z109 z110 z111 z112 z113 z114 z115 z116 z117 z118 z119 z120 z121 z122 z123 z124 z125 z126 w9 h5 d7;have a3:=Kh h5;clear h5 d7;go_upto_region 23 with fail;refine aB (i:=ic) a3.out (by omega) ?_;intro z135 z136 z137 z138 z139 z140 z141 z142 z143 z144 w10 h6 b4;have a1:=Kh h6;clear h6 b4;go_wp2;go_roundg (k-(x+1))
   case measure=>have:=h7.out;omega
   exact⟨x+1,m,ubx+1,els,pre,las,beh,sgl++[ic],by have:=h7.out;omega,by go_num,by omega,H9.out,a1.out⟩
  have l2:kn=false:=by rw[d3.out,numE,if_neg hin];rfl
  subst l2;have h4:=f8.out.new (by rw[<-c5.out];exact hin) (by rw[<-c5.out];exact HT.out);rw[<-c5.out]at h4;have H9:=Kh h4;have f7:=kL w8.heap.size w8 _ fT ((m2.out.kept d5.out (by simp)).mono d5.out.size) (by rw[HT.out.1];exact h1) (by rw[HT.out.1];omega);rw[HT.out.1]at f7;have k1:=Kh f7;clear h4 g1 d3 cg f7;go_wp2_with fail;refine k1.out.mono ?_;rintro e w9 ⟨g9,c9,rfl,b8,k7,l4,h9,i2⟩;have c7:=Kh (dT H4.out i2 k7 l4 (Arr.of_owns h9) b8 HT.out hin h1 a9 (by omega) 0 (x:Int) 0 ex (by omega));clear b8 h9 i2 k1;go_wp2_with fail;refine c7.out.mono ?_;rintro e w10 ⟨rfl,h6,f4⟩;have a1:=Kh h6;clear h6 f4 c7;go_upto_region 23 with fail;refine aB (i:=m) a1.out (by omega) ?_;intro z135 z136 z137 z138 z139 z140 z141 z142 z143 z144 w11 b6 b3;have f9:=Kh b6;clear b6 b3;go_wp2;go_roundg (k-(x+1))
  case measure=>have:=h7.out;omega
  exact⟨x+1,m+1,ubx,els++[fT],pre++[0],las++[(x:Int)],beh++[0],sgl++[m],by have:=h7.out;omega,by go_num,by omega,H9.out,f9.out⟩
 have g7:x=k:=by have:=h7.out;omega
 have k3:¬(x:Int)<k:=(by omega);have H5:=a2;have h5:=h0;rw[g7]at H5 h5;have g0:=Kh (H5.done HK.out.symm a6);have a3:=Kh (h5.ubm (show ubx<=6 by omega));clear a2 h0 H5 h5 g7;go_wp2;refine bodyPost_ret (v:=.tuple #[.pointer (some ⟨O,0,none⟩),.int .i64 0]) (by simp[results,Try.results70,go_sem]) rfl ?_;exact⟨O,rfl,m,cG,some ⟨gb,0,none⟩,hsG,els,pre,las,beh,sgl,a3.out,g0.out,g2.out⟩
end Go.Proofs.Ytobakifdllameaa
