/- Part 14 of the proof. -/
import Derived.Test.YtobakifdllameaaGreatQd13
set_option linter.unusedVariables false
set_option linter.unusedSimpArgs false
set_option maxRecDepth 100000
set_option maxHeartbeats 16000000
namespace Go.Proofs.YtobakifdllameaaGreat
open Go.Maps Go.RowKit
section
variable {w0 w w':World} {B o n k m d s ub:Nat} {sG:Option Addr} {cG:Nat} {hsG:List Value} {gs els right:List (List Nat)} {pre las beh:List Int} {sgl:List Nat} {tl:List RowS}
theorem RunS.cells (h:RunS w0 B o n k m d s ub sG cG hsG gs els pre las right beh sgl tl w):w.cell? ⟨o,0,none⟩=some (.int .i64 (n:Int))/\w.cell? ⟨o,2,none⟩=some (.slice sG k cG)/\w.cell? ⟨o,8,none⟩=some (.int .i64 (d:Int))/\gs.length=k/\sgl.length=s:=by
 obtain⟨X,mb,u,us,h1,h0,ws,sE,sP,sL,sR,sU,sW,sB,sS,cE,cP,cL,cR,cU,cW,cB,cS,hB,hE,hR,hG,⟨c,hM⟩,h2,h3,hl,h4,hw,hu⟩:=h;have q0:=zH hB.box 0;have q2:=zH hB.box 2;have q8:=zH hB.box 8;simp only[List.getElem_toArray,List.getElem_cons_zero,List.getElem_cons_succ]at q0 q2 q8;exact⟨q0,q2,q8,hl.2.2.2.2.2.2.2,hl.2.2.2.2.2.2.1⟩
theorem RunS.gen (h:RunS w0 B o n k m d s ub sG cG hsG gs els pre las right beh sgl tl w)(hk:0<k)(a9:∀g∈gs,IsT n g)(h1:1<=n):∃gb,sG=some ⟨gb,0,none⟩/\k<=cG/\cG<=maxLen/\∀x,x<k->∃b off cap,w.cell? ⟨gb,x,none⟩=some (.slice (some ⟨b,off,none⟩) n cap)/\n<=cap/\cap<=maxLen/\Row w.heap.size w (.slice (some ⟨b,off,none⟩) n cap) (nats (gs.getD x [])):=by
 obtain⟨X,mb,u,us,H2,H1,ws,sE,sP,sL,sR,sU,sW,sB,sS,cE,cP,cL,cR,cU,cW,cB,cS,hB,hE,hR,hG,⟨c,hM⟩,H3,H4,hl,H5,hw,hu⟩:=h;have h4:=hB.own (r:=⟨B,22,.slice sG k cG,k,hsG,1⟩) (by simp);simp only at h4;obtain⟨gb,rfl,h2,h3,h0⟩:=yZ h4 hk;have h5:gs.length=k:=hl.2.2.2.2.2.2.2;refine⟨gb,rfl,h2,h3,fun x hx=>?_⟩;have h9:IsT n (gs.getD x []):=a9 _ (uW (by rw[h5];exact hx));obtain⟨b1,o1,c1,h6,H0,h8,h7⟩:=aO hG (i:=x) (by rw[h5];exact hx) h9.1 h1;exact⟨b1,o1,c1,pJ h0 h6,H0,h8,h7⟩
theorem RunS.map (h:RunS w0 B o n k m d s ub sG cG hsG gs els pre las right beh sgl tl w):∃mb,∀W:World,w.grownBy W none->W.cell? ⟨o,9,none⟩=some (.map (some mb))/\∃c,MapK 9 (IsT n) (fun f=>.string (txtT f)) W mb m c (numE els):=by
 obtain⟨X,mb,u,us,h1,h0,ws,sE,sP,sL,sR,sU,sW,sB,sS,cE,cP,cL,cR,cU,cW,cB,cS,hB,hE,hR,hG,⟨c,hM⟩,h2,h3,hl,h4,hw,hu⟩:=h;refine⟨mb,fun W hg=>⟨?_,c,hM.kept hg (by simp)⟩⟩;have q9:=zH (hB.grow hg).box 9 (by simp);simpa only[List.getElem_toArray,List.getElem_cons_zero,List.getElem_cons_succ] using q9
end
theorem qBX {Q:Exit->Act->World->Prop}{v0 v1 v2 v3 v4 v5 v7 v8 v9 p8 p9 o0 o1 o2 o3 o4 o5 o6 o7 o8 o9 n0 n1 n2 n3 n4 n5 n6 n7 n8 n9 m0 m1 m2 m3 m4 m5 m6 m7 m8 m9 l0 l1 l2 l3 l4 l5 l6 l7 l8 l9 k0 k1 k2 k3 k4 k5 k6 k7 k8 k9 j0 j1 j2 j3 j4 j5 j6 j7 j8 j9 i0 i1 i2 i3 i4 i5 i6 i7 i8 i9 g0 g1 g2 g3 g4 g5 g6 g7 g8 g9 f0 f2 f3 f4 f5 f6 f7 d2 d3 d4 d5 d6 d7 d8 d9 c0 c1 c2 c3 c4 c5 c6 c7 c8 c9 b0 b1 b2 b3 b4 b5 b6 b7 b8 b9 a0 a1 a2 a3 a4 a5 a6 f8 f9 e0 e1 e2 e3 e4 e5 e6 e7 a7 a8:Value}{w0 w:World}{B o n k m d s ub i:Nat}{sG:Option Addr}{cG:Nat}{e9:List Value}{gs p7 right:List (List Nat)}{pre d0 e8:List Int}{a9:List Nat}{tl:List RowS}(h:RunS w0 B o n k m d s ub sG cG e9 gs p7 pre d0 right e8 a9 tl w)(hs:s<=100)(d1:∀(z135 z136 z137 z138 z139 z140 z141 z142 z143 z144:Value) (w':World),RunS w0 B o n k m d (s+1) ub sG cG e9 gs p7 pre d0 right e8 (a9++[i]) tl w'->w.heap.size<=w'.heap.size->Q .normal ⟨(v0::v1::v2::v3::v4::v5::(Value.pointer (some ⟨o,0,none⟩))::v7::v8::v9::p8::p9::o0::(Value.int .i64 (i:Int))::o1::o2::o3::o4::o5::o6::o7::o8::o9::n0::n1::n2::n3::n4::n5::n6::n7::n8::n9::m0::m1::m2::m3::m4::m5::m6::m7::m8::m9::l0::l1::l2::l3::l4::l5::l6::l7::l8::l9::k0::k1::k2::k3::k4::k5::k6::k7::k8::k9::j0::j1::j2::j3::j4::j5::j6::j7::j8::j9::i0::i1::i2::i3::i4::i5::i6::i7::i8::i9::g0::g1::g2::g3::g4::g5::g6::g7::g8::g9::f0::f2::f3::f4::f5::f6::f7::d2::d3::d4::d5::d6::d7::d8::d9::c0::c1::c2::c3::c4::c5::c6::c7::c8::c9::b0::b1::b2::b3::b4::b5::b6::b7::b8::b9::a0::a1::a2::a3::a4::a5::a6::z135::z136::z137::z138::z139::z140::z141::z142::z143::z144::a7::a8::[]).toArray,[]⟩ w'):Code.wp Tryz.prog (reg Tryz.f105 23) Q ⟨(v0::v1::v2::v3::v4::v5::(Value.pointer (some ⟨o,0,none⟩))::v7::v8::v9::p8::p9::o0::(Value.int .i64 (i:Int))::o1::o2::o3::o4::o5::o6::o7::o8::o9::n0::n1::n2::n3::n4::n5::n6::n7::n8::n9::m0::m1::m2::m3::m4::m5::m6::m7::m8::m9::l0::l1::l2::l3::l4::l5::l6::l7::l8::l9::k0::k1::k2::k3::k4::k5::k6::k7::k8::k9::j0::j1::j2::j3::j4::j5::j6::j7::j8::j9::i0::i1::i2::i3::i4::i5::i6::i7::i8::i9::g0::g1::g2::g3::g4::g5::g6::g7::g8::g9::f0::f2::f3::f4::f5::f6::f7::d2::d3::d4::d5::d6::d7::d8::d9::c0::c1::c2::c3::c4::c5::c6::c7::c8::c9::b0::b1::b2::b3::b4::b5::b6::b7::b8::b9::a0::a1::a2::a3::a4::a5::a6::f8::f9::e0::e1::e2::e3::e4::e5::e6::e7::a7::a8::[]).toArray,[]⟩ w:=by
 obtain⟨X,mb,u,us,h7,h6,ws,sE,sP,sL,sR,sU,sW,sB,sS,cE,cP,cL,cR,cU,cW,cB,cS,hB,hE,hR,hG,⟨c,hM⟩,H8,p0,hl,H5,hw,hu⟩:=h
 have h2:o≠mb:=fun e=>by
  obtain⟨es,clock,hb⟩:=hM.obj;have:=hB.box;rw[e,hb]at this;simp at this
 have H9:=hM.lt;have H0:=hB.stand H9 (fun r hr=>uT (es:=#[]) (clock:=0) (hB.mem.own r hr) hM.obj) h2;obtain⟨X1,h9⟩:∃X1:Nat->Prop,X1=fun q=>X q\/q=mb:=⟨_,rfl⟩;rw[<-h9]at H0;obtain⟨HS,H7,HE,HR,HG,HM⟩:=K6 H0 h9 hE hR hG hM;obtain⟨HL,q4,HW⟩:=K3 hl H5 hw;clear hB hE hR hG hM hl H5 hw H0 h9 h2
 conv=>arg 2;whnf
 have q1:=zH HS.out.box 12;simp only[List.getElem_toArray,List.getElem_cons_zero,List.getElem_cons_succ]at q1;have H3:=HS.out.own (r:=⟨B,3,.slice sS s cS,s,nats a9,1⟩) (by simp);have H1:=Nat.le_trans HS.out.base HS.out.wk;go_wp2_with (first|(at_builtin;refine qR rfl _ _ _ rfl yH.toN B (.slice sS s cS) (s) (nats a9) rfl H3 [.int .i64 (i:Int)] rfl rfl ?z1 ?z2 ?z3 ?z4 ?_;(case z1=>(intro v hv;simp only[List.mem_cons,List.not_mem_nil,or_false]at hv;(first|(subst hv;rfl)|(rcases hv with rfl|rfl<;>rfl))));(case z2=>(unfold maxLen;omega));(case z3=>(show (s+1)*8<=140737488355328;omega));(case z4=>exact H1);intro sN1 cN1 wM1 h1 H6 H4;(have h5:Hid (BoxS B X1 o 156 w0 w (⟨B,22,.slice sE m cE,m,h7,1⟩::⟨B,3,.slice sP m cP,m,ints pre,1⟩::⟨B,3,.slice sL m cL,m,ints d0,1⟩::⟨B,22,.slice sR d cR,d,h6,1⟩::⟨B,180,.slice sU u cU,u,us,2⟩::⟨B,9,.slice sW m cW,m,xD ws,1⟩::⟨B,3,.slice sB m cB,m,ints e8,1⟩::⟨B,3,.slice sN1 (s+1) cN1,s+1,nats a9++[.int .i64 (i:Int)],1⟩::⟨B,22,.slice sG k cG,k,e9,1⟩::tl) #[.int .i64 (n:Int),.bool true,.slice sG k cG,.slice sE m cE,.slice sP m cP,.slice sL m cL,.slice sR d cR,.slice sU u cU,.int .i64 (d:Int),.map (some mb),.slice sW m cW,.slice sB m cB,.slice sS s cS] wM1):=Kh (HS.out.appAt (j:=7) rfl h1 H6 H4));(have p1:=zH h5.out.box 12);simp only[List.getElem_toArray,List.getElem_cons_zero,List.getElem_cons_succ]at p1;(have f1:=zA h5.out.box 12);clear h1 H6 H4)|fail);obtain⟨wZ1,h0⟩:=Nm (wM1.setCell ⟨o,12,none⟩ (.slice sN1 (s+1) cN1));have h4:Hid (BoxS B X1 o 156 w0 w (⟨B,22,.slice sE m cE,m,h7,1⟩::⟨B,3,.slice sP m cP,m,ints pre,1⟩::⟨B,3,.slice sL m cL,m,ints d0,1⟩::⟨B,22,.slice sR d cR,d,h6,1⟩::⟨B,180,.slice sU u cU,u,us,2⟩::⟨B,9,.slice sW m cW,m,xD ws,1⟩::⟨B,3,.slice sB m cB,m,ints e8,1⟩::⟨B,3,.slice sN1 (s+1) cN1,s+1,nats a9++[.int .i64 (i:Int)],1⟩::⟨B,22,.slice sG k cG,k,e9,1⟩::tl) #[.int .i64 (n:Int),.bool true,.slice sG k cG,.slice sE m cE,.slice sP m cP,.slice sL m cL,.slice sR d cR,.slice sU u cU,.int .i64 (d:Int),.map (some mb),.slice sW m cW,.slice sB m cB,.slice sN1 (s+1) cN1] wZ1):=Kh (by rw[h0];exact h5.out.set 12 (.slice sN1 (s+1) cN1));rw[<-h0];clear h0 q1 H3 H1 h5 p1 f1;have H2:∀q,X q->X1 q:=fun q hq=>by rw[H7.out];exact .inl hq
 have h8:=(h4.out.less H2).kept;have h3:=h4.out.wk;obtain⟨q3,q2,q0,p6,p5,p4,p3,p2⟩:=HL.out;refine d1 _ _ _ _ _ _ _ _ _ _  _ ⟨X,mb,u,us,h7,h6,ws,sE,sP,sL,sR,sU,sW,sB,sN1,cE,cP,cL,cR,cU,cW,cB,cN1,?_,HE.out.kept h8 h3,HR.out.kept h8 h3,HG.out.kept h8 h3,⟨c,HM.out.of_block (h4.out.kept mb (by rw[H7.out];exact .inr rfl))⟩,H8,p0,⟨q3,q2,q0,p6,p5,p4,by simp[p3],p2⟩,q4.out,HW.out,hu⟩ h3;have:=(h4.out.less H2).rebase;rw[show nats a9++[.int .i64 (i:Int)]=nats (a9++[i]) by simp[nats]]at this;exact this
structure PSt (gs:List (List Nat))(n x m:Nat)(els:List (List Nat))(pre las beh:List Int)(sgl:List Nat):Prop where
 st:yO gs n x=(els,pre,las)
 len:els.length=m
 pos:1<=m
 le:m<=x+1
 it:∀f∈els,IsT n f
 beh:qQA beh m
 sgl:sgl.length=x/\∀r∈sgl,r<m
theorem qRY:qQA [-1] 1:=⟨rfl,fun i hi=>by
 have e:i=0:=by omega
 subst e
 exact .inl ⟨rfl,rfl⟩⟩
theorem PSt.zero (gs:List (List Nat))(n:Nat):PSt gs n 0 1 [List.range n] [-1] [-1] [-1] [] :=
 ⟨rfl,rfl,Nat.le_refl _,Nat.le_refl _,fun f hf=>by rw[List.mem_singleton]at hf;subst hf;exact jX n,qRY,rfl,fun r hr=>by simp at hr⟩
theorem PSt.known {gs a9:List (List Nat)}{n x m:Nat}{pre a8 beh:List Int}{sgl:List Nat}(h:PSt gs n x m a9 pre a8 beh sgl)(a7:gs.getD x []∈a9):PSt gs n (x+1) m a9 pre a8 beh (sgl++[a9.idxOf (gs.getD x [])]):=by
 refine⟨?_,h.len,h.pos,by have:=h.le;omega,h.it,h.beh,by simp[h.sgl.1],fun r hr=>?_⟩
 ·rw[yO,h.st];exact if_pos a7
 rcases List.mem_append.1 hr with hr|hr
 ·exact h.sgl.2 r hr
 rw[List.mem_singleton]at hr;subst hr;rw[<-h.len];exact List.idxOf_lt_length_of_mem a7
theorem PSt.new {gs a9:List (List Nat)}{n x m:Nat}{pre a8 beh:List Int}{sgl:List Nat}(h:PSt gs n x m a9 pre a8 beh sgl)(a7:gs.getD x [] ∉ a9)(a6:IsT n (gs.getD x [])):PSt gs n (x+1) (m+1) (a9++[gs.getD x []]) (pre++[0]) (a8++[(x:Int)]) (beh++[0]) (sgl++[m]):=by
 have h0:=h.pos;refine⟨?_,by simp[h.len],by omega,by have:=h.le;omega,fun f hf=>?_,⟨by simp[h.beh.1],fun i hi=>?_⟩,by simp[h.sgl.1],fun r hr=>?_⟩
 ·rw[yO,h.st];exact if_neg a7
 ·rcases List.mem_append.1 hf with hf|hf
  ·exact h.it f hf
  rw[List.mem_singleton]at hf;subst hf;exact a6
 ·rcases Nat.lt_or_ge i m with h3|h3
  ·rw[xN (by rw[h.beh.1];exact h3)];exact h.beh.2 i h3
  have:i=m:=by omega
  subst this;rw[wN h.beh.1.symm];exact .inr ⟨by omega,by omega⟩
 rcases List.mem_append.1 hr with hr|hr
 ·have:=h.sgl.2 r hr;omega
 rw[List.mem_singleton]at hr;omega
theorem PSt.done {gs a8:List (List Nat)}{n k m:Nat}{pre a9 beh:List Int}{sgl:List Nat}(h:PSt gs n k m a8 pre a9 beh sgl)(hk:gs.length=k)(a7:k<=6):PEn gs n k 0 m a8 pre a9 [] beh sgl :=
 ⟨hk,by rw[wI,h.st],h.len,Nat.zero_le _,by have:=h.le;omega,h.it,h.beh,rfl,fun j hj=>by omega,h.sgl⟩
theorem qHC (B:Nat)(w:World)(v0:Value)(gs:List (List Nat))(n:Nat)(hB:B<=w.heap.size)(h:TMat B w v0 gs)(a7:∀g∈gs,IsT n g)(h1:1<=n)(a9:n<=32)(a5:1<=gs.length)(a6:gs.length<=6):Calls Tryz.prog 105 #[v0,.bool true] w fun e w'=>∃(o m cG:Nat) (sG:Option Addr) (hsG:List Value) (els:List (List Nat)) (pre las beh:List Int) (sgl:List Nat),e=.returned (.tuple #[.pointer (some ⟨o,0,none⟩),.int .i64 0])/\RunS w w.heap.size o n gs.length m 0 gs.length 6 sG cG hsG gs els pre las [] beh sgl [] w'/\PEn gs n gs.length 0 m els pre las [] beh sgl/\w.grownBy w' none:=by
 obtain⟨b0,o0,c0,rfl,l6,i9,n0,m9,e9⟩:=h.head (by omega);have m4:c0<=9223372036854775807:=by unfold maxLen at i9;omega
 obtain⟨k,hk⟩:=Nm gs.length;rw[<-hk]at a5 a6 l6 e9⊢;have HK:=Kh hk;have d4:=Kh a7
 have H8:∀x,x<k->∃a c,(∀W:World,w.grownBy W none->W.cell? ⟨b0,o0+x,none⟩=some (.slice a n c))/\∀W:World,w.grownBy W none->Row B W (.slice a n c) (nats (gs.getD x [])):=fun x hx=>by
  obtain⟨a,c,h1,h2⟩:=e9 x hx;have hl:(gs.getD x []).length=n:=(a7 _ (uW (by rw[<-hk];exact hx))).1;rw[hl]at h1 h2;exact⟨a,c,fun W hg=>zK h1 hg,fun W hg=>h2.row.kept hg (by simp)⟩
 have c6:=Kh H8;obtain⟨a0,cp0,c4,e0⟩:=H8 0 (by omega);have c00:=c4 w (zU _ _);rw[Nat.add_zero]at c00;have l0:=@run_makeMap Tryz.prog;obtain⟨P,hP⟩:=Nm w.heap.size;have d2:=Kh hP;obtain⟨w1,b2⟩:=Nm (w.alloc (.map #[] 0));have i6:w.grownBy w1 none:=by rw[b2];exact Ga w _ none
 have g6:w1.heap.size=P+1:=by rw[b2,zW,hP]
 have j0:MapK 9 (IsT n) (fun f=>.string (txtT f)) w1 P 0 0 (fun _=>none):=by rw[b2,hP];exact MapK.made _ _ _ w
 obtain⟨j3,k0,j2,j7⟩:=K4 b2 i6 g6 j0;have e1:((k:Int) == 0)=false:=by rw[beq_eq_false_iff_ne];omega
 have e2:decide (6<(k:Int))=false:=by rw[decide_eq_false_iff_not];omega
 clear h e9 H8 a7 i9 c4 e0 hP b2 i6 g6 j0 hk;go_enter Tryz.func105,Tryz.ntmps105;go_upto_region 4 with fail;rw[<-j3.out,<-d2.out];obtain⟨O,hO⟩:=Nm (P+1);rw[<-hO];obtain⟨w2,a4⟩:=Nm (w1.alloc (.cells #[.int .i64 0,.bool false,.slice none 0 0,.slice none 0 0,.slice none 0 0,.slice none 0 0,.slice none 0 0,.slice none 0 0,.int .i64 0,.map (some P),.slice none 0 0,.slice none 0 0,.slice none 0 0] 156));have f3:w1.grownBy w2 none:=by rw[a4];exact Ga w1 _ none
 have H7:=heap_alloc_new w1 (.cells #[.int .i64 0,.bool false,.slice none 0 0,.slice none 0 0,.slice none 0 0,.slice none 0 0,.slice none 0 0,.slice none 0 0,.int .i64 0,.map (some P),.slice none 0 0,.slice none 0 0,.slice none 0 0] 156);rw[<-a4,j2.out,<-hO]at H7;rw[<-a4];have g4:=Kh (zC k0.out f3);have j8:=Kh (j7.out.kept f3 (by simp));obtain⟨k2,HO,l8⟩:=K3 H7 hO a4;obtain⟨a0',cp0',H2,_⟩:=c6.out 0 (by omega);have c00b:=H2 w2 g4.out;rw[Nat.add_zero]at c00b;have q0:=zH H7 0;have q1:=zH H7 1;simp only[List.getElem_toArray,List.getElem_cons_zero,List.getElem_cons_succ]at q0 q1;have f0:=zA H7 0;have f1:=zA H7 1;clear a4 f3 H7 H2 c00 hO l0;go_upto_region 5 with fail;obtain⟨w3,c8⟩:=Nm ((w2.setCell ⟨O,0,none⟩ (.int .i64 (n:Int))).setCell ⟨O,1,none⟩ (.bool true));rw[<-c8];have d0:=heap_setCell_same _ O 1 _ _ (.bool true) (heap_setCell_same w2 O 0 _ _ (.int .i64 (n:Int)) k2.out);have f2:w2.grownBy w3 (some O):=by rw[c8];exact zG (zF w2 ⟨O,0,none⟩ _) (zF _ ⟨O,1,none⟩ _)
 rw[<-c8]at d0;simp only[sPa,sPb,sPc]at d0;have h3:=RunS.init (w:=w) (j8.out.kept f2 (fun e=>by have e:=Oj e;have:=HO.out;omega)) d0 (by rw[<-d2.out];exact Nat.le_refl _) (by have:=d2.out;have:=HO.out;omega) (zC g4.out f2 (fun q e=>by have e:=Oj e;have:=d2.out;have:=HO.out;omega));have j6:=Kh h3;clear h3 d0 f2 c8 q0 q1 f0 f1 c00b j8 k2 j7 j3 l8 j2 k0 g4 HO;go_wp2
 go_loopg [8,41] k (fun gh a8 i wr=>∃(q cG:Nat) (sG:Option Addr) (hsG:List Value),gh+q=k/\i=.int .i64 q/\RunS w w.heap.size O n q 0 0 0 0 sG cG hsG (gs.take q) [] [] [] [] [] [] [] wr)
 case atStart=>exact⟨0,0,none,[],rfl,rfl,j6.out⟩
 clear j6;obtain⟨q,cG,sG,hsG,c2,rfl,h0⟩:=hrel;have h7:=Kh c2;have h3:=Kh h0;have H0:=h0.facts.1;have g2:=Kh H0;clear c2;by_cases hq:q<k
 ·have i0:(q:Int)<k:=by omega
  obtain⟨aq,cq,i7,d8⟩:=c6.out q hq;have H1:IsT n (gs.getD q []):=d4.out _ (uW (by rw[<-HK.out];exact hq));have cg:=i7 wr H0;have p0:=h0.cells.1;have HV:=Kh (kU B wr _ _ n (d8 wr H0) H1 h1 a9);have m0:=Kh (d8 wr H0);have m3:=Kh H1;have e3:((n:Int) != (n:Int))=false:=by simp
  have l9:Hid (gs.take q++[gs.getD q []]=gs.take (q+1)):=Kh (yB (by rw[<-HK.out];exact hq)).symm;clear i7 d8 H1 h0 H0;go_wp2_with fail;refine HV.out.mono ?_;rintro e wv ⟨rfl,rfl⟩;go_upto_region 10 with fail;refine qRI (C:=B) h3.out (by omega) m3.out h1 a9 hB m0.out ?_;intro z58 z59 z60 z61 z62 z63 z64 z65 z66 z67 z68 z69 z70 w5 sG5 cG5 x5 d9 k6;rw[l9.out]at d9;have m1:=Kh d9;clear d9 cg p0;go_wp2;go_roundg (k-(q+1))
  case measure=>have:=h7.out;omega
  exact⟨q+1,cG5,sG5,hsG++[x5],by have:=h7.out;omega,by go_num,m1.out⟩
 have g8:q=k:=by have:=h7.out;omega
 have h5:=h0;rw[g8,List.take_of_length_le (by rw[<-HK.out];exact Nat.le_refl _)]at h5;have a3:=Kh h5;have i0:¬(q:Int)<k:=(by omega);have p0:=h5.cells.1;have j9:=Kh (qHA wr n h1 a9);clear h0 h5 g8 h3;go_wp2_with fail;refine j9.out.mono ?_;rintro e w5 ⟨g5,rfl,b9,H3,i5⟩;rw[List.length_range];have c7:=Kh (qAB a3.out i5 (Nat.le_refl n) (by unfold maxLen;omega) H3 b9 (jX n) (by simp) h1 a9 (by omega) (-1) (-1) (-1) ⟨#[]⟩ (Nat.zero_le _));clear b9 H3 i5 p0 j9;go_wp2_with fail;refine c7.out.mono ?_;rintro e w6 ⟨rfl,b5,l3⟩;simp only[List.nil_append]at b5;obtain⟨gb,rfl,m6,i8,_⟩:=b5.gen (by omega) d4.out h1;have k8:cG<=9223372036854775807:=by unfold maxLen at i8;omega
 have q2:=b5.cells.2.1;have j5:=Kh b5;clear b5 l3 c7 a3 i8;go_wp2
 go_loopg [10,11,12,13,14,87] k (fun gh a10 a11 a12 a13 a14 i wr=>∃(x m ubx:Nat) (els:List (List Nat)) (pre las beh:List Int) (sgl:List Nat),gh+x=k/\i=.int .i64 x/\ubx<=x/\PSt gs n x m els pre las beh sgl/\RunS w w.heap.size O n k m 0 x ubx (some ⟨gb,0,none⟩) cG hsG gs els pre las [] beh sgl [] wr)
 case atStart=>exact⟨0,1,0,_,_,_,_,_,rfl,rfl,Nat.le_refl _,PSt.zero gs n,j5.out⟩
 clear j5 q2 h7 g2 hq i0;obtain⟨x,m,ubx,els,pre,las,beh,sgl,c2,rfl,k5,a2,h0⟩:=hrel;obtain⟨h7,f8,h3⟩:=K3 c2 a2 h0;have H0:=h0.facts.1;have g2:=Kh H0;have k9:m<=x+1:=a2.le;have m5:1<=m:=a2.pos;clear c2;by_cases hx:x<k
 ·have k3:(x:Int)<k:=by omega
  have H1:IsT n (gs.getD x []):=d4.out _ (uW (by rw[<-HK.out];exact hx));obtain⟨gb',e,_,_,c3⟩:=h0.gen (by omega) d4.out h1;simp only[Option.some.injEq,Addr.mk.injEq,and_true]at e;subst e;obtain⟨b1,o1,c1,cg,l5,e4,d1⟩:=c3 x hx;obtain⟨mb,b7⟩:=h0.map;obtain⟨fT,f5⟩:=Nm (gs.getD x []);rw[<-f5]at H1 d1;obtain⟨wo,rfl⟩:=Nm (wr:World);obtain⟨c5,HT,h8,m2⟩:=K4 f5 H1 b7 d1;have j4:Hid (∀W:World,wo.grownBy W none->Calls Tryz.prog 139 #[.slice (some ⟨b1,o1,none⟩) n c1] W fun e w'=>e=.returned (.string (txtT fT))/\W.grownBy w' none):=Kh (fun W hgW=>eI wo.heap.size W _ fT n hgW.size (d1.kept hgW (by simp)) H1 h1 a9);obtain⟨ex,f6⟩:=Nm (Go.Utf8.encode (97+(x:Int)));have m8:∀W:World,(convert 21 9 (.int .i32 (97+(x:Int)))).run Tryz.prog W=.ok (.string ex) W:=fun W=>by rw[f6];exact qFN W (97+(x:Int))
  have k4:IntKind.i32.wrap (97+(x:Int))=97+(x:Int):=by unfold IntKind.wrap;simp[IntKind.bits,IntKind.signed];omega
  have m7:ex.size=1:=by rw[f6];exact qAN (by omega)
  clear a2 h0 H0 c3 b7 f5 H1 d1 f6 e4;go_upto_region 19 with fail;obtain⟨w7,d6⟩:=Nm wo.drew;have i4:wo.grownBy w7 none:=(by rw[d6];exact zS wo none);have l7:=Kh d6;have g3:=Kh i4;clear d6 i4;refine wp_region_noPanic ?_;refine yM (G:=wH 99 (fun W=>W.cell? ⟨O,9,none⟩=some (.map (some mb))) (fun _=>True)) (by kernel_rfl) ?_;rw[<-l7.out];have C:=Kh (h8.out w7 g3.out).1;refine zO 0 ⟨C.out,fun _=>trivial⟩ ?_;refine zO 1 ⟨C.out,fun _=>trivial⟩ ?_;refine zO 2 ⟨C.out,fun _=>trivial⟩ ?_;refine zO 3 ⟨C.out,fun _=>trivial⟩ ?_;refine zO 4 ⟨C.out,fun _=>trivial⟩ ?_;refine oneG (i:=5) (by kernel_rfl) rfl (fun K hK=>?_);go_simp
  go_at_call 139
  refine(j4.out w7 g3.out).mono ?_;rintro e w8 ⟨rfl,i3⟩;have H6:=zC g3.out i3;have d5:=Kh H6;have C8:=Kh (h8.out w8 H6).1;refine hK.out _ _ ⟨C8.out,fun _=>trivial⟩ ?_;clear hK K C i3 H6 j4
  try simp only[Act.put,sPa,sPb,sPc]
  obtain⟨cc,j1⟩:=(h8.out w8 d5.out).2;have i1:=j1.lookup (aE a9) (x:=fT) HT.out;obtain⟨ic,e8⟩:=Nm ((numE els fT).getD 0);obtain⟨kn,e5⟩:=Nm ((numE els fT).isSome);rw[<-e8,<-e5]at i1;have g1:=Kh e8;have d3:=Kh e5;clear e8 e5 j1;refine oneG (i:=6) (by kernel_rfl) rfl (fun K hK=>?_);go_simp;refine hK.out _ _ ⟨C8.out,fun _=>trivial⟩ ?_;clear hK K i1
  try simp only[Act.put,sPa,sPb,sPc]
  refine zO 7 ⟨C8.out,fun _=>trivial⟩ ?_;refine zO 8 ⟨C8.out,fun _=>trivial⟩ ?_;refine zO 9 ⟨C8.out,fun _=>trivial⟩ ?_;refine zO 10 ⟨C8.out,fun _=>trivial⟩ ?_;refine zO 11 ⟨C8.out,fun _=>trivial⟩ ?_;refine tT (by kernel_rfl) ?_ _;refine NoPanic.normal ?_;have H4:=Kh (h3.out.grow d5.out);clear C8 h8 h3;by_cases hin:fT∈els
  ·have l1:kn=true:=by rw[d3.out,numE,if_pos hin];rfl
   have e6:ic=els.idxOf fT:=by rw[g1.out,numE,if_pos hin];rfl
   subst l1;have e7:ic<m:=(by rw[e6,<-f8.out.len];exact List.idxOf_lt_length_of_mem hin);have h4:=f8.out.known (by rw[<-c5.out];exact hin);rw[<-c5.out,<-e6]at h4;have H9:=Kh h4;clear e6 h4 g1 d3 cg;go_upto_region 21 with fail;refine qRH H4.out e7 (by omega) (by omega) ?_;intro z107 z108 z109 z110 z111 z112 z113 z114 z115 z116 z117 z118 z119 z120 z121 z122 z123 z124 z125 z126 w9 h5 d7;have a3:=Kh h5;clear h5 d7;go_upto_region 23 with fail;refine qBX (i:=ic) a3.out (by omega) ?_;intro z135 z136 z137 z138 z139 z140 z141 z142 z143 z144 w10 h6 b4;have a1:=Kh h6;clear h6 b4;go_wp2;go_roundg (k-(x+1))
   case measure=>have:=h7.out;omega
   exact⟨x+1,m,ubx+1,els,pre,las,beh,sgl++[ic],by have:=h7.out;omega,by go_num,by omega,H9.out,a1.out⟩
  have l2:kn=false:=by rw[d3.out,numE,if_neg hin];rfl
  subst l2;have h4:=f8.out.new (by rw[<-c5.out];exact hin) (by rw[<-c5.out];exact HT.out);rw[<-c5.out]at h4;have H9:=Kh h4;have f7:=iR w8.heap.size w8 _ fT ((m2.out.kept d5.out (by simp)).mono d5.out.size) (by rw[HT.out.1];exact h1) (by rw[HT.out.1];omega);rw[HT.out.1]at f7;have k1:=Kh f7;clear h4 g1 d3 cg f7;go_wp2_with fail;refine k1.out.mono ?_;rintro e w9 ⟨g9,c9,rfl,b8,k7,l4,h9,i2⟩;have c7:=Kh (qAB H4.out i2 k7 l4 (Arr.of_owns h9) b8 HT.out hin h1 a9 (by omega) 0 (x:Int) 0 ex (by omega));clear b8 h9 i2 k1;go_wp2_with fail;refine c7.out.mono ?_;rintro e w10 ⟨rfl,h6,f4⟩;have a1:=Kh h6;clear h6 f4 c7;go_upto_region 23 with fail;refine qBX (i:=m) a1.out (by omega) ?_;intro z135 z136 z137 z138 z139 z140 z141 z142 z143 z144 w11 b6 b3;have f9:=Kh b6;clear b6 b3;go_wp2;go_roundg (k-(x+1))
  case measure=>have:=h7.out;omega
  exact⟨x+1,m+1,ubx,els++[fT],pre++[0],las++[(x:Int)],beh++[0],sgl++[m],by have:=h7.out;omega,by go_num,by omega,H9.out,f9.out⟩
 have g7:x=k:=by have:=h7.out;omega
 have k3:¬(x:Int)<k:=(by omega);have H5:=a2;have h5:=h0;rw[g7]at H5 h5;have g0:=Kh (H5.done HK.out.symm a6);have a3:=Kh (h5.ubm (show ubx<=6 by omega));clear a2 h0 H5 h5 g7;go_wp2;refine bodyPost_ret (v:=.tuple #[.pointer (some ⟨O,0,none⟩),.int .i64 0]) (by simp[results,Tryz.results105,go_sem]) rfl ?_;exact⟨O,rfl,m,cG,some ⟨gb,0,none⟩,hsG,els,pre,las,beh,sgl,a3.out,g0.out,g2.out⟩
end Go.Proofs.YtobakifdllameaaGreat
namespace Go.Proofs.YtobakifdllameaaGreat
open Go.RowKit
theorem aV (w:World)(P0:Nat)(X:Nat->Prop)(gs a5:List (List Nat))(pre a8:List Int)(n m u:Nat)(us a4:List Value)(gA:Option Addr)(gN gC:Nat)(sE:Option Addr)(cE:Nat)(sP:Option Addr)(cP:Nat)(sL:Option Addr)(cL:Nat)(sU:Option Addr)(cU:Nat)(bd:Nat)(hM:EMem X w [⟨P0,22,.slice sE m cE,m,a4,1⟩,⟨P0,3,.slice sP m cP,m,ints pre,1⟩,⟨P0,3,.slice sL m cL,m,ints a8,1⟩,⟨P0,180,.slice sU u cU,u,us,2⟩])(hE:xU X 3 nats w a4 a5)(hG:TX X w (.slice gA gN gC) gs)(b9:∀v∈a4,v.oneCell'=true)(a1:∀v∈us,v.oneCell'=true)(hl:a5.length=m)(a7:pre.length=m)(a6:a8.length=m)(a9:∀f∈a5,IsT n f)(b8:∀g∈gs,IsT n g)(a3:gN=gs.length)(b7:n<=32)(a2:rT pre a8 m gs.length)(b6:gs.length<=6)(hm:m<=7)(hu:u<=7)(b5:bd<=2001):Calls Tryz.prog 91 #[.agg #[.int .i64 n,.bool true,.slice gA gN gC,.slice sE m cE,.slice sP m cP,.slice sL m cL,.slice none 0 0,.slice sU u cU,.int .i64 0],.int .i64 bd] w (qQN gs a5 pre a8 n bd (.slice gA gN gC) w):=by
 obtain⟨wA,A6⟩:=Nm ((w.alloc (.cells #[.int .i64 n,.bool true,.slice gA gN gC,.slice sE m cE,.slice sP m cP,.slice sL m cL,.slice none 0 0,.slice sU u cU,.int .i64 0] 106)).alloc (.cells #[.int .i64 0,.bool false,.slice none 0 0,.slice none 0 0,.slice none 0 0,.slice none 0 0,.slice none 0 0,.slice none 0 0,.int .i64 0] 106));obtain⟨x1,x0,z7,E6⟩:=qB w #[.int .i64 n,.bool true,.slice gA gN gC,.slice sE m cE,.slice sP m cP,.slice sL m cL,.slice none 0 0,.slice sU u cU,.int .i64 0] #[.int .i64 0,.bool false,.slice none 0 0,.slice none 0 0,.slice none 0 0,.slice none 0 0,.slice none 0 0,.slice none 0 0,.int .i64 0] 106;rw[<-A6]at x1 x0 z7 E6;obtain⟨P,hP⟩:=Nm w.heap.size;have e2:=Kh hP;rw[<-hP]at x1 x0 E6;obtain⟨w5,y3⟩:=Nm wA.drew;have o2:wA.grownBy w5 none:=by rw[y3];exact zS wA none
 have L0:=Kh y3;have g1:=zC z7 o2;have D7:=Kh (zB x1 o2);have M5:=Kh (zB x0 o2);obtain⟨L8,K9,HM,HE,U1,S9⟩:=K6 g1 A6 hM hE hG b9;have S8:=Kh a1;have O1:=o2.size
 have HS:Hid ((∀W:World,GrownBut w5 W (fun _=>False)->uZ W 1 (.slice sE m cE) m a4)/\(∀W:World,GrownBut w5 W (fun _=>False)->uZ W 1 (.slice sP m cP) m (ints pre))/\(∀W:World,GrownBut w5 W (fun _=>False)->uZ W 1 (.slice sL m cL) m (ints a8))/\(∀W:World,GrownBut w5 W (fun _=>False)->uZ W 1 (.slice none 0 0) 0 [])/\(∀W:World,GrownBut w5 W (fun _=>False)->uZ W 2 (.slice sU u cU) u us)):=Kh (by
  refine⟨fun W hW=>fO (oZ (hM.own ⟨P0,22,.slice sE m cE,m,a4,1⟩ (by simp))) (zC g1 (kG hW)),fun W hW=>fO (oZ (hM.own ⟨P0,3,.slice sP m cP,m,ints pre,1⟩ (by simp))) (zC g1 (kG hW)),fun W hW=>fO (oZ (hM.own ⟨P0,3,.slice sL m cL,m,ints a8,1⟩ (by simp))) (zC g1 (kG hW)),fun W _=>.inl ⟨none,0,rfl,rfl,rfl⟩,fun W hW=>fO (oZ (hM.own ⟨P0,180,.slice sU u cU,u,us,2⟩ (by simp))) (zC g1 (kG hW))⟩)
 clear x1 x0 z7 A6 y3 o2 g1 hM hE hG b9 a1;obtain⟨T5,T7,T4⟩:=K3 a9 b8 hl;clear a9 b8 hl;have k9:=Kh a3;clear a3;obtain⟨L2,L5,L4⟩:=K3 a7 a6 a2;clear a7 a6 a2;have Y4:=@run_makeMap Tryz.prog;go_enter Tryz.func91,Tryz.ntmps91;go_upto_region 1 with fail;rw[<-K9.out,<-e2.out];clear hP
 have C:Hid (w5.cell? ⟨P,0,none⟩=some (.int .i64 n)/\w5.cell? ⟨P,1,none⟩=some (.bool true)/\w5.cell? ⟨P,2,none⟩=some (.slice gA gN gC)/\w5.cell? ⟨P,3,none⟩=some (.slice sE m cE)/\w5.cell? ⟨P,4,none⟩=some (.slice sP m cP)/\w5.cell? ⟨P,5,none⟩=some (.slice sL m cL)/\w5.cell? ⟨P,6,none⟩=some (.slice none 0 0)/\w5.cell? ⟨P,7,none⟩=some (.slice sU u cU)/\w5.cell? ⟨P,8,none⟩=some (.int .i64 0)):=Kh (by
  obtain⟨q0,q1,q2,q3,q4,q5,q6,q7,q8⟩:=zZ D7.out
  exact⟨q0,q1,q2,q3,q4,q5,q6,q7,q8⟩)
 refine wp_region_noPanic ?_;refine yM (G:=wH 99 (fun W=>W.cell? ⟨P,0,none⟩=some (.int .i64 n)/\W.cell? ⟨P,1,none⟩=some (.bool true)/\W.cell? ⟨P,2,none⟩=some (.slice gA gN gC)/\W.cell? ⟨P,3,none⟩=some (.slice sE m cE)/\W.cell? ⟨P,4,none⟩=some (.slice sP m cP)/\W.cell? ⟨P,5,none⟩=some (.slice sL m cL)/\W.cell? ⟨P,6,none⟩=some (.slice none 0 0)/\W.cell? ⟨P,7,none⟩=some (.slice sU u cU)/\W.cell? ⟨P,8,none⟩=some (.int .i64 0)) (fun _=>True)) (by kernel_rfl) ?_;rw[<-L0.out];refine zO 0 ⟨C.out,fun _=>trivial⟩ ?_;refine zO 1 ⟨C.out,fun _=>trivial⟩ ?_;refine zO 2 ⟨C.out,fun _=>trivial⟩ ?_;refine zO 3 ⟨C.out,fun _=>trivial⟩ ?_;refine zO 4 ⟨C.out,fun _=>trivial⟩ ?_;refine zO 5 ⟨C.out,fun _=>trivial⟩ ?_;refine zO 7 ⟨C.out,fun _=>trivial⟩ ?_;refine zO 8 ⟨C.out,fun _=>trivial⟩ ?_;refine zO 11 ⟨C.out,fun _=>trivial⟩ ?_;refine zO 12 ⟨C.out,fun _=>trivial⟩ ?_;refine zO 15 ⟨C.out,fun _=>trivial⟩ ?_;refine zO 16 ⟨C.out,fun _=>trivial⟩ ?_;refine zO 19 ⟨C.out,fun _=>trivial⟩ ?_;refine zO 20 ⟨C.out,fun _=>trivial⟩ ?_;refine zO 23 ⟨C.out,fun _=>trivial⟩ ?_;refine zO 24 ⟨C.out,fun _=>trivial⟩ ?_;refine zO 26 ⟨C.out,fun _=>trivial⟩ ?_;refine zO 27 ⟨C.out,fun _=>trivial⟩ ?_;refine uR (fun Wp hWp a0 ha0=>?_);subst hWp
 try simp only[Act.put,sPd,sPe,sPf,sPa,sPb,sPc]at ha0
 have D9:=Kh ha0;refine uQ (I:=proc1I n P P m u pre a8 us a4 sE cE sP cP sL cL sU cU gA gN gC w5 a0) (fun l a w h=>qRB D7.out h) (qDZ ha0 (by omega) (by omega) (by omega) HS.out.1 HS.out.2.1 HS.out.2.2.1 HS.out.2.2.2.1 HS.out.2.2.2.2 S9.out (fun v hv=>by obtain⟨y,_,rfl⟩:=List.mem_map.1 hv;rfl) (fun v hv=>by obtain⟨y,_,rfl⟩:=List.mem_map.1 hv;rfl) (fun v hv=>by simp at hv) S8.out) (by kernel_rfl) ?hend (by decide +kernel) ?hinit
 case hinit =>
  clear ha0;refine⟨a0.tmps.getD 24 undef,a0.tmps.getD 27 undef,a0.tmps.getD 28 undef,a0.tmps.getD 31 undef,a0.tmps.getD 32 undef,a0.tmps.getD 35 undef,a0.tmps.getD 36 undef,a0.tmps.getD 39 undef,a0.tmps.getD 40 undef,a0.tmps.getD 43 undef,a0.tmps.getD 46 undef,a0.tmps.getD 6 undef,.slice none 0 0,0,[],.slice none 0 0,0,[],.slice none 0 0,0,[],.slice none 0 0,0,[],.slice none 0 0,0,[],0,(vX (by simp)).symm,by decide +kernel,Kh (fun _=>⟨rfl,rfl,rfl⟩),Kh (fun h=>absurd h (by decide +kernel)),Kh (fun h=>absurd h (by decide +kernel)),Kh (fun _=>⟨rfl,rfl,rfl⟩),Kh (fun h=>absurd h (by decide +kernel)),Kh (fun h=>absurd h (by decide +kernel)),Kh (fun _=>⟨rfl,rfl,rfl⟩),Kh (fun h=>absurd h (by decide +kernel)),Kh (fun h=>absurd h (by decide +kernel)),Kh (fun _=>⟨rfl,rfl,rfl⟩),Kh (fun h=>absurd h (by decide +kernel)),Kh (fun h=>absurd h (by decide +kernel)),Kh (fun _=>⟨rfl,rfl,rfl⟩),Kh (fun h=>absurd h (by decide +kernel)),Kh (fun h=>absurd h (by decide +kernel)),Kh (fun h=>absurd h (by decide +kernel)),Kh (fun h=>absurd h (by decide +kernel)),Kh (fun h=>absurd h (by decide +kernel)),Kh (fun h=>absurd h (by decide +kernel)),?hMM⟩;refine Many.start (fun r hr=>?_) (fun r hr k hk=>?_) ?_
  ·simp only[List.mem_cons,List.not_mem_nil,or_false]at hr
   rcases hr with rfl|rfl|rfl|rfl|rfl<;>exact World.ownsRow_nil _ _ _ _
  ·simp only[List.mem_cons,List.not_mem_nil,or_false]at hr
   rcases hr with rfl|rfl|rfl|rfl|rfl<;>simp[Value.ownBlock]at hk
  simp[Value.ownBlock]
 clear ha0;intro l a w6 h h7;obtain⟨x24,x27,x28,x31,x32,x35,x36,x39,x40,x43,x46,x6,vE,nE,yE,vP,nP,yP,vL,nL,yL,vR,nR,yR,vU,nU,yU,o,ha,HR,V4,H6,H9,m5,y0,N3,E4,E5,N1,E1,E2,N0,E0,V6,M9,M8,M7,B1,B2,x7⟩:=h;obtain⟨_,sE',cE',rfl,rfl,P1,N8⟩:=H9.out (h7 9 (by decide));obtain⟨_,sP',cP',rfl,rfl,O8,N6⟩:=N3.out (h7 13 (by decide));obtain⟨_,sL',cL',rfl,rfl,O9,N7⟩:=N1.out (h7 17 (by decide));obtain⟨_,sR',cR',rfl,rfl,O7,N5⟩:=N0.out (h7 21 (by decide));obtain⟨_,sU',cU',rfl,rfl,O6,N4⟩:=M9.out (h7 25 (by decide));obtain⟨rfl,Y3⟩:=M7.out (h7 29 (by decide));obtain⟨_,_,_,_,_,_,_,_,_,_,_,_,A4⟩:=B2.out (h7 30 (by decide));obtain⟨_,_,_,_,_,_,_,_,_,_,rfl⟩:=M8.out (h7 28 (by decide));clear V4 H6 H9 m5 y0 N3 E4 E5 N1 E1 E2 N0 E0 V6 M9 M8 M7 B1 B2 HR;subst P1;subst O8;subst O9;subst O7;subst O6;subst N8;subst N6;subst N7;subst N5;subst N4;subst ha;rw[D9.out];simp only[zP,List.foldl_cons,List.foldl_nil,Act.put,sPa,sPb,sPc];refine NoPanic.normal ?_;have K1:EMem X w6 _:=(HM.out.grow L8.out).after x7 (fun j hj=>hj.elim);have z9:=zC L8.out (kG x7.but);have kX:xV X w w6:=HM.out.keep z9;have r7:=zB M5.out (kG x7.but);obtain⟨x9,L9,L6,M4,t3⟩:=K5 K1 z9 kX A4 r7;have F9:P+1<o:=by omega
 have Y5:=zR A4;clear K1 z9 kX A4 r7 x7 C HS D7 M5 K9 L0;have j2:=Ga w6 (.map #[] 0) none;have B6:=zB M4.out j2;obtain⟨q0,q1,q2,q3,q4,q5,q6,q7,q8⟩:=zZ B6;have H7:=uK.made w6;clear q0 q1 q2 q4 q5 q6 q7 q8;go_wp2
 have J4:WordsS X w P o w6.heap.size [⟨P,22,.slice sE' m cE',m,a4,1⟩,⟨P,3,.slice sP' m cP',m,ints pre,1⟩,⟨P,3,.slice sL' m cL',m,ints a8,1⟩,⟨P,22,.slice sR' 0 cR',0,[],1⟩,⟨P,180,.slice sU' u cU',u,us,2⟩] #[.int .i64 n,.bool true,.slice gA gN gC,.slice sE' m cE',.slice sP' m cP',.slice sL' m cL',.slice sR' 0 cR',.slice sU' u cU',.int .i64 0] m 0 none 0 (w6.alloc (.map #[] 0)) :=
   .mk [] rfl (fun i=>by simp[ByteArray.size]) ((x9.out.grow j2).add (zU _ none) (r:=⟨P,9,.slice none 0 0,0,[],1⟩) (World.ownsRow_nil _ _ _ _) (fun j e=>by simp[Value.ownBlock]at e)) H7 B6 (zB t3.out j2) (L6.out.trans (x9.out.keep j2)) (zC L9.out j2)
 have x4:=Kh J4;clear J4 B6 H7 j2 q3;obtain⟨rows5,H2⟩:=Nm ([⟨P,22,.slice sE' m cE',m,a4,1⟩,⟨P,3,.slice sP' m cP',m,ints pre,1⟩,⟨P,3,.slice sL' m cL',m,ints a8,1⟩,⟨P,22,.slice sR' 0 cR',0,[],1⟩,⟨P,180,.slice sU' u cU',u,us,2⟩]:List RowS);rw[<-H2]at x4;have F4:(⟨P,3,.slice sP' m cP',m,ints pre,1⟩:RowS)∈rows5:=by rw[H2];simp
 have c7:(⟨P,3,.slice sL' m cL',m,ints a8,1⟩:RowS)∈rows5:=by rw[H2];simp
 have n1:∀r∈rows5,r.base=P/\r.e≠106/\r.e≠9:=by
  intro r hr;rw[H2]at hr;simp only[List.mem_cons,List.not_mem_nil,or_false]at hr;rcases hr with rfl|rfl|rfl|rfl|rfl<;>simp
 obtain⟨S3,S4,Z3,S6⟩:=K4 F4 c7 n1 H2;obtain⟨mb,y8⟩:=Nm w6.heap.size;rw[<-y8]at x4⊢;have P2:o<mb:=by omega
 clear F4 c7 n1 H2;have Z4:=Kh y8;clear y8
 go_loopg [8,9,51] m (fun gh v8 v9 i wr=>∃(q:Nat) (sW:Option Addr) (cW:Nat),gh+q=m/\i=.int .i64 q/\v8=.slice sW q cW/\WordsS X w P o mb rows5 #[.int .i64 n,.bool true,.slice gA gN gC,.slice sE' m cE',.slice sP' m cP',.slice sL' m cL',.slice sR' 0 cR',.slice sU' u cU',.int .i64 0] m q sW cW wr)
 case atStart=>exact⟨0,none,0,by omega,rfl,rfl,x4.out⟩
 obtain⟨q,sW,cW,n9,rfl,rfl,hS⟩:=hrel;have m3:=Kh n9;have HS:=Kh hS;obtain⟨ws,b0,b4,l8,h5,r6,j3,o8,g1⟩:=hS;clear n9 x4;by_cases hq:q<m
 ·have Y2:(q:Int)<m:=by omega
  obtain⟨m8,g4,D5,j7,K4,L7⟩:=K6 l8 h5 r6 j3 o8 g1;have k7:=Kh b0;have R7:=Kh b4;have E8:=lL wr.heap.size wr.heap.size wr (.int .i64 n) (.bool true) (.slice gA gN gC) (.slice sE' m cE') (.slice sP' m cP') (.slice sL' m cL') (.slice sR' 0 cR') (.slice sU' u cU') (.int .i64 0) pre a8 m gs.length q (Nat.le_refl _) (Nat.le_refl _) (Row.of_owns (l8.own _ (List.mem_append_left _ S3.out))) (Row.of_owns (l8.own _ (List.mem_append_left _ S4.out))) L2.out L5.out L4.out b6 (by omega) hq;have K8:=Kh E8;have N9:=(oY L4.out q hq).2;obtain⟨q0,q1,q2,q3,q4,q5,q6,q7,q8⟩:=zZ r6;clear l8 h5 r6 j3 o8 g1 b0 b4 E8;go_wp2_with fail;refine K8.out.mono ?_;rintro e w7 ⟨rfl,c8⟩;have e6:=Kh c8;obtain⟨sw,y5⟩:=Nm (strOfNums (lets (vK pre a8 q)));have y4:sw.size<=q:=by rw[y5,strOfNums_size];simp only[lets,List.length_map];exact N9
  rw[<-y5];have J7:=m8.out.grow c8;have b1:=J7.own ⟨P,9,.slice sW q cW,q,xD ws,1⟩ (by simp);simp only at b1;have m7:=Kh b1;have X0:=zR (zB j7.out c8);have Y0:=c8.size;clear y5 c8 q0 q1 q2 q3 q4 q5 q6 q7 q8 J7 b1;go_wp2_with (first|(at_builtin;refine iI rfl _ _ _ rfl pI P _ q (xD ws) rfl m7.out _ rfl rfl ?c1 ?c2 ?c3 ?_)|fail)
  case c1=>unfold maxLen;omega
  case c2=>omega
  case c3=>omega
  intro sW' cW' w8 g9 b2 P4 n5;have q9:=(m8.out.grow e6.out).appLast (r':=⟨P,9,.slice sW' (q+1) cW',q+1,xD (ws++[sw]),1⟩) b2 (by simpa [xD] using g9) n5;have e9:=(g4.out.kept e6.out (by simp)).kept b2 ((g4.out.kept e6.out (by simp)).ne_own m7.out);have r8:=zB (zB D5.out e6.out) b2 (zV m7.out (zB D5.out e6.out) (by decide));have H5:=zB (zB j7.out e6.out) b2 (zV m7.out (zB j7.out e6.out) (by decide));have I7:=(K4.out.trans (fun j hj=>(m8.out.keep e6.out) j hj)).trans (xV.of_grown (m8.out.grow e6.out).lt b2 (fun j e hx=>(m8.out.grow e6.out).offX ⟨P,9,.slice sW q cW,q,xD ws,1⟩ (by simp) j e hx));have o3:=zC (zC L7.out e6.out) b2 (fun j e=>by have:=(m7.out.lt j e).1;have:=e2.out;omega);obtain⟨lb,rfl,P7,z0,r0⟩:=yZ g9 (by omega);have d4:=r0.cell q (by simp[xD,k7.out])
  have I3:(xD ws++[Value.string sw])[q]'(by simp[xD,k7.out])=.string sw:=by
   rw[List.getElem_append_right (by simp[xD,k7.out])];simp
  rw[I3]at d4;have Y1:(q:Int)<(q:Int)+1:=(by omega);have Q5:cW'<=9223372036854775807:=by unfold maxLen at z0;omega
  obtain⟨x5,d6,D6,m4,K6,l0⟩:=K6 q9 e9 r8 H5 I7 o3;clear q9 e9 r8 H5 I7 o3 g9 b2 n5 r0 I3 m8 g4 D5 j7 K4 L7 K8 m7 e6 HS;go_wp2_with (first|(at_mapUpdate;refine fX rfl _ _ _ rfl mb q sw q rfl rfl rfl d6.out ?d1 ?d2 ?d3 ?_)|fail)
  case d1=>unfold maxLen;omega
  case d2=>unfold maxLen;omega
  case d3=>unfold Mid;omega
  intro w9 k4 g7
  have o9:WordsS X w P o mb rows5 #[.int .i64 n,.bool true,.slice gA gN gC,.slice sE' m cE',.slice sP' m cP',.slice sL' m cL',.slice sR' 0 cR',.slice sU' u cU',.int .i64 0] m (q+1) (some ⟨lb,0,none⟩) cW' w9:=by
   refine .mk (ws++[sw]) (by simp[k7.out]) (fun i=>?_) (x5.out.far g7 (fun r hr=>d6.out.ne_own (x5.out.own r hr))) k4 (zB D6.out g7 (fun e=>d6.out.ne_cells D6.out (Oj e).symm)) (zB m4.out g7 (fun e=>d6.out.ne_cells m4.out (Oj e).symm)) (K6.out.trans (xV.of_grown x5.out.lt g7 (fun j e hx=>?_))) (yG l0.out g7 (by show _<=mb;have:=e2.out;omega))
   ·rcases Nat.lt_or_ge i q with h|h
    ·rw[List.getD_eq_getElem?_getD,List.getElem?_append_left (by rw[k7.out];exact h),<-List.getD_eq_getElem?_getD]
     exact R7.out i
    rcases Nat.eq_or_lt_of_le h with e|h
    ·subst e
     rw[List.getD_eq_getElem?_getD,List.getElem?_append_right (by rw[k7.out];exact Nat.le_refl _),k7.out];simpa using y4
    rw[List.getD_eq_getElem?_getD,List.getElem?_eq_none (by simp[k7.out];omega)];simp[ByteArray.size]
   have e:mb=j:=Oj e;have h1:=HM.out.lt j hx;have:=e2.out;omega
  have f9:=Kh o9;clear o9 k4 g7 x5 d6 D6 m4 K6 l0;go_wp2;go_roundg (m-(q+1))
  case measure=>have:=m3.out;omega
  exact⟨q+1,some ⟨lb,0,none⟩,cW',by omega,by go_num,rfl,f9.out⟩
 have O4:q=m:=by have:=m3.out;omega
 subst O4
 have g8:ProcS w P o mb n gA gN gC gs a5 pre a8 [] q 0 u sW cW [] wr:=by
  have R1:xU X 3 nats wr [] []:=xU.nil;rw[S6.out]at l8;have A5:∀j,X j->j<P:=fun j hx=>by rw[e2.out];exact HM.out.lt j hx
  exact .mk X u us a4 [] ws sE' cE' sP' cP' sL' cL' sR' cR' sU' cU' T4.out L2.out L5.out rfl T5.out (Nat.le_refl _) b0 b4 l8 (HE.out.kept o8 g1.size) R1 (U1.out.kept o8 g1.size) ⟨fun h=>by have:=A5 o h;omega,fun h=>by have:=A5 _ h;omega,fun h=>by have:=A5 mb h;omega⟩ h5 r6 j3 g1
 have L3:=Kh g8;clear g8 b0 b4 l8 h5 r6 j3 o8 g1 HS;have T1:=x9;clear x9 T1 L9 L6 M4 t3;go_wp2
 go_loopg [1,8,10,11,12,13,14,15,16,17] bd (fun gh v1 v8 v10 v11 v12 v13 v14 v15 v16 v17 wr=>∃(d:Nat) (el:List (List Nat)) (pr la:List Int) (ri:List (List Nat)) (m:Nat) (sW:Option Addr) (cW:Nat),gh+d=bd/\v1=.int .i64 gh/\v8=.slice sW m cW/\m<=2000/\d<=m/\wI gs (a5,pre,a8) d=((el,pr,la),ri)/\ProcS w P o mb n gA gN gC gs el pr la ri m d (u+6*d) sW cW [] wr)
 case atStart=>exact⟨0,a5,pre,a8,[],q,sW,cW,by omega,rfl,rfl,by omega,by omega,rfl,L3.out⟩
 obtain⟨d,el,pr,la,ri,m,sW,cW,n9,rfl,rfl,y9,I0,F8,hS⟩:=hrel;obtain⟨m3,s5,HS⟩:=K3 n9 F8 hS;obtain⟨X1,u1,us1,j0,i9,ws,sE,cE,sP,cP,sL,cL,sR,cR,sU,cU,hl,a7,a6,c7,a9,F1,b0,b4,H7,d5,e1,d8,e0,h5,c9,h0,d7⟩:=hS;obtain⟨q0,q1,q2,q3,q4,q5,q6,q7,q8⟩:=zZ c9;clear n9 F8 L3;by_cases hb:0<gk
 ·have Q6:(0:Int)<(gk:Int):=by omega
  have X6:wrap64 ((gk:Int)-1)=((bd-(d+1):Nat):Int):=by
   have:=m3.out;rw[IntWalk.wrap64_in _ (by omega)];omega
  by_cases hd:d<m
  ·have Z1:(d:Int)<m:=by omega
   have y7:=H7.own ⟨P,9,.slice sW m cW,m,xD ws,1⟩ (by simp);simp only at y7;obtain⟨lb,rfl,P7,z0,r0⟩:=yZ y7 (by omega);have d4:=r0.cell d (by simp[xD,b0];exact hd)
   have I4:(xD ws)[d]'(by simp[xD,b0];exact hd)=.string (ws.getD d ⟨#[]⟩):=by
    simp[xD,List.getD_eq_getElem?_getD,b0,hd]
   rw[I4]at d4;obtain⟨U0,A7⟩:=Nm (ws.getD d ⟨#[]⟩);have Z2:U0.size<=d:=by rw[A7];exact b4 d
   rw[<-A7]at d4;have Q5:cW<=9223372036854775807:=by unfold maxLen at z0;omega
   have V0:Hid (d<el.length):=Kh (by rw[hl];exact hd);clear I4 A7 r0 y7 H7 d5 e1 d8 e0 h5 c9 h0 d7 b0 b4 a9 hl a7 a6 c7 q0 q1 q4 q5 q6 q7
   have J2:ProcS w P o mb n gA gN gC gs el pr la ri m d (u+6*d) (some ⟨lb,0,none⟩) cW [⟨P,3,.slice none 0 0,0,nats [],1⟩] wr:=by
    obtain⟨X2,u2,us2,d9,d0,ws2,sE2,cE2,sP2,cP2,sL2,cL2,sR2,cR2,sU2,cU2,hl,a7,a6,c7,a9,F1,b0,b4,H7,d5,e1,d8,e0,h5,c9,h0,d7⟩:=HS.out;have h:=H7.add (zU _ none) (r:=⟨P,3,.slice none 0 0,0,nats [],1⟩) (World.ownsRow_nil _ _ _ _) (fun j e=>by simp[Value.ownBlock]at e);rw[List.append_nil]at h;exact .mk X2 u2 us2 d9 d0 ws2 sE2 cE2 sP2 cP2 sL2 cL2 sR2 cR2 sU2 cU2 hl a7 a6 c7 a9 F1 b0 b4 h d5 e1 d8 e0 h5 c9 h0 d7
   have L1:=Kh J2;clear J2;go_upto_region 15 with fail;clear q2 q3 q8 d4 HS
   go_loopg [8,10,12,13,14,15,16,17,87] gN (fun gh v8 v10 v12 v13 v14 v15 v16 v17 i wx=>∃(x:Nat) (el:List (List Nat)) (pr la:List Int) (ro:List Nat) (m:Nat) (sW:Option Addr) (cW:Nat) (sr:Option Addr) (cr:Nat),gh+x=gN/\i=.int .i64 x/\v8=.slice sW m cW/\v10=.slice sr x cr/\m<=2000/\d<m/\ro.length=x/\rQ gs d (wI gs (a5,pre,a8) d).1 x=(el,pr,la,ro)/\ProcS w P o mb n gA gN gC gs el pr la ri m d (u+6*d+x) sW cW [⟨P,3,.slice sr x cr,x,nats ro,1⟩] wx)
   case atStart=>exact⟨0,el,pr,la,[],m,some ⟨lb,0,none⟩,cW,none,0,by omega,rfl,rfl,rfl,y9,hd,rfl,by rw[s5.out];rfl,L1.out⟩
   obtain⟨x,el2,pr2,la2,ro,m2,sW2,cW2,sr,cr,G3,rfl,rfl,rfl,P3,Z0,F5,n1,J3⟩:=hrel;obtain⟨i7,s2,i5,s0⟩:=K4 G3 F5 n1 J3;obtain⟨X2,u2,us2,d9,d0,ws2,sE2,cE2,sP2,cP2,sL2,cL2,sR2,cR2,sU2,cU2,hl,a7,a6,c7,a9,t7,b0,b4,H7,d5,e1,d8,e0,h5,c9,h0,d7⟩:=J3;clear G3 F5 n1 L1;by_cases hx:x<gN
   ·have X5:(x:Int)<gN:=by omega
    have Y9:(d:Int)<m2:=(by omega);have B0:=H7.own ⟨P,22,.slice sE2 m2 cE2,m2,d9,1⟩ (by simp);simp only at B0;have J0:=qDT B0 d5;obtain⟨eb,eo,ec,ee,Q2,G9,_,_,o6⟩:=J0.head (by omega);rw[hl]at ee Q2;simp only[Value.slice.injEq]at ee;obtain⟨rfl,_,rfl⟩:=ee;obtain⟨fa,fc,c6,e8⟩:=o6 d (by omega);have m6:IsT n (el2.getD d []):=a9 _ (uW (by omega));have I9:=d8.tmat;obtain⟨gb,go,gc,ge,Q0,j2,_,_,n8⟩:=I9.head (by have:=k9.out;omega);rw[<-k9.out]at ge Q0;simp only[Value.slice.injEq]at ge;obtain⟨ge1,_,ge2⟩:=ge;obtain⟨ga,gac,c0,e7⟩:=n8 x (by have:=k9.out;omega);have o0:IsT n (gs.getD x []):=T7.out _ (uW (by have:=k9.out;omega));obtain⟨f0,A1⟩:=Nm (el2.getD d []);obtain⟨g0,A0⟩:=Nm (gs.getD x []);rw[<-A1]at c6 e8 m6;rw[<-A0]at c0 e7 o0;rw[m6.1]at c6 e8;rw[o0.1]at c0 e7;obtain⟨q0,q1,q2,q3,q4,q5,q6,q7,q8⟩:=zZ c9;rw[ge1,ge2]at q2;have c8:=zS wr none;obtain⟨w7,y2⟩:=Nm wr.drew;rw[<-y2]at c8;have R8:=Kh y2;have e6:=Kh c8;have C:Hid (w7.cell? ⟨o,3,none⟩=some (.slice (some ⟨eb,eo,none⟩) m2 cE2)/\w7.cell? ⟨o,8,none⟩=some (.int .i64 d)/\w7.cell? ⟨eb,eo+d,none⟩=some (.slice fa n fc)/\w7.cell? ⟨o,2,none⟩=some (.slice (some ⟨gb,go,none⟩) gN gc)/\w7.cell? ⟨gb,go+x,none⟩=some (.slice ga n gac)):=Kh ⟨zK q3 c8,zK q8 c8,zK c6 c8,zK q2 c8,zK c0 c8⟩;have A2:=qES wr.heap.size wr.heap.size w7 _ _ f0 g0 n c8.size c8.size (e8.row.kept c8 (by simp)) (e7.row.kept c8 (by simp)) m6 o0 (by omega);obtain⟨f1,t9⟩:=Nm (wT f0 g0);rw[<-t9]at A2;have j6:Hid (f1.length=n):=Kh (by rw[t9];simp[wT,m6.1]);have D3:=Kh t9;have V2:=Kh A2;clear A2 t9;have Q1:cE2<=9223372036854775807:=by unfold maxLen at G9;omega
    have P9:gc<=9223372036854775807:=by unfold maxLen at j2;omega
    obtain⟨M1,M0,D1,C7,m0⟩:=K5 A1 A0 m6 o0 hl;clear q0 q1 q2 q3 q4 q5 q6 q7 q8 y2 c8 A1 A0 c6 c0 e8 e7 m6 o0 n8 o6 J0 I9 B0 hl a7 a6 c7 a9 b0 b4 H7 d5 e1 d8 e0 h5 c9 h0 d7 ge1 ge2 G9 j2;go_upto_region 17 with fail;refine wp_region_noPanic ?_;refine yM (G:=wH 99 (fun W=>W.cell? ⟨o,3,none⟩=some (.slice (some ⟨eb,eo,none⟩) m2 cE2)/\W.cell? ⟨o,8,none⟩=some (.int .i64 d)/\W.cell? ⟨eb,eo+d,none⟩=some (.slice fa n fc)/\W.cell? ⟨o,2,none⟩=some (.slice (some ⟨gb,go,none⟩) gN gc)/\W.cell? ⟨gb,go+x,none⟩=some (.slice ga n gac)) (fun _=>True)) (by kernel_rfl) ?_;rw[<-R8.out];refine zO 0 ⟨C.out,fun _=>trivial⟩ ?_;refine zO 1 ⟨C.out,fun _=>trivial⟩ ?_;refine zO 2 ⟨C.out,fun _=>trivial⟩ ?_;refine zO 3 ⟨C.out,fun _=>trivial⟩ ?_;refine zO 4 ⟨C.out,fun _=>trivial⟩ ?_;refine zO 5 ⟨C.out,fun _=>trivial⟩ ?_;refine zO 6 ⟨C.out,fun _=>trivial⟩ ?_;refine zO 7 ⟨C.out,fun _=>trivial⟩ ?_;refine zO 8 ⟨C.out,fun _=>trivial⟩ ?_;refine zO 9 ⟨C.out,fun _=>trivial⟩ ?_;refine zO 10 ⟨C.out,fun _=>trivial⟩ ?_;refine oneG (i:=11) (by kernel_rfl) rfl (fun K hK=>?_);go_simp
    go_at_call 125
    refine V2.out.mono ?_;rintro e w8 ⟨gf,rfl,G4,K3,b2⟩;rw[j6.out];have l0:=Kh (zC e6.out b2);refine hK.out _ _ ⟨⟨zK C.out.1 b2,zK C.out.2.1 b2,zK C.out.2.2.1 b2,zK C.out.2.2.2.1 b2,zK C.out.2.2.2.2 b2⟩,fun _=>trivial⟩ ?_;have C8:Hid (w8.cell? ⟨o,3,none⟩=some (.slice (some ⟨eb,eo,none⟩) m2 cE2)/\w8.cell? ⟨o,8,none⟩=some (.int .i64 d)/\w8.cell? ⟨eb,eo+d,none⟩=some (.slice fa n fc)/\w8.cell? ⟨o,2,none⟩=some (.slice (some ⟨gb,go,none⟩) gN gc)/\w8.cell? ⟨gb,go+x,none⟩=some (.slice ga n gac)):=Kh ⟨zK C.out.1 b2,zK C.out.2.1 b2,zK C.out.2.2.1 b2,zK C.out.2.2.2.1 b2,zK C.out.2.2.2.2 b2⟩;have M6:=Kh K3;have U3:=Kh G4;clear hK K b2 C K3 G4
    try simp only[Act.put,sPa,sPb,sPc]
    refine oneG (i:=12) (by kernel_rfl) rfl (fun K hK=>?_);go_simp;refine hK.out _ _ ⟨C8.out,fun _=>trivial⟩ ?_;clear hK K C8
    try simp only[Act.put,sPa,sPb,sPc]
    refine tT (by kernel_rfl) ?_ _;refine NoPanic.normal ?_;obtain⟨X2,u2,us2,d9,d0,ws2,sE2',cE2',sP2,cP2,sL2,cL2,sR2,cR2,sU2,cU2,hl,a7,a6,c7,a9,t7,b0,b4,H7,d5,e1,d8,e0,h5,c9,h0,d7⟩:=s0.out;have q9:=H7.grow l0.out;have k8:=H7.keep l0.out;have K2:=d5.kept k8 l0.out.size;have r8:=zB c9 l0.out
    have J5:Row w8.heap.size w8 (.slice (some ⟨gf,0,none⟩) n n) (nats f1):=by
     have:=M6.out.rowT' (cap:=n) (by rw[zT,j6.out];exact Nat.le_refl _) (by unfold maxLen;omega);rw[zT,j6.out]at this;exact this.row
    have G7:=eS w8.heap.size w8.heap.size w8 (.slice sE2' m2 cE2') (.slice (some ⟨gf,0,none⟩) n n) el2 f1 (qDT (q9.own ⟨P,22,.slice sE2' m2 cE2',m2,d9,1⟩ (by simp)) K2) J5;have U6:=Kh G7;obtain⟨q0,q1,q2,q3,q4,q5,q6,q7,q8⟩:=zZ r8;have y1:x<26:=(by have:=k9.out;omega);have T3:=fun W=>Kh (iU W x y1);clear hl a7 a6 c7 a9 t7 b0 b4 H7 d5 e1 d8 e0 h5 c9 h0 d7 q9 k8 K2 r8 J5 G7 q0 q1 q2 q4 q5 q6 q7 q8;go_wp2_with fail;refine U6.out.mono ?_;rintro e w9 ⟨rfl,md,rfl⟩;obtain⟨iz,z5⟩:=Nm (mX el2 f1);rw[<-z5];have x8:=Kh z5;clear z5;go_wp2_with fail;refine(T3 _).out.mono ?_;rintro e w10 ⟨rfl,l7⟩;obtain⟨Y,hY⟩:=Nm (strOfNums [97+(x:Int)]);have Q7:Y.size=1:=by rw[hY,strOfNums_size];rfl
    have Q4:∀W0:World,(Op.stringOp .add U0 Y).run Tryz.prog W0=.ok (.string (U0++Y)) W0:=fun W0=>run_string_add_sum W0 U0 Y (by omega);have g6:=Kh (zC (zC l0.out (zQ w8 md none)) l7);have s9:=Kh (zC (zQ w8 md none) l7);rw[<-hY];clear hY l7;by_cases hneg:iz<0
    ·by_cases hlim:m2=2000
     ·have n7:(m2:Int)=2000:=by omega
      obtain⟨X3,u3,us3,l1,O3,ws3,sE3,cE3,sP3,cP3,sL3,cL3,sR3,cR3,sU3,cU3,hl,a7,a6,c7,a9,O0,b0,b4,H7,d5,e1,d8,e0,h5,c9,h0,d7⟩:=s0.out;have i4:=zB c9 g6.out;have h6:=zB h0 g6.out;have t4:=Kh h6;have U2:=Kh (zC d7 g6.out);obtain⟨q0,q1,q2,q3,q4,q5,q6,q7,q8⟩:=zZ i4;obtain⟨p0,p1,p2,p3,p4,p5,p6,p7,p8⟩:=zZ h6;have f0:=zA h6 0;have f1':=zA h6 1;have f2:=zA h6 2;have f3:=zA h6 3;have f4:=zA h6 4;have f5:=zA h6 5;have f6:=zA h6 6;have f7:=zA h6 7;have f8:=zA h6 8;have t0:Hid (mE gs (a5,pre,a8) n):=Kh ⟨d,x,by rw[s5.out];exact V0.out,by have:=k9.out;omega,by rw[i5.out];exact m0.out.trans hlim,by rw[i5.out];exact a9⟩;clear hl a7 a6 c7 a9 O0 b0 b4 H7 d5 e1 d8 e0 h5 c9 h0 d7 i4 h6 q0 q1 q2 q4 q5 q6 q7 q8 hlim;go_wp2;refine bodyPost_ret (v:=.tuple #[.agg #[.int .i64 0,.bool false,.slice none 0 0,.slice none 0 0,.slice none 0 0,.slice none 0 0,.slice none 0 0,.slice none 0 0,.int .i64 0],.int .i64 3]) (by simp[results,Tryz.results91,go_sem,p0,p1,p2,p3,p4,p5,p6,p7,p8]) rfl ?_;exact .inl ⟨rfl,t0.out,zC U2.out (rZ t4.out (.int .i64 0) (.bool false) (.slice none 0 0) (.slice none 0 0) (.slice none 0 0) (.slice none 0 0) (.slice none 0 0) (.slice none 0 0) (.int .i64 0)).2 (fun j e=>by have e:P+1=j:=Oj e;have:=e2.out;omega)⟩
     have n7:¬(m2:Int)=2000:=by omega
     have g8:w.heap.size<=P:=by have:=e2.out;omega
     have R2:w.heap.size<=mb:=by have:=e2.out;omega
     obtain⟨w4,j8⟩:=Nm w10.drew;have k1:w10.grownBy w4 none:=(by rw[j8];exact zS w10 none);have B9:=Kh j8
     have o5:IsT n f1:=by
      rw[D3.out];exact iG D1.out C7.out
     obtain⟨FF,u3,l1,rest,sE3,cE3,sP3,cP3,sL3,cL3,sR3,cR3,sU3,cU3,K0,I6,G0,j9,r9,J8,o4⟩:=s0.out.new24 (w4:=w4) (gf:=gf) (x:=x) (f:=f1) g8 F9 (zC g6.out k1) (by have:=e6.out.size;have:=U3.out;omega) ((M6.out.kept (zC s9.out k1) (by simp))) j6.out (by unfold maxLen;omega) o5 (by intro r hr;rw[List.mem_singleton]at hr;subst hr;exact⟨rfl,by simp⟩);have i4:w10.heap[o]?=some (.cells #[.int .i64 n,.bool true,.slice gA gN gC,.slice sE3 m2 cE3,.slice sP3 m2 cP3,.slice sL3 m2 cL3,.slice sR3 d cR3,.slice sU3 u3 cU3,.int .i64 d] 106 (0,0)):=by rw[j8]at r9;exact r9
     obtain⟨q0,q1,q2,q3,q4,q5,q6,q7,q8⟩:=zZ i4;have r4:=zZ r9;have C:Hid (w4.cell? ⟨o,3,none⟩=some (.slice sE3 m2 cE3)/\w4.cell? ⟨o,4,none⟩=some (.slice sP3 m2 cP3)/\w4.cell? ⟨o,5,none⟩=some (.slice sL3 m2 cL3)/\w4.cell? ⟨o,8,none⟩=some (.int .i64 d)):=Kh ⟨r4.2.2.2.1,r4.2.2.2.2.1,r4.2.2.2.2.2.1,r4.2.2.2.2.2.2.2.2⟩;obtain⟨U5,M3,S7,s3,V3,T2⟩:=K6 K0 I6 G0 j9 r9 J8;have D2:=Kh o4;clear j8 k1 o5 K0 I6 G0 j9 r9 J8 o4 i4 r4 q0 q1 q2 q4 q5 q6 q7 q8 hlim;go_upto_region 24 with fail;refine wp_region_noPanic ?_;refine yM (G:=wH 17 (fun _=>True) (fun W=>W.cell? ⟨o,3,none⟩=some (.slice sE3 m2 cE3)/\W.cell? ⟨o,4,none⟩=some (.slice sP3 m2 cP3)/\W.cell? ⟨o,5,none⟩=some (.slice sL3 m2 cL3)/\W.cell? ⟨o,8,none⟩=some (.int .i64 d))) (by kernel_rfl) ?_;rw[<-B9.out];refine zO 0 ⟨trivial,fun _=>C.out⟩ ?_;refine yY 1 ⟨trivial,fun _=>C.out⟩ ?_;refine zO 2 ⟨trivial,fun _=>C.out⟩ ?_;refine zO 5 ⟨trivial,fun _=>C.out⟩ ?_;refine yY 6 ⟨trivial,fun _=>C.out⟩ ?_;refine zO 7 ⟨trivial,fun _=>C.out⟩ ?_;refine yY 8 ⟨trivial,fun _=>C.out⟩ ?_;refine zO 11 ⟨trivial,fun _=>C.out⟩ ?_;refine yY 12 ⟨trivial,fun _=>C.out⟩ ?_;refine zO 13 ⟨trivial,fun _=>C.out⟩ ?_;refine uR (fun Wp hWp a0 ha0=>?_);subst hWp
     try simp only[Act.put,sPd,sPe,sPf,sPa,sPb,sPc]at ha0
     have D9:=Kh ha0;refine uQ (I:=proc24I n P o m2 u3 d x gf pr2 la2 l1 rest sE3 cE3 sP3 cP3 sL3 cL3 sR3 cR3 sU3 cU3 gA gN gC w4 FF a0) (fun l a w h=>qNB h) (qBQ ha0 (by omega) M3.out U5.out S7.out s3.out) (by kernel_rfl) ?hend9 (by decide +kernel) ?hinit9
     case hinit9 =>
      clear ha0;refine⟨a0.tmps.getD 123 undef,a0.tmps.getD 124 undef,a0.tmps.getD 129 undef,a0.tmps.getD 130 undef,a0.tmps.getD 134 undef,a0.tmps.getD 135 undef,a0.tmps.getD 136 undef,a0.tmps.getD 137 undef,a0.tmps.getD 138 undef,.slice sE3 m2 cE3,m2,l1,.slice sP3 m2 cP3,m2,ints pr2,.slice sL3 m2 cL3,m2,ints la2,[],.slice sE3 m2 cE3,.slice sP3 m2 cP3,.slice sL3 m2 cL3,(vX (by simp)).symm,by decide +kernel,Kh (fun h=>absurd h (by decide +kernel)),Kh (fun _=>⟨rfl,rfl,rfl⟩),Kh (fun h=>absurd h (by decide +kernel)),Kh (fun h=>absurd h (by decide +kernel)),Kh (fun _=>⟨rfl,rfl,rfl⟩),Kh (fun h=>absurd h (by decide +kernel)),Kh (fun h=>absurd h (by decide +kernel)),Kh (fun _=>⟨rfl,rfl,rfl⟩),Kh (fun h=>absurd h (by decide +kernel)),Kh (fun h=>absurd h (by decide +kernel)),Kh (fun h=>absurd h (by decide +kernel)),Kh (fun h=>absurd h (by decide +kernel)),Kh (fun _=>rfl),Kh (fun h=>absurd h (by decide +kernel)),Kh (fun _=>rfl),Kh (fun h=>absurd h (by decide +kernel)),Kh (fun _=>rfl),Kh (fun h=>absurd h (by decide +kernel)),V3.out,T2.out⟩
     clear ha0;intro l a w6 h h7;obtain⟨x123,x124,x129,x130,x134,x135,x136,x137,x138,vE,nE,xE,vP,nP,xP,vL,nL,xL,ls,c3,c4,c5,ha,HR,H3,V5,H4,H9,m5,y0,E5,E3,N2,V8,E2,V7,B3n,B3,B4n,B4,B5n,B5,HB,HM⟩:=h;obtain⟨s4,c4',rfl,rfl,rfl,rfl⟩:=H4.out (h7 4 (by decide));obtain⟨_,s10,c10,rfl,rfl,rfl,rfl⟩:=y0.out (h7 10 (by decide));obtain⟨_,s15,c15,rfl,rfl,rfl,rfl⟩:=N2.out (h7 15 (by decide));have e3:=(B3.out (h7 17 (by decide))).2.2;have e4:=(B4.out (h7 19 (by decide))).2.2;have e5:=(B5.out (h7 21 (by decide))).2.2;rw[e3,e4,e5]at HB;clear H3 V5 H4 H9 m5 y0 E5 E3 N2 V8 E2 V7 B3n B3 B4n B4 B5n B5 HR e3 e4 e5;subst ha;rw[D9.out];simp only[zP,List.foldl_cons,List.foldl_nil,Act.put,sPa,sPb,sPc];refine NoPanic.normal ?_;have p9:=D2.out w6 s4 c4' s10 c10 s15 c15 ls HM HB;obtain⟨ws4,n3,o7⟩:=p9.app g8;have C2:=Kh n3;have D8:=Kh o7;have X4:P<=w6.heap.size:=by have:=HM.but.size;have:=M3.out;omega
     clear p9 n3 o7 HM HB q3;go_wp2_with (first|(at_builtin;refine iI rfl _ _ _ rfl pI P _ m2 (xD ws4) rfl C2.out _ rfl rfl ?c1 ?c2 ?c3 ?_)|fail)
     case c1=>unfold maxLen;omega
     case c2=>omega
     case c3=>omega
     intro sW5 cW5 w7' b1 o1 P5 n6;have k3:=D8.out (U0++Y) sW5 cW5 w7' (by rw[ByteArray.size_append];omega) b1 o1 n6;obtain⟨k5,n2⟩:=k3.put R2;have s6:=Kh k5;have C1:=Kh n2;clear k3 k5 n2 b1 o1 n6;go_wp2_with (first|(at_mapUpdate;refine fX rfl _ _ _ rfl mb m2 (U0++Y) m2 rfl rfl rfl s6.out ?d1 ?d2 ?d3 ?_)|fail)
     case d1=>unfold maxLen;omega
     case d2=>unfold maxLen;(try rw[ByteArray.size_append]);omega
     case d3=>unfold Mid;omega
     intro w8' e9 z8;have H8:=C1.out w8' e9 z8 (by simp) (by simp);obtain⟨h4,h2⟩:=H8.row g8;have j5:=Kh h4;have j4:=Kh h2;have t6:P<=w8'.heap.size:=by obtain⟨_,_,_,_,_,_,_,_,_,_,_,_,_,_,_,_,_,_,_,_,_,_,_,_,_,_,_,_,_,_,_,H5,_⟩:=H8;have:=zR H5;omega
     clear H8 h4 h2;go_wp2_with (first|(at_builtin;refine iI rfl _ _ _ rfl yH P _ x (nats ro) rfl j5.out _ rfl rfl ?r1 ?r2 ?r3 ?_)|fail)
     case r1=>unfold maxLen;omega
     case r2=>omega
     case r3=>omega
     intro sr' cr' w9' h3 H1 j1 H0;have f9:=Kh ((j4.out m2 sr' cr' w9' h3 H1 H0).more (show u+6*d+x<=u+6*d+(x+1) by omega));clear h3 H1 H0
     have b3:Hid (rQ gs d (wI gs (a5,pre,a8) d).1 (x+1)=(el2++[f1],pr2++[(d:Int)],la2++[(x:Int)],ro++[m2])):=Kh (by
      have O5:f1 ∉ el2:=fun h=>by
       have:=x8.out;unfold mX at this;rw[if_pos h]at this;omega
      rw[rQ,i5.out,dH];simp only
      rw[<-M1.out,<-M0.out,<-D3.out,if_neg O5,m0.out])
     go_wp2;go_roundg (gN-(x+1))
     case measure=>have:=i7.out;omega
     exact⟨x+1,el2++[f1],pr2++[(d:Int)],la2++[(x:Int)],ro++[m2],m2+1,sW5,cW5,sr',cr',by have:=i7.out;omega,by first|rfl|go_num,rfl,rfl,by omega,by omega,by simp[s2.out],b3.out,f9.out⟩
    have t8:f1∈el2:=by
     by_cases h:f1∈el2
     ·exact h
     exfalso;have:=x8.out;unfold mX at this;rw[if_neg h]at this;omega
    have T6:=Kh t8;have G2:iz=((el2.idxOf f1:Nat):Int):=by have:=x8.out;unfold mX at this;rw[if_pos t8]at this;exact this
    have l4:el2.idxOf f1<m2:=(by rw[<-m0.out];exact List.idxOf_lt_length_of_mem t8);obtain⟨i0,z6⟩:=Nm (el2.idxOf f1);rw[<-z6]at G2 l4;have T8:=Kh z6;subst G2;clear z6 t8 hneg x8;obtain⟨lb2,V,rfl,Y8,P6,I1,X7⟩:=s0.out.word (i:=i0) l4;have A3:=zK I1 g6.out;have Y7:cW2<=9223372036854775807:=by unfold maxLen at P6;omega
    have P8:(i0:Int)<m2:=(by omega);clear I1;have g8:w.heap.size<=P:=by have:=e2.out;omega
    have b3:Hid (rQ gs d (wI gs (a5,pre,a8) d).1 (x+1)=(el2,pr2,la2,ro++[i0])):=Kh (by
     rw[rQ,i5.out,dH];simp only
     rw[<-M1.out,<-M0.out,<-D3.out,if_pos T6.out,<-T8.out])
    have H8:=s0.out.grow g6.out;have l9:=Kh H8;clear H8;obtain⟨T,hT⟩:=Nm (U0++Y);have x2:T.size=U0.size+1:=by rw[hT,ByteArray.size_append,Q7]
    have S0:=Kh x2;rw[<-hT]at Q4;clear x2 hT;by_cases hU:U0.toList=[]
    ·have H8:=l9.out
     obtain⟨h4,h2⟩:=H8.row g8;have j5:=Kh h4;have j4:=Kh h2;have t6:P<=w10.heap.size:=by obtain⟨_,_,_,_,_,_,_,_,_,_,_,_,_,_,_,_,_,_,_,_,_,_,_,_,_,_,_,_,_,_,_,H5,_⟩:=H8;have:=zR H5;omega
     clear H8 h4 h2;go_wp2_with (first|(at_builtin;refine iI rfl _ _ _ rfl yH P _ x (nats ro) rfl j5.out _ rfl rfl ?r1 ?r2 ?r3 ?_)|fail)
     case r1=>unfold maxLen;omega
     case r2=>omega
     case r3=>omega
     intro sr' cr' w9' h3 H1 j1 H0;have f9:=Kh ((j4.out i0 sr' cr' w9' h3 H1 H0).more (show u+6*d+x<=u+6*d+(x+1) by omega));clear h3 H1 H0;go_wp2;go_roundg (gN-(x+1))
     case measure=>have:=i7.out;omega
     exact⟨x+1,el2,pr2,la2,ro++[i0],m2,some ⟨lb2,0,none⟩,cW2,sr',cr',by have:=i7.out;omega,by first|rfl|go_num,rfl,rfl,by omega,by omega,by simp[s2.out],b3.out,f9.out⟩
    by_cases hV:V.toList=T.toList
    ·have H8:=l9.out
     obtain⟨h4,h2⟩:=H8.row g8;have j5:=Kh h4;have j4:=Kh h2;have t6:P<=w10.heap.size:=by obtain⟨_,_,_,_,_,_,_,_,_,_,_,_,_,_,_,_,_,_,_,_,_,_,_,_,_,_,_,_,_,_,_,H5,_⟩:=H8;have:=zR H5;omega
     clear H8 h4 h2;go_wp2_with (first|(at_builtin;refine iI rfl _ _ _ rfl yH P _ x (nats ro) rfl j5.out _ rfl rfl ?r1 ?r2 ?r3 ?_)|fail)
     case r1=>unfold maxLen;omega
     case r2=>omega
     case r3=>omega
     intro sr' cr' w9' h3 H1 j1 H0;have f9:=Kh ((j4.out i0 sr' cr' w9' h3 H1 H0).more (show u+6*d+x<=u+6*d+(x+1) by omega));clear h3 H1 H0;go_wp2;go_roundg (gN-(x+1))
     case measure=>have:=i7.out;omega
     exact⟨x+1,el2,pr2,la2,ro++[i0],m2,some ⟨lb2,0,none⟩,cW2,sr',cr',by have:=i7.out;omega,by first|rfl|go_num,rfl,rfl,by omega,by omega,by simp[s2.out],b3.out,f9.out⟩
    have Q9:U0.toList.isEmpty=false:=by simpa using hU
    have Q8:(V.toList == T.toList)=false:=by simpa using hV
    go_upto_region 28 with fail;have x2:=S0.out;obtain⟨Sb,A8⟩:=Nm (T.extract 1 T.size)
    have X9:∀W:World,(Instr.slice 9 (.string T) (some (.int .i64 1)) none none).run Tryz.prog W=.ok (.string Sb) W:=fun W=>by
     rw[A8,run_slice_string_l W 9 T mO .i64 1 (by omega) (by omega)];rfl
    have J1:Sb.size<=maxLen:=by
     have:Sb.size<=T.size:=by rw[A8,ByteArray.size_extract];omega
     unfold maxLen;omega
    have i3:uK w10 mb m2:=by
     obtain⟨_,_,_,_,_,_,_,_,_,_,_,_,_,_,_,_,_,_,_,_,_,_,_,_,_,_,_,_,_,h5,_,_,_⟩:=l9.out;exact h5
    obtain⟨cc,ok,Y6⟩:=i3.lookup J1;clear x2 A8 J1 i3 hU hV Q9 Q8;cases ok with
    | false =>
     have H8:=l9.out;obtain⟨h4,h2⟩:=H8.row g8;have j5:=Kh h4;have j4:=Kh h2;have t6:P<=w10.heap.size:=by obtain⟨_,_,_,_,_,_,_,_,_,_,_,_,_,_,_,_,_,_,_,_,_,_,_,_,_,_,_,_,_,_,_,H5,_⟩:=H8;have:=zR H5;omega
     clear H8 h4 h2;go_wp2_with (first|(at_builtin;refine iI rfl _ _ _ rfl yH P _ x (nats ro) rfl j5.out _ rfl rfl ?r1 ?r2 ?r3 ?_)|fail)
     case r1=>unfold maxLen;omega
     case r2=>omega
     case r3=>omega
     intro sr' cr' w9' h3 H1 j1 H0;have f9:=Kh ((j4.out i0 sr' cr' w9' h3 H1 H0).more (show u+6*d+x<=u+6*d+(x+1) by omega));clear h3 H1 H0;go_wp2;go_roundg (gN-(x+1))
     case measure=>have:=i7.out;omega
     exact⟨x+1,el2,pr2,la2,ro++[i0],m2,some ⟨lb2,0,none⟩,cW2,sr',cr',by have:=i7.out;omega,by first|rfl|go_num,rfl,rfl,by omega,by omega,by simp[s2.out],b3.out,f9.out⟩
    | true =>
     obtain⟨u8,us8,sU8,cU8,rs8,F7,X8,F6,n4⟩:=l9.out.new30 g8 F9 (by intro r hr;rw[List.mem_singleton]at hr;subst hr;exact⟨rfl,by simp⟩);obtain⟨w4,j8⟩:=Nm w10.drew;have B9:=Kh j8;have k1:w10.grownBy w4 none:=(by rw[j8];exact zS w10 none);have C:Hid (w4.cell? ⟨o,7,none⟩=some (.slice sU8 u8 cU8)/\w4.cell? ⟨lb2,i0,none⟩=some (.string V)):=Kh ⟨zK F7 k1,zK A3 k1⟩;obtain⟨C4,S5,U4,V1⟩:=K4 n4 F6 k1 A3;clear n4 F6 k1 j8 F7 A3;go_upto_region 30 with fail;refine wp_region_noPanic ?_;refine yM (G:=wH 11 (fun _=>True) (fun W=>W.cell? ⟨o,7,none⟩=some (.slice sU8 u8 cU8)/\W.cell? ⟨lb2,i0,none⟩=some (.string V))) (by kernel_rfl) ?_;rw[<-B9.out];refine zO 0 ⟨trivial,fun _=>C.out⟩ ?_;refine yY 1 ⟨trivial,fun _=>C.out⟩ ?_;refine zO 2 ⟨trivial,fun _=>C.out⟩ ?_;refine zO 3 ⟨trivial,fun _=>C.out⟩ ?_;refine zO 4 ⟨trivial,fun _=>C.out⟩ ?_;refine zO 5 ⟨trivial,fun _=>C.out⟩ ?_;refine yY 6 ⟨trivial,fun _=>C.out⟩ ?_;refine zO 7 ⟨trivial,fun _=>C.out⟩ ?_;refine oneG (i:=8) (by kernel_rfl) rfl (fun K hK=>?_);go_simp;have a3:=heap_alloc_new w4 (.cells #[.string T,.string V] 180);have g7:=Ga w4 (.cells #[.string T,.string V] 180) none;have l5:=zC U4.out g7;obtain⟨gR,G6⟩:=Nm w4.heap.size;obtain⟨w9,F0⟩:=Nm (w4.alloc (.cells #[.string T,.string V] 180));rw[<-G6]at a3⊢;rw[<-F0]at a3 g7 l5⊢;have C9:Hid (w9.cell? ⟨o,7,none⟩=some (.slice sU8 u8 cU8)/\w9.cell? ⟨lb2,i0,none⟩=some (.string V)):=Kh ⟨zK C.out.1 g7,zK C.out.2 g7⟩;refine hK.out _ _ ⟨trivial,fun _=>C9.out⟩ ?_;clear hK K g7 C G6 F0
     try simp only[Act.put,sPa,sPb,sPc]
     obtain⟨J6,E7,k2⟩:=C4.out w9 l5;have t1:=Kh k2;have n0:uZ w9 2 (.slice (some ⟨gR,0,none⟩) 1 1) 1 [.string T,.string V]:=qFK a3;refine oneG (i:=9) (by kernel_rfl) rfl (fun K hK=>?_);refine oF rfl (.tmp 165) (.tmp 172) 104 rfl lB 4 _ rfl ⟨_,_,_,_,_,J6,⟨P,180,.slice sU8 u8 cU8,u8,us8,2⟩,1,u8+1,_,S5.out,rfl,rfl,rfl,n0,?z1,rfl,?z2,?z3,?z4,?_⟩
     case z1=>intro v hv;simp only[List.mem_cons,List.not_mem_nil,or_false]at hv;rcases hv with rfl|rfl<;>rfl
     case z2=>unfold maxLen;omega
     case z3=>show (u8+1)*32<=140737488355328;omega
     case z4=>exact E7
     intro sU' cU' wM hMM;obtain⟨I5,G8,I2,o9⟩:=t1.out wM sU' cU' [.string T,.string V] hMM;have CM:Hid (wM.cell? ⟨o,7,none⟩=some (.slice sU8 u8 cU8)/\wM.cell? ⟨lb2,i0,none⟩=some (.string V)):=Kh ⟨I5,I2 i0 _ l4 V1.out⟩;refine hK.out _ _ ⟨trivial,fun _=>CM.out⟩ ?_;have f9:=Kh o9;have U7:=Kh G8;clear hK K C9 J6 E7 k2 n0 a3 hMM I5 G8 I2 o9 l5
     try simp only[Act.put,sPa,sPb,sPc]
     refine zO 10 ⟨trivial,fun _=>CM.out⟩ ?_;refine oneG (i:=11) (by kernel_rfl) rfl (fun K hK=>?_);have q7:=CM.out.1;have f7:=U7.out;go_simp;refine hK.out _ _ ⟨trivial,fun h=>by simp at h⟩ ?_;clear hK K q7 f7 CM
     try simp only[Act.put,sPa,sPb,sPc]
     refine tT (by kernel_rfl) ?_ _;refine NoPanic.normal ?_;obtain⟨wZ,E9⟩:=Nm (wM.setCell ⟨o,7,none⟩ (.slice sU' (u8+1) cU'));have H8:=f9.out;rw[<-E9]at H8⊢;clear E9 f9;obtain⟨h4,h2⟩:=H8.row g8;have j5:=Kh h4;have j4:=Kh h2;have t6:P<=wZ.heap.size:=by obtain⟨_,_,_,_,_,_,_,_,_,_,_,_,_,_,_,_,_,_,_,_,_,_,_,_,_,_,_,_,_,_,_,H5,_⟩:=H8;have:=zR H5;omega
     clear H8 h4 h2;go_wp2_with (first|(at_builtin;refine iI rfl _ _ _ rfl yH P _ x (nats ro) rfl j5.out _ rfl rfl ?r1 ?r2 ?r3 ?_)|fail)
     case r1=>unfold maxLen;omega
     case r2=>omega
     case r3=>omega
     intro sr' cr' w9' h3 H1 j1 H0;have f9:=Kh ((j4.out i0 sr' cr' w9' h3 H1 H0).more (show u+6*d+x+1<=u+6*d+(x+1) by omega));clear h3 H1 H0;go_wp2;go_roundg (gN-(x+1))
     case measure=>have:=i7.out;omega
     exact⟨x+1,el2,pr2,la2,ro++[i0],m2,some ⟨lb2,0,none⟩,cW2,sr',cr',by have:=i7.out;omega,by first|rfl|go_num,rfl,rfl,by omega,by omega,by simp[s2.out],b3.out,f9.out⟩
   have K5:Hid (x=gN):=Kh (by have:=i7.out;omega);have A9:=H7.own ⟨P,22,.slice sR2 d cR2,d,d0,1⟩ (by simp);simp only at A9;have l3:=H7.own ⟨P,3,.slice sr x cr,x,nats ro,1⟩ (by simp);simp only at l3;have V9:=zR h0;obtain⟨q0,q1,q2,q3,q4,q5,q6,q7,q8⟩:=zZ c9;obtain⟨s1,S2,M2,C5,U8,S1⟩:=K6 A9 l3 c9 H7 d5 e1;obtain⟨T9,B7,g4,t2,C6,R9⟩:=K6 d8 e0 h5 h0 d7 t7;have K7:=Kh (And.intro b0 b4);have s8:=Kh (And.intro hl (And.intro a7 (And.intro a6 (And.intro c7 a9))));clear hl a7 a6 c7 a9 t7 b0 b4 H7 d5 e1 d8 e0 h5 c9 h0 d7 A9 l3 q0 q1 q2 q3 q4 q5 q7 q8;go_wp2_with (first|(at_builtin;refine iI rfl _ _ _ rfl wG P _ d d0 rfl s1.out _ rfl rfl ?r1 ?r2 ?r3 ?_)|fail)
   case r1=>unfold maxLen;omega
   case r2=>omega
   case r3=>omega
   intro sR' cR' w11 i1 l6 G1 k0;have g3:=zB M2.out l6 (zV s1.out M2.out (by decide));obtain⟨q0,q1,q2,q3,q4,q5,q6',q7,q8⟩:=zZ g3;have f6:=zA g3 6;have f8:=zA g3 8;have F3:=heap_setCell_same w11 o 6 _ _ (.slice sR' (d+1) cR') g3;have F2:=heap_setCell_same _ o 8 _ _ (.int .i64 ((d:Int)+1)) F3;have G5:=zG (zF w11 ⟨o,6,none⟩ (.slice sR' (d+1) cR')) (zF (w11.setCell ⟨o,6,none⟩ (.slice sR' (d+1) cR')) ⟨o,8,none⟩ (.int .i64 ((d:Int)+1)));obtain⟨C3,g5,T0,t5,l9,m9⟩:=K6 i1 l6 k0 g3 F2 G5;clear i1 l6 k0 g3 F3 F2 G5 q0 q1 q2 q3 q4 q5 q7 q6;go_wp2;go_roundg (bd-(d+1))
   case measure=>have:=m3.out;omega
   have R4:=C5.out.appAt (j:=3) rfl (v':=.slice sR' (d+1) cR') (n':=d+1) (us:=[Value.slice sr x cr]) C3.out g5.out T0.out;have J9:EMem X2 w11 ([⟨P,22,.slice sE2 m2 cE2,m2,d9,1⟩,⟨P,3,.slice sP2 m2 cP2,m2,ints pr2,1⟩,⟨P,3,.slice sL2 m2 cL2,m2,ints la2,1⟩,⟨P,22,.slice sR' (d+1) cR',d+1,d0++[Value.slice sr x cr],1⟩,⟨P,180,.slice sU2 u2 cU2,u2,us2,2⟩,⟨P,9,.slice sW2 m2 cW2,m2,xD ws2,1⟩]++[⟨P,3,.slice sr x cr,x,nats ro,1⟩]):=R4;have x3:=J9.retire;have h4:=J9.own ⟨P,3,.slice sr x cr,x,nats ro,1⟩ (by simp);simp only at h4 x3;have k11:xV X2 wr w11:=xV.of_grown C5.out.lt g5.out (fun j e hx=>C5.out.offX ⟨P,22,.slice sR2 d cR2,d,d0,1⟩ (by simp) j e hx);have k6:=zB t2.out g5.out (zV s1.out t2.out (by decide));have i2:=g4.out.kept g5.out (g4.out.ne_own s1.out)
   have I8:¬(X2 o\/(Value.slice sr x cr).ownBlock=some o)/\¬(X2 (P+1)\/(Value.slice sr x cr).ownBlock=some (P+1))/\¬(X2 mb\/(Value.slice sr x cr).ownBlock=some mb) :=
    ⟨fun h=>h.elim B7.out.1 (zV h4 t5.out (by decide)),fun h=>h.elim B7.out.2.1 (zV h4 k6 (by decide)),fun h=>h.elim B7.out.2.2 (i2.ne_own h4)⟩
   have kS:xV (fun j=>X2 j\/(Value.slice sr x cr).ownBlock=some j) w11 _:=xV.of_grown x3.lt m9.out (fun j e hx=>by have e:o=j:=Oj e;subst e;exact I8.1 hx);have l2:=g5.out.size;have y6:=m9.out.size;have R6:=((U8.out.kept k11 l2).mono (X':=fun j=>X2 j\/(Value.slice sr x cr).ownBlock=some j) (fun j h=>.inl h)).kept kS y6;have R0:=(((S1.out.kept k11 l2).mono (X':=fun j=>X2 j\/(Value.slice sr x cr).ownBlock=some j) (fun j h=>.inl h)).snoc (RowX.of_owns h4 (fun j h=>.inr h))).kept kS y6;have R5:=((T9.out.kept k11 l2).mono (X':=fun j=>X2 j\/(Value.slice sr x cr).ownBlock=some j) (fun j h=>.inl h)).kept kS y6
   have R3:=x3.far m9.out (fun r hr=>zV (x3.own r hr) t5.out (by
    simp only[List.mem_cons,List.not_mem_nil,or_false]at hr
    rcases hr with rfl|rfl|rfl|rfl|rfl|rfl<;>simp))
   refine⟨d+1,el2,pr2,la2,ri++[ro],m2,sW2,cW2,by have:=m3.out;omega,by first|rfl|go_num,rfl,P3,by omega,?_,.mk (fun j=>X2 j\/(Value.slice sr x cr).ownBlock=some j) u2 us2 d9 (d0++[Value.slice sr x cr]) ws2 sE2 cE2 sP2 cP2 sL2 cL2 sR' cR' sU2 cU2 s8.out.1 s8.out.2.1 s8.out.2.2.1 (by simp[s8.out.2.2.2.1]) s8.out.2.2.2.2 (by have:=R9.out;have:=k9.out;have:=K5.out;omega) K7.out.1 K7.out.2 (by rw[List.append_nil];exact R3) R6 R0 R5 I8 (i2.kept m9.out (fun e=>by have e:o=mb:=Oj e;omega)) ?_ (zB k6 m9.out (by simp;omega)) ?_⟩
   ·have h1:=i5.out
    rw[K5.out,k9.out]at h1;rw[wI,h1,s5.out]
   ·have:=l9.out
    simpa using this
   exact yG (zC C6.out g5.out (fun j e=>by have:=(s1.out.lt j e).1;have:=e2.out;omega)) m9.out (by show _<=o;have:=e2.out;omega)
  have U9:Hid (d=m):=Kh (by omega);have Q3:¬(d:Int)<m:=(by omega);obtain⟨p0,p1,p2,p3,p4,p5,p6,p7,p8⟩:=zZ h0;have f0:=zA h0 0;have f1:=zA h0 1;have f2:=zA h0 2;have f3:=zA h0 3;have f4:=zA h0 4;have f5:=zA h0 5;have f6:=zA h0 6;have f7:=zA h0 7;have f8:=zA h0 8;obtain⟨s7,D4,C0,D0,B8,i8⟩:=K6 H7 d5 e1 d8 e0 h0;have m1:=Kh d7;have i6:=Kh (And.intro hl (And.intro a7 (And.intro a6 (And.intro c7 a9))));clear H7 d5 e1 d8 e0 h5 c9 h0 d7 hl a7 a6 c7 a9 b0 b4;go_wp2;refine bodyPost_ret (v:=.tuple #[.agg #[.int .i64 n,.bool true,.slice gA gN gC,.slice sE m cE,.slice sP m cP,.slice sL m cL,.slice sR d cR,.slice sU u1 cU,.int .i64 d],.int .i64 0]) (by simp[results,Tryz.results91,go_sem,p0,p1,p2,p3,p4,p5,p6,p7,p8]) rfl ?_;obtain⟨O2,g2⟩:=rZ i8.out (.int .i64 n) (.bool true) (.slice gA gN gC) (.slice sE m cE) (.slice sP m cP) (.slice sL m cL) (.slice sR d cR) (.slice sU u1 cU) (.int .i64 d);have kk:xV X1 wr _:=xV.of_grown s7.out.lt g2 (fun j e hx=>by have e:P+1=j:=Oj e;subst e;exact B8.out.2.1 hx);refine .inr ⟨X1,el,pr,la,ri,m,d,u1,us1,j0,i9,sE,cE,sP,cP,sL,cL,sR,cR,sU,cU,rfl,s5.out,.inl U9.out,y9,I0,i6.out.1,i6.out.2.1,i6.out.2.2.1,i6.out.2.2.2.1,i6.out.2.2.2.2,?_,D4.out.kept kk g2.size,C0.out.kept kk g2.size,D0.out.kept kk g2.size,zC m1.out g2 (fun j e=>by have e:P+1=j:=Oj e;have:=e2.out;omega)⟩;rw[<-e2.out];have h9:=s7.out;rw[List.append_nil]at h9;have h8:=EMem.dropLast (rs:=[⟨P,22,.slice sE m cE,m,j0,1⟩,⟨P,3,.slice sP m cP,m,ints pr,1⟩,⟨P,3,.slice sL m cL,m,ints la,1⟩,⟨P,22,.slice sR d cR,d,i9,1⟩,⟨P,180,.slice sU u1 cU,u1,us1,2⟩]) h9
  exact h8.far g2 (fun r hr=>zV (h8.own r hr) i8.out (by
   simp only[List.mem_cons,List.not_mem_nil,or_false]at hr
   rcases hr with rfl|rfl|rfl|rfl|rfl<;>simp))
 have Q6:¬(0:Int)<(gk:Int):=by omega
 obtain⟨p0,p1,p2,p3,p4,p5,p6,p7,p8⟩:=zZ h0;have f0:=zA h0 0;have f1:=zA h0 1;have f2:=zA h0 2;have f3:=zA h0 3;have f4:=zA h0 4;have f5:=zA h0 5;have f6:=zA h0 6;have f7:=zA h0 7;have f8:=zA h0 8;obtain⟨s7,D4,C0,D0,B8,i8⟩:=K6 H7 d5 e1 d8 e0 h0;have m1:=Kh d7;have i6:=Kh (And.intro hl (And.intro a7 (And.intro a6 (And.intro c7 a9))));clear H7 d5 e1 d8 e0 h5 c9 h0 d7 hl a7 a6 c7 a9 b0 b4;go_wp2;refine bodyPost_ret (v:=.tuple #[.agg #[.int .i64 n,.bool true,.slice gA gN gC,.slice sE m cE,.slice sP m cP,.slice sL m cL,.slice sR d cR,.slice sU u1 cU,.int .i64 d],.int .i64 0]) (by simp[results,Tryz.results91,go_sem,p0,p1,p2,p3,p4,p5,p6,p7,p8]) rfl ?_;obtain⟨O2,g2⟩:=rZ i8.out (.int .i64 n) (.bool true) (.slice gA gN gC) (.slice sE m cE) (.slice sP m cP) (.slice sL m cL) (.slice sR d cR) (.slice sU u1 cU) (.int .i64 d);have kk:xV X1 wr _:=xV.of_grown s7.out.lt g2 (fun j e hx=>by have e:P+1=j:=Oj e;subst e;exact B8.out.2.1 hx);refine .inr ⟨X1,el,pr,la,ri,m,d,u1,us1,j0,i9,sE,cE,sP,cP,sL,cL,sR,cR,sU,cU,rfl,s5.out,.inr (by have:=m3.out;omega),y9,I0,i6.out.1,i6.out.2.1,i6.out.2.2.1,i6.out.2.2.2.1,i6.out.2.2.2.2,?_,D4.out.kept kk g2.size,C0.out.kept kk g2.size,D0.out.kept kk g2.size,zC m1.out g2 (fun j e=>by have e:P+1=j:=Oj e;have:=e2.out;omega)⟩;rw[<-e2.out];have h9:=s7.out;rw[List.append_nil]at h9;have h8:=EMem.dropLast (rs:=[⟨P,22,.slice sE m cE,m,j0,1⟩,⟨P,3,.slice sP m cP,m,ints pr,1⟩,⟨P,3,.slice sL m cL,m,ints la,1⟩,⟨P,22,.slice sR d cR,d,i9,1⟩,⟨P,180,.slice sU u1 cU,u1,us1,2⟩]) h9
 exact h8.far g2 (fun r hr=>zV (h8.own r hr) i8.out (by
  simp only[List.mem_cons,List.not_mem_nil,or_false]at hr
  rcases hr with rfl|rfl|rfl|rfl|rfl<;>simp))
end Go.Proofs.YtobakifdllameaaGreat
