/- Part 15 of the proof. -/
import Derived.Test.YtcoimliafiammaaGreatQa14
import Derived.BigRegion
set_option linter.unusedVariables false
set_option linter.unusedSimpArgs false
set_option maxRecDepth 100000
set_option maxHeartbeats 16000000
namespace Go.Proofs.YtcoimliafiammaaGreat
open Go.Maps Go.RowKit
theorem jY {w:World}{m e e':Nat}{cs:Array Value}{q:Nat×Nat}(h:w.heap[m]?=some (.cells cs e q))(a9:e≠e'):∀j,some m=some j->yC w e' j:=fun j ej=>by
 have ej:m=j:=Oj ej
 subst ej
 exact⟨_,_,_,h,a9⟩
theorem bK.growG {B:Nat}{w w':World}{v pv:Value}{L T:List (List Nat)}(h:bK B w v pv L T)(hg:w.grownBy w' none):bK B w' v pv L T:=by
 obtain⟨sS,sN,cS,cN,hs,hn,rfl,h1,h2,h3,h4⟩:=h;exact⟨sS,sN,cS,cN,hs,hn,rfl,zP h1 hg,zP h2 hg,(h3.kept hg (by simp)).mono hg.size,(h4.kept hg (by simp)).mono hg.size⟩
theorem bK.keptO {B m e:Nat}{w w':World}{v pv:Value}{L T:List (List Nat)}{cs:Array Value}{q:Nat×Nat}(h:bK B w v pv L T)(hb:w.heap[m]?=some (.cells cs e q))(h1:22≠e)(h2:e≠3)(hg:w.grownBy w' (some m)):bK B w' v pv L T:=by
 obtain⟨sS,sN,cS,cN,hs,hn,rfl,a1,a2,a3,a4⟩:=h;exact⟨sS,sN,cS,cN,hs,hn,rfl,a1.kept hg (.inr (zO a1 hb h1)),a2.kept hg (.inr (zO a2 hb h1)),(a3.kept hg (fun j e=>.inr (jY hb h2 j e))).mono hg.size,(a4.kept hg (fun j e=>.inr (jY hb h2 j e))).mono hg.size⟩
theorem DsUp.keptO {base m e:Nat}{w w':World}{v:Value}{l:List (DfaV×Value×Value)}{cs:Array Value}{q:Nat×Nat}(h:DsUp base w v l)(hb:w.heap[m]?=some (.cells cs e q))(h0:30≠e)(h1:e≠4)(h2:e≠22)(h3:e≠3)(hg:w.grownBy w' (some m)):DsUp base w' v l :=
 ⟨h.own.kept hg (.inr (zO h.own hb h0)),fun x hx=>(h.ok x hx).kept hg (fun j e=>⟨jY hb h1 j e,jY hb h2 j e,jY hb h3 j e⟩)⟩
theorem xAD {Q':Exit->Act->World->Prop}{v0 v1 v3 v4 v5 v6 v7 v9 l0 l1 l2 l3 l4 l5 l6 l7 l8 l9 k0 k1 k2 k3 k4 k5 k6 k7 k8 k9 n1 n3 n4 n5 n6 n7 n8 n9 m0 m1 m2 j0 j1 j2 j3 j4 j5 j6 j7 j8 j9 i0 i1 i2 i3 i4 i5 i6 i7 i8 i9 g0 g2 g3 g4 g5 g6 g7 g8 g9 f0 f1 f2 f3 f4 f5 f7 f8 f9 e0 e1 e2 e3 e4 e5 e6 e7 e8 e9 d0 d1 d2 d3 d4 d5 d6 d7 d8 d9 c0 c4 c5 c6 c7 c8 c9 b0 b1 b2 b3 b4 b5 b6 b7 b8 b9 a0 a1 a2 a3 a4 a5 a6 a7 a8:Value}{dd:_}{w0 w:World}{Q base Bd n2 sc k fl fc nl nc:Nat}{sa fa na:Option Addr}{ds:Int}{d:DfaV}{ps:List (List ByteArray)}{lp:List (DfaV×Value×Value)}(m3:w.heap[Q]?=some (.cells #[.int .i64 (k:Int),.int .i64 ds,.slice fa fl fc,.slice na nl nc] 30 (0,0)))(m4:w0.grownBy w none)(a9:base<=w.heap.size)(o8:w0.heap.size<=base)(o7:Q<base)(m9:DsUp base w (.slice sa n2 sc) lp)(m8:lp.map (·.1)=autD ps (k:Int))(m7:lp.length=n2)(hn:n2=ps.length)(o9:n2<=300)(c1:∀W:World,w0.grownBy W none->Calls Tryz.prog 72 #[.agg #[.int .i64 (k:Int),.int .i64 ds,.slice fa fl fc,.slice na nl nc]] W (qTV W (minD d k)))(c2:OkT (autD ps (k:Int)++[minD d k]) k)(m5:1<=k)(m6:k<=6)(c3:Over (autD ps (k:Int)++[minD d k]) k->∀(z30 z31 z32 z33 z34 z35 z36 z37 z38 z39 z40:Value) (R:Nat) (w':World),w0.grownBy w' none->Q' .normal ⟨(v0::v1::(Value.pointer (some ⟨Q,0,none⟩))::v3::v4::v5::v6::(Value.int .i64 3)::(Value.slice sa n2 sc)::(Value.pointer (some ⟨R,0,none⟩))::l0::l1::l2::l3::l4::l5::l6::l7::l8::l9::k0::k1::k2::k3::k4::k5::k6::k7::k8::k9::z30::z31::z32::z33::z34::z35::z36::z37::z38::z39::z40::j0::j1::j2::j3::j4::j5::j6::j7::j8::j9::i0::i1::i2::i3::i4::i5::i6::i7::i8::i9::g0::g2::g3::g4::g5::g6::g7::g8::g9::f0::f1::f2::f3::f4::f5::f7::f8::f9::e0::e1::e2::e3::e4::e5::e6::e7::e8::e9::d0::d1::d2::d3::d4::d5::d6::d7::d8::d9::c0::c4::c5::c6::c7::c8::c9::b0::b1::b2::b3::b4::b5::b6::b7::b8::b9::a0::a1::a2::a3::a4::a5::a6::a7::a8::[]).toArray,dd⟩ w')(n0:∀(z30 z31 z32 z33 z34 z35 z36 z37 z38 z39 z40:Value) (R:Nat) (w':World) (B8:Nat) (sN sS sT:Option Addr) (cN cS cT LL TL:Nat) (L T:List (List Nat)) (l:List (DfaV×Value×Value)),LL=L.length->TL=T.length->l.map (·.1)=autD ps (k:Int)++[minD d k]->w'.heap[R]?=some (.cells #[.slice sN (n2+1) cN,.slice sS LL cS,.slice sT TL cT] 120 (0,0))->bK B8 w' (.agg #[.slice sN (n2+1) cN,.slice sS LL cS,.slice sT TL cT]) (.slice sN (n2+1) cN) L T->DsUp base w' (.slice sN (n2+1) cN) l->BfsD (nxtT (autD ps (k:Int)++[minD d k])) k (st0T (autD ps (k:Int)++[minD d k])) L->L.length<=4000->TOk (autD ps (k:Int)++[minD d k]) k L T L.length->w0.grownBy w' none->Q' .normal ⟨(v0::v1::(Value.pointer (some ⟨Q,0,none⟩))::v3::v4::v5::v6::(Value.int .i64 0)::(Value.slice sa n2 sc)::(Value.pointer (some ⟨R,0,none⟩))::l0::l1::l2::l3::l4::l5::l6::l7::l8::l9::k0::k1::k2::k3::k4::k5::k6::k7::k8::k9::z30::z31::z32::z33::z34::z35::z36::z37::z38::z39::z40::j0::j1::j2::j3::j4::j5::j6::j7::j8::j9::i0::i1::i2::i3::i4::i5::i6::i7::i8::i9::g0::g2::g3::g4::g5::g6::g7::g8::g9::f0::f1::f2::f3::f4::f5::f7::f8::f9::e0::e1::e2::e3::e4::e5::e6::e7::e8::e9::d0::d1::d2::d3::d4::d5::d6::d7::d8::d9::c0::c4::c5::c6::c7::c8::c9::b0::b1::b2::b3::b4::b5::b6::b7::b8::b9::a0::a1::a2::a3::a4::a5::a6::a7::a8::[]).toArray,dd⟩ w'):Code.wp Tryz.prog (reg Tryz.f52 4) Q' ⟨(v0::v1::(Value.pointer (some ⟨Q,0,none⟩))::v3::v4::v5::v6::v7::(Value.slice sa n2 sc)::v9::l0::l1::l2::l3::l4::l5::l6::l7::l8::l9::k0::k1::k2::k3::k4::k5::k6::k7::k8::k9::n1::n3::n4::n5::n6::n7::n8::n9::m0::m1::m2::j0::j1::j2::j3::j4::j5::j6::j7::j8::j9::i0::i1::i2::i3::i4::i5::i6::i7::i8::i9::g0::g2::g3::g4::g5::g6::g7::g8::g9::f0::f1::f2::f3::f4::f5::f7::f8::f9::e0::e1::e2::e3::e4::e5::e6::e7::e8::e9::d0::d1::d2::d3::d4::d5::d6::d7::d8::d9::c0::c4::c5::c6::c7::c8::c9::b0::b1::b2::b3::b4::b5::b6::b7::b8::b9::a0::a1::a2::a3::a4::a5::a6::a7::a8::[]).toArray,dd⟩ w:=by
 conv=>arg 2;whnf
 obtain⟨wq,o3⟩:=Nm w.drew;have H6:w.grownBy wq none:=by rw[o3];exact zN w none
 have q9:=Kh o3;have h2:=Kh (zA m4 H6);have h0:=Kh (zB m3 H6);have h3:=Kh (m9.grow H6);have h4:Hid (base<=wq.heap.size):=Kh (Nat.le_trans a9 H6.size);obtain⟨p6,p8,q5,p5,H9⟩:=K5 m8 m7 hn c1 c2;have C:=Kh (zE h0.out);clear o3 H6 m3 m4 a9 m9 m8 m7 hn c1 c2;refine wp_region_noPanic ?_;refine xE (G:=vU 100 (fun W=>W.cell? ⟨Q,0,none⟩=some (.int .i64 (k:Int))/\W.cell? ⟨Q,1,none⟩=some (.int .i64 ds)/\W.cell? ⟨Q,2,none⟩=some (.slice fa fl fc)/\W.cell? ⟨Q,3,none⟩=some (.slice na nl nc)) (fun _=>True)) (by kernel_rfl) ?_;rw[<-q9.out];refine yG 0 ?_;refine yG 1 ?_;refine yG 5 ?_;refine yG 6 ?_;refine twoG (i:=2) (j:=11) (by kernel_rfl) rfl rfl (fun K hK=>?_) (fun K hK=>?_);rotate_left;go_simp;obtain⟨R,hR⟩:=Nm wq.heap.size;have H1:Hid (w0.heap.size<=R):=Kh (by rw[hR];exact h2.out.size);have hg:=Ga wq (.cells #[.slice none 0 0,.slice none 0 0,.slice none 0 0] 120) none;have hb:=heap_alloc_new wq (.cells #[.slice none 0 0,.slice none 0 0,.slice none 0 0] 120);obtain⟨wq,hq⟩:=Nm (wq.alloc (.cells #[.slice none 0 0,.slice none 0 0,.slice none 0 0] 120));rw[<-hq]at hg hb⊢;rw[<-hR]at hb⊢;have h2:=Kh (zA h2.out hg);have h0:=Kh (zB h0.out hg);have h3:=Kh (h3.out.grow hg);have h4:Hid (base<=wq.heap.size):=Kh (Nat.le_trans h4.out (hg).size);have C:=Kh (zE h0.out);have h5:=Kh hb;refine hK.out _ _ ⟨C.out,fun _=>trivial⟩ ?_;clear hK K hg hb hq hR
 try simp only[Act.put,sPa,sPb,sPc]
 refine oneG (i:=2) (by kernel_rfl) rfl (fun K hK=>?_)
 all_goals
  go_simp
  go_at_call 72
  refine(p5.out wq h2.out).mono ?_;rintro e wq ⟨v6,rfl,H5,hg⟩;obtain⟨f6,x6,rfl,o4⟩:=H5.t;obtain⟨fa6,fl6,fc6,na6,nl6,nc6,rfl,rfl⟩:=o4.shapes;have H0:=Kh o4;have h2:=Kh (zA h2.out hg);have h0:=Kh (zB h0.out hg);have h3:=Kh (h3.out.grow hg);have h4:Hid (base<=wq.heap.size):=Kh (Nat.le_trans h4.out (hg).size);have C:=Kh (zE h0.out)
  try have h5:=Kh (zB h5.out hg)
  obtain⟨ml,o6⟩:=Nm ((minD d k).letters);obtain⟨ms,o5⟩:=Nm ((minD d k).start);rw[<-o6,<-o5];have r3:=Kh o6;have r2:=Kh o5;refine hK.out _ _ ⟨C.out,fun _=>trivial⟩ ?_;clear hK K H5 hg o4 o6 o5
  try simp only[Act.put,sPa,sPb,sPc]
 refine oneG (i:=3) (by kernel_rfl) rfl (fun K hK=>?_);rotate_left;refine twoG (i:=3) (j:=11) (by kernel_rfl) rfl rfl (fun K hK=>?_) (fun K hK=>?_);rotate_left;go_simp;obtain⟨R,hR⟩:=Nm wq.heap.size;have H1:Hid (w0.heap.size<=R):=Kh (by rw[hR];exact h2.out.size);have hg:=Ga wq (.cells #[.slice none 0 0,.slice none 0 0,.slice none 0 0] 120) none;have hb:=heap_alloc_new wq (.cells #[.slice none 0 0,.slice none 0 0,.slice none 0 0] 120);obtain⟨wq,hq⟩:=Nm (wq.alloc (.cells #[.slice none 0 0,.slice none 0 0,.slice none 0 0] 120));rw[<-hq]at hg hb⊢;rw[<-hR]at hb⊢;have h2:=Kh (zA h2.out hg);have h0:=Kh (zB h0.out hg);have h3:=Kh (h3.out.grow hg);have h4:Hid (base<=wq.heap.size):=Kh (Nat.le_trans h4.out (hg).size);have C:=Kh (zE h0.out);have H0:=Kh (H0.out.grow hg);have h5:=Kh hb;refine hK.out _ _ ⟨C.out,fun _=>trivial⟩ ?_;clear hK K hg hb hq hR
 try simp only[Act.put,sPa,sPb,sPc]
 refine oneG (i:=3) (by kernel_rfl) rfl (fun K hK=>?_)
 all_goals
  go_simp;have h7:=heap_alloc_new wq (.cells #[.int .i64 ml,.int .i64 ms,.slice fa6 fl6 fc6,.slice na6 nl6 nc6] 30);have hg:=Ga wq (.cells #[.int .i64 ml,.int .i64 ms,.slice fa6 fl6 fc6,.slice na6 nl6 nc6] 30) none;obtain⟨R7,q1⟩:=Nm wq.heap.size;obtain⟨wq,hq⟩:=Nm (wq.alloc (.cells #[.int .i64 ml,.int .i64 ms,.slice fa6 fl6 fc6,.slice na6 nl6 nc6] 30));rw[<-hq]at h7 hg⊢;rw[<-q1]at h7⊢;have H0:=Kh (H0.out.grow hg);have o1:=Kh h7;have h2:=Kh (zA h2.out hg);have h0:=Kh (zB h0.out hg);have h3:=Kh (h3.out.grow hg);have h4:Hid (base<=wq.heap.size):=Kh (Nat.le_trans h4.out (hg).size);have C:=Kh (zE h0.out)
  try have h5:=Kh (zB h5.out hg)
  refine hK.out _ _ ⟨C.out,fun _=>trivial⟩ ?_;clear hK K hq q1 hg h7
  try simp only[Act.put,sPa,sPb,sPc]
 all_goals
  have h9:=h3.out.own;rw[p8.out]at h9;have o2:=h4.out;have h7:=o1.out
 refine oneG (i:=4) (by kernel_rfl) rfl (fun K hK=>?_);rotate_left;refine oneG (i:=4) (by kernel_rfl) rfl (fun K hK=>?_);rotate_left;refine twoG (i:=4) (j:=11) (by kernel_rfl) rfl rfl (fun K hK=>?_) (fun K hK=>?_);rotate_left;go_simp;obtain⟨R,hR⟩:=Nm wq.heap.size;have H1:Hid (w0.heap.size<=R):=Kh (by rw[hR];exact h2.out.size);have hg:=Ga wq (.cells #[.slice none 0 0,.slice none 0 0,.slice none 0 0] 120) none;have hb:=heap_alloc_new wq (.cells #[.slice none 0 0,.slice none 0 0,.slice none 0 0] 120);obtain⟨wq,hq⟩:=Nm (wq.alloc (.cells #[.slice none 0 0,.slice none 0 0,.slice none 0 0] 120));rw[<-hq]at hg hb⊢;rw[<-hR]at hb⊢;have h2:=Kh (zA h2.out hg);have h0:=Kh (zB h0.out hg);have h3:=Kh (h3.out.grow hg);have h4:Hid (base<=wq.heap.size):=Kh (Nat.le_trans h4.out (hg).size);have C:=Kh (zE h0.out);have H0:=Kh (H0.out.grow hg);have o1:=Kh (zB o1.out hg);have h5:=Kh hb;refine hK.out _ _ ⟨C.out,fun _=>trivial⟩ ?_;clear hK K hg hb hq hR
 try simp only[Act.put,sPa,sPb,sPc]
 have h9:=h3.out.own;rw[p8.out]at h9;have o2:=h4.out;have h7:=o1.out;refine oneG (i:=4) (by kernel_rfl) rfl (fun K hK=>?_)
 all_goals
  refine qO rfl (.tmp 31) (.tmp 34) 82 rfl iM base (.slice sa n2 sc) n2 (jC lp) rfl h9 [.int .i64 ml,.int .i64 ms,.slice fa6 fl6 fc6,.slice na6 nl6 nc6] R7 rfl (0,0) rfl h7 ?z1 ?z2 ?z3 o2 ?_
  case z1=>intro v hv;simp only[List.mem_cons,List.not_mem_nil,or_false]at hv;rcases hv with rfl|rfl|rfl|rfl<;>rfl
  case z2=>unfold maxLen;omega
  case z3=>show (n2+1)*64<=140737488355328;omega
  have q4:Hid (∀j,(Value.slice sa n2 sc).ownBlock=some j->base<=j/\j<wq.heap.size):=Kh (fun j e=>h9.lt j e);intro sN cN wq H4 H2 q7;have h3:=Kh (h3.out.push (v':=.slice sN (n2+1) cN) (x:=(minD d k,.slice fa6 fl6 fc6,.slice na6 nl6 nc6)) H0.out (by rw[p8.out];unfold dval;rw[<-r3.out,<-r2.out];exact H4) H2);have h0:=Kh (zB h0.out H2 (fun e=>by have:=(q4.out Q e).1;omega));have h2:=Kh (zA h2.out H2 (fun j e=>by have:=(q4.out j e).1;omega));have h4:Hid (base<=wq.heap.size):=Kh (Nat.le_trans h4.out H2.size);have C:=Kh (zE h0.out)
  try have h5:=Kh (zB h5.out H2 (fun e=>zO h9 h5.out (by decide) e))
  refine hK.out _ _ ⟨C.out,fun _=>trivial⟩ ?_;clear hK K H4 H2 q7 h9 o2 h7
  try simp only[Act.put,sPa,sPb,sPc]
 all_goals
  have h8:Hid (Calls Tryz.prog 71 #[.slice sN (n2+1) cN,.int .i64 (k:Int)] wq (xAV wq (.slice sN (n2+1) cN) (autD ps k++[minD d k]) k)):=Kh (gU wq.heap.size wq _ (autD ps k++[minD d k]) k (Nat.le_refl _) (by
   have:=h3.out.in_;rw[List.map_append,p6.out]at this
   exact this) H9.out m5 m6 (by rw[List.length_append,xX,<-q5.out];show n2+1<=400;omega))
 refine oneG (i:=7) (by kernel_rfl) rfl (fun K hK=>?_);rotate_left;refine oneG (i:=7) (by kernel_rfl) rfl (fun K hK=>?_);rotate_left;refine oneG (i:=7) (by kernel_rfl) rfl (fun K hK=>?_);rotate_left;refine twoG (i:=7) (j:=11) (by kernel_rfl) rfl rfl (fun K hK=>?_) (fun K hK=>?_);rotate_left;go_simp;obtain⟨R,hR⟩:=Nm wq.heap.size;have H1:Hid (w0.heap.size<=R):=Kh (by rw[hR];exact h2.out.size);have hg:=Ga wq (.cells #[.slice none 0 0,.slice none 0 0,.slice none 0 0] 120) none;have hb:=heap_alloc_new wq (.cells #[.slice none 0 0,.slice none 0 0,.slice none 0 0] 120);obtain⟨wq,hq⟩:=Nm (wq.alloc (.cells #[.slice none 0 0,.slice none 0 0,.slice none 0 0] 120));rw[<-hq]at hg hb⊢;rw[<-hR]at hb⊢;have h2:=Kh (zA h2.out hg);have h0:=Kh (zB h0.out hg);have h3:=Kh (h3.out.grow hg);have h4:Hid (base<=wq.heap.size):=Kh (Nat.le_trans h4.out (hg).size);have C:=Kh (zE h0.out);have h5:=Kh hb;refine hK.out _ _ ⟨C.out,fun _=>trivial⟩ ?_;clear hK K hg hb hq hR
 try simp only[Act.put,sPa,sPb,sPc]
 have h8:Hid (Calls Tryz.prog 71 #[.slice sN (n2+1) cN,.int .i64 (k:Int)] wq (xAV wq (.slice sN (n2+1) cN) (autD ps k++[minD d k]) k)):=Kh (gU wq.heap.size wq _ (autD ps k++[minD d k]) k (Nat.le_refl _) (by
  have:=h3.out.in_;rw[List.map_append,p6.out]at this
  exact this) H9.out m5 m6 (by rw[List.length_append,xX,<-q5.out];show n2+1<=400;omega))
 refine oneG (i:=7) (by kernel_rfl) rfl (fun K hK=>?_)
 all_goals
  go_simp
  go_at_call 71
  refine h8.out.mono ?_;rintro e wq (⟨q0,rfl,hg⟩|⟨B8,v8,L,T,rfl,q3,o0,H7,q2,p9,hg⟩)
  ·have r1:=Kh q0
   have h2:=Kh (zA h2.out hg);have h0:=Kh (zB h0.out hg);have h3:=Kh (h3.out.grow hg);have h4:Hid (base<=wq.heap.size):=Kh (Nat.le_trans h4.out (hg).size);have C:=Kh (zE h0.out)
   try have h5:=Kh (zB h5.out hg)
   refine hK.out _ _ ⟨C.out,fun _=>trivial⟩ ?_;clear hK K q0 hg
   try simp only[Act.put,sPa,sPb,sPc]
   refine yG 8 ?_;refine yG 9 ?_;refine yG 10 ?_
   first
   | have h6:=h5.out
   |
    refine oneG (i:=11) (by kernel_rfl) rfl (fun K hK=>?_);go_simp;obtain⟨R,hR⟩:=Nm wq.heap.size;have H1:Hid (w0.heap.size<=R):=Kh (by rw[hR];exact h2.out.size);have hg:=Ga wq (.cells #[.slice none 0 0,.slice none 0 0,.slice none 0 0] 120) none;have hb:=heap_alloc_new wq (.cells #[.slice none 0 0,.slice none 0 0,.slice none 0 0] 120);obtain⟨wq,hq⟩:=Nm (wq.alloc (.cells #[.slice none 0 0,.slice none 0 0,.slice none 0 0] 120));rw[<-hq]at hg hb⊢;rw[<-hR]at hb⊢;have h2:=Kh (zA h2.out hg);have h0:=Kh (zB h0.out hg);have h3:=Kh (h3.out.grow hg);have h4:Hid (base<=wq.heap.size):=Kh (Nat.le_trans h4.out (hg).size);have C:=Kh (zE h0.out);have h5:=Kh hb;refine hK.out _ _ ⟨C.out,fun _=>trivial⟩ ?_;clear hK K hg hb hq hR
    try simp only[Act.put,sPa,sPb,sPc]
   have h6:=h5.out;obtain⟨f40,f41,f42,p0,v0',v1',v2'⟩:=wK h6;refine oneG (i:=12) (by kernel_rfl) rfl (fun K hK=>?_);go_simp;obtain⟨w9,H3,g1,z1,_,_,_⟩:=uP h6 (.slice none 0 0) (.slice none 0 0) (.slice none 0 0);rw[<-H3];have q8:w0.heap.size<=R:=H1.out;have h2:=Kh (zY h2.out g1 (by show _<=R;omega));have p2:Q≠R:=fun e=>by have h1:=h0.out;rw[e,h6]at h1;simp at h1
   have h0:=Kh (zB h0.out g1 (fun e=>p2 (Oj e).symm));have C:=Kh (zE h0.out);subst H3;refine hK.out _ _ ⟨C.out,fun _=>trivial⟩ ?_;clear hK K v0' v1' v2' f40 f41 f42
   try simp only[Act.put,sPa,sPb,sPc]
   refine oneG (i:=13) (by kernel_rfl) rfl (fun K hK=>?_);go_simp;refine hK.out _ _ ⟨C.out,fun _=>trivial⟩ ?_;clear hK K
   try simp only[Act.put,sPa,sPb,sPc]
   refine nO (by kernel_rfl) ?_ _;refine NoPanic.normal ?_;exact c3 r1.out _ _ _ _ _ _ _ _ _ _ _ R _ h2.out
  obtain⟨r5,r4,r0⟩:=K3 H7 q2 p9;have r9:Hid (w0.heap.size<=B8):=Kh (Nat.le_trans h2.out.size q3);obtain⟨sS,sT,cS,cT,r6,r7,rfl,q6⟩:=id o0;obtain⟨LL,p3⟩:=Nm L.length;obtain⟨TL,p1⟩:=Nm T.length;rw[<-p3,<-p1]at o0⊢;obtain⟨H8,p7,p4⟩:=K3 o0 p3 p1;have h2:=Kh (zA h2.out hg);have h0:=Kh (zB h0.out hg);have h3:=Kh (h3.out.grow hg);have h4:Hid (base<=wq.heap.size):=Kh (Nat.le_trans h4.out (hg).size);have C:=Kh (zE h0.out)
  try have h5:=Kh (zB h5.out hg)
  refine hK.out _ _ ⟨C.out,fun _=>trivial⟩ ?_;clear hK K H7 q2 p9 hg q6 o0 p3 p1 q3
  try simp only[Act.put,sPa,sPb,sPc]
  refine yG 8 ?_;refine yG 9 ?_;refine yG 10 ?_
  first
  | have h6:=h5.out
  |
   refine oneG (i:=11) (by kernel_rfl) rfl (fun K hK=>?_);go_simp;obtain⟨R,hR⟩:=Nm wq.heap.size;have H1:Hid (w0.heap.size<=R):=Kh (by rw[hR];exact h2.out.size);have hg:=Ga wq (.cells #[.slice none 0 0,.slice none 0 0,.slice none 0 0] 120) none;have hb:=heap_alloc_new wq (.cells #[.slice none 0 0,.slice none 0 0,.slice none 0 0] 120);obtain⟨wq,hq⟩:=Nm (wq.alloc (.cells #[.slice none 0 0,.slice none 0 0,.slice none 0 0] 120));rw[<-hq]at hg hb⊢;rw[<-hR]at hb⊢;have h2:=Kh (zA h2.out hg);have h0:=Kh (zB h0.out hg);have h3:=Kh (h3.out.grow hg);have h4:Hid (base<=wq.heap.size):=Kh (Nat.le_trans h4.out (hg).size);have C:=Kh (zE h0.out);have H8:=Kh (H8.out.growG hg);have h5:=Kh hb;refine hK.out _ _ ⟨C.out,fun _=>trivial⟩ ?_;clear hK K hg hb hq hR
   try simp only[Act.put,sPa,sPb,sPc]
  have h6:=h5.out;obtain⟨f40,f41,f42,p0,v0',v1',v2'⟩:=wK h6;refine oneG (i:=12) (by kernel_rfl) rfl (fun K hK=>?_);go_simp;obtain⟨w9,H3,g1,z1,_,_,_⟩:=uP h6 (.slice sN (n2+1) cN) (.slice sS LL cS) (.slice sT TL cT);rw[<-H3];have q8:w0.heap.size<=R:=H1.out;have h2:=Kh (zY h2.out g1 (by show _<=R;omega));have p2:Q≠R:=fun e=>by have h1:=h0.out;rw[e,h6]at h1;simp at h1
  have h0:=Kh (zB h0.out g1 (fun e=>p2 (Oj e).symm));have C:=Kh (zE h0.out);have h3:=Kh (h3.out.keptO (m:=R) h6 (by decide) (by decide) (by decide) (by decide) g1);have H8:=Kh (H8.out.keptO (m:=R) h6 (by decide) (by decide) g1);have r8:=Kh z1;subst H3;refine hK.out _ _ ⟨C.out,fun _=>trivial⟩ ?_;clear hK K v0' v1' v2' f40 f41 f42
  try simp only[Act.put,sPa,sPb,sPc]
  refine oneG (i:=13) (by kernel_rfl) rfl (fun K hK=>?_);go_simp;refine hK.out _ _ ⟨C.out,fun _=>trivial⟩ ?_;clear hK K
  try simp only[Act.put,sPa,sPb,sPc]
  refine nO (by kernel_rfl) ?_ _;refine NoPanic.normal ?_;exact n0 _ _ _ _ _ _ _ _ _ _ _ R _ _ _ _ _ _ _ _ _ _ L T (lp++[(minD d k,.slice fa6 fl6 fc6,.slice na6 nl6 nc6)]) p7.out p4.out (by rw[List.map_append,p6.out];rfl) z1 H8.out h3.out r5.out r4.out r0.out h2.out
theorem rS {w:World}{b e sz n g cap i:Nat}{xs:List Value}(h:w.ownsRow b e sz (.slice (some ⟨g,0,none⟩) n cap) n xs)(u:Value):(w.setCell ⟨g,i,none⟩ u).ownsRow b e sz (.slice (some ⟨g,0,none⟩) n cap) n (xs.set i u):=by
 refine⟨by rw[List.length_set];exact h.1,?_⟩;rcases h.2 with ⟨hv,_⟩|⟨g',cap',cur,hv,hb,hg,hnc,hcm,hcs,htake⟩
 ·simp at hv
 simp only[Value.slice.injEq,Option.some.injEq,Addr.mk.injEq]at hv;obtain⟨⟨rfl,_⟩,_,rfl⟩:=hv;have hs:=heap_setCell_same w g i _ _ u hg;refine .inr ⟨g,cap,_,rfl,hb,hs,hnc,hcm,by simpa using hcs,?_⟩;rw[<-htake];simp[List.take_set]
def ltN (t:List Nat):List Nat:=t.map fun b=>97+b
theorem qND (t:List Nat):(ltN t).length=t.length:=by simp[ltN]
theorem qYH (t:List Nat):zb (ltN t)=lets t:=by simp[zb,ltN,lets]
def RevI (t l:List Nat)(i:Nat):Prop:=l.length=t.length/\∀p,p<t.length->l.getD p 0=if p<i\/t.length<=p+i then t.getD (t.length-1-p) 0 else t.getD p 0
theorem RevI.start (t:List Nat):RevI t t 0:=⟨rfl,fun p hp=>by rw[if_neg (by omega)]⟩
theorem qFH {l:List Nat}{i p x:Nat}(hi:i<l.length):(l.set i x).getD p 0=if p=i then x else l.getD p 0:=by
 simp only[List.getD_eq_getElem?_getD,List.getElem?_set]
 split
 ·rename_i e;subst e;simp[hi]
 rename_i e;rw[if_neg (fun h=>e h.symm)]
theorem RevI.step {t l:List Nat}{i j:Nat}(h:RevI t l i)(hj:i+j+1=t.length)(a9:i<j):RevI t ((l.set i (l.getD j 0)).set j (l.getD i 0)) (i+1):=by
 refine⟨by simp[h.1],fun p hp=>?_⟩;rw[qFH (by rw[List.length_set,h.1];omega),qFH (by rw[h.1];omega)];by_cases e1:p=j
 ·subst e1
  rw[if_pos rfl,if_pos (by omega),h.2 i (by omega),if_neg (by omega)];congr 1;omega
 rw[if_neg e1];by_cases e2:p=i
 ·subst e2
  rw[if_pos rfl,if_pos (by omega),h.2 j (by omega),if_neg (by omega)];congr 1;omega
 rw[if_neg e2,h.2 p hp];by_cases e3:p<i\/t.length<=p+i
 ·rw[if_pos e3,if_pos (by omega)]
 rw[if_neg e3,if_neg (by omega)]
theorem RevI.done {t l:List Nat}{i j:Nat}(h:RevI t l i)(hj:i+j+1=t.length)(a9:j<=i):l=t.reverse:=by
 refine List.ext_getElem (by rw[h.1,List.length_reverse]) fun p h1 h2=>?_;have hp:p<t.length:=by rw[<-h.1];exact h1
 have:=h.2 p hp;rw[zG h1]at this;rw[this,List.getElem_reverse]
 split
 ·rw[zG (by omega)]
 have:p=t.length-1-p:=by omega
 rw[zG hp];congr 1
theorem RevI.nil {t l:List Nat}(h:RevI t l 0)(h0:t.length=0):l=t.reverse:=by
 have:=List.eq_nil_of_length_eq_zero h0;subst this;have:=List.eq_nil_of_length_eq_zero h.1;rw[this];rfl
def qTQ (w:World)(ds:List DfaV)(k:Nat)(L:List (List Nat))(s:Nat)(e:Ending)(w':World):Prop :=
 ∃u:List Nat,yO k u/\u.length<=s/\rA (nxtT ds) (L.getD 0 []) u=L.getD s []/\e=.returned (.string (strOfNums (lets u)))/\w.grownBy w' none
theorem qUI {w W:World}{b e n g cap i j:Nat}{t:List Nat}(h:w.ownsRow b e 1 (.slice (some ⟨g,0,none⟩) n cap) n (u8s t))(a9:i≠j)(x y:Nat)(hW:W=(w.setCell ⟨g,i,none⟩ (.int .u8 (x:Int))).setCell ⟨g,j,none⟩ (.int .u8 (y:Int))\/W=(w.setCell ⟨g,j,none⟩ (.int .u8 (y:Int))).setCell ⟨g,i,none⟩ (.int .u8 (x:Int))):W.ownsRow b e 1 (.slice (some ⟨g,0,none⟩) n cap) n (u8s ((t.set i x).set j y))/\w.grownBy W (some g):=by
 refine⟨?_,?_⟩
 ·rcases hW with rfl|rfl
  ·have:=rS (i:=j) (rS (i:=i) h (.int .u8 (x:Int))) (.int .u8 (y:Int))
   rwa [eJ,eJ]at this
  have:=rS (i:=i) (rS (i:=j) h (.int .u8 (y:Int))) (.int .u8 (x:Int));rw[eJ,eJ,List.set_comm _ _ (fun e=>a9 e.symm)]at this;exact this
 rcases hW with rfl|rfl
 ·exact zC (zD w ⟨g,i,none⟩ _) (zD _ ⟨g,j,none⟩ _)
 exact zC (zD w ⟨g,j,none⟩ _) (zD _ ⟨g,i,none⟩ _)
theorem qQA (w:World)(o k:Nat)(pv:Value)(ds:List DfaV)(L:List (List Nat))(a9 fr bl:List Nat)(sb sc nb nc fb fc bb bc s:Nat)(h:ProdV w o k pv L a9 fr bl sb sc nb nc fb fc bb bc)(hf:bL ds k L fr bl)(a8:k<=6)(hs:s<L.length)(hL:L.length<=4000):Calls Tryz.prog 50 #[.pointer (some ⟨o,0,none⟩),.int .i64 (s:Int)] w (qTQ w ds k L s):=by
 obtain⟨m,hm⟩:=Nm L.length;obtain⟨H,HF,HM⟩:=K3 h hf hm;rw[<-hm]at hs hL;clear h hf hm;go_enter Tryz.func50,Tryz.ntmps50;go_wp2
 go_loopg [1,5] s (fun gh v1 v5 wr=>∃(q:Nat) (sa:Option Addr) (sc:Nat) (t:List Nat),gh=q/\v1=.int .i64 q/\v5=.slice sa t.length sc/\wr.ownsRow w.heap.size 5 1 (.slice sa t.length sc) t.length (u8s (ltN t))/\BackI ds k L s q t/\w.grownBy wr none)
 case atStart=>exact⟨s,none,0,[],rfl,rfl,rfl,World.ownsRow_nil _ _ _ _,BackI.start _ _ _ _,zH _ _⟩
 obtain⟨q,sa,sd,t,a3,rfl,rfl,h3,H8,hg⟩:=hrel;obtain⟨b8,HO,HB,HG⟩:=K4 a3 h3 H8 hg;have H5:=H8.len;clear a3 h3 H8;by_cases hq:q=0
 ·subst hq
  obtain⟨n,hn⟩:=Nm t.length;have HN:=Kh hn;rw[<-hn]at H5 HO⊢;have H9:=Kh (RevI.start (ltN t));obtain⟨lt,h9⟩:=Nm (ltN t);have h4:lt.length=n:=by rw[h9,qND,hn]
  rw[<-h9]at H9 HO;have a7:=Kh h9;have a0:=Kh h4;clear hn h9 h4 hg;by_cases hn0:n=0
  ·subst hn0
   have H7:=oX 73 5 Tryz.underlying73 Tryz.underlying5 9 Tryz.underlying9 (xs:=zb lt) HO.out;obtain⟨X,hX⟩:=Nm (strOfNums (zb lt));rw[<-hX]at H7;have HX:=Kh hX;clear hX;go_wp2
   go_loopw [6,7] (fun v6 v7 wr2=>v6=.int .i64 0/\v7=.int .i64 (-1)/\wr2=wr) (fun _ _ _=>0)
   case atStart=>exact⟨rfl,rfl,rfl⟩
   obtain⟨rfl,rfl,rfl⟩:=hrel;go_wp2;go_ret;refine⟨t.reverse,fun a ha=>HB.out.ok a (by simpa using ha),by rw[List.length_reverse,<-HN.out];omega,HB.out.walk,?_,HG.out⟩;have h1:t=[]:=List.eq_nil_of_length_eq_zero HN.out.symm;rw[HX.out,a7.out,qYH,h1];rfl
  obtain⟨gb,rfl,c8,b6,h0⟩:=yH HO.out (by omega);have c6:sd<=9223372036854775807:=by unfold maxLen at b6;omega
  clear h0;obtain⟨wo,rfl⟩:=Nm (wr:World);go_wp2
  go_loopg [6,7] (n-1) (fun gh v6 v7 wr=>∃(i j:Nat) (l:List Nat),gh=j/\v6=.int .i64 i/\v7=.int .i64 j/\i+j+1=n/\RevI lt l i/\wr.ownsRow w.heap.size 5 1 (.slice (some ⟨gb,0,none⟩) n sd) n (u8s l)/\w.grownBy wr none)
  case atStart=>exact⟨0,n-1,lt,rfl,rfl,by go_num,by omega,H9.out,HO.out,HG.out⟩
  clear HG HO H9;obtain⟨i,j,l,a4,rfl,rfl,a2,H2,h3,hg⟩:=hrel;obtain⟨c0,H1,a6,HO,HG⟩:=K5 a4 a2 H2 h3 hg;have h0:=Arr.of_owns h3;have H4:l.length=n:=by rw[H2.1,a0.out]
  have c9:=Kh H4;clear a4 a2 H2;by_cases h4:i<j
  ·have H3:(i:Int)<j:=by omega
   have c7:j<n:=(by have:=H1.out;omega);have b2:(j:Int)<n:=(by omega);have b3:(i:Int)<n:=(by omega);have c1:=qAT h0 i (by omega);have c2:=qAT h0 j (by omega);have f1:=h0.frozen i;have f2:=h0.frozen j;obtain⟨x,hx⟩:=Nm (l.getD i 0);obtain⟨y,hy⟩:=Nm (l.getD j 0);rw[<-hx]at c1;rw[<-hy]at c2;have h7:=Kh (a6.out.step (by rw[a0.out];exact H1.out) h4);rw[<-hx,<-hy]at h7;have b4:=h0.lt;clear hx hy h0 H4 h3 hg;go_wp2
   go_region
   all_goals
    go_wp2;go_roundg (j-1)
    case measure=>have:=c0.out;omega
    obtain⟨h1,h2⟩:=qUI (W:=_) (zP HO.out (zN _ none)) (show i≠j by omega) y x (by first|exact .inl rfl|exact .inr rfl);exact⟨i+1,j-1,_,rfl,by go_num,by go_num,by have:=H1.out;omega,h7.out,h1,zA (zA HG.out (zN _ none)) h2 (fun x e=>by have e:gb=x:=Oj e;subst e;exact(HO.out.lt _ rfl).1)⟩
  have H3:¬(i:Int)<j:=by omega
  have a1:=Kh (a6.out.done (by rw[a0.out];exact H1.out) (by omega));have H7:=oX 73 5 Tryz.underlying73 Tryz.underlying5 9 Tryz.underlying9 (xs:=zb l) HO.out;obtain⟨X,hX⟩:=Nm (strOfNums (zb l));rw[<-hX]at H7;have HX:=Kh hX;clear hX h0 h3 hg H4;go_wp2;go_ret;refine⟨t.reverse,fun a ha=>HB.out.ok a (by simpa using ha),by rw[List.length_reverse,<-HN.out];omega,HB.out.walk,?_,HG.out⟩;rw[HX.out,a1.out,a7.out];rw[show (ltN t).reverse=ltN t.reverse by simp[ltN],qYH];rfl
 have hv:=H.out.grow hg;obtain⟨x0,x1,x2,x3,x4,x5⟩:=hv.cells;have h8:q<m:=(by omega);have c1:=hv.fr q (by rw[<-HM.out];exact h8);have c2:=hv.by_ q (by rw[<-HM.out];exact h8);obtain⟨e1,e2,e3⟩:=HF.out.2.2 q (by omega) (by rw[<-HM.out];exact h8);have h7:=Kh (HB.out.step e2 e1 e3);obtain⟨f,H6⟩:=Nm (fr.getD q 0);obtain⟨b,a5⟩:=Nm (bl.getD q 0);rw[<-H6]at c1 e1 h7;rw[<-a5]at c2 e2 h7;have H0:=hv.caps;rw[<-HM.out]at x4 x5 H0;have k1:fc<=9223372036854775807:=by have:=H0.2.2.2.2.2.1;unfold maxLen at this;omega
 have k2:bc<=9223372036854775807:=by have:=H0.2.2.2.2.2.2.2;unfold maxLen at this;omega
 have c5:((q:Int) != 0)=true:=by rw[bne_iff_ne];omega
 have c4:¬(q:Int)=0:=by omega
 have b1:(q:Int)<m:=(by omega);have e4:IntKind.u8.wrap (b:Int)=b:=IntWalk.u8_in _ (by omega);have e5:IntKind.u8.wrap (97+(b:Int))=97+(b:Int):=IntWalk.u8_in _ (by omega);have b0:=hg.size
 have c3:Hid (∀W:World,w.grownBy W none->W.cell? ⟨o,4,none⟩=some (.slice (some ⟨fb,0,none⟩) m fc)/\W.cell? ⟨fb,q,none⟩=some (.int .i64 (f:Int))):=Kh (fun W hW=>by
  have hv:=H.out.grow hW;refine⟨by have:=hv.cells.2.2.2.2.1;rw[<-HM.out]at this;exact this,?_⟩;have:=hv.fr q (by rw[<-HM.out];exact h8)
  rw[<-H6]at this;exact this)
 clear hv H6 a5 H0 e3 hg x0 x1 x2 x3;go_upto_region 3 with (first|(at_builtin;refine jH rfl _ _ _ rfl qIB.toN w.heap.size (.slice sa t.length sd) t.length (u8s (ltN t)) rfl HO.out [.int .u8 (97+(b:Int))] rfl rfl ?z1 ?z2 ?z3 ?z4 ?_;(case z1=>(intro v hv;simp only[List.mem_cons,List.not_mem_nil,or_false]at hv;subst hv;rfl));(case z2=>(unfold maxLen;omega));(case z3=>(show (t.length+1)*1<=140737488355328;omega));(case z4=>exact b0);intro sn cn wM h5 b5)|fail);have h6:=zA HG.out b5 (fun x e=>(HO.out.lt x e).1);obtain⟨d1,d2⟩:=c3.out wM h6;have b7:=Kh h5;have b9:=Kh h6;clear h5 h6 c1 c2 x4 x5;go_wp2;go_roundg f
 case measure=>have:=b8.out;omega
 refine⟨f,sn,cn,t++[b],rfl,rfl,by rw[List.length_append];rfl,?_,h7.out,b9.out⟩;rw[List.length_append,show u8s (ltN (t++[b]))=u8s (ltN t)++[.int .u8 (97+(b:Int))] by simp[u8s,ltN,zb]];exact b7.out
def mN (m:List Bool):List Nat:=m.map fun b=>if b=true then 1 else 0
def mT (m:List Bool):ByteArray:=txtT (mN m)
theorem rU (m:List Bool):(mN m).length=m.length:=by simp[mN]
theorem xBT {m:List Bool}{i:Nat}(hi:i<m.length):(mN m).getD i 0=if m.getD i false=true then 1 else 0:=by
 rw[zG (by rw[rU];exact hi),zG hi];simp[mN]
theorem xBS (m:List Bool):∀x∈mN m,x<256:=by
 intro x hx;simp only[mN,List.mem_map]at hx;obtain⟨b,_,rfl⟩:=hx
 split<;>omega
theorem qYL:∀ {m n:List Bool},mN m=mN n->m=n
 | [],[],_=>rfl
 | [],y::n,h=>by simp[mN]at h
 | x::m,[],h=>by simp[mN]at h
 | x::m,y::n,h=>by
  simp only[mN,List.map_cons,List.cons.injEq]at h
  have h2:m=n:=qYL (by simpa [mN] using h.2)
  have h1:=h.1
  cases x<;>cases y<;>simp_all
theorem qBS (m:List Bool):(mT m).size=m.length:=by rw[mT,oG,rU]
theorem xBU {n:Nat}(h:n<=400):KeyK 108 9 (fun m:List Bool=>m.length=n) (fun m=>.string (mT m)) where
 key:=lT
 und:=pN
 of:=fun a ha=>by rw[Go.WideMaps.keyOf_string_mk mE (by rw[qBS,ha];unfold maxLen;omega)];rfl
 inj:=fun a b ha hb e=>qYL (qIY (xBS a) (xBS b) (by simpa [mT] using e))
def cval (c:ClaV):List Value:=[.string (mT c.m),.int .i64 c.yes,.int .i64 c.no]
def sR (l:List ClaV):List Value:=l.flatMap cval
theorem gH (l:List ClaV)(c:ClaV):sR (l++[c])=sR l++cval c:=by simp[sR]
theorem oS (c:ClaV)(l:List ClaV):sR (c::l)=.string (mT c.m)::.int .i64 c.yes::.int .i64 c.no::sR l:=rfl
theorem oR:∀(l:List ClaV) (i:Nat) (h:i<l.length),(sR l)[i*3]?=some (.string (mT l[i].m))/\(sR l)[i*3+1]?=some (.int .i64 l[i].yes)/\(sR l)[i*3+2]?=some (.int .i64 l[i].no)
 | [],i,h=>by simp at h
 | x::l,0,_=>⟨rfl,rfl,rfl⟩
 | x::l,i+1,h=>by
  have h1:=oR l i (by simpa using h)
  rw[oS,show (i+1)*3=i*3+1+1+1 by omega,show i*3+1+1+1+1=(i*3+1)+1+1+1 by omega,show i*3+1+1+1+2=(i*3+2)+1+1+1 by omega]
  simpa using h1
theorem cU:∀(l:List ClaV) (i:Nat) (y:Int),i<l.length->(sR l).set (i*3+1) (.int .i64 y)=sR (l.set i ⟨(l.getD i default).m,y,(l.getD i default).no⟩)
 | [],i,y,h=>by simp at h
 | x::l,0,y,_=>rfl
 | x::l,i+1,y,h=>by
  have h1:=cU l i y (by simpa using h)
  rw[oS,show (i+1)*3+1=(i*3+1)+1+1+1 by omega]
  simp only[List.set_cons_succ,List.getD_cons_succ,oS]
  rw[h1]
theorem qCI:∀(l:List ClaV) (i:Nat) (y:Int),i<l.length->(sR l).set (i*3+2) (.int .i64 y)=sR (l.set i ⟨(l.getD i default).m,(l.getD i default).yes,y⟩)
 | [],i,y,h=>by simp at h
 | x::l,0,y,_=>rfl
 | x::l,i+1,y,h=>by
  have h1:=qCI l i y (by simpa using h)
  rw[oS,show (i+1)*3+2=(i*3+2)+1+1+1 by omega]
  simp only[List.set_cons_succ,List.getD_cons_succ,oS]
  rw[h1]
theorem qCE:ElemN Tryz.prog 89 92 3 (.agg #[.string ⟨#[]⟩,.int .i64 0,.int .i64 0]) 32:=⟨by kernel_rfl,by kernel_rfl,by rfl,by decide⟩
structure ClsO (w:World)(g off:Nat)(l:List ClaV):Prop where
 lt:g<w.heap.size
 m:∀i,i<l.length->w.cell? ⟨g,off+i*3,none⟩=some (.string (mT (l.getD i default).m))
 y:∀i,i<l.length->w.cell? ⟨g,off+i*3+1,none⟩=some (.int .i64 (l.getD i default).yes)
 n:∀i,i<l.length->w.cell? ⟨g,off+i*3+2,none⟩=some (.int .i64 (l.getD i default).no)
theorem ClsO.of_block {w w':World}{g off:Nat}{l:List ClaV}(h:ClsO w g off l)(hb:w'.heap[g]?=w.heap[g]?)(hs:w.heap.size<=w'.heap.size):ClsO w' g off l :=
 ⟨Nat.lt_of_lt_of_le h.lt hs,fun i hi=>(World.cell?_of_block hb).trans (h.m i hi),fun i hi=>(World.cell?_of_block hb).trans (h.y i hi),fun i hi=>(World.cell?_of_block hb).trans (h.n i hi)⟩
def ClsX (X:Nat->Prop)(w:World)(v:Value)(l:List ClaV):Prop :=
 (∃a cap,v=.slice a 0 cap/\l=[])\/∃b off cap,v=.slice (some ⟨b,off,none⟩) l.length cap/\X b/\l.length<=cap/\cap<=maxLen/\ClsO w b off l
section
variable {X:Nat->Prop} {w w':World} {v:Value} {l:List ClaV}
theorem ClsX.kept (h:ClsX X w v l)(hk:uH X w w')(hs:w.heap.size<=w'.heap.size):ClsX X w' v l:=by
 rcases h with h|⟨b,off,cap,h1,h2,h3,h4,h5⟩
 ·exact .inl h
 exact .inr ⟨b,off,cap,h1,h2,h3,h4,h5.of_block (hk b h2) hs⟩
theorem ClsX.mono {X':Nat->Prop}(h:ClsX X w v l)(hX:∀q,X q->X' q):ClsX X' w v l:=by
 rcases h with h|⟨b,off,cap,h1,h2,h3⟩
 ·exact .inl h
 exact .inr ⟨b,off,cap,h1,hX b h2,h3⟩
theorem ClsX.grow (h:ClsX X w v l)(hg:w.grownBy w' none):ClsX X w' v l:=by
 rcases h with h|⟨b,off,cap,h1,h2,h3,h4,h5⟩
 ·exact .inl h
 exact .inr ⟨b,off,cap,h1,h2,h3,h4,h5.of_block (hg.block _ h5.lt (by simp)) hg.size⟩
theorem ClsX.shape (h:ClsX X w v l):∃a c,v=.slice a l.length c:=by
 rcases h with ⟨a,c,rfl,rfl⟩|⟨b,off,cap,rfl,_⟩
 ·exact⟨a,c,rfl⟩
 exact⟨_,_,rfl⟩
theorem ClsX.len_le (h:ClsX X w v l):l.length<=maxLen:=by
 rcases h with ⟨a,c,rfl,rfl⟩|⟨b,off,cap,rfl,h1,h2,h3,_⟩
 ·exact Nat.zero_le _
 omega
theorem ClsX.at_ (h:ClsX X w v l)(h0:0<l.length):∃b off cap,v=.slice (some ⟨b,off,none⟩) l.length cap/\X b/\l.length<=cap/\cap<=maxLen/\ClsO w b off l:=by
 rcases h with ⟨a,c,rfl,rfl⟩|h
 ·simp at h0
 exact h
end
theorem jD {X:Nat->Prop}{base:Nat}{w:World}{v:Value}{l:List ClaV}(h:w.ownsRow base 92 3 v l.length (sR l))(hX:∀k,v.ownBlock=some k->X k):ClsX X w v l:=by
 have h1:∀g j,(⟨g,0,none⟩:Addr).add j=⟨g,j,none⟩:=fun g j=>by unfold Addr.add;split<;>simp_all
 rcases h.2 with ⟨rfl,h0⟩|⟨g,cap,cur,rfl,hb,hg,hnc,hcm,_⟩
 ·exact .inl ⟨none,0,by first|rfl|rw[h0],List.eq_nil_of_length_eq_zero h0⟩
 refine .inr ⟨g,0,cap,rfl,hX g rfl,hnc,hcm,zM hg,fun i hi=>?_,fun i hi=>?_,fun i hi=>?_⟩
 ·have c1:=h.cells (g:=g) rfl _ _ (oR l i hi).1
  rw[h1]at c1;rw[zG hi,Nat.zero_add];exact c1
 ·have c1:=h.cells (g:=g) rfl _ _ (oR l i hi).2.1
  rw[h1]at c1;rw[zG hi,Nat.zero_add];exact c1
 have c1:=h.cells (g:=g) rfl _ _ (oR l i hi).2.2;rw[h1]at c1;rw[zG hi,Nat.zero_add];exact c1
def numC (l:List ClaV)(m:List Bool):Option Nat:=if m∈l.map ClaV.m then some ((l.map ClaV.m).idxOf m) else none
theorem qHK {l:List ClaV}{m:List Bool}(h:m∈l.map ClaV.m):numC l m=some ((l.map ClaV.m).idxOf m):=if_pos h
theorem qVY {l:List ClaV}{m:List Bool}(h:m ∉ l.map ClaV.m):numC l m=none:=if_neg h
theorem qRC {l:List ClaV}{c:ClaV}(h:c.m ∉ l.map ClaV.m):(fun q=>if q=c.m then some l.length else numC l q)=numC (l++[c]):=by
 funext q;unfold numC;rw[List.map_append,List.map_singleton];by_cases e:q=c.m
 ·subst e
  rw[if_pos rfl,if_pos (by simp),List.idxOf_append,if_neg h];simp
 rw[if_neg e];by_cases hq:q∈l.map ClaV.m
 ·rw[if_pos hq,if_pos (List.mem_append_left _ hq),List.idxOf_append,if_pos hq]
 rw[if_neg hq,if_neg (fun h=>by
  rcases List.mem_append.1 h with h|h
  ·exact hq h
  simp at h;exact e h)]
theorem qKD {l:List ClaV}{n:Nat}{c:ClaV}(hn:n<l.length)(hm:c.m=(l.getD n default).m):numC (l.set n c)=numC l:=by
 have:(l.set n c).map ClaV.m=l.map ClaV.m:=by
  rw[List.map_set,hm,zG hn];refine List.ext_getElem (by simp) fun i h1 h2=>?_;rw[List.getElem_set]
  split
  ·rename_i e;subst e;simp
  rfl
 unfold numC;rw[this]
def gN (m:List Bool):List Nat:=m.map fun b=>if b=true then 49 else 48
def gT (m:List Bool):ByteArray:=txtT (gN m)
theorem qSB (m:List Bool):(gN m).length=m.length:=by simp[gN]
theorem xCE (m:List Bool):∀x∈gN m,x<256:=by
 intro x hx;simp only[gN,List.mem_map]at hx;obtain⟨b,_,rfl⟩:=hx
 split<;>omega
theorem qYO:∀ {m n:List Bool},gN m=gN n->m=n
 | [],[],_=>rfl
 | [],y::n,h=>by simp[gN]at h
 | x::m,[],h=>by simp[gN]at h
 | x::m,y::n,h=>by
  simp only[gN,List.map_cons,List.cons.injEq]at h
  have h2:m=n:=qYO (by simpa [gN] using h.2)
  have h1:=h.1
  cases x<;>cases y<;>simp_all
theorem qSA (m:List Bool):(gT m).size=m.length:=by rw[gT,oG,qSB]
theorem xAF (m:List Bool)(b:Bool):gT (m++[b])=gT m++txtT [if b=true then 49 else 48]:=by
 rw[gT,gN,List.map_append,eK];rfl
theorem xBW {n:Nat}(h:n<=400):KeyK 108 9 (fun m:List Bool=>m.length=n) (fun m=>.string (gT m)) where
 key:=lT
 und:=pN
 of:=fun a ha=>by rw[Go.WideMaps.keyOf_string_mk mE (by rw[qSA,ha];unfold maxLen;omega)];rfl
 inj:=fun a b ha hb e=>qYO (qIY (xCE a) (xCE b) (by simpa [gT] using e))
def numS (l:List (List Bool))(m:List Bool):Option Nat:=if m∈l then some (l.idxOf m) else none
theorem qHI {l:List (List Bool)}{m:List Bool}(h:m∈l):numS l m=some (l.idxOf m):=if_pos h
theorem qVT {l:List (List Bool)}{m:List Bool}(h:m ∉ l):numS l m=none:=if_neg h
theorem qQZ {l:List (List Bool)}{c:List Bool}(h:c ∉ l):(fun q=>if q=c then some l.length else numS l q)=numS (l++[c]):=by
 funext q;unfold numS;by_cases e:q=c
 ·subst e
  rw[if_pos rfl,if_pos (by simp),List.idxOf_append,if_neg h];simp
 rw[if_neg e];by_cases hq:q∈l
 ·rw[if_pos hq,if_pos (List.mem_append_left _ hq),List.idxOf_append,if_pos hq]
 rw[if_neg hq,if_neg (fun h=>by
  rcases List.mem_append.1 h with h|h
  ·exact hq h
  simp at h;exact e h)]
theorem EMem.put {X:Nat->Prop}{w:World}{rs:List RowS}(h:EMem X w rs){j g n cap b e i:Nat}{xs:List Value}(hr:rs[j]?=some ⟨b,e,.slice (some ⟨g,0,none⟩) n cap,n,xs,1⟩)(hi:i<n)(u:Value):EMem X (w.setCell ⟨g,i,none⟩ u) (rs.set j ⟨b,e,.slice (some ⟨g,0,none⟩) n cap,n,xs.set i u,1⟩):=by
 have h1:=List.mem_of_getElem? hr;have ho:=h.own _ h1;simp only at ho;have hg:=zD w ⟨g,i,none⟩ u;obtain⟨h4,h2⟩:=List.getElem?_eq_some_iff.1 hr;have h3:=List.pairwise_iff_getElem.1 h.apart;refine⟨fun r hr'=>?_,?_,fun r hr' k hk=>?_,fun k hk=>Nat.lt_of_lt_of_le (h.lt k hk) hg.size⟩
 ·obtain⟨q,hq,rfl⟩:=List.getElem_of_mem hr'
  rw[List.getElem_set];have h0:q<rs.length:=by simpa using hq
  split
  ·exact qEF ho hi u
  rename_i hne
  refine(h.own _ (List.getElem_mem h0)).kept hg (.inr (fun e1=>?_));rcases Nat.lt_or_gt_of_ne hne with hlt|hlt
  ·exact h3 j q h4 h0 hlt g (by rw[h2];rfl) e1
  exact h3 q j h0 h4 hlt g e1 (by rw[h2];rfl)
 ·rw[List.pairwise_iff_getElem]
  intro p q hp hq h5;have h6:p<rs.length:=by simpa using hp
  have h0:q<rs.length:=by simpa using hq
  have:=h3 p q h6 h0 h5;rw[List.getElem_set,List.getElem_set]
  split<;>split
  ·omega
  ·rename_i e1 e2;subst e1;rw[h2]at this;exact this
  ·rename_i e1 e2;subst e2;rw[h2]at this;exact this
  exact this
 rcases List.mem_or_eq_of_mem_set hr' with hr'|rfl
 ·exact h.offX r hr' k hk
 exact h.offX _ h1 k hk
structure GrS (w0:World)(mb np:Nat)(M:Nat->List Bool)(A:Nat->Bool)(s t:Nat)(sa ya na:Option Addr)(sc yc nc m:Nat)(svs:List Value)(sets:List (List Bool))(ys ns:List Bool)(w:World):Prop where
 mem:EMem (fun _=>False) w (⟨w0.heap.size,27,.slice sa m sc,m,svs,1⟩::⟨w0.heap.size,4,.slice ya m yc,m,bls ys,1⟩::⟨w0.heap.size,4,.slice na m nc,m,bls ns,1⟩::[])
 map:∃u c,u<=t/\MapK 9 (fun m:List Bool=>m.length=np) (fun m=>.string (gT m)) w mb u c (numS sets)
 grp:GrpI M A s t sets ys ns
 len:m=sets.length
 gr:w0.grownBy w none
 mlo:w0.heap.size<=mb
section
variable {w0 w w':World} {mb np s t:Nat} {M:Nat->List Bool} {A:Nat->Bool} {sa ya na:Option Addr} {sc yc nc m:Nat} {svs:List Value} {sets:List (List Bool)} {ys ns:List Bool}
theorem GrS.grow (h:GrS w0 mb np M A s t sa ya na sc yc nc m svs sets ys ns w)(hg:w.grownBy w' none):GrS w0 mb np M A s t sa ya na sc yc nc m svs sets ys ns w':=by
 obtain⟨u,c,hu,hm⟩:=h.map;exact⟨h.mem.grow hg,⟨u,c,hu,hm.kept hg (by simp)⟩,h.grp,h.len,zA h.gr hg,h.mlo⟩
theorem GrS.yes (h:GrS w0 mb np M A s t sa ya na sc yc nc m svs sets ys ns w):w.ownsRow w0.heap.size 4 1 (.slice ya m yc) m (bls ys):=h.mem.own ⟨w0.heap.size,4,.slice ya m yc,m,bls ys,1⟩ (by simp)
theorem GrS.no (h:GrS w0 mb np M A s t sa ya na sc yc nc m svs sets ys ns w):w.ownsRow w0.heap.size 4 1 (.slice na m nc) m (bls ns):=h.mem.own ⟨w0.heap.size,4,.slice na m nc,m,bls ns,1⟩ (by simp)
theorem GrS.rows (h:GrS w0 mb np M A s t sa ya na sc yc nc m svs sets ys ns w):w.ownsRow w0.heap.size 27 1 (.slice sa m sc) m svs:=h.mem.own ⟨w0.heap.size,27,.slice sa m sc,m,svs,1⟩ (by simp)
theorem GrS.put {yb nb q:Nat}(h:GrS w0 mb np M A s (s+1) sa (some ⟨yb,0,none⟩) (some ⟨nb,0,none⟩) sc yc nc m svs sets ys ns w)(hq:q<m)(hm:sets.getD q []=M s){W:World}(hW:W=(w.setCell ⟨yb,q,none⟩ (.bool (ys.getD q false || A s))).setCell ⟨nb,q,none⟩ (.bool (ns.getD q false || !A s))):GrS w0 mb np M A (s+1) (s+1) sa (some ⟨yb,0,none⟩) (some ⟨nb,0,none⟩) sc yc nc m svs sets (ys.set q (ys.getD q false || A s)) (ns.set q (ns.getD q false || !A s)) W:=by
 subst hW;obtain⟨u,c,hu,h0⟩:=h.map;have hy:=h.yes;have hn:=h.no;have h1:=h.mem.put (j:=1) rfl hq (.bool (ys.getD q false || A s));have h2:=h1.put (j:=2) rfl hq (.bool (ns.getD q false || !A s));have g1:=zD w ⟨yb,q,none⟩ (.bool (ys.getD q false || A s));have g2:=zD (w.setCell ⟨yb,q,none⟩ (.bool (ys.getD q false || A s))) ⟨nb,q,none⟩ (.bool (ns.getD q false || !A s));have h3:=(hy.lt yb rfl).1;have h4:=(hn.lt nb rfl).1;have ey:yb≠mb:=fun e=>yL (es:=#[]) (clock:=0) hy h0.obj (by rw[<-e];rfl);have en:nb≠mb:=fun e=>yL (es:=#[]) (clock:=0) hn h0.obj (by rw[<-e];rfl);refine⟨?_,⟨u,c,hu,(h0.kept g1 (fun e=>ey (Oj e))).kept g2 (fun e=>en (Oj e))⟩,h.grp.put (by rw[<-h.len];exact hq) hm,h.len,zY (zY h.gr g1 (by show _<=yb;omega)) g2 (by show _<=nb;omega),h.mlo⟩;have e1:(bls ys).set q (.bool (ys.getD q false || A s))=bls (ys.set q (ys.getD q false || A s)):=by simp[bls]
 have e2:(bls ns).set q (.bool (ns.getD q false || !A s))=bls (ns.set q (ns.getD q false || !A s)):=by simp[bls]
 rw[<-e1,<-e2];exact h2
end
theorem qIM {w:World}{b c q:Nat}{u x:Value}(h:b≠c)(hc:w.cell? ⟨c,q,none⟩=some x):(w.setCell ⟨b,q,none⟩ u).cell? ⟨c,q,none⟩=some x:=by
 have hg:=zD w ⟨b,q,none⟩ u;exact hg.cell hc (fun e=>h (Oj e).symm)
theorem qCA {w:World}{b c q:Nat}{u:Value}(h:b≠c)(hc:w.frozen? ⟨c,q,none⟩=false):(w.setCell ⟨b,q,none⟩ u).frozen? ⟨c,q,none⟩=false:=by
 go_simp
theorem oW {ops:Array Oper}{o:Oper}{a:Act}{w:World}{K:Act->World->Prop}{Q:Exit->Act->World->Prop}{R:Prop}(a8:o.guard=none)(x y:Operand)(a9:o.op=.store 4 x y)(b i:Nat)(z:Bool)(u0:Value)(hx:a.eval x=.pointer (some ⟨b,i,none⟩))(hy:a.eval y=.bool z)(hc:w.cell? ⟨b,i,none⟩=some u0)(hf:w.frozen? ⟨b,i,none⟩=false)(hK:K (a.put o.dst undef) (w.setCell ⟨b,i,none⟩ (.bool z))):if Region.wanted o (yielded ops a.tmps)=true then Oper.wp Tryz.prog o a w K Q else R:=by
 have hw:Region.wanted o (yielded ops a.tmps)=true:=by simp[Region.wanted,a8]
 rw[if_pos hw];unfold Oper.wp execOp;simp only[a9,hx,hy];go_simp;exact hK
theorem qKM {Q':Exit->Act->World->Prop}{v0 v1 v2 v3 v4 v7 v8 v9 m4 m5 m6 m7 m8 m9 l0 l1 l2 l3 l4 l5 l6 l7 l8 l9 k0 k1 k2 k3 k4 k5 k6 k7 k8 k9 j0 j1 j2 j3 j4 j5 j6 j7 j8 j9 i0 i1 i2 i3 i4 i5 i6 i7 i8 i9 g0 g1 g2 g3 g4 g5 g6 g7 g8 g9 f0 f2 f3 f4 f5 f6 f7 f8 f9 e0 e1 e2 e3 e4 e5 e6 e7 e8 e9 d0 d1 d2 d3 d4 d5 d6 d7 d8 d9 c0 c2 c3 c4 c5 c6 c7 c8 c9 b0 b1 b2 b3 b4 b5 b6 b7 b8 b9 a0 a1 a2 a3 a4 a5 a6 a7 a8:Value}{dd:_}{w:World}{yb nb yc nc n q:Nat}{y z a:Bool}(cy:w.cell? ⟨yb,q,none⟩=some (.bool y))(cn:w.cell? ⟨nb,q,none⟩=some (.bool z))(fy:w.frozen? ⟨yb,q,none⟩=false)(fn:w.frozen? ⟨nb,q,none⟩=false)(m3:yb≠nb)(hq:q<n)(hn:n<=4000)(a9:∀z100 z101 z102 z103 z104 z105 z106 z107 z108 z109 z110 z111 z112 z113 z114 z115 z116 z117 z118 z119 z120:Value,Q' .normal ⟨(v0::v1::v2::v3::v4::(Value.slice (some ⟨yb,0,none⟩) n yc)::(Value.slice (some ⟨nb,0,none⟩) n nc)::v7::v8::v9::m4::m5::m6::m7::(Value.bool a)::m8::m9::l0::(Value.int .i64 (q:Int))::l1::l2::l3::l4::l5::l6::l7::l8::l9::k0::k1::k2::k3::k4::k5::k6::k7::k8::k9::j0::j1::j2::j3::j4::j5::j6::j7::j8::j9::i0::i1::i2::i3::i4::i5::i6::i7::i8::i9::g0::g1::g2::g3::g4::g5::g6::g7::g8::g9::f0::f2::f3::f4::f5::f6::f7::f8::f9::e0::e1::e2::e3::e4::e5::e6::e7::e8::e9::d0::d1::d2::d3::d4::d5::d6::d7::d8::d9::c0::c2::c3::z100::z101::z102::z103::z104::z105::z106::z107::z108::z109::z110::z111::z112::z113::z114::z115::z116::z117::z118::z119::z120::a5::a6::a7::a8::[]).toArray,dd⟩ ((w.drew.setCell ⟨yb,q,none⟩ (.bool (y || a))).setCell ⟨nb,q,none⟩ (.bool (z || !a)))):Code.wp Tryz.prog (reg Tryz.f52 26) Q' ⟨(v0::v1::v2::v3::v4::(Value.slice (some ⟨yb,0,none⟩) n yc)::(Value.slice (some ⟨nb,0,none⟩) n nc)::v7::v8::v9::m4::m5::m6::m7::(Value.bool a)::m8::m9::l0::(Value.int .i64 (q:Int))::l1::l2::l3::l4::l5::l6::l7::l8::l9::k0::k1::k2::k3::k4::k5::k6::k7::k8::k9::j0::j1::j2::j3::j4::j5::j6::j7::j8::j9::i0::i1::i2::i3::i4::i5::i6::i7::i8::i9::g0::g1::g2::g3::g4::g5::g6::g7::g8::g9::f0::f2::f3::f4::f5::f6::f7::f8::f9::e0::e1::e2::e3::e4::e5::e6::e7::e8::e9::d0::d1::d2::d3::d4::d5::d6::d7::d8::d9::c0::c2::c3::c4::c5::c6::c7::c8::c9::b0::b1::b2::b3::b4::b5::b6::b7::b8::b9::a0::a1::a2::a3::a4::a5::a6::a7::a8::[]).toArray,dd⟩ w:=by
 conv=>arg 2;whnf
 have h3:(q:Int)<n:=by omega
 obtain⟨W0,h0⟩:=Nm w.drew;have HE:=Kh a9;rw[<-h0]at HE;have C:Hid (W0.cell? ⟨yb,q,none⟩=some (.bool y)/\W0.cell? ⟨nb,q,none⟩=some (.bool z)):=Kh (by rw[h0];exact⟨cy,cn⟩);have F0:Hid (W0.frozen? ⟨yb,q,none⟩=false/\W0.frozen? ⟨nb,q,none⟩=false):=Kh (by rw[h0];exact⟨fy,fn⟩);have h1:=Kh m3;have h2:=Kh h0;clear a9 cy cn fy fn h0 m3;refine wp_region_noPanic ?_;refine xE (G:=vU 20 (fun _=>True) (fun W=>W.cell? ⟨yb,q,none⟩=some (.bool y)/\W.cell? ⟨nb,q,none⟩=some (.bool z))) (by kernel_rfl) ?_;cases y<;>cases z<;>cases a
 all_goals
  rw[<-h2.out];refine yG 0 ?_;refine yG 1 ?_;refine yG 2 ?_;refine yG 3 ?_;refine yG 4 ?_;refine yG 5 ?_;refine yG 6 ?_;refine yG 11 ?_;refine yG 12 ?_;refine yG 13 ?_;refine kQ 7 ?_;refine kQ 14 ?_;refine yG 8 ?_
  first
  | (refine qGO (i:=9) (v:=undef) rfl rfl (by kernel_rfl) (by kernel_rfl) (by kernel_rfl) (fun _ _ _ h=>h) (Or.inr ⟨?_,rfl⟩) ⟨trivial,fun _=>C.out⟩ ?_;· (simp[Region.wanted,yielded];done))
  | (refine qGO (i:=9) (v:=?_) rfl rfl (by kernel_rfl) (by kernel_rfl) (by kernel_rfl) (fun _ _ _ h=>h) (Or.inl ⟨by first|(simp[Region.wanted,yielded];done)|kernel_rfl,?_⟩) ⟨trivial,fun _=>C.out⟩ ?_;rotate_left;· (rintro wz hz;(try dsimp only at hz);go_simp;(try with_reducible rfl)))
  try simp only[Act.put,sPd,sPe,sPf,sPa,sPb,sPc]
  refine yG 10 ?_;refine yG 15 ?_
  first
  | (refine qGO (i:=16) (v:=undef) rfl rfl (by kernel_rfl) (by kernel_rfl) (by kernel_rfl) (fun _ _ _ h=>h) (Or.inr ⟨?_,rfl⟩) ⟨trivial,fun _=>C.out⟩ ?_;· (simp[Region.wanted,yielded];done))
  | (refine qGO (i:=16) (v:=?_) rfl rfl (by kernel_rfl) (by kernel_rfl) (by kernel_rfl) (fun _ _ _ h=>h) (Or.inl ⟨by first|(simp[Region.wanted,yielded];done)|kernel_rfl,?_⟩) ⟨trivial,fun _=>C.out⟩ ?_;rotate_left;· (rintro wz hz;(try dsimp only at hz);go_simp;(try with_reducible rfl)))
  try simp only[Act.put,sPd,sPe,sPf,sPa,sPb,sPc]
  first
  | (refine qGO (i:=17) (v:=undef) rfl rfl (by kernel_rfl) (by kernel_rfl) (by kernel_rfl) (fun _ _ _ h=>h) (Or.inr ⟨?_,rfl⟩) ⟨trivial,fun _=>C.out⟩ ?_;· (simp[Region.wanted,yielded];done))
  | (refine qGO (i:=17) (v:=?_) rfl rfl (by kernel_rfl) (by kernel_rfl) (by kernel_rfl) (fun _ _ _ h=>h) (Or.inl ⟨by first|(simp[Region.wanted,yielded];done)|kernel_rfl,?_⟩) ⟨trivial,fun _=>C.out⟩ ?_;rotate_left;· (rintro wz hz;(try dsimp only at hz);go_simp;(try with_reducible rfl)))
  try simp only[Act.put,sPd,sPe,sPf,sPa,sPb,sPc]
  refine yG 18 ?_;refine yG 19 ?_;have c1:=C.out.1;have f1:=F0.out.1;refine oneG (i:=20) (by kernel_rfl) rfl (fun K hK=>?_)
  first|refine oW rfl (.tmp 119) (.tmp 110) rfl yb q true _ rfl rfl c1 f1 ?_|refine oW rfl (.tmp 119) (.tmp 110) rfl yb q false _ rfl rfl c1 f1 ?_
  refine hK.out _ _ ⟨trivial,fun h=>by cases h⟩ ?_;clear hK K c1 f1
  try simp only[Act.put,sPd,sPe,sPf,sPa,sPb,sPc]
  refine wE 21 ⟨trivial,fun h=>by cases h⟩ ?_;have c1:=fun u=>qIM (u:=u) h1.out C.out.2;have f1:=fun u=>qCA (u:=u) h1.out F0.out.2;refine oneG (i:=22) (by kernel_rfl) rfl (fun K hK=>?_)
  first|refine oW rfl (.tmp 120) (.tmp 118) rfl nb q true _ rfl rfl (c1 _) (f1 _) ?_|refine oW rfl (.tmp 120) (.tmp 118) rfl nb q false _ rfl rfl (c1 _) (f1 _) ?_
  refine hK.out _ _ ⟨trivial,fun h=>by cases h⟩ ?_;clear hK K c1 f1
  try simp only[Act.put,sPd,sPe,sPf,sPa,sPb,sPc]
  refine nO (by kernel_rfl) ?_ _;exact HE.out _ _ _ _ _ _ _ _ _ _ _ _ _ _ _ _ _ _ _ _ _
theorem GrpI.len_le {M:Nat->List Bool}{A:Nat->Bool}{s t:Nat}{a9:List (List Bool)}{ys ns:List Bool}(h:GrpI M A s t a9 ys ns):a9.length<=t:=by
 have h1:=List.Nodup.length_le_of_subset (l₂:=(List.range t).map M) h.nd (fun x hx=>by
  obtain⟨i,hi,e⟩:=h.met x hx
  exact List.mem_map.2 ⟨i,List.mem_range.2 hi,e⟩)
 simpa using h1
theorem qSP:ElemN Tryz.prog 95 27 1 (.slice none 0 0) 24:=⟨by kernel_rfl,by kernel_rfl,by rfl,by decide⟩
theorem qMB {w:World}{lb gc k:Nat}{e:TypeId}{L:List Bool}(hA:Arr w lb e (bls L))(hk:k<=L.length)(hc:L.length<=gc)(hm:gc<=maxLen):Row w.heap.size w (.slice (some ⟨lb,0,none⟩) k gc) (bls (L.take k)):=by
 have hl:(bls (L.take k)).length=k:=by rw[yV,List.length_take];omega
 refine .inr ⟨lb,0,gc,by rw[hl],hA.lt,by rw[hl];omega,hm,?_⟩;have:=hA.row.take k
 rwa [show bls (L.take k)=(bls L).take k by simp[bls,List.map_take]]
def qTX (w:World)(d:DfaV)(ps:List (List ByteArray))(e:Ending)(w':World):Prop :=
 w.grownBy w' none/\((∃a,e=.returned (.tuple #[.slice none 0 0,.slice none 0 0,.slice none 0 0,.int .i64 a])/\a≠0/\(a=autE d.letters ps\/(autE d.letters ps=0/\a=3/\Over (ofT d ps) d.letters.toNat))) \/
  (autE d.letters ps=0/\∃(B:Nat) (L:List (List Nat)) (sets:List (List Bool)) (ys ns:List Bool) (m sc yc nc:Nat) (sa ya na:Option Addr),e=.returned (.tuple #[.slice sa m sc,.slice ya m yc,.slice na m nc,.int .i64 0])/\w.heap.size<=B/\m=sets.length/\BfsD (nxtT (ofT d ps)) d.letters.toNat (st0T (ofT d ps)) L/\L.length<=4000/\GrpI (MT (ofT d ps) ps.length L) (AT (ofT d ps) ps.length L) L.length L.length sets ys ns/\w'.ownsRow B 4 1 (.slice ya m yc) m (bls ys)/\w'.ownsRow B 4 1 (.slice na m nc) m (bls ns)))
theorem qGV (Bd:Nat)(w:World)(dv pv:Value)(d:DfaV)(ps:List (List ByteArray))(a7:Bd<=w.heap.size)(hd:tM Bd w dv d)(hp:vE Bd w pv ps)(a9:ps.length<=4096)(hv:xK d=0)(a8:∀p∈ps,patW p d.letters=0->rM p<=14):Calls Tryz.prog 52 #[dv,pv] w (qTX w d ps):=by
 have g0:=bM hv;obtain⟨k,hk⟩:=Nm d.letters.toNat;have t6:=g0.hk;have e6:d.letters=(k:Int):=by omega
 have r6:Hid (autE d.letters ps=0->ofE d ps=0/\OkT (ofT d ps) k):=Kh (fun h=>by
  have h0:ofE d ps=0:=by unfold ofE;rw[if_pos hv];exact h
  exact⟨h0,by rw[hk];exact qJZ h0⟩)
 obtain⟨j5,HK,c6⟩:=K3 g0 hk e6;have f2:=hd;obtain⟨fv,nv,rfl,hf,hn⟩:=hd;obtain⟨fa,fc,rfl⟩:=hf.shape;rw[yV]at f2 hf⊢;obtain⟨na,nc,rfl⟩:=hn.shape;obtain⟨pa,pc,rfl⟩:=hp.shape;obtain⟨np,g7⟩:=Nm ps.length;obtain⟨fl,i6⟩:=Nm d.final.length;obtain⟨nl,g8⟩:=Nm d.next.length;obtain⟨ds,c5⟩:=Nm d.start;obtain⟨n6,HP,s8⟩:=K3 g7 hp a8;rw[<-g7]at a9 HP⊢;rw[<-i6,<-g8,e6,<-c5]at f2;rw[<-i6,<-g8,e6,<-c5];have HD:=Kh f2;obtain⟨wA,f3⟩:=Nm (w.alloc (.cells #[.int .i64 (k:Int),.int .i64 ds,.slice fa fl fc,.slice na nl nc] 30));have a4:=Ga w (.cells #[.int .i64 (k:Int),.int .i64 ds,.slice fa fl fc,.slice na nl nc] 30) none;have d6:=heap_alloc_new w (.cells #[.int .i64 (k:Int),.int .i64 ds,.slice fa fl fc,.slice na nl nc] 30);obtain⟨Q,hQ⟩:=Nm w.heap.size;have l5:wA.heap.size=Q+1:=by rw[f3,zL,hQ]
 rw[<-f3]at a4 d6;rw[<-hQ]at d6;obtain⟨c0,c1,c2,c3⟩:=zE d6;obtain⟨d8,c7,s7,r4,j4⟩:=K5 hQ a4 d6 f3 l5;have l1:Hid (Calls Tryz.prog 70 #[.slice pa np pc,.int .i64 (k:Int)] wA (qLN wA (autE (k:Int) ps) (autD ps (k:Int)))):=Kh (qIU Bd wA _ ps (k:Int) (by have:=a4.size;omega) (HP.out.kept a4 (by simp)) (by rw[<-n6.out];exact a9) (by rw[<-c6.out];exact s8.out));obtain⟨E,hE⟩:=Nm (autE (k:Int) ps);rw[<-hE]at l1;have HE:=Kh hE;clear d6 a4 f3 l5 hQ hf hn f2 hp g7 i6 g8 c5 hE a8 hk e6 g0 hv c1 c2 c3;go_enter Tryz.func52,Tryz.ntmps52;go_upto_region 1 with fail;rw[<-r4.out,<-d8.out];go_wp2_with fail;refine l1.out.mono ?_;rintro e w1 ⟨sa,n2,sc,rfl,b8,b3⟩;have e3:=Kh b8;have o1:=Kh (zA c7.out b8);have s6:=Kh (zB s7.out b8);have r0:Hid (Q+1<=w1.heap.size):=Kh (by rw[<-j4.out];exact b8.size);clear b8 l1 c0;by_cases hE0:E=0
 case neg =>
  have e1:(E != 0)=true:=by rw[bne_iff_ne];exact hE0
  have r7:=Kh hE0;clear hE0 b3;go_wp2;refine bodyPost_ret (v:=.tuple #[.slice none 0 0,.slice none 0 0,.slice none 0 0,.int .i64 E]) (by simp[results,Tryz.results52,go_sem]) rfl ?_;exact⟨o1.out,.inl ⟨E,rfl,r7.out,.inl (by rw[HE.out,c6.out])⟩⟩
 subst hE0
 have h2:n2=(autD ps (k:Int)).length/\∃l,l.map (·.1)=autD ps (k:Int)/\DsUp wA.heap.size w1 (.slice sa n2 sc) l:=by
  rcases b3 with h|h
  ·exact absurd rfl h
  exact h.2
 obtain⟨e5,lp,i1,g5⟩:=h2;clear b3;rw[j4.out]at g5;have j3:autE d.letters ps=0:=by rw[c6.out,<-HE.out]
 obtain⟨j2,H5⟩:=r6.out j3
 have H5:OkT (autD ps (k:Int)++[minD d k]) k:=by
  rw[ofT,c6.out,Int.toNat_natCast]at H5;exact H5
 have d3:n2<=300:=by have:=(nE j2).2.1;rw[e5,xX];exact this
 have d4:n2=ps.length:=by rw[e5,xX]
 have m3:lp.length=n2:=by rw[e5,<-i1,List.length_map]
 have m5:=j5.out.k1;have m4:=j5.out.k6;rw[<-HK.out]at m5 m4;have k2:Hid (∀W:World,wA.grownBy W none->Calls Tryz.prog 72 #[.agg #[.int .i64 (k:Int),.int .i64 ds,.slice fa fl fc,.slice na nl nc]] W (qTV W (minD d k))):=Kh (fun W hW=>dQ Bd W _ d d.final.length k (by have:=c7.out.size;have:=hW.size;omega) (HD.out.kept (zA c7.out hW) (by simp)) (by have:=j5.out;rw[<-HK.out]at this;exact this));obtain⟨H7,r5,r9,s0,f4,t9⟩:=K6 H5 g5 i1 m3 d4 j2;have o2:=Kh j3;have b8:=o1.out;have k5:Hid (wA.grownBy w1 none):=Kh (by exact e3.out);clear H5 g5 i1 m3 e5 d4 j2 j3 b8;go_upto_region 4 with fail;refine xAD (Bd:=Bd) (w0:=wA) (base:=Q+1) s6.out k5.out r0.out (by rw[j4.out];exact Nat.le_refl _) (Nat.lt_succ_self _) r5.out r9.out s0.out f4.out d3 k2.out H7.out m5 m4 ?_ ?_
 ·intro o7 z30 z31 z32 z33 z34 z35 z36 z37 z38 z39 z40 R w2 d5
  go_wp2;refine bodyPost_ret (v:=.tuple #[.slice none 0 0,.slice none 0 0,.slice none 0 0,.int .i64 3]) (by simp[results,Tryz.results52,go_sem]) rfl ?_;exact⟨zA c7.out d5,.inl ⟨3,rfl,by decide,.inr ⟨o2.out,rfl,by rw[ofT,<-HK.out,c6.out];exact o7⟩⟩⟩
 have p6:n2=np:=by rw[n6.out,f4.out]
 subst p6;intro z30 z31 z32 z33 z34 z35 z36 z37 z38 z39 z40 R w2 B8 sN sS sT cN cS cT LL TL L T l j1 q7 i2 i8 l7 c5 H6 i4 c8 d5;obtain⟨dl,f1⟩:=Nm (autD ps (k:Int)++[minD d k]);have n0:dl.length=n2+1:=by rw[f1,List.length_append,xX,f4.out];rfl
 rw[<-f1]at i2 H6 c8 H7;have n4:0<L.length:=(by have:=H6.hd;rcases Nat.eq_zero_or_pos L.length with h|h;(rw[List.eq_nil_of_length_eq_zero h]at this;cases this);exact h);obtain⟨sb8,sc8,nv8,d0⟩:=l7.view n4;obtain⟨M,hM⟩:∃M:Nat->List Bool,M=MT dl n2 L:=⟨_,rfl⟩;obtain⟨A,hA⟩:∃A:Nat->Bool,A=AT dl n2 L:=⟨_,rfl⟩;have H1:Hid (∀i,(M i).length=n2):=Kh (fun i=>by rw[hM];exact nI _ _ _);have s2:Hid (∀i,mtsT dl (n2+1) (L.getD i [])=M i++[A i]):=Kh (fun i=>by rw[hM,hA];show mtsT dl (n2+1) _=mtsT dl n2 _++[accT dl _ n2];unfold mtsT;rw[List.range_succ,List.map_append];rfl)
 have k8:Hid (∀(W:World) (i:Nat),w2.grownBy W none->i<LL->Calls Tryz.prog 73 #[.agg #[.slice sN (n2+1) cN,.slice sS LL cS,.slice sT TL cT],.int .i64 (i:Int)] W fun e w'=>∃sa sc,e=.returned (.slice sa (n2+1) sc)/\w'.ownsRow W.heap.size 4 1 (.slice sa (n2+1) sc) (n2+1) (bls (M i++[A i]))/\W.grownBy w' none):=Kh (fun W i hW hi=>by
  have:=qGW w2.heap.size W k _ _ nv8 dl L T sb8 sc8 i hW.size (d0.grow hW) (by have:=c5.in_;rw[i2]at this;exact this.kept hW (by simp)) H7.out (by rw[<-j1];exact hi) (by
   have m6:i<L.length:=(by omega);obtain⟨u,hu,eu⟩:=H6.re _ (List.getElem_mem m6);rw[zG m6,<-eu]
   exact H7.out.walk u H7.out.in0 hu) (by omega) (by omega) i4
  rw[n0,s2.out]at this
  exact this)
 have s1:Hid (GrpI M A 0 0 [] [] []):=Kh (GrpI.nil M A)
 have k0:Hid (∀e w',(w.grownBy w' none/\∃(sets:List (List Bool)) (ys ns:List Bool) (m sc yc nc:Nat) (sa ya na:Option Addr),e=.returned (.tuple #[.slice sa m sc,.slice ya m yc,.slice na m nc,.int .i64 0])/\m=sets.length/\GrpI M A LL LL sets ys ns/\w'.ownsRow w2.heap.size 4 1 (.slice ya m yc) m (bls ys)/\w'.ownsRow w2.heap.size 4 1 (.slice na m nc) m (bls ns))->qTX w d ps e w'):=Kh (fun e w' h=>by
  obtain⟨hg,sets,ys,ns,m,sc,yc,nc,sa,ya,na,h1,h2,h3,h4,h5⟩:=h;have e1:ofT d ps=dl:=by rw[ofT,c6.out,Int.toNat_natCast,f1]
  rw[hM,hA,j1,f4.out]at h3
  exact⟨hg,.inr ⟨o2.out,w2.heap.size,L,sets,ys,ns,m,sc,yc,nc,sa,ya,na,h1,(zA c7.out d5).size,h2,by rw[e1,<-HK.out];exact H6,i4,by rw[e1];exact h3,h4,h5⟩⟩)
 have k3:Hid (w.grownBy w2 none):=Kh (zA c7.out d5);have s5:=Kh i8;obtain⟨b0,b1,b2⟩:=zQ i8;have q8:LL<=4000:=by omega
 have n7:=Kh (xBW (n:=n2) (by omega));clear f1 hM hA j1 q7 i2 l7 c5 H6 c8 d5 d0 i8 n4 i4 n0;have p9:=@run_makeMap Tryz.prog;go_upto_region 8 with fail;obtain⟨mb,l8⟩:=Nm w2.heap.size;obtain⟨w3,l6⟩:=Nm (w2.alloc (.map #[] 0));have H0:=MapK.made 9 (fun m:List Bool=>m.length=n2) (fun m=>.string (gT m)) w2;have f0:=Ga w2 (.map #[] 0) none;rw[<-l6]at H0 f0⊢;rw[<-l8]at H0⊢;have n5:Hid (GrS w2 mb n2 M A 0 0 none none none 0 0 0 0 [] [] [] [] w3):=Kh ⟨⟨fun r hr=>by(simp only[List.mem_cons,List.not_mem_nil,or_false]at hr;rcases hr with rfl|rfl|rfl<;>exact World.ownsRow_nil _ _ _ _),by simp[Value.ownBlock],fun r hr j hj=>by(simp only[List.mem_cons,List.not_mem_nil,or_false]at hr;rcases hr with rfl|rfl|rfl<;>cases hj),fun j hj=>hj.elim⟩,⟨0,0,Nat.le_refl _,H0⟩,s1.out,rfl,f0,by omega⟩;have b1:=xG b1 f0;clear H0 l6 f0 p9 b0 b2 l8;go_wp2
 go_loopg [4,5,6,11,12,13,14,15,17,18,19,48] LL (fun gh v4 v5 v6 v11 v12 v13 v14 v15 v17 v18 v19 v48 wr=>∃(s m sc yc nc:Nat) (sa ya na:Option Addr) (svs:List Value) (sets:List (List Bool)) (ys ns:List Bool),gh+s=LL/\v48=.int .i64 s/\v4=.slice sa m sc/\v5=.slice ya m yc/\v6=.slice na m nc/\GrS w2 mb n2 M A s s sa ya na sc yc nc m svs sets ys ns wr)
 case atStart=>exact⟨0,0,0,0,0,none,none,none,[],[],[],[],rfl,rfl,rfl,rfl,rfl,n5.out⟩
 clear n5;obtain⟨s,m,sc,yc,nc,sa,ya,na,svs,sets,ys,ns,m7,rfl,rfl,rfl,rfl,e4⟩:=hrel;have e0:=Kh m7;have b9:=Kh e4;clear m7;by_cases hs:s<LL
 case neg =>
  have o5:s=LL:=by have:=e0.out;omega
  have o6:¬(s:Int)<LL:=(by omega);subst o5;go_wp2;refine bodyPost_ret (v:=.tuple #[.slice sa m sc,.slice ya m yc,.slice na m nc,.int .i64 0]) (by simp[results,Tryz.results52,go_sem]) rfl ?_;exact k0.out _ _ ⟨zA k3.out b9.out.gr,sets,ys,ns,m,sc,yc,nc,sa,ya,na,rfl,b9.out.len,b9.out.grp,b9.out.yes,b9.out.no⟩
 have o6:(s:Int)<LL:=(by omega);obtain⟨b0,b1',b2⟩:=zQ (zB s5.out e4.gr);have a5:=Kh (k8.out wr s e4.gr hs);clear e4 b1;go_wp2_with fail;refine a5.out.mono ?_;rintro e w4 ⟨ga,gc,rfl,b4,m9⟩;obtain⟨fb,rfl,n1,i7,a0⟩:=yH b4 (by omega);have t8:gc<=9223372036854775807:=by unfold maxLen at i7;omega
 have p7:n2<=gc:=by omega
 have q5:fb<w4.heap.size:=(b4.lt fb rfl).2
 have c1:w4.cell? ⟨fb,n2,none⟩=some (.bool (A s)):=by
  have h8:=a0.bool n2 (by rw[List.length_append,H1.out];simp);rw[qN (H1.out s).symm]at h8;exact h8
 have j7:=Kh (b9.out.grow m9)
 have l2:Hid (∀W:World,w4.grownBy W none->∀j,j<n2->W.cell? ⟨fb,j,none⟩=some (.bool ((M s).getD j false))):=Kh (fun W hW j hj=>by
  have h8:=(a0.kept hW (by simp)).bool j (by rw[List.length_append,H1.out];omega);rw[oM (by rw[H1.out];exact hj)]at h8
  exact h8)
 have l3:=Kh a0;have n9:Hid (n2+1<=gc/\gc<=maxLen):=Kh ⟨n1,i7⟩;have p8:(n2:Int)<(n2+1:Nat):=(by omega);clear b4 m9 a0 b0 b1' b2 a5 b9 n1 i7;go_upto_region 12 with fail
 go_quiet (fail)
 clear c1;obtain⟨ab,i9⟩:=Nm (A s);rw[<-i9];have o3:=Kh i9;clear i9;go_wp2
 go_loopg [15,17,65] n2 (fun gh v15 v17 v65 wr=>∃j:Nat,gh+j=n2/\v65=.int .i64 j/\v15=.string (gT ((M s).take j))/\w4.grownBy wr none)
 case atStart=>exact⟨0,rfl,rfl,rfl,by first|exact zK _ _ _|exact zN _ _|exact zH _ _⟩
 obtain⟨j,m8,rfl,rfl,c4⟩:=hrel;have k4:=Kh m8;clear m8;by_cases hj:j<n2
 ·have q4:(j:Int)<n2:=by omega
  have c2:=l2.out _ c4 j hj;have hU:(gT ((M s).take j)).size=j:=by rw[qSA,List.length_take,H1.out];omega
  have j8:Hid (gT ((M s).take (j+1))=gT ((M s).take j)++txtT [if (M s).getD j false=true then 49 else 48]):=Kh (by
   rw[<-xAF,zG (by rw[H1.out];exact hj),List.take_add_one,List.getElem?_eq_getElem (by rw[H1.out];exact hj)];rfl)
  obtain⟨U,j0⟩:=Nm (gT ((M s).take j));rw[<-j0]at hU j8;rw[<-j0];obtain⟨bj,n3⟩:=Nm ((M s).getD j false);rw[<-n3]at c2 j8;have t4:(⟨#[49]⟩:ByteArray).size=1:=rfl;have t0:(⟨#[48]⟩:ByteArray).size=1:=rfl;have k7:=Kh c4;clear j0 n3 c4;have q0:¬9223372036854775807<U.size+1:=(by omega);cases bj
  all_goals
   go_wp2;go_roundg (n2-(j+1))
   case measure=>have:=k4.out;omega
   exact⟨j+1,by have:=k4.out;omega,by go_num,by rw[j8.out];rfl,k7.out⟩
 have t7:j=n2:=by have:=k4.out;omega
 have q4:¬(j:Int)<n2:=(by omega);have etk:(M s).take j=M s:=List.take_of_length_le (by rw[H1.out];omega);rw[etk];have H4:=j7.out.grow c4;have k7:=Kh c4;obtain⟨u,c,hu,b7⟩:=H4.map;have H2:=b7.lookup n7.out (x:=M s) (H1.out s);obtain⟨U,hU⟩:=Nm (gT (M s));rw[<-hU];obtain⟨HU,j6,h7,h6⟩:=K4 hU hu b7 H4;have t5:m<=s:=by rw[H4.len];exact H4.grp.len_le
 clear hU hu b7 H4 etk c4;by_cases hmem:M s∈sets
 ·obtain⟨q,hq⟩:=Nm (sets.idxOf (M s))
  have H9:q<sets.length:=(by rw[hq];exact List.idxOf_lt_length_of_mem hmem);have g6:q<m:=by rw[h6.out.len];exact H9
  have c9:sets.getD q []=M s:=by
   rw[zG H9];have h1:=List.getElem_idxOf (x:=M s) (xs:=sets) (by rw[<-hq];exact H9);simp only[<-hq]at h1;exact h1
  have i3:Sem.run Tryz.prog (Instr.lookup 108 (.map (some mb)) (.string U) true) wr=.ok (.tuple #[.int .i64 (q:Int),.bool true]) wr:=by
   rw[qHI hmem,<-hq]at H2;rw[HU.out];exact H2
  have H3:Hid (GrS w2 mb n2 M A s (s+1) sa ya na sc yc nc m svs sets ys ns wr):=Kh ⟨h6.out.mem,⟨u,c,Nat.le_succ_of_le j6.out,h7.out⟩,h6.out.grp.old hmem,h6.out.len,h6.out.gr,h6.out.mlo⟩;obtain⟨yb,rfl,f9,f8,a6⟩:=yH H3.out.yes (by omega);obtain⟨nb,rfl,i0,b6,b5⟩:=yH H3.out.no (by omega);have cy:=a6.bool q (by rw[H3.out.grp.leny];exact H9);have cn:=b5.bool q (by rw[H3.out.grp.lenn];exact H9);have fy:=a6.frozen q;have fn:=b5.frozen q;have d2:yb≠nb:=fun e=>(List.pairwise_cons.1 (List.pairwise_cons.1 H3.out.mem.apart).2).1 _ (List.mem_cons_self ..) yb rfl (by rw[e];rfl);have d7:=Kh g6;have d8:=Kh c9;have HC:=Kh (And.intro cy (And.intro cn (And.intro fy (And.intro fn d2))));clear H2 hq H9 c9 hmem f9 f8 a6 i0 b6 b5 cy cn fy fn d2 h6 h7;go_upto_region 26 with fail;clear i3;refine qKM HC.out.1 HC.out.2.1 HC.out.2.2.1 HC.out.2.2.2.1 HC.out.2.2.2.2 d7.out (by omega) ?_;intro z100 z101 z102 z103 z104 z105 z106 z107 z108 z109 z110 z111 z112 z113 z114 z115 z116 z117 z118 z119 z120;go_wp2;go_roundg (LL-(s+1))
  case measure=>have:=e0.out;omega
  have hW:=(H3.out.grow (zN wr none)).put d7.out d8.out rfl;rw[<-o3.out]at hW;exact⟨s+1,m,sc,yc,nc,sa,_,_,svs,sets,_,_,by have:=e0.out;omega,by go_num,rfl,rfl,rfl,hW⟩
 have i3:Sem.run Tryz.prog (Instr.lookup 108 (.map (some mb)) (.string U) true) wr=.ok (.tuple #[.int .i64 0,.bool false]) wr:=by
  rw[qVT hmem]at H2;rw[HU.out];exact H2
 have d9:=Kh hmem;clear H2 hmem;go_upto_region 25 with (first|(at_mapUpdate;refine oH n7.out rfl _ _ _ rfl mb u c (numS sets) (M s) m rfl ?k1 rfl h7.out (by have:=j6.out;unfold maxLen;omega) (H1.out s) (by omega) ?_;(case k1=>(show _=Value.string (gT (M s));rw[<-HU.out];rfl));intro w8 m2 e9)|fail);have HN:Hid ((Value.slice sa m sc).ownBlock≠some mb/\(Value.slice ya m yc).ownBlock≠some mb/\(Value.slice na m nc).ownBlock≠some mb):=Kh ⟨yL (es:=#[]) (clock:=0) h6.out.rows h7.out.obj,yL (es:=#[]) (clock:=0) h6.out.yes h7.out.obj,yL (es:=#[]) (clock:=0) h6.out.no h7.out.obj⟩
 have s4:=Kh (h6.out.mem.far e9 (fun r hr=>by
  simp only[List.mem_cons,List.not_mem_nil,or_false]at hr;rcases hr with rfl|rfl|rfl
  ·exact HN.out.1
  ·exact HN.out.2.1
  exact HN.out.2.2))
 have f5:Hid (w2.grownBy w8 none):=Kh (zY h6.out.gr e9 (by show _<=mb;have:=h6.out.mlo;omega));have r8:=Kh m2
 have j9:Hid (Row (w8.alloc (.cells #[] 4)).heap.size (w8.alloc (.cells #[] 4)) (.slice (some ⟨fb,0,none⟩) n2 gc) (bls (M s))):=Kh (by
  have h8:=l3.out.kept k7.out (by simp);have g9:mb≠fb:=fun e=>by obtain⟨es,cl,hb⟩:=h7.out.obj;obtain⟨cs,r,q6,_⟩:=id h8;rw[e,q6]at hb;simp at hb
  have h9:=(h8.kept e9 (fun e=>g9 (Oj e))).kept (Ga w8 (.cells #[] 4) none) (by simp);have q9:=qMB (k:=n2) h9 (by rw[List.length_append,H1.out];omega) (gc:=gc) (by rw[List.length_append,H1.out];exact n9.out.1) n9.out.2
  rwa [List.take_left' (H1.out s)]at q9)
 have s9:=f5.out.size;clear m2 e9 i3;go_upto_region 26 with (first|(at_builtin;refine appR rfl (.tmp 89) (.tmp 90) _ rfl xL w8.heap.size _ 0 [] rfl (qR (heap_alloc_new w8 _) (Nat.le_refl _)) _ (bls (M s)) rfl ⟨_,j9.out⟩ ?p1 n2 ?p2 ?p3 ?p4 ?p5 ?_;(case p1=>(intro v hv;obtain⟨b,_,rfl⟩:=List.mem_map.1 hv;rfl));(case p2=>(rw[yV,H1.out];omega));(case p3=>(unfold maxLen;omega));(case p4=>omega);(case p5=>(rw[zL];omega));intro sA cA wA d1 a4;have H8:=Kh (zA (Ga w8 (.cells #[] 4) none) a4 (fun k e=>by have e:w8.heap.size=k:=Oj e;omega));have f6:=Kh (s4.out.grow H8.out);have f7:=(zA f5.out H8.out).size;clear d1 a4)|(at_builtin;refine vZ rfl (.tmp 88) (.tmp 92) _ rfl qSP w2.heap.size (.slice sa m sc) m svs rfl (f6.out.own ⟨w2.heap.size,27,.slice sa m sc,m,svs,1⟩ (by simp)) [.slice sA n2 cA] rfl rfl ?q1 ?q2 ?q3 f7 ?_;(case q1=>(intro v hv;simp only[List.mem_cons,List.not_mem_nil,or_false]at hv;subst hv;rfl));(case q2=>(unfold maxLen;omega));(case q3=>omega);intro sB cB wB a3 e8 m1;have o0:=Kh e8;have l0:=Kh (f6.out.appAt (j:=0) rfl a3 e8 m1);have l4:=(zA (zA f5.out H8.out) e8 (fun k e=>((f6.out.own ⟨w2.heap.size,27,.slice sa m sc,m,svs,1⟩ (by simp)).lt k e).1)).size;clear a3 e8 m1)|(at_builtin;refine vZ rfl (.tmp 94) (.tmp 95) _ rfl xL.toN w2.heap.size (.slice ya m yc) m (bls ys) rfl (l0.out.own ⟨w2.heap.size,4,.slice ya m yc,m,bls ys,1⟩ (by simp)) [.bool false] rfl rfl ?r1 ?r2 ?r3 l4 ?_;(case r1=>(intro v hv;simp only[List.mem_cons,List.not_mem_nil,or_false]at hv;subst hv;rfl));(case r2=>(unfold maxLen;omega));(case r3=>omega);intro sC cC wC a2 e7 m0;have e2:=Kh e7;have k9:=Kh (l0.out.appAt (j:=1) rfl a2 e7 m0);have o4:=Nat.le_trans l4 e7.size;clear a2 e7 m0)|(at_builtin;refine vZ rfl (.tmp 97) (.tmp 98) _ rfl xL.toN w2.heap.size (.slice na m nc) m (bls ns) rfl (k9.out.own ⟨w2.heap.size,4,.slice na m nc,m,bls ns,1⟩ (by simp)) [.bool false] rfl rfl ?t1 ?t2 ?t3 o4 ?_;(case t1=>(intro v hv;simp only[List.mem_cons,List.not_mem_nil,or_false]at hv;subst hv;rfl));(case t2=>(unfold maxLen;omega));(case t3=>omega);intro sD cD wD a1 i5 l9;have n8:=Kh i5;have s3:=Kh (k9.out.appAt (j:=2) rfl a1 i5 l9);clear a1 i5 l9)|fail)
 have H3:Hid (GrS w2 mb n2 M A s (s+1) sB sC sD cB cC cD (m+1) (svs++[.slice sA n2 cA]) (sets++[M s]) (ys++[false]) (ns++[false]) wD):=Kh (by
  have p0:=f6.out.own ⟨w2.heap.size,27,.slice sa m sc,m,svs,1⟩ (by simp);have o9:=l0.out.own ⟨w2.heap.size,4,.slice ya m yc,m,bls ys,1⟩ (by simp);have o8:=k9.out.own ⟨w2.heap.size,4,.slice na m nc,m,bls ns,1⟩ (by simp);have g1:=zA f5.out H8.out;have g2:=zA g1 o0.out (fun k e=>(p0.lt k e).1);have g3:=zA g2 e2.out (fun k e=>(o9.lt k e).1);have g4:=zA g3 n8.out (fun k e=>(o8.lt k e).1);refine⟨?_,⟨u+1,if (numS sets (M s)).isSome=true then c else c+1,by have:=j6.out;omega,?_⟩,h6.out.grp.new d9.out,by rw[List.length_append,h6.out.len];rfl,g4,h6.out.mlo⟩
  ·rw[show bls (ys++[false])=bls ys++[.bool false] by simp[bls],show bls (ns++[false])=bls ns++[.bool false] by simp[bls]]
   exact s3.out
  rw[<-qQZ d9.out,<-h6.out.len]
  exact(((r8.out.kept H8.out (by simp)).kept o0.out HN.out.1).kept e2.out HN.out.2.1).kept n8.out HN.out.2.2)
 obtain⟨q,hq⟩:=Nm m;have H9:q<(sets++[M s]).length:=(by rw[List.length_append,<-h6.out.len,hq];simp);have g6:q<m+1:=(by omega);have c9:(sets++[M s]).getD q []=M s:=qN (by rw[hq];exact h6.out.len);rw[show (Value.int .i64 (m:Int))=.int .i64 (q:Int) by rw[hq]];obtain⟨yb,rfl,f9,f8,a6⟩:=yH H3.out.yes (by omega);obtain⟨nb,rfl,i0,b6,b5⟩:=yH H3.out.no (by omega);have cy:=a6.bool q (by rw[H3.out.grp.leny];exact H9);have cn:=b5.bool q (by rw[H3.out.grp.lenn];exact H9);have fy:=a6.frozen q;have fn:=b5.frozen q;have d2:yb≠nb:=fun e=>(List.pairwise_cons.1 (List.pairwise_cons.1 H3.out.mem.apart).2).1 _ (List.mem_cons_self ..) yb rfl (by rw[e];rfl);have d7:=Kh g6;have d8:=Kh c9;have HC:=Kh (And.intro cy (And.intro cn (And.intro fy (And.intro fn d2))));clear hq H9 c9 f9 f8 a6 i0 b6 b5 cy cn fy fn d2;refine qKM HC.out.1 HC.out.2.1 HC.out.2.2.1 HC.out.2.2.2.1 HC.out.2.2.2.2 d7.out (by omega) ?_;intro z100 z101 z102 z103 z104 z105 z106 z107 z108 z109 z110 z111 z112 z113 z114 z115 z116 z117 z118 z119 z120;go_wp2;go_roundg (LL-(s+1))
 case measure=>have:=e0.out;omega
 have hW:=(H3.out.grow (zN wD none)).put d7.out d8.out rfl;rw[<-o3.out]at hW;exact⟨s+1,m+1,cB,cC,cD,sB,_,_,_,_,_,_,by have:=e0.out;omega,by go_num,rfl,rfl,rfl,hW⟩
end Go.Proofs.YtcoimliafiammaaGreat
