/- Part 20 of the proof. -/
import Derived.Test.YtobakifdllameaaGreatQd19
set_option linter.unusedVariables false
set_option linter.unusedSimpArgs false
set_option maxRecDepth 100000
set_option maxHeartbeats 16000000
namespace Go.Proofs.YtobakifdllameaaGreat
open Go.Maps Go.RowKit
theorem qSO {Q:Exit->Act->World->Prop}{v0 v1 v2 v3 v4 v6 v7 v9 x2 x3 x4 x5 x6 x7 x8 x9 t0 t1 t2 t3 t4 t5 t6 t7 t8 t9 s0 s1 s2 s3 s4 s5 s6 s7 s8 s9 r0 r1 r2 r3 r4 r5 r6 r7 r8 r9 q0 q1 q4 q5 q6 q7 q8 p0 p1 p2 p3 p4 p5 p6 p7 p8 p9 o0 o1 o2 o3 o4 o5 o6 o7 o8 o9 n0 n1 n2 n3 n4 n5 n6 n7 n8 n9 m0 m1 m2 m3 m4 m5 m6 m7 m8 m9 l0 l1 l2 g0 g1 g2 g3 g4 g5 g6 g7 g8 g9 f0 f1 f2 f3 f4 f5 f6 f7 f8 e0 e1 e2 l8 l9 k0 k1 k2 k3 k4 k5 k6 k7 k8 k9 j0 j1 j2 j3 j4 j5 j6 j7 j8 j9 i0 i1 i2 i3 i4 i5 i6 i7 e3 e4 e5 e6 e7 e8 e9 d0 d1 d2 d3 d4 d5 d6 d7 d8 d9 c0 c1 c2 c3 c7 c8 c9 b0 b1 b2 b3 b4 b6 b7 b8 b9 a0 a1 a2 a3 a4 a5 a6 a7 a8 a9:Value}{w6 w:World}{o m k tg wg ig ic pg:Nat}{im:List Nat}{l6:List Value}{done:List (List Nat)}{ws:List Value}{ps:List Bool}{i8:List Nat}{cg b5 qb qo qc lb lo lc rb rf rd sb so sc i j p a x y:Nat}(h:MonS w6 o m k tg wg ig ic pg im l6 done ws ps (⟨w6.heap.size,3,.slice (some ⟨cg,0,none⟩) m m,m,nats i8,1⟩::[]) w)(hi:i<m)(hj:j<m)(hp:p<m)(hx:x<m)(ha:a<k)(hm:m<=400)(x1:i8.length=m)(hh:l6[i]?=some (.slice (some ⟨cg,0,none⟩) m m))(cx:i8.getD p 0=x)(c6:w.cell? ⟨b5,6,none⟩=some (.slice (some ⟨rb,rf,none⟩) m rd))(c4:w.cell? ⟨b5,4,none⟩=some (.slice (some ⟨qb,qo,none⟩) m qc))(cq:w.cell? ⟨qb,qo+j,none⟩=some (.int .i64 (p:Int)))(cr:w.cell? ⟨rb,rf+x,none⟩=some (.slice (some ⟨sb,so,none⟩) k sc))(c5:w.cell? ⟨b5,5,none⟩=some (.slice (some ⟨lb,lo,none⟩) m lc))(cl:w.cell? ⟨lb,lo+j,none⟩=some (.int .i64 (a:Int)))(cy:w.cell? ⟨sb,so+a,none⟩=some (.int .i64 (y:Int)))(l4:m<=qc/\qc<=maxLen)(l3:m<=lc/\lc<=maxLen)(l5:m<=rd/\rd<=maxLen)(l7:k<=sc/\sc<=maxLen)(i9:∀(z122 z123 z124 z125 z126 z127 z128 z129 z130 z131 z132 z133 z134 z135 z136 z137 z138 z139 z140 z141 z142 z143 z144 z145 z146 z147 z148 z149 z150 z151:Value) (w':World),MonS w6 o m k tg wg ig ic pg im l6 done ws ps (⟨w6.heap.size,3,.slice (some ⟨cg,0,none⟩) m m,m,nats (i8.set j y),1⟩::[]) w'->Q .normal ⟨(v0::v1::v2::v3::v4::(Value.pointer (some ⟨b5,0,none⟩))::v6::v7::(Value.pointer (some ⟨o,0,none⟩))::v9::(Value.int .i64 (i:Int))::x2::(Value.int .i64 (j:Int))::x3::x4::x5::x6::x7::x8::x9::t0::t1::t2::t3::t4::t5::t6::t7::t8::t9::s0::s1::s2::s3::s4::s5::s6::s7::s8::s9::r0::r1::r2::r3::r4::r5::r6::r7::r8::r9::q0::q1::q4::q5::q6::q7::q8::p0::p1::p2::p3::p4::p5::p6::p7::p8::p9::o0::o1::o2::o3::o4::o5::o6::o7::o8::o9::n0::n1::n2::n3::n4::n5::n6::n7::n8::n9::m0::m1::m2::m3::m4::m5::m6::m7::m8::m9::l0::l1::l2::g0::g1::g2::g3::g4::g5::g6::g7::g8::g9::f0::f1::f2::f3::f4::f5::f6::f7::f8::e0::e1::e2::z122::z123::z124::z125::z126::z127::z128::z129::z130::z131::z132::z133::z134::z135::z136::z137::z138::z139::z140::z141::z142::z143::z144::z145::z146::z147::z148::z149::z150::z151::e3::e4::e5::e6::e7::e8::e9::d0::d1::d2::d3::d4::d5::d6::d7::d8::d9::c0::c1::c2::c3::c7::c8::c9::b0::b1::b2::b3::b4::b6::b7::b8::b9::a0::a1::a2::a3::a4::a5::a6::a7::a8::a9::[]).toArray,[]⟩ w'):Code.wp Tryz.prog (reg Tryz.f51 22) Q ⟨(v0::v1::v2::v3::v4::(Value.pointer (some ⟨b5,0,none⟩))::v6::v7::(Value.pointer (some ⟨o,0,none⟩))::v9::(Value.int .i64 (i:Int))::x2::(Value.int .i64 (j:Int))::x3::x4::x5::x6::x7::x8::x9::t0::t1::t2::t3::t4::t5::t6::t7::t8::t9::s0::s1::s2::s3::s4::s5::s6::s7::s8::s9::r0::r1::r2::r3::r4::r5::r6::r7::r8::r9::q0::q1::q4::q5::q6::q7::q8::p0::p1::p2::p3::p4::p5::p6::p7::p8::p9::o0::o1::o2::o3::o4::o5::o6::o7::o8::o9::n0::n1::n2::n3::n4::n5::n6::n7::n8::n9::m0::m1::m2::m3::m4::m5::m6::m7::m8::m9::l0::l1::l2::g0::g1::g2::g3::g4::g5::g6::g7::g8::g9::f0::f1::f2::f3::f4::f5::f6::f7::f8::e0::e1::e2::l8::l9::k0::k1::k2::k3::k4::k5::k6::k7::k8::k9::j0::j1::j2::j3::j4::j5::j6::j7::j8::j9::i0::i1::i2::i3::i4::i5::i6::i7::e3::e4::e5::e6::e7::e8::e9::d0::d1::d2::d3::d4::d5::d6::d7::d8::d9::c0::c1::c2::c3::c7::c8::c9::b0::b1::b2::b3::b4::b6::b7::b8::b9::a0::a1::a2::a3::a4::a5::a6::a7::a8::a9::[]).toArray,[]⟩ w:=by
 obtain⟨h7,h8,H8,H9,y7,y6,y5⟩:=h.cells;have h2:=h.arrC
 have h0:∀W:World,w.grownBy W none->W.cell? ⟨o,1,none⟩=some (.slice (some ⟨tg,0,none⟩) m m)/\W.cell? ⟨tg,i,none⟩=some (.slice (some ⟨cg,0,none⟩) m m)/\W.cell? ⟨b5,6,none⟩=some (.slice (some ⟨rb,rf,none⟩) m rd)/\W.cell? ⟨b5,4,none⟩=some (.slice (some ⟨qb,qo,none⟩) m qc)/\W.cell? ⟨qb,qo+j,none⟩=some (.int .i64 (p:Int))/\W.cell? ⟨cg,p,none⟩=some (.int .i64 (x:Int))/\W.cell? ⟨rb,rf+x,none⟩=some (.slice (some ⟨sb,so,none⟩) k sc)/\W.cell? ⟨b5,5,none⟩=some (.slice (some ⟨lb,lo,none⟩) m lc)/\W.cell? ⟨lb,lo+j,none⟩=some (.int .i64 (a:Int))/\W.cell? ⟨sb,so+a,none⟩=some (.int .i64 (y:Int)):=fun W hg=>by
  have q2:=zH (zB h7 hg) 1;simp only[List.getElem_toArray,List.getElem_cons_zero,List.getElem_cons_succ]at q2;have q3:=(h2.kept hg (by simp)).nat p (by omega);rw[cx]at q3;exact⟨q2,pJ (h8.kept hg (by simp)) hh,zK c6 hg,zK c4 hg,zK cq hg,q3,zK cr hg,zK c5 hg,zK cl hg,zK cy hg⟩
 have h1:∀W:World,w.grownBy W none->∃u,W.cell? ⟨cg,j,none⟩=some u:=fun W hg=>⟨_,(h2.kept hg (by simp)).nat j (by omega)⟩;have h6:∀W:World,w.grownBy W none->W.frozen? ⟨cg,j,none⟩=false:=fun W hg=>(h2.kept hg (by simp)).frozen j;obtain⟨H,y1,y0⟩:=K3 h h1 h6;have y9:(i:Int)<m:=by omega
 have y8:(j:Int)<m:=by omega
 have y4:(p:Int)<m:=by omega
 have y3:(x:Int)<m:=by omega
 have z0:(a:Int)<k:=by omega
 have H5:=l4.1;have H7:=l3.1;have H3:=l5.1;have H1:=l7.1;have H4:qc<=9223372036854775807:=by have:=l4.2;unfold maxLen at this;omega
 have H6:lc<=9223372036854775807:=by have:=l3.2;unfold maxLen at this;omega
 have H2:rd<=9223372036854775807:=by have:=l5.2;unfold maxLen at this;omega
 have H0:sc<=9223372036854775807:=by have:=l7.2;unfold maxLen at this;omega
 clear h h7 h8 H8 H9 h2 h1 h6 c6 c4 cq cr c5 cl cy l4 l3 l5 l7 hh cx;have y2:Hid (∀W:World,w.grownBy W none->W.cell? ⟨o,1,none⟩=some (.slice (some ⟨tg,0,none⟩) m m)/\W.cell? ⟨tg,i,none⟩=some (.slice (some ⟨cg,0,none⟩) m m)/\W.cell? ⟨b5,6,none⟩=some (.slice (some ⟨rb,rf,none⟩) m rd)/\W.cell? ⟨b5,4,none⟩=some (.slice (some ⟨qb,qo,none⟩) m qc)/\W.cell? ⟨qb,qo+j,none⟩=some (.int .i64 (p:Int))/\W.cell? ⟨cg,p,none⟩=some (.int .i64 (x:Int))/\W.cell? ⟨rb,rf+x,none⟩=some (.slice (some ⟨sb,so,none⟩) k sc)/\W.cell? ⟨b5,5,none⟩=some (.slice (some ⟨lb,lo,none⟩) m lc)/\W.cell? ⟨lb,lo+j,none⟩=some (.int .i64 (a:Int))/\W.cell? ⟨sb,so+a,none⟩=some (.int .i64 (y:Int))):=Kh (fun W hg=>h0 W hg);clear h0
 conv=>arg 2;whnf
 obtain⟨w7,h4⟩:=Nm w.drew;have h5:w.grownBy w7 none:=by rw[h4];exact zS w none
 have x0:=Kh h4;have h3:=Kh h5;clear h4 h5;refine wp_region_noPanic ?_;refine yM (G:=wH 30 (fun _=>True) (fun W=>W.cell? ⟨o,1,none⟩=some (.slice (some ⟨tg,0,none⟩) m m)/\W.cell? ⟨tg,i,none⟩=some (.slice (some ⟨cg,0,none⟩) m m)/\W.cell? ⟨b5,6,none⟩=some (.slice (some ⟨rb,rf,none⟩) m rd)/\W.cell? ⟨b5,4,none⟩=some (.slice (some ⟨qb,qo,none⟩) m qc)/\W.cell? ⟨qb,qo+j,none⟩=some (.int .i64 (p:Int))/\W.cell? ⟨cg,p,none⟩=some (.int .i64 (x:Int))/\W.cell? ⟨rb,rf+x,none⟩=some (.slice (some ⟨sb,so,none⟩) k sc)/\W.cell? ⟨b5,5,none⟩=some (.slice (some ⟨lb,lo,none⟩) m lc)/\W.cell? ⟨lb,lo+j,none⟩=some (.int .i64 (a:Int))/\W.cell? ⟨sb,so+a,none⟩=some (.int .i64 (y:Int)))) (by kernel_rfl) ?_;rw[<-x0.out];have C:=Kh (y2.out w7 h3.out);refine zO 0 ⟨trivial,fun _=>C.out⟩ ?_;refine yY 1 ⟨trivial,fun _=>C.out⟩ ?_;refine zO 2 ⟨trivial,fun _=>C.out⟩ ?_;refine zO 3 ⟨trivial,fun _=>C.out⟩ ?_;refine yY 4 ⟨trivial,fun _=>C.out⟩ ?_;refine zO 5 ⟨trivial,fun _=>C.out⟩ ?_;refine zO 6 ⟨trivial,fun _=>C.out⟩ ?_;refine yY 7 ⟨trivial,fun _=>C.out⟩ ?_;refine zO 8 ⟨trivial,fun _=>C.out⟩ ?_;refine yY 9 ⟨trivial,fun _=>C.out⟩ ?_;refine zO 10 ⟨trivial,fun _=>C.out⟩ ?_;refine zO 11 ⟨trivial,fun _=>C.out⟩ ?_;refine yY 12 ⟨trivial,fun _=>C.out⟩ ?_;refine zO 13 ⟨trivial,fun _=>C.out⟩ ?_;refine yY 14 ⟨trivial,fun _=>C.out⟩ ?_;refine zO 15 ⟨trivial,fun _=>C.out⟩ ?_;refine zO 16 ⟨trivial,fun _=>C.out⟩ ?_;refine yY 17 ⟨trivial,fun _=>C.out⟩ ?_;refine zO 18 ⟨trivial,fun _=>C.out⟩ ?_;refine yY 19 ⟨trivial,fun _=>C.out⟩ ?_;refine zO 20 ⟨trivial,fun _=>C.out⟩ ?_;refine yY 21 ⟨trivial,fun _=>C.out⟩ ?_;refine zO 22 ⟨trivial,fun _=>C.out⟩ ?_;refine yY 23 ⟨trivial,fun _=>C.out⟩ ?_;refine zO 24 ⟨trivial,fun _=>C.out⟩ ?_;refine zO 25 ⟨trivial,fun _=>C.out⟩ ?_;refine yY 26 ⟨trivial,fun _=>C.out⟩ ?_;refine zO 27 ⟨trivial,fun _=>C.out⟩ ?_;refine yY 28 ⟨trivial,fun _=>C.out⟩ ?_;refine zO 29 ⟨trivial,fun _=>C.out⟩ ?_;obtain⟨u9,q9⟩:=y1.out w7 h3.out;have f9:=y0.out w7 h3.out;refine oneG (i:=30) (by kernel_rfl) rfl (fun K hK=>?_);go_simp;refine hK.out _ _ ⟨trivial,fun h=>by simp at h⟩ ?_;clear hK K q9 f9
 try simp only[Act.put,sPd,sPe,sPf,sPa,sPb,sPc]
 refine tT (by kernel_rfl) ?_ _;refine NoPanic.normal ?_;have h9:=(H.out.grow h3.out).putC hj (.int .i64 (y:Int));rw[lX]at h9;exact i9 _ _ _ _ _ _ _ _ _ _ _ _ _ _ _ _ _ _ _ _ _ _ _ _ _ _ _ _ _ _  _ h9
end Go.Proofs.YtobakifdllameaaGreat
namespace Go.Proofs.YtobakifdllameaaGreat
open Go.RowKit
theorem qKY (B:Nat)(w:World)(v:Value)(xs:List Nat)(y:Nat)(h:Row B w v (nats xs)):Calls Tryz.prog 108 #[v,.int .i64 (y:Int)] w fun e w'=>(∃z:Int,e=.returned (.int .i64 z)/\((0<=z)↔y∈xs))/\w'=w:=by
 have h2:=h.len_le;rw[zT]at h2;unfold maxLen at h2;by_cases h0:xs.length=0
 ·have hx:xs=[]:=List.eq_nil_of_length_eq_zero h0
  subst hx;obtain⟨a,c,rfl⟩:=h.nil_ rfl;clear h;go_enter Tryz.func108,Tryz.ntmps108;go_wp2
  go_loopg [8] 0 (fun g i wr=>i=.int .i64 0/\wr=w)
  case atStart=>exact⟨rfl,rfl⟩
  obtain⟨rfl,rfl⟩:=hrel;go_wp2;go_ret;exact⟨⟨-1,rfl,by simp⟩,rfl⟩
 obtain⟨b,o,c,rfl,_,h6,h5,hr⟩:=h.some_ (by rw[zT];omega);have R:=Kh hr;rw[zT]at h6⊢;clear h hr;unfold maxLen at h5;go_enter Tryz.func108,Tryz.ntmps108;go_wp2
 go_loopg [8] xs.length (fun g i wr=>∃k:Nat,g+k=xs.length/\i=.int .i64 k/\y ∉ xs.take k/\wr=w)
 case atStart=>exact⟨0,rfl,rfl,by simp,rfl⟩
 obtain⟨k,hg,rfl,hn,rfl⟩:=hrel;have HG:=Kh hg;have HN:=Kh hn;clear hg hn;by_cases hk:k<xs.length
 ·have h7:(k:Int)<xs.length:=by omega
  have ca:=R.out.nat k hk;obtain⟨x,hx⟩:=Nm (xs.getD k 0);rw[<-hx]at ca;have HX:=Kh hx;clear hx;have h3:Hid (x∈xs):=Kh (by rw[HX.out,List.getD_eq_getElem?_getD,List.getElem?_eq_getElem hk];exact List.getElem_mem hk);by_cases hxy:y=x
  ·subst hxy
   go_wp2;go_ret;exact⟨⟨(k:Int),rfl,fun _=>h3.out,fun _=>by omega⟩,rfl⟩
  have h4:Hid (¬(y:Int)=x):=Kh (by omega);have he:((y:Int) == (x:Int))=false:=by rw[beq_eq_false_iff_ne];exact h4.out
  go_wp2;go_roundg (xs.length-(k+1))
  case measure=>have:=HG.out;omega
  refine⟨k+1,by omega,by go_num,?_,rfl⟩;rw[List.take_add_one,List.mem_append];rintro (h1|h1)
  ·exact HN.out h1
  rw[List.getElem?_eq_getElem hk]at h1;simp only[Option.toList_some,List.mem_singleton]at h1;exact hxy (by rw[HX.out,List.getD_eq_getElem?_getD,List.getElem?_eq_getElem hk];exact h1)
 have HM:Hid (y ∉ xs):=Kh (by
  have:=HN.out
  rwa [List.take_of_length_le (by have:=HG.out;omega)]at this)
 go_wp2;go_ret;exact⟨⟨-1,rfl,fun h1=>by omega,fun h1=>absurd h1 HM.out⟩,rfl⟩
theorem qDC (B:Nat)(w:World)(v:Value)(xs:List Nat)(y:Nat)(h:Row B w v (nats xs)):Calls Tryz.prog 80 #[v,.int .i64 (y:Int)] w fun e w'=>e=.returned (.bool (decide (y∈xs)))/\w'=w:=by
 have HI:=Kh (qKY B w v xs y h);clear h;go_enter Tryz.func80,Tryz.ntmps80;go_wp2_with fail;refine HI.out.mono ?_;rintro e w1 ⟨⟨z,rfl,hz⟩,rfl⟩;have HZ:=Kh hz;clear hz;have hd:Hid (decide (y∈xs)=decide (0<=z)):=Kh (by rw[Bool.eq_iff_iff,decide_eq_true_eq,decide_eq_true_eq];exact HZ.out.symm);go_wp2;go_ret;exact⟨yT hd.out.symm,rfl⟩
open Go.Maps
theorem qRE {Q:Exit->Act->World->Prop}{v0 v1 v2 v3 v4 v5 v6 v7 v9 t9 s0 s1 s2 s3 s4 s5 s6 s7 s8 s9 r0 r1 r2 r3 r4 r5 r6 r7 r8 r9 q0 q1 q3 q4 q5 q6 q7 q8 q9 p0 p1 p2 p3 p4 p5 p6 p7 p8 p9 o0 o1 o2 o3 o4 o5 o6 o7 o8 o9 n0 n1 n2 n3 n4 n5 n6 n7 n8 n9 m0 m1 m2 m3 m4 m5 m6 m7 m8 m9 l0 l1 l2 l3 l4 l5 l6 l7 l8 l9 k0 k1 t1 t2 t3 t4 t5 t6 t7 k2 k3 k4 k5 k6 k7 k8 k9 j0 j1 j2 j3 j4 j5 j6 j7 j8 j9 i0 i1 i2 i3 i4 i5 i6 i7 i8 i9 g0 g1 g2 g3 g4 g5 g6 g7 g8 g9 f0 f1 f2 f3 f4 f5 f6 f7 f8 e0 e1 e2 e3 e4 e5 e6 e7 e8 e9 d0 d1 d2 d3 d4 d5 d6 d7 d8 d9 c0 c1 c2 c3 c4 c5 c6 c7 c8 b0 b1 b2 b3 b4 b5 b6 b7 b8 b9 a0 a1 a2 a3 a4 a5 a6 a7 a8:Value}{w6 w:World}{o m k tg wg ig ic pg:Nat}{im:List Nat}{t8:List Value}{done:List (List Nat)}{ws:List Value}{ps:List Bool}{tl:List RowS}{vr:Value}{r:List Nat}{b:Bool}(h:MonS w6 o m k tg wg ig ic pg im t8 done ws ps tl w)(hm:0<m)(t0:m<=400)(hb:ps[0]?=some b)(hr:Row w6.heap.size w vr (nats r))(a9:∀(z93 z94 z95 z96 z97 z98 z99 z100 z101 z102 z103:Value) (w':World),MonS w6 o m k tg wg ig ic pg im t8 done ws (ps.set 0 (b || decide (0∈r))) tl w'->Q .normal ⟨(v0::v1::v2::v3::v4::v5::v6::v7::(Value.pointer (some ⟨o,0,none⟩))::v9::t9::vr::s0::s1::s2::s3::s4::s5::s6::s7::s8::s9::r0::r1::r2::r3::r4::r5::r6::r7::r8::r9::q0::q1::q3::q4::q5::q6::q7::q8::q9::p0::p1::p2::p3::p4::p5::p6::p7::p8::p9::o0::o1::o2::o3::o4::o5::o6::o7::o8::o9::n0::n1::n2::n3::n4::n5::n6::n7::n8::n9::m0::m1::m2::m3::m4::m5::m6::m7::m8::m9::l0::l1::l2::l3::l4::l5::l6::l7::l8::l9::k0::k1::z93::z94::z95::z96::z97::z98::z99::z100::z101::z102::z103::k6::k7::k8::k9::j0::j1::j2::j3::j4::j5::j6::j7::j8::j9::i0::i1::i2::i3::i4::i5::i6::i7::i8::i9::g0::g1::g2::g3::g4::g5::g6::g7::g8::g9::f0::f1::f2::f3::f4::f5::f6::f7::f8::e0::e1::e2::e3::e4::e5::e6::e7::e8::e9::d0::d1::d2::d3::d4::d5::d6::d7::d8::d9::c0::c1::c2::c3::c4::c5::c6::c7::c8::b0::b1::b2::b3::b4::b5::b6::b7::b8::b9::a0::a1::a2::a3::a4::a5::a6::a7::a8::[]).toArray,[]⟩ w'):Code.wp Tryz.prog (reg Tryz.f51 16) Q ⟨(v0::v1::v2::v3::v4::v5::v6::v7::(Value.pointer (some ⟨o,0,none⟩))::v9::t9::vr::s0::s1::s2::s3::s4::s5::s6::s7::s8::s9::r0::r1::r2::r3::r4::r5::r6::r7::r8::r9::q0::q1::q3::q4::q5::q6::q7::q8::q9::p0::p1::p2::p3::p4::p5::p6::p7::p8::p9::o0::o1::o2::o3::o4::o5::o6::o7::o8::o9::n0::n1::n2::n3::n4::n5::n6::n7::n8::n9::m0::m1::m2::m3::m4::m5::m6::m7::m8::m9::l0::l1::l2::l3::l4::l5::l6::l7::l8::l9::k0::k1::t1::t2::t3::t4::t5::t6::t7::k2::k3::k4::k5::k6::k7::k8::k9::j0::j1::j2::j3::j4::j5::j6::j7::j8::j9::i0::i1::i2::i3::i4::i5::i6::i7::i8::i9::g0::g1::g2::g3::g4::g5::g6::g7::g8::g9::f0::f1::f2::f3::f4::f5::f6::f7::f8::e0::e1::e2::e3::e4::e5::e6::e7::e8::e9::d0::d1::d2::d3::d4::d5::d6::d7::d8::d9::c0::c1::c2::c3::c4::c5::c6::c7::c8::b0::b1::b2::b3::b4::b5::b6::b7::b8::b9::a0::a1::a2::a3::a4::a5::a6::a7::a8::[]).toArray,[]⟩ w:=by
 obtain⟨h7,H0,h9,h3,H7,H6,H5⟩:=h.cells
 have h0:∀W:World,w.grownBy W none->W.cell? ⟨o,5,none⟩=some (.slice (some ⟨pg,0,none⟩) m m)/\W.cell? ⟨pg,0,none⟩=some (.bool b):=fun W hg=>by
  have q2:=zH (zB h7 hg) 5;simp only[List.getElem_toArray,List.getElem_cons_zero,List.getElem_cons_succ]at q2;exact⟨q2,pJ (h3.kept hg (by simp)) (by simp[bls,hb])⟩
 have h5:∀W:World,w.grownBy W none->W.frozen? ⟨pg,0,none⟩=false:=fun W hg=>(h3.kept hg (by simp)).frozen 0;have h6:∀W:World,w.grownBy W none->Calls Tryz.prog 80 #[vr,.int .i64 ((0:Nat):Int)] W fun e w'=>e=.returned (.bool (decide (0∈r)))/\w'=W:=fun W hg=>qDC _ W vr r 0 (hr.kept hg (by simp));obtain⟨H,h8,H2⟩:=K3 h h5 h6;have H4:(0:Int)<m:=by omega
 obtain⟨q,hq⟩:=Nm (decide (0∈r));rw[<-hq]at a9;have HQ:=Kh hq;clear h h7 H0 h9 h3 h5 h6 hr hq;have H3:Hid (∀W:World,w.grownBy W none->W.cell? ⟨o,5,none⟩=some (.slice (some ⟨pg,0,none⟩) m m)/\W.cell? ⟨pg,0,none⟩=some (.bool b)):=Kh (fun W hg=>h0 W hg);clear h0
 conv=>arg 2;whnf
 obtain⟨w7,h2⟩:=Nm w.drew;have h4:w.grownBy w7 none:=by rw[h2];exact zS w none
 have H1:=Kh h2;have h1:=Kh h4;clear h2 h4;refine wp_region_noPanic ?_;refine yM (G:=wH 11 (fun _=>True) (fun W=>W.cell? ⟨o,5,none⟩=some (.slice (some ⟨pg,0,none⟩) m m)/\W.cell? ⟨pg,0,none⟩=some (.bool b))) (by kernel_rfl) ?_;rw[<-H1.out];have C:=Kh (H3.out w7 h1.out);refine zO 0 ⟨trivial,fun _=>C.out⟩ ?_;refine yY 1 ⟨trivial,fun _=>C.out⟩ ?_;refine zO 2 ⟨trivial,fun _=>C.out⟩ ?_;refine yY 3 ⟨trivial,fun _=>C.out⟩ ?_;refine zO 4 ⟨trivial,fun _=>C.out⟩ ?_;refine yY 5 ⟨trivial,fun _=>C.out⟩ ?_;refine zO 6 ⟨trivial,fun _=>C.out⟩ ?_;cases b with
 | true =>
  refine qSM (i:=7) (v:=undef) rfl rfl (by kernel_rfl) (by kernel_rfl) (by kernel_rfl) (fun _ _ _ h=>h) (Or.inr ⟨by rfl,rfl⟩) ⟨trivial,fun _=>C.out⟩ ?_
  try simp only[Act.put,sPd,sPe,sPf,sPa,sPb,sPc]
  refine oneG (i:=8) (by kernel_rfl) rfl (fun K hK=>?_);rw[if_neg (by simp[Region.wanted,yielded])];refine hK.out _ _ ⟨trivial,fun _=>C.out⟩ ?_;clear hK K
  try simp only[Act.put,sPd,sPe,sPf,sPa,sPb,sPc]
  refine zO 9 ⟨trivial,fun _=>C.out⟩ ?_;refine zO 10 ⟨trivial,fun _=>C.out⟩ ?_;have f9:=h8.out _ h1.out;have c9:=C.out.2;refine oneG (i:=11) (by kernel_rfl) rfl (fun K hK=>?_);go_simp;refine hK.out _ _ ⟨trivial,fun h=>by simp at h⟩ ?_;clear hK K f9 c9
  try simp only[Act.put,sPd,sPe,sPf,sPa,sPb,sPc]
  refine tT (by kernel_rfl) ?_ _;refine NoPanic.normal ?_;exact a9 _ _ _ _ _ _ _ _ _ _ _  _ ((H.out.grow h1.out).putP hm true)
 | false =>
  refine zO 7 ⟨trivial,fun _=>C.out⟩ ?_;refine oneG (i:=8) (by kernel_rfl) rfl (fun K hK=>?_);go_simp
  go_at_call 80
  refine(H2.out w7 h1.out).mono ?_;rintro e w8 ⟨rfl,rfl⟩;rw[<-HQ.out];refine hK.out _ _ ⟨trivial,fun _=>C.out⟩ ?_;clear hK K
  try simp only[Act.put,sPd,sPe,sPf,sPa,sPb,sPc]
  refine zO 9 ⟨trivial,fun _=>C.out⟩ ?_;refine zO 10 ⟨trivial,fun _=>C.out⟩ ?_;have f9:=h8.out _ h1.out;have c9:=C.out.2;refine oneG (i:=11) (by kernel_rfl) rfl (fun K hK=>?_);go_simp;refine hK.out _ _ ⟨trivial,fun h=>by simp at h⟩ ?_;clear hK K f9 c9
  try simp only[Act.put,sPd,sPe,sPf,sPa,sPb,sPc]
  refine tT (by kernel_rfl) ?_ _;refine NoPanic.normal ?_;exact a9 _ _ _ _ _ _ _ _ _ _ _  _ ((H.out.grow h1.out).putP hm q)
inductive LisS (w6:World)(o m k tg wg ig ic pg:Nat)(im:List Nat)(hsT:List Value)(tab:List (List Nat))(ws:List Value)(ps:List Bool)(lg p:Nat)(hsL:List Value)(dn:List (List Bool))(tl:List RowS)(w:World):Prop
 | mk (X:Nat->Prop) (hB:BoxS w6.heap.size X o 39 w6 w (⟨w6.heap.size,22,.slice (some ⟨tg,0,none⟩) m m,m,hsT,1⟩::⟨w6.heap.size,9,.slice (some ⟨wg,0,none⟩) m m,m,ws,1⟩::⟨w6.heap.size,3,.slice (some ⟨ig,0,none⟩) k ic,k,nats im,1⟩::⟨w6.heap.size,4,.slice (some ⟨pg,0,none⟩) m m,m,bls ps,1⟩::⟨w6.heap.size,26,.slice (some ⟨lg,0,none⟩) p p,p,hsL,1⟩::tl) #[.int .i64 (k:Int),.slice (some ⟨tg,0,none⟩) m m,.slice (some ⟨wg,0,none⟩) m m,.slice (some ⟨ig,0,none⟩) k ic,.slice none 0 0,.slice (some ⟨pg,0,none⟩) m m] w) (hT:xU X 3 nats w (hsT.take tab.length) tab) (hL:xU X 4 bls w (hsL.take dn.length) dn)
section
variable {w6 w w':World} {o m k tg wg ig ic pg:Nat} {im:List Nat} {hsT:List Value} {tab:List (List Nat)} {ws:List Value} {ps:List Bool} {lg p:Nat} {hsL:List Value} {dn:List (List Bool)} {tl:List RowS}
theorem LisS.start (h:MonS w6 o m k tg wg ig ic pg im hsT tab ws ps [] w)(hg:w.grownBy w' none)(ho:w'.ownsRow w.heap.size 26 1 (.slice (some ⟨lg,0,none⟩) p p) p hsL):LisS w6 o m k tg wg ig ic pg im hsT tab ws ps lg p hsL [] [] w':=by
 obtain⟨X,hB,hT⟩:=h;have hA:=hB.add hg (e:=26) (sz:=1) ho (by decide);exact⟨X,hA.rebase,hT.kept hA.kept hA.wk,xU.nil⟩
theorem LisS.grow (h:LisS w6 o m k tg wg ig ic pg im hsT tab ws ps lg p hsL dn tl w)(hg:w.grownBy w' none):LisS w6 o m k tg wg ig ic pg im hsT tab ws ps lg p hsL dn tl w':=by
 obtain⟨X,hB,hT,hL⟩:=h;have k:=hB.mem.keep hg;exact⟨X,(hB.grow hg).rebase,hT.kept k hg.size,hL.kept k hg.size⟩
theorem LisS.g (h:LisS w6 o m k tg wg ig ic pg im hsT tab ws ps lg p hsL dn tl w):w6.grownBy w none:=by
 obtain⟨X,hB,hT,hL⟩:=h;exact hB.grown
theorem LisS.arrL (h:LisS w6 o m k tg wg ig ic pg im hsT tab ws ps lg p hsL dn tl w):Arr w lg 26 hsL/\hsL.length=p:=by
 obtain⟨X,hB,hT,hL⟩:=h;have h1:=hB.own (r:=⟨w6.heap.size,26,.slice (some ⟨lg,0,none⟩) p p,p,hsL,1⟩) (by simp);exact⟨Arr.of_owns h1,by have:=h1.1;simpa using this⟩
theorem LisS.begin {bg i:Nat}{bs:List Bool}(h:LisS w6 o m k tg wg ig ic pg im hsT tab ws ps lg p hsL dn [] w)(hi:i<p)(hd:dn.length=i)(hg:w.grownBy w' none)(ho:w'.ownsRow w.heap.size 4 1 (.slice (some ⟨bg,0,none⟩) m m) m (bls bs)):LisS w6 o m k tg wg ig ic pg im hsT tab ws ps lg p (hsL.set i (.slice (some ⟨bg,0,none⟩) m m)) dn (⟨w6.heap.size,4,.slice (some ⟨bg,0,none⟩) m m,m,bls bs,1⟩::[]) (w'.setCell ⟨lg,i,none⟩ (.slice (some ⟨bg,0,none⟩) m m)):=by
 obtain⟨X,hB,hT,hL⟩:=h;have hA:=hB.add hg (e:=4) (sz:=1) (n:=m) (v:=.slice (some ⟨bg,0,none⟩) m m) (xs:=bls bs) ho (by decide);have hP:=hA.put (j:=4) rfl hi (.slice (some ⟨bg,0,none⟩) m m);refine⟨X,hP.rebase,hT.kept hP.kept hP.wk,?_⟩;rw[List.take_set_of_le (by omega)];exact hL.kept hP.kept hP.wk
theorem LisS.putC {bg j:Nat}{bs:List Bool}(h:LisS w6 o m k tg wg ig ic pg im hsT tab ws ps lg p hsL dn (⟨w6.heap.size,4,.slice (some ⟨bg,0,none⟩) m m,m,bls bs,1⟩::[]) w)(hj:j<m)(b:Bool):LisS w6 o m k tg wg ig ic pg im hsT tab ws ps lg p hsL dn (⟨w6.heap.size,4,.slice (some ⟨bg,0,none⟩) m m,m,bls (bs.set j b),1⟩::[]) (w.setCell ⟨bg,j,none⟩ (.bool b)):=by
 obtain⟨X,hB,hT,hL⟩:=h;have hP:=hB.put (j:=5) rfl hj (.bool b);rw[qEX]at hP;exact⟨X,hP.rebase,hT.kept hP.kept hP.wk,hL.kept hP.kept hP.wk⟩
theorem LisS.ownC {bg:Nat}{bs:List Bool}(h:LisS w6 o m k tg wg ig ic pg im hsT tab ws ps lg p hsL dn (⟨w6.heap.size,4,.slice (some ⟨bg,0,none⟩) m m,m,bls bs,1⟩::[]) w):w.ownsRow w6.heap.size 4 1 (.slice (some ⟨bg,0,none⟩) m m) m (bls bs):=by
 obtain⟨X,hB,hT,hL⟩:=h;exact hB.own (r:=⟨w6.heap.size,4,.slice (some ⟨bg,0,none⟩) m m,m,bls bs,1⟩) (by simp)
theorem LisS.fin {bg i:Nat}{bs:List Bool}(h:LisS w6 o m k tg wg ig ic pg im hsT tab ws ps lg p hsL dn (⟨w6.heap.size,4,.slice (some ⟨bg,0,none⟩) m m,m,bls bs,1⟩::[]) w)(hd:dn.length=i)(hi:i<p)(hh:hsL[i]?=some (.slice (some ⟨bg,0,none⟩) m m)):LisS w6 o m k tg wg ig ic pg im hsT tab ws ps lg p hsL (dn++[bs]) [] w:=by
 obtain⟨X,hB,hT,hL⟩:=h;have hR:=BoxS.retire (rs:=(⟨w6.heap.size,22,.slice (some ⟨tg,0,none⟩) m m,m,hsT,1⟩::⟨w6.heap.size,9,.slice (some ⟨wg,0,none⟩) m m,m,ws,1⟩::⟨w6.heap.size,3,.slice (some ⟨ig,0,none⟩) k ic,k,nats im,1⟩::⟨w6.heap.size,4,.slice (some ⟨pg,0,none⟩) m m,m,bls ps,1⟩::⟨w6.heap.size,26,.slice (some ⟨lg,0,none⟩) p p,p,hsL,1⟩::[])) (r:=⟨w6.heap.size,4,.slice (some ⟨bg,0,none⟩) m m,m,bls bs,1⟩) hB;have hm:∀j,X j->X j\/(Value.slice (some ⟨bg,0,none⟩) m m).ownBlock=some j:=fun j hj=>.inl hj;refine⟨_,hR,hT.mono hm,?_⟩;have hX:RowX (fun j=>X j\/(Value.slice (some ⟨bg,0,none⟩) m m).ownBlock=some j) 4 w (.slice (some ⟨bg,0,none⟩) m m) (bls bs):=RowX.of_owns (hB.own (r:=⟨w6.heap.size,4,.slice (some ⟨bg,0,none⟩) m m,m,bls bs,1⟩) (by simp)) (fun j hj=>.inr hj);have h9:=(hL.mono hm).snoc hX
 have e:hsL.take dn.length++[.slice (some ⟨bg,0,none⟩) m m]=hsL.take (dn++[bs]).length:=by
  rw[List.length_append,List.length_singleton,hd,List.take_add_one,hh];rfl
 rw[e]at h9;exact h9
end
theorem qSP {Q:Exit->Act->World->Prop}{v0 v1 v2 v3 v4 v5 v6 v7 v8 v9 t0 t1 t2 t3 t4 t5 t6 t7 t8 t9 s0 s1 s2 s3 s4 s5 s6 s7 s8 s9 r0 r1 r2 r3 r4 r5 r6 r7 r8 r9 q3 q4 q5 q6 q7 q8 p0 p1 p2 p3 p4 p5 p6 p7 p8 p9 o0 o1 o2 o3 o4 o5 o6 o7 o8 o9 n0 n1 n2 n3 n4 n5 n6 n7 n8 n9 m0 m1 m2 m3 m4 m5 m6 m7 m8 m9 l0 l1 l2 l3 l4 l5 l6 l7 l8 j1 j2 j3 j4 j5 j6 j7 j8 j9 i0 i1 i2 i3 i4 i5 i6 i7 i8 i9 g0 g1 g2 g3 g4 g5 g6 g7 g8 g9 f0 f1 f2 f3 f4 f5 f6 f7 f8 e0 e1 e2 e3 e4 e5 e6 e7 e8 e9 d0 d1 d2 d3 d4 d5 d6 d7 d8 d9 c0 c1 c2 c3 c4 c5 c6 c7 c8 c9 b0 b1 b2 b3 b4 b5 b6 b7 b8 b9 a0 a1 a2 a3 k0 k1 k2 k3 k4 k5 k6 k7 k8 a4 a5 a6 a7:Value}{w6 w:World}{o m k tg wg ig ic pg:Nat}{im:List Nat}{x9:List Value}{tab:List (List Nat)}{ws:List Value}{ps:List Bool}{lg p:Nat}{l9:List Value}{dn:List (List Bool)}{a9 bg st sh i kk:Nat}{vn vf:Value}{bs:List Bool}{c:Bool}(h:LisS w6 o m k tg wg ig ic pg im x9 tab ws ps lg p l9 dn (⟨w6.heap.size,4,.slice (some ⟨bg,0,none⟩) m m,m,bls bs,1⟩::[]) w)(k9:w.heap[a9]?=some (.cells #[.int .i64 (st:Int),vn,.int .i64 (sh:Int)] 128 (0,0)))(hi:i<m)(x7:m<=400)(x6:kk<p)(x8:p<=4096)(hh:l9[kk]?=some (.slice (some ⟨bg,0,none⟩) m m))(x5:bs.length=m)(a8:∀W:World,w.grownBy W none->Calls Tryz.prog 81 #[.agg #[.int .i64 (st:Int),vn,.int .i64 (sh:Int)],vf] W fun e w'=>e=.returned (.bool c)/\W.grownBy w' none)(j0:∀(z182 z183 z184 z185 z186 z187 z188 z189 z190:Value) (w':World),LisS w6 o m k tg wg ig ic pg im x9 tab ws ps lg p l9 dn (⟨w6.heap.size,4,.slice (some ⟨bg,0,none⟩) m m,m,bls (bs.set i c),1⟩::[]) w'->w'.heap[a9]?=some (.cells #[.int .i64 (st:Int),vn,.int .i64 (sh:Int)] 128 (0,0))->Q .normal ⟨(v0::v1::v2::v3::v4::v5::v6::v7::v8::v9::t0::t1::t2::(Value.slice (some ⟨lg,0,none⟩) p p)::(Value.int .i64 (kk:Int))::(Value.pointer (some ⟨a9,0,none⟩))::(Value.int .i64 (i:Int))::vf::t3::t4::t5::t6::t7::t8::t9::s0::s1::s2::s3::s4::s5::s6::s7::s8::s9::r0::r1::r2::r3::r4::r5::r6::r7::r8::r9::q3::q4::q5::q6::q7::q8::p0::p1::p2::p3::p4::p5::p6::p7::p8::p9::o0::o1::o2::o3::o4::o5::o6::o7::o8::o9::n0::n1::n2::n3::n4::n5::n6::n7::n8::n9::m0::m1::m2::m3::m4::m5::m6::m7::m8::m9::l0::l1::l2::l3::l4::l5::l6::l7::l8::j1::j2::j3::j4::j5::j6::j7::j8::j9::i0::i1::i2::i3::i4::i5::i6::i7::i8::i9::g0::g1::g2::g3::g4::g5::g6::g7::g8::g9::f0::f1::f2::f3::f4::f5::f6::f7::f8::e0::e1::e2::e3::e4::e5::e6::e7::e8::e9::d0::d1::d2::d3::d4::d5::d6::d7::d8::d9::c0::c1::c2::c3::c4::c5::c6::c7::c8::c9::b0::b1::b2::b3::b4::b5::b6::b7::b8::b9::a0::a1::a2::a3::z182::z183::z184::z185::z186::z187::z188::z189::z190::a4::a5::a6::a7::[]).toArray,[]⟩ w'):Code.wp Tryz.prog (reg Tryz.f51 32) Q ⟨(v0::v1::v2::v3::v4::v5::v6::v7::v8::v9::t0::t1::t2::(Value.slice (some ⟨lg,0,none⟩) p p)::(Value.int .i64 (kk:Int))::(Value.pointer (some ⟨a9,0,none⟩))::(Value.int .i64 (i:Int))::vf::t3::t4::t5::t6::t7::t8::t9::s0::s1::s2::s3::s4::s5::s6::s7::s8::s9::r0::r1::r2::r3::r4::r5::r6::r7::r8::r9::q3::q4::q5::q6::q7::q8::p0::p1::p2::p3::p4::p5::p6::p7::p8::p9::o0::o1::o2::o3::o4::o5::o6::o7::o8::o9::n0::n1::n2::n3::n4::n5::n6::n7::n8::n9::m0::m1::m2::m3::m4::m5::m6::m7::m8::m9::l0::l1::l2::l3::l4::l5::l6::l7::l8::j1::j2::j3::j4::j5::j6::j7::j8::j9::i0::i1::i2::i3::i4::i5::i6::i7::i8::i9::g0::g1::g2::g3::g4::g5::g6::g7::g8::g9::f0::f1::f2::f3::f4::f5::f6::f7::f8::e0::e1::e2::e3::e4::e5::e6::e7::e8::e9::d0::d1::d2::d3::d4::d5::d6::d7::d8::d9::c0::c1::c2::c3::c4::c5::c6::c7::c8::c9::b0::b1::b2::b3::b4::b5::b6::b7::b8::b9::a0::a1::a2::a3::k0::k1::k2::k3::k4::k5::k6::k7::k8::a4::a5::a6::a7::[]).toArray,[]⟩ w:=by
 obtain⟨h9,H2⟩:=h.arrL;have h5:=h.ownC
 have h0:∀W:World,w.grownBy W none->W.cell? ⟨lg,kk,none⟩=some (.slice (some ⟨bg,0,none⟩) m m)/\W.cell? ⟨a9,0,none⟩=some (.int .i64 (st:Int))/\W.cell? ⟨a9,1,none⟩=some vn/\W.cell? ⟨a9,2,none⟩=some (.int .i64 (sh:Int)):=fun W hg=>by
  have h4:=zB k9 hg;have q0:=zH h4 0;have q1:=zH h4 1;have q2:=zH h4 2;simp only[List.getElem_toArray,List.getElem_cons_zero,List.getElem_cons_succ]at q0 q1 q2;exact⟨pJ (h9.kept hg (by simp)) hh,q0,q1,q2⟩
 have h1:∀W:World,w.grownBy W none->W.cell? ⟨bg,i,none⟩=some (.bool (bs.getD i false))/\W.frozen? ⟨bg,i,none⟩=false:=fun W hg=>by
  have hA:Arr W bg 4 (bls bs):=Arr.of_owns (zY h5 hg);exact⟨hA.bool i (by omega),hA.frozen i⟩
 obtain⟨H,H4,H5,H6⟩:=K4 h h1 a8 k9;have H1:Hid (bg≠a9):=Kh (fun e=>zV h5 k9 (by decide) (by rw[e];rfl));have H8:(i:Int)<m:=by omega
 have H7:(kk:Int)<p:=by omega
 clear h h1 a8 h9 H2 h5 hh k9;have H0:Hid (∀W:World,w.grownBy W none->W.cell? ⟨lg,kk,none⟩=some (.slice (some ⟨bg,0,none⟩) m m)/\W.cell? ⟨a9,0,none⟩=some (.int .i64 (st:Int))/\W.cell? ⟨a9,1,none⟩=some vn/\W.cell? ⟨a9,2,none⟩=some (.int .i64 (sh:Int))):=Kh (fun W hg=>h0 W hg);clear h0
 conv=>arg 2;whnf
 obtain⟨w7,h3⟩:=Nm w.drew;have h8:w.grownBy w7 none:=by rw[h3];exact zS w none
 have H3:=Kh h3;have h6:=Kh h8;clear h3 h8;refine wp_region_noPanic ?_;refine yM (G:=wH 9 (fun _=>True) (fun W=>W.cell? ⟨lg,kk,none⟩=some (.slice (some ⟨bg,0,none⟩) m m)/\W.cell? ⟨a9,0,none⟩=some (.int .i64 (st:Int))/\W.cell? ⟨a9,1,none⟩=some vn/\W.cell? ⟨a9,2,none⟩=some (.int .i64 (sh:Int)))) (by kernel_rfl) ?_;rw[<-H3.out];have C:=Kh (H0.out w7 h6.out);refine zO 0 ⟨trivial,fun _=>C.out⟩ ?_;refine zO 1 ⟨trivial,fun _=>C.out⟩ ?_;refine zO 2 ⟨trivial,fun _=>C.out⟩ ?_;refine yY 3 ⟨trivial,fun _=>C.out⟩ ?_;refine zO 4 ⟨trivial,fun _=>C.out⟩ ?_;refine yY 5 ⟨trivial,fun _=>C.out⟩ ?_;refine zO 6 ⟨trivial,fun _=>C.out⟩ ?_;refine oneG (i:=7) (by kernel_rfl) rfl (fun K hK=>?_);go_simp
 go_at_call 81
 refine(H5.out w7 h6.out).mono ?_;rintro e w8 ⟨rfl,h7⟩;have h2:=Kh (zC h6.out h7);have C8:=Kh (H0.out w8 h2.out);refine hK.out _ _ ⟨trivial,fun _=>C8.out⟩ ?_;clear hK K C h7
 try simp only[Act.put,sPd,sPe,sPf,sPa,sPb,sPc]
 refine zO 8 ⟨trivial,fun _=>C8.out⟩ ?_;obtain⟨q9,f9⟩:=H4.out w8 h2.out;refine oneG (i:=9) (by kernel_rfl) rfl (fun K hK=>?_);go_simp;refine hK.out _ _ ⟨trivial,fun h=>by simp at h⟩ ?_;clear hK K q9 f9
 try simp only[Act.put,sPd,sPe,sPf,sPa,sPb,sPc]
 refine tT (by kernel_rfl) ?_ _;refine NoPanic.normal ?_;exact j0 _ _ _ _ _ _ _ _ _  _ ((H.out.grow h2.out).putC hi c) (zB (zB H6.out h2.out) (zF w8 ⟨bg,i,none⟩ (.bool c)) (fun e=>H1.out (Oj e)))
structure PartV where
 st:Nat
 fin:List Bool
 sh:Nat
deriving Inhabited
def accP (p:PartV)(el:List (List Nat)):List Bool:=el.map fun f=>p.fin.getD (f.getD p.st 0-p.sh) false
theorem qPP (st:Nat)(fin:List Bool)(el:List (List Nat)):accP ⟨st,fin,0⟩ el=accE fin st el:=rfl
def qAU (B:Nat)(w:World)(pb po:Nat)(ps:List PartV):Prop:=∀j,j<ps.length->∃vf,w.cell? ⟨pb,po+j*3,none⟩=some (.int .i64 ((ps.getD j default).st:Nat))/\w.cell? ⟨pb,po+j*3+1,none⟩=some vf/\w.cell? ⟨pb,po+j*3+2,none⟩=some (.int .i64 ((ps.getD j default).sh:Nat))/\Row B w vf (bls (ps.getD j default).fin)
theorem qAU.kept {B:Nat}{w w':World}{pb po:Nat}{ps:List PartV}(h:qAU B w pb po ps)(hg:w.grownBy w' none):qAU B w' pb po ps:=fun j hj=>by
 obtain⟨vf,h1,h2,h3,h4⟩:=h j hj
 exact⟨vf,zK h1 hg,zK h2 hg,zK h3 hg,h4.kept hg (by simp)⟩
theorem vQ.boolP {w:World}{b off:Nat}{bs:List Bool}(h:vQ w b off (bls bs))(i:Nat)(hi:i<bs.length):w.cell? ⟨b,off+i,none⟩=some (.bool (bs.getD i false)):=by
 rw[h.map (f:=Value.bool) i hi,zN hi]
theorem qIF (B C:Nat)(w:World)(vf fv:Value)(fin:List Bool)(f:List Nat)(st sh:Nat)(h:Row B w vf (bls fin))(hf:Row C w fv (nats f))(a9:st<f.length)(h1:sh<=f.getD st 0)(h2:f.getD st 0<sh+fin.length)(hb:sh+fin.length<=4096):Calls Tryz.prog 81 #[.agg #[.int .i64 (st:Int),vf,.int .i64 (sh:Int)],fv] w fun e w'=>e=.returned (.bool (fin.getD (f.getD st 0-sh) false))/\w.grownBy w' none:=by
 obtain⟨x,hx⟩:=Nm (f.getD st 0);rw[<-hx]at h1 h2⊢;obtain⟨fb,fo,fc,rfl,_,H1,H0,h7⟩:=h.some_ (by rw[zX];omega);obtain⟨gb,go,gc,rfl,_,h9,h8,h6⟩:=hf.some_ (by rw[zT];omega);rw[zX]at H1⊢;rw[zT]at h9⊢;unfold maxLen at H0 h8;obtain⟨wA,h4⟩:=Nm (w.alloc (.cells #[.int .i64 (st:Int),.slice (some ⟨fb,fo,none⟩) fin.length fc,.int .i64 (sh:Int)] 128));have h3:w.grownBy wA none:=by rw[h4];exact Ga w _ none
 have h0:=heap_alloc_new w (.cells #[.int .i64 (st:Int),.slice (some ⟨fb,fo,none⟩) fin.length fc,.int .i64 (sh:Int)] 128);rw[<-h4]at h0;obtain⟨P,hP⟩:=Nm w.heap.size;rw[<-hP]at h0;have q0:=zH h0 0;have q1:=zH h0 1;have q2:=zH h0 2;simp only[List.getElem_toArray,List.getElem_cons_zero,List.getElem_cons_succ]at q0 q1 q2;have cx:=zK (h6.nat st a9) h3;rw[<-hx]at cx;have cy:=zK (h7.boolP (x-sh) (by omega)) h3;obtain⟨y,hy⟩:=Nm (fin.getD (x-sh) false);obtain⟨z,hz⟩:=Nm (x-sh);rw[<-hy]at cy⊢;rw[<-hz]at cy;have h5:(x:Int)-(sh:Int)=(z:Int):=by omega
 have H7:IntKind.i64.wrap ((x:Int)-(sh:Int))=(z:Int):=by rw[h5];exact xJ (by omega)
 have H5:(z:Int)<fin.length:=by omega
 have H6:(st:Int)<f.length:=by omega
 obtain⟨H4,H2,H3⟩:=K3 h3 h4 hP;clear h hf h7 h6 hx hy hz h3 h4 h0 hP h5;go_enter Tryz.func81,Tryz.ntmps81;go_upto_region 1 with fail;rw[<-H2.out,<-H3.out]
 go_quiet (fail)
 go_wp2;go_ret;exact⟨rfl,zC H4.out (zQ wA _ none)⟩
structure EnuAt (B:Nat)(w:World)(b5 m n k:Nat)(el:List (List Nat))(pr la:List Int)(ri:List (List Nat))(qb qo qc lb lo lc rb rf rd eb eo ec:Nat):Prop where
 c3:w.cell? ⟨b5,3,none⟩=some (.slice (some ⟨eb,eo,none⟩) m ec)
 c4:w.cell? ⟨b5,4,none⟩=some (.slice (some ⟨qb,qo,none⟩) m qc)
 c5:w.cell? ⟨b5,5,none⟩=some (.slice (some ⟨lb,lo,none⟩) m lc)
 c6:w.cell? ⟨b5,6,none⟩=some (.slice (some ⟨rb,rf,none⟩) m rd)
 qc1:m<=qc/\qc<=maxLen
 lc1:m<=lc/\lc<=maxLen
 rc1:m<=rd/\rd<=maxLen
 ec1:m<=ec/\ec<=maxLen
 q:∀i,i<m->w.cell? ⟨qb,qo+i,none⟩=some (.int .i64 (pr.getD i 0))
 l:∀i,i<m->w.cell? ⟨lb,lo+i,none⟩=some (.int .i64 (la.getD i 0))
 r:∀i,i<m->∃sb so sc,w.cell? ⟨rb,rf+i,none⟩=some (.slice (some ⟨sb,so,none⟩) k sc)/\(k<=sc/\sc<=maxLen)/\Row B w (.slice (some ⟨sb,so,none⟩) k sc) (nats (ri.getD i []))/\∀a,a<k->w.cell? ⟨sb,so+a,none⟩=some (.int .i64 (((ri.getD i []).getD a 0:Nat):Int))
 e:∀i,i<m->∃v,w.cell? ⟨eb,eo+i,none⟩=some v/\Row B w v (nats (el.getD i []))
theorem EnuAt.kept {B:Nat}{w w':World}{b5 m n k:Nat}{el:List (List Nat)}{pr la:List Int}{ri:List (List Nat)}{qb qo qc lb lo lc rb rf rd eb eo ec:Nat}(h:EnuAt B w b5 m n k el pr la ri qb qo qc lb lo lc rb rf rd eb eo ec)(hg:w.grownBy w' none):EnuAt B w' b5 m n k el pr la ri qb qo qc lb lo lc rb rf rd eb eo ec :=
 ⟨zK h.c3 hg,zK h.c4 hg,zK h.c5 hg,zK h.c6 hg,h.qc1,h.lc1,h.rc1,h.ec1,fun i hi=>zK (h.q i hi) hg,fun i hi=>zK (h.l i hi) hg,fun i hi=>by
  obtain⟨sb,so,sc,h1,h2,h3,h4⟩:=h.r i hi
  exact⟨sb,so,sc,zK h1 hg,h2,h3.kept hg (by simp),fun a ha=>zK (h4 a ha) hg⟩,fun i hi=>by
  obtain⟨v,h1,h2⟩:=h.e i hi
  exact⟨v,zK h1 hg,h2.kept hg (by simp)⟩⟩
theorem EnuAt.of {w:World}{b5 m n k u cG cE cP cL cR cU:Nat}{sG sE sP sL sR sU:Option Addr}{el:List (List Nat)}{pr la:List Int}{ri:List (List Nat)}(hb:w.heap[b5]?=some (.cells #[.int .i64 n,.bool true,.slice sG k cG,.slice sE m cE,.slice sP m cP,.slice sL m cL,.slice sR m cR,.slice sU u cU,.int .i64 m] 106 (0,0)))(hE:TMat w.heap.size w (.slice sE m cE) el)(hP:Row w.heap.size w (.slice sP m cP) (ints pr))(hL:Row w.heap.size w (.slice sL m cL) (ints la))(hR:TMat w.heap.size w (.slice sR m cR) ri)(he:el.length=m)(hp:pr.length=m)(hl:la.length=m)(hr:ri.length=m)(a9:∀i,i<m->(ri.getD i []).length=k)(hm:1<=m)(hk:1<=k):∃(qb qo lb lo rb rf eb eo:Nat),sP=some ⟨qb,qo,none⟩/\sL=some ⟨lb,lo,none⟩/\sR=some ⟨rb,rf,none⟩/\sE=some ⟨eb,eo,none⟩/\EnuAt w.heap.size w b5 m n k el pr la ri qb qo cP lb lo cL rb rf cR eb eo cE:=by
 obtain⟨q0,q1,q2,q3,q4,q5,q6,q7,q8⟩:=zZ hb;obtain⟨qb,qo,cp,e1,_,p1,p2,p3⟩:=hP.some_ (by rw[zJ];omega);obtain⟨lb,lo,cl,e2,_,l1,l2,l3⟩:=hL.some_ (by rw[zJ];omega);obtain⟨rb,rf,cr,e3,r1,r2,_,_,r3⟩:=hR.head (by omega);obtain⟨eb,eo,ce,e4,s1,s2,_,_,s3⟩:=hE.head (by omega);rw[zJ,hp]at p1 e1;rw[zJ,hl]at l1 e2;rw[hr]at r1 e3;rw[he]at s1 e4;simp only[Value.slice.injEq,true_and]at e1 e2 e3 e4;obtain⟨rfl,rfl⟩:=e1;obtain⟨rfl,rfl⟩:=e2;obtain⟨rfl,rfl⟩:=e3;obtain⟨rfl,rfl⟩:=e4;refine⟨qb,qo,lb,lo,rb,rf,eb,eo,rfl,rfl,rfl,rfl,q3,q4,q5,q6,⟨p1,p2⟩,⟨l1,l2⟩,⟨r1,r2⟩,⟨s1,s2⟩,fun i hi=>p3.int i (by omega),fun i hi=>l3.int i (by omega),fun i hi=>?_,fun i hi=>?_⟩
 ·obtain⟨a,c,h1,h2⟩:=r3 i (by omega)
  rw[a9 i hi]at h1 h2;obtain⟨sb,so,sc,e5,_,t1,t2,t3⟩:=h2.row.some_ (by rw[zT,a9 i hi];omega);rw[zT,a9 i hi]at e5 t1;simp only[Value.slice.injEq,true_and]at e5;obtain⟨rfl,rfl⟩:=e5;exact⟨sb,so,c,h1,⟨t1,t2⟩,h2.row,fun a ha=>t3.nat a (by rw[a9 i hi];exact ha)⟩
 obtain⟨a,c,h1,h2⟩:=s3 i (by omega);exact⟨_,h1,h2.row⟩
end Go.Proofs.YtobakifdllameaaGreat
namespace Go.Proofs.YtobakifdllameaaGreat
theorem iE (ts:List (List Nat))(x y:Nat):entN (tabI ts) x y=(ts.getD x []).getD y 0:=by rw[entN,jN,Int.toNat_natCast]
def tF (ri:List (List Nat)):Bool:=ri.any fun r=>decide (0∈r)
def pluE (m:Nat)(b:Bool):List Bool:=b::List.replicate (m-1) true
section
variable {gs el:List (List Nat)} {n:Nat} {pr la:List Int} {ri:List (List Nat)}
theorem Enm.img (h:Enm gs n el pr la ri el.length)(hg:∀g∈gs,IsT n g):ri.getD 0 []=imgE gs el:=by
 obtain⟨h0,hl,hr⟩:=h.row 0 h.en.pos;refine List.ext_getElem (by rw[kW];exact hl) fun a h1 h2=>?_;have ha:a<gs.length:=by rw[<-hl];exact h1
 obtain⟨h3,h4⟩:=hr a ha;rw[h.en.one,fQ (hg _ (uW ha))]at h4;have e:(ri.getD 0 []).getD a 0=(ri.getD 0 [])[a]:=zN h1;have hm:gs.getD a []∈el:=h.image hg ha;rw[<-e];simp only[imgE,List.getElem_map];rw[<-zN (d:=[]) ha];refine oO (d:=[]) h.en.nodup h3 (List.idxOf_lt_length_of_mem hm) ?_;rw[h4,bK hm]
theorem Enm.tabR (h:Enm gs n el pr la ri el.length)(hg:∀g∈gs,IsT n g){q a:Nat}(hq:q<el.length)(ha:a<gs.length):entN (tabI (tabE pr la ri el.length)) q ((ri.getD 0 []).getD a 0)=(ri.getD q []).getD a 0:=by
 rw[iE];obtain⟨h3,h4⟩:=(h.row 0 h.en.pos).2.2 a ha;obtain⟨h5,h6⟩:=(h.row q hq).2.2 a ha;obtain⟨h7,h8⟩:=h.tab hg hq h3;refine oO (d:=[]) h.en.nodup h7 h5 ?_;rw[h8,h6,h4,h.en.one,fQ (hg _ (uW ha))]
theorem Enm.img_gen (h:Enm gs n el pr la ri el.length){a:Nat}(ha:a<gs.length):Gen (tabI (tabE pr la ri el.length)) (ri.getD 0 []) ((ri.getD 0 []).getD a 0) :=
 .base _ (uW (by rw[(h.row 0 h.en.pos).2.1];exact ha))
theorem Enm.rowGen (h:Enm gs n el pr la ri el.length)(hg:∀g∈gs,IsT n g){q a:Nat}(hq:q<el.length)(ha:a<gs.length)(hG:q=0\/Gen (tabI (tabE pr la ri el.length)) (ri.getD 0 []) q):Gen (tabI (tabE pr la ri el.length)) (ri.getD 0 []) ((ri.getD q []).getD a 0):=by
 rcases hG with rfl|hG
 ·exact h.img_gen ha
 rw[<-h.tabR hg hq ha];exact .mul _ _ hG (h.img_gen ha)
theorem Enm.last (h:Enm gs n el pr la ri el.length){x:Nat}(hx:x<el.length)(h0:x≠0):∃p a,p<x/\a<gs.length/\vK pr la x=vK pr la p++[a]/\(ri.getD p []).getD a 0=x:=by
 rcases h.en.val x hx with ⟨_,h2⟩|⟨h1,h2⟩
 ·exact absurd h2 h0
 rcases h.en.words x hx with h3|⟨h3,h4,h5,h6⟩
 ·exact absurd h3 h1
 refine⟨(pr.getD x 0).toNat,(la.getD x 0).toNat,by omega,by omega,oD h.en.words hx h1,?_⟩;obtain⟨h7,h8⟩:=(h.row (pr.getD x 0).toNat (by omega)).2.2 (la.getD x 0).toNat (by omega);exact oO (d:=[]) h.en.nodup h7 hx (by rw[h8,h2])
theorem Enm.genNZ (h:Enm gs n el pr la ri el.length)(hg:∀g∈gs,IsT n g):∀x,x<el.length->x≠0->Gen (tabI (tabE pr la ri el.length)) (ri.getD 0 []) x:=by
 intro x
 induction x using Nat.strongRecOn with
 | ind x ih =>
  intro hx h0;obtain⟨p,a,hp,ha,_,e⟩:=h.last hx h0;rw[<-e];refine h.rowGen hg (by omega) ha ?_;rcases Nat.eq_zero_or_pos p with h1|h1
  ·exact .inl h1
  exact .inr (ih p hp (by omega) (by omega))
theorem qAX {q a:Nat}(h:Enm gs n el pr la ri el.length)(hq:q<el.length)(ha:a<gs.length)(e:(ri.getD q []).getD a 0=0):tF ri=true:=by
 refine List.any_eq_true.2 ⟨ri.getD q [],uW (by rw[h.rl];exact hq),decide_eq_true ?_⟩;rw[<-e];exact uW (by rw[(h.row q hq).2.1];exact ha)
theorem qKA (h:Enm gs n el pr la ri el.length)(hz:tF ri=true):∃q a,q<el.length/\a<gs.length/\(ri.getD q []).getD a 0=0:=by
 obtain⟨r,hr,h0⟩:=List.any_eq_true.1 hz;have h0:=of_decide_eq_true h0;obtain⟨q,hq,rfl⟩:=List.getElem_of_mem hr;obtain⟨a,ha,e⟩:=List.getElem_of_mem h0;have h1:q<el.length:=by rw[<-h.rl];exact hq
 have hl:=(h.row q h1).2.1;rw[zN hq]at hl;refine⟨q,a,h1,by rw[<-hl];exact ha,?_⟩;rw[zN hq,zN ha,e]
theorem synP {st:Nat}{fin:List Bool}(h:FinE gs n el pr la ri el.length)(hg:∀g∈gs,IsT n g)(hl:el.length<=400):SynE gs n st fin ⟨gs.length,tabE pr la ri el.length,vJ pr la el.length,ri.getD 0 [],accE fin st el,pluE el.length (tF ri)⟩:=by
 have hE:=h.toEnm;obtain⟨mm,h7⟩:=Nm ((List.range el.length).filter fun x=>decide (x≠0) || tF ri)
 have h4:∀x,x∈mm↔x<el.length/\(x≠0\/tF ri=true):=fun x=>by
  rw[h7,List.mem_filter,List.mem_range,Bool.or_eq_true,decide_eq_true_eq]
 have h8:∀x∈ri.getD 0 [],∃a,a<gs.length/\x=(ri.getD 0 []).getD a 0:=fun x hx=>by
  obtain⟨a,ha,e⟩:=List.getElem_of_mem hx;exact⟨a,by rw[<-(hE.row 0 hE.en.pos).2.1];exact ha,by rw[zN ha,e]⟩
 have hG:GenI (tabI (tabE pr la ri el.length)) (ri.getD 0 []) mm:=by
  refine⟨by rw[h7];exact List.Pairwise.filter _ List.nodup_range,fun x hx=>?_,fun x hx=>?_,fun x hx=>?_⟩
  ·rw[xK,wQ];exact((h4 x).1 hx).1
  ·obtain⟨a,ha,rfl⟩:=h8 x hx
   refine(h4 _).2 ⟨((hE.row 0 hE.en.pos).2.2 a ha).1,?_⟩;by_cases e:(ri.getD 0 []).getD a 0=0
   ·exact .inr (qAX hE hE.en.pos ha e)
   exact .inl e
  obtain⟨h1,h2⟩:=(h4 x).1 hx;by_cases h0:x=0
  ·subst h0
   rcases h2 with h2|h2
   ·exact absurd rfl h2
   obtain⟨q,a,hq,ha,e⟩:=qKA hE h2
   have:=hE.rowGen hg hq ha (by
    rcases Nat.eq_zero_or_pos q with h3|h3
    ·exact .inl h3
    exact .inr (hE.genNZ hg q hq (by omega)))
   rwa [e]at this
  exact hE.genNZ hg x h1 h0
 have hC:oB (tabI (tabE pr la ri el.length)) mm:=by
  intro x hx y hy;obtain⟨h1,_⟩:=(h4 x).1 hx;obtain⟨h3,_⟩:=(h4 y).1 hy;obtain⟨h5,h6⟩:=hE.tab hg h1 h3;by_cases h0:y=0
  ·subst h0
   have e:entN (tabI (tabE pr la ri el.length)) x 0=x:=by
    rw[iE];exact oO (d:=[]) hE.en.nodup h5 h1 (by rw[h6,hE.en.one,qDD (hE.en.it _ (uW h1))])
   rw[e];exact hx
  refine(h4 _).2 ⟨by rw[iE];exact h5,?_⟩;by_cases hz:entN (tabI (tabE pr la ri el.length)) x y=0
  ·refine .inr ?_
   obtain⟨p,a,hp,ha,hw,_⟩:=hE.last h3 h0
   have e:entN (tabI (tabE pr la ri el.length)) x y=atW ri x (vK pr la y):=by
    rw[iE,zN (l:=tabE pr la ri el.length) (by rw[wQ];exact h1)];simp only[tabE,List.getElem_map,List.getElem_range];rw[zN (by rw[tZ];exact h3)];simp only[rowE,List.getElem_map,List.getElem_range]
   rw[e,hw,fR]at hz;exact qAX hE (hE.at hg h1 _ (oY hE.en.words p (by omega)).1).1 ha hz
  exact .inl hz
 refine⟨el,pr,la,ri,mm,h,hl,rfl,rfl,rfl,hE.img hg,rfl,hG,hC,?_⟩;rw[qBU,qFV];refine List.ext_getElem (by have:=hE.en.pos;simp[metL,pluE];omega) fun i h1 h2=>?_;have hi:i<el.length:=by simpa [metL] using h2
 simp only[metL,List.getElem_map,List.getElem_range]
 match i with
 | 0 =>
  show tF ri=decide (0∈mm);rw[Bool.eq_iff_iff,decide_eq_true_eq,h4];exact⟨fun h=>⟨hi,.inr h⟩,fun h=>h.2.resolve_left (fun h=>h rfl)⟩
 | i+1 =>
  have e:(pluE el.length (tF ri))[i+1]=true:=by simp[pluE]
  rw[e];exact(decide_eq_true ((h4 _).2 ⟨hi,.inl (by omega)⟩)).symm
end
open Go.RowKit
def qDO (pr la:List Int)(y:Nat):Value:=.string (strOfNums (lets (vK pr la y)))
def wRow (pr la:List Int)(m i:Nat):List Value:=(List.range m).map fun y=>if y<i then qDO pr la y else .string ⟨#[]⟩
def mRow (m i:Nat):List Bool:=(List.range m).map fun y=>decide (1<=y/\y<i)
def tRow (pr la:List Int)(ri:List (List Nat))(m i j:Nat):List Nat:=(List.range m).map fun y=>if y<j then atW ri i (vK pr la y) else 0
section
variable {pr la:List Int} {ri:List (List Nat)} {m i j:Nat}
theorem fW:(tRow pr la ri m i j).length=m:=by simp[tRow]
theorem qML {y:Nat}(hy:y<m)(hi:y<i):(wRow pr la m i)[y]?=some (qDO pr la y):=by
 simp[wRow,hy,hi]
theorem qMK (hm:1<=m)(h:la.getD 0 0<0):wRow pr la m 1=List.replicate m (.string ⟨#[]⟩):=by
 refine List.ext_getElem (by simp[wRow]) fun y h1 h2=>?_;simp only[wRow,List.getElem_map,List.getElem_range,List.getElem_replicate]
 split
 ·have:y=0:=by omega
  subst this;rw[qDO,oC h];rfl
 rfl
theorem qMJ:(wRow pr la m i).set i (qDO pr la i)=wRow pr la m (i+1):=by
 refine List.ext_getElem (by simp[wRow]) fun y h1 h2=>?_;rw[List.getElem_set];simp only[wRow,List.getElem_map,List.getElem_range]
 split
 ·rename_i e;subst e;rw[if_pos (by omega)]
 by_cases h:y<i
 ·rw[if_pos h,if_pos (by omega)]
 rw[if_neg h,if_neg (by omega)]
theorem qMM:wRow pr la m m=sZ (vJ pr la m):=by
 refine List.ext_getElem (by simp[wRow,sZ,vJ]) fun y h1 h2=>?_;simp only[wRow,sZ,vJ,List.getElem_map,List.getElem_range];rw[if_pos (by simpa [wRow] using h1)];rfl
theorem qOJ:mRow m 1=List.replicate m false:=by
 refine List.ext_getElem (by simp[mRow]) fun y h1 h2=>?_;simp only[mRow,List.getElem_map,List.getElem_range,List.getElem_replicate];exact decide_eq_false (by omega)
theorem qOI (hi:1<=i):(mRow m i).set i true=mRow m (i+1):=by
 refine List.ext_getElem (by simp[mRow]) fun y h1 h2=>?_;rw[List.getElem_set];simp only[mRow,List.getElem_map,List.getElem_range]
 split
 ·rename_i e;subst e;exact(decide_eq_true (by omega)).symm
 exact decide_eq_decide.2 (by omega)
theorem qOK (hm:1<=m):mRow m m=pluE m false:=by
 refine List.ext_getElem (by simp[mRow,pluE];omega) fun y h1 h2=>?_;have hy:y<m:=by simpa [mRow] using h1
 simp only[mRow,List.getElem_map,List.getElem_range]
 match y with
 | 0 =>
  show decide (1<=0/\0<m)=false;exact decide_eq_false (by omega)
 | y+1 =>
  have e:(pluE m false)[y+1]=true:=by simp[pluE]
  rw[e];exact decide_eq_true (by omega)
theorem qNC (m:Nat)(b c:Bool):(pluE m b).set 0 c=pluE m c:=rfl
theorem qDM (hi:i<ri.length):tF (ri.take (i+1))=(tF (ri.take i) || decide (0∈ri.getD i [])):=by
 rw[yB (d:=[]) hi,tF,List.any_append];simp[tF]
theorem qMT (h:la.getD 0 0<0):(List.replicate m 0).set 0 i=tRow pr la ri m i 1:=by
 refine List.ext_getElem (by simp[tRow]) fun y h1 h2=>?_;rw[List.getElem_set];simp only[tRow,List.getElem_map,List.getElem_range,List.getElem_replicate]
 split
 ·rename_i e;subst e;rw[if_pos (by omega),oC h];rfl
 rw[if_neg (by omega)]
theorem qMU {y:Nat}(hy:y<m)(hj:y<j):(tRow pr la ri m i j).getD y 0=atW ri i (vK pr la y):=by
 rw[zN (by rw[fW];exact hy)];simp only[tRow,List.getElem_map,List.getElem_range];rw[if_pos hj]
theorem qMS:(tRow pr la ri m i j).set j (atW ri i (vK pr la j))=tRow pr la ri m i (j+1):=by
 refine List.ext_getElem (by simp[tRow]) fun y h1 h2=>?_;rw[List.getElem_set];simp only[tRow,List.getElem_map,List.getElem_range]
 split
 ·rename_i e;subst e;rw[if_pos (by omega)]
 by_cases h:y<j
 ·rw[if_pos h,if_pos (by omega)]
 rw[if_neg h,if_neg (by omega)]
theorem qMV:tRow pr la ri m i m=rowE pr la ri m i:=by
 refine List.ext_getElem (by simp[tRow,rowE]) fun y h1 h2=>?_;simp only[tRow,rowE,List.getElem_map,List.getElem_range];rw[if_pos (by simpa [tRow] using h1)]
end
section
variable {gs el:List (List Nat)} {n:Nat} {pr la:List Int} {ri:List (List Nat)}
theorem Enm.step (h:Enm gs n el pr la ri el.length){i:Nat}(hi:i<el.length)(h0:1<=i):∃p a:Nat,pr.getD i 0=(p:Int)/\la.getD i 0=(a:Int)/\p<i/\a<gs.length/\vK pr la i=vK pr la p++[a]/\qDO pr la i=.string (strOfNums (lets (vK pr la p))++strOfNums [97+(a:Int)])/\(vK pr la p).length<=p/\∀x,atW ri x (vK pr la i)=(ri.getD (atW ri x (vK pr la p)) []).getD a 0:=by
 rcases h.en.val i hi with ⟨_,h2⟩|⟨h1,h2⟩
 ·omega
 rcases h.en.words i hi with h3|⟨h3,h4,h5,h6⟩
 ·exact absurd h3 h1
 have hw:=oD h.en.words hi h1;refine⟨(pr.getD i 0).toNat,(la.getD i 0).toNat,by omega,by omega,by omega,by omega,hw,?_,(oY h.en.words _ (by omega)).2,fun x=>by rw[hw,fR]⟩;rw[qDO,hw,qFJ];simp[lets]
theorem Enm.zero (h:Enm gs n el pr la ri el.length):la.getD 0 0<0:=by
 rcases h.en.words 0 h.en.pos with h3|⟨_,_,_,h6⟩
 ·exact h3
 omega
end
end Go.Proofs.YtobakifdllameaaGreat
