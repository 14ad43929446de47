/- Part 17 of the proof. -/
import Derived.Test.YtiknckajkdlppaaGreatQb16
set_option linter.unusedVariables false
set_option linter.unusedSimpArgs false
set_option maxRecDepth 100000
set_option maxHeartbeats 16000000
namespace Go.Proofs.YtiknckajkdlppaaGreat
open Go.Maps Go.RowKit
variable{Q:Exit->Act->World->Prop}{v0 v1 v2 v3 v4 v5 v6 v7 v9 t9 s0 s1 s2 s3 s4 s5 s6 s7 s8 s9 r0 r1 r2 r3 r4 r5 r6 r7 r8 r9 q3 q4 q5 q6 q7 q8 p0 p1 p2 p3 p4 p5 p6 p7 p8 p9 o0 o1 o2 o3 o4 o5 o6 o7 o8 o9 n0 n1 n2 n3 n4 n5 n6 n7 n8 n9 m0 m1 m2 m3 m4 m5 m6 m7 m8 m9 l0 l1 l2 l3 l4 l5 l6 l7 l8 k0 k1 t1 t2 t3 t4 t5 t6 t7 k2 k3 k4 k5 k6 k7 k8 j1 j2 j3 j4 j5 j6 j7 j8 j9 i0 i1 i2 i3 i4 i5 i6 i7 i8 i9 g0 g1 g2 g3 g4 g5 g6 g7 g8 g9 f0 f1 f2 f3 f4 f5 f6 f7 f8 e0 e1 e2 e3 e4 e5 e6 e7 e8 e9 d0 d1 d2 d3 d4 d5 d6 d7 d8 d9 c0 c1 c2 c3 c4 c5 c6 c7 c8 b0 b1 b2 b3 b4 b5 b6 b7 b8 b9 a0 a1 a2 a3 a4 a5 a6 a7:Value}{bg i n:Nat}{bs:List Bool}{el ri:List (List Nat)}{pr la:List Int}
theorem qQY {q0 q1 q9 l9 k9 j0 a8:Value}{w6 w:World}{o m k tg wg ig ic pg:Nat}{im:List Nat}{t8:List Value}{done:List (List Nat)}{ws:List Value}{ps:List Bool}{tl:List RowS}{vr:Value}{r:List Nat}{b:Bool}(h:MonS w6 o m k tg wg ig ic pg im t8 done ws ps tl w)(hm:0<m)(t0:m<=400)(hb:ps[0]?=some b)(hr:Row w6.heap.size w vr (nats r))(a9:∀(z93 z94 z95 z96 z97 z98 z99 z100 z101 z102 z103:Value) (w':World),MonS w6 o m k tg wg ig ic pg im t8 done ws (ps.set 0 (b || decide (0∈r))) tl w'->Q .normal ⟨(v0::v1::v2::v3::v4::v5::v6::v7::(Value.pointer (some ⟨o,0,none⟩))::v9::t9::vr::s0::s1::s2::s3::s4::s5::s6::s7::s8::s9::r0::r1::r2::r3::r4::r5::r6::r7::r8::r9::q0::q1::q3::q4::q5::q6::q7::q8::q9::p0::p1::p2::p3::p4::p5::p6::p7::p8::p9::o0::o1::o2::o3::o4::o5::o6::o7::o8::o9::n0::n1::n2::n3::n4::n5::n6::n7::n8::n9::m0::m1::m2::m3::m4::m5::m6::m7::m8::m9::l0::l1::l2::l3::l4::l5::l6::l7::l8::l9::k0::k1::z93::z94::z95::z96::z97::z98::z99::z100::z101::z102::z103::k6::k7::k8::k9::j0::j1::j2::j3::j4::j5::j6::j7::j8::j9::i0::i1::i2::i3::i4::i5::i6::i7::i8::i9::g0::g1::g2::g3::g4::g5::g6::g7::g8::g9::f0::f1::f2::f3::f4::f5::f6::f7::f8::e0::e1::e2::e3::e4::e5::e6::e7::e8::e9::d0::d1::d2::d3::d4::d5::d6::d7::d8::d9::c0::c1::c2::c3::c4::c5::c6::c7::c8::b0::b1::b2::b3::b4::b5::b6::b7::b8::b9::a0::a1::a2::a3::a4::a5::a6::a7::a8::[]).toArray,[]⟩ w'):Code.wp Tryz.prog (reg Tryz.f70 16) Q ⟨(v0::v1::v2::v3::v4::v5::v6::v7::(Value.pointer (some ⟨o,0,none⟩))::v9::t9::vr::s0::s1::s2::s3::s4::s5::s6::s7::s8::s9::r0::r1::r2::r3::r4::r5::r6::r7::r8::r9::q0::q1::q3::q4::q5::q6::q7::q8::q9::p0::p1::p2::p3::p4::p5::p6::p7::p8::p9::o0::o1::o2::o3::o4::o5::o6::o7::o8::o9::n0::n1::n2::n3::n4::n5::n6::n7::n8::n9::m0::m1::m2::m3::m4::m5::m6::m7::m8::m9::l0::l1::l2::l3::l4::l5::l6::l7::l8::l9::k0::k1::t1::t2::t3::t4::t5::t6::t7::k2::k3::k4::k5::k6::k7::k8::k9::j0::j1::j2::j3::j4::j5::j6::j7::j8::j9::i0::i1::i2::i3::i4::i5::i6::i7::i8::i9::g0::g1::g2::g3::g4::g5::g6::g7::g8::g9::f0::f1::f2::f3::f4::f5::f6::f7::f8::e0::e1::e2::e3::e4::e5::e6::e7::e8::e9::d0::d1::d2::d3::d4::d5::d6::d7::d8::d9::c0::c1::c2::c3::c4::c5::c6::c7::c8::b0::b1::b2::b3::b4::b5::b6::b7::b8::b9::a0::a1::a2::a3::a4::a5::a6::a7::a8::[]).toArray,[]⟩ w:=by
 obtain⟨h7,H0,h9,h3,H7,H6,H5⟩:=h.cells
 have h0:∀W:World,w.grownBy W none->W.cell? ⟨o,5,none⟩=some (.slice (some ⟨pg,0,none⟩) m m)/\W.cell? ⟨pg,0,none⟩=some (.bool b):=fun W hg=>by
  have q2:=zJ (zD h7 hg) 5;simp only[sPd,sPe,sPf]at q2;exact⟨q2,pI (h3.kept hg yq) (by simp[bls,hb])⟩
 have h5:∀W:World,w.grownBy W none->W.frozen? ⟨pg,0,none⟩=false:=fun W hg=>(h3.kept hg yq).frozen 0;have h6:∀W:World,w.grownBy W none->Calls Tryz.prog 84 #[vr,.int .i64 ((0:Nat):Int)] W fun e w'=>e=.returned (.bool (decide (0∈r)))/\w'=W:=fun W hg=>qBY _ W vr r 0 (hr.kept hg yq);obtain⟨H,h8,H2⟩:=Kc h h5 h6;have H4:(0:Int)<m:=yo
 obtain⟨q,hq⟩:=Nm (decide (0∈r));rw[<-hq]at a9;have HQ:=Kh hq;clear h h7 H0 h9 h3 h5 h6 hr hq;have H3:Hid (∀W:World,w.grownBy W none->W.cell? ⟨o,5,none⟩=some (.slice (some ⟨pg,0,none⟩) m m)/\W.cell? ⟨pg,0,none⟩=some (.bool b)):=Kh (fun W hg=>h0 W hg);clear h0
 conv=>arg 2;whnf
 obtain⟨w7,h2⟩:=Nm w.drew;have h4:w.grownBy w7 none:=by rw[h2];exact zY w none
 have H1:=Kh h2;have h1:=Kh h4;clear h2 h4;refine wp_region_noPanic ?_;refine yI (G:=xM 11 (fun _=>True) (fun W=>W.cell? ⟨o,5,none⟩=some (.slice (some ⟨pg,0,none⟩) m m)/\W.cell? ⟨pg,0,none⟩=some (.bool b))) yk ?_;rw[<-H1.out];have C:=Kh (H3.out w7 h1.out);refine zP 0 ?_;refine xD 1 ?_;refine zP 2 ?_;refine xD 3 ?_;refine zP 4 ?_;refine xD 5 ?_;refine zP 6 ?_;cases b with
 | true =>
  refine qSK (i:=7) (v:=undef) rfl rfl yk yk yk (fun _ _ _ h=>h) (Or.inr ⟨by rfl,rfl⟩) ⟨trivial,fun _=>C.out⟩ ?_
  try simp only[Act.put,sPd,sPe,sPf,sPa,sPb,sPc]
  refine jg 8 fun K hK=>?_;rw[if_neg (by simp[Region.wanted,yielded])];refine hK.out _ _ ⟨trivial,fun _=>C.out⟩ ?_;clear hK K
  try simp only[Act.put,sPd,sPe,sPf,sPa,sPb,sPc]
  refine zP 9 ?_;refine zP 10 ?_;have f9:=h8.out _ h1.out;have c9:=C.out.2;refine jg 11 fun K hK=>?_;go_simp;refine hK.out _ _ ⟨trivial,fun h=>by simp at h⟩ ?_;clear hK K f9 c9
  try simp only[Act.put,sPd,sPe,sPf,sPa,sPb,sPc]
  refine uY yk ?_ _;refine NoPanic.normal ?_;exact a9 _ _ _ _ _ _ _ _ _ _ _  _ ((H.out.grow h1.out).putP hm true)
 | false =>
  refine zP 7 ?_;refine jg 8 fun K hK=>?_;go_simp
  go_at_call 84
  refine(H2.out w7 h1.out).mono ?_;rintro e w8 ⟨rfl,rfl⟩;rw[<-HQ.out];refine hK.out _ _ ⟨trivial,fun _=>C.out⟩ ?_;clear hK K
  try simp only[Act.put,sPd,sPe,sPf,sPa,sPb,sPc]
  refine zP 9 ?_;refine zP 10 ?_;have f9:=h8.out _ h1.out;have c9:=C.out.2;refine jg 11 fun K hK=>?_;go_simp;refine hK.out _ _ ⟨trivial,fun h=>by simp at h⟩ ?_;clear hK K f9 c9
  try simp only[Act.put,sPd,sPe,sPf,sPa,sPb,sPc]
  refine uY yk ?_ _;refine NoPanic.normal ?_;exact a9 _ _ _ _ _ _ _ _ _ _ _  _ ((H.out.grow h1.out).putP hm q)
inductive LisS (w6:World)(o m k tg wg ig ic pg:Nat)(im:List Nat)(hsT:List Value)(tab:List (List Nat))(ws:List Value)(ps:List Bool)(lg p:Nat)(hsL:List Value)(dn:List (List Bool))(tl:List RowS)(w:World):Prop
 | mk (X:Nat->Prop) (hB:BoxS w6.heap.size X o 39 w6 w (⟨w6.heap.size,22,.slice (some ⟨tg,0,none⟩) m m,m,hsT,1⟩::⟨w6.heap.size,9,.slice (some ⟨wg,0,none⟩) m m,m,ws,1⟩::⟨w6.heap.size,3,.slice (some ⟨ig,0,none⟩) k ic,k,nats im,1⟩::⟨w6.heap.size,4,.slice (some ⟨pg,0,none⟩) m m,m,bls ps,1⟩::⟨w6.heap.size,26,.slice (some ⟨lg,0,none⟩) p p,p,hsL,1⟩::tl) #[.int .i64 (k:Int),.slice (some ⟨tg,0,none⟩) m m,.slice (some ⟨wg,0,none⟩) m m,.slice (some ⟨ig,0,none⟩) k ic,.slice none 0 0,.slice (some ⟨pg,0,none⟩) m m] w) (hT:xX X 3 nats w (hsT.take tab.length) tab) (hL:xX X 4 bls w (hsL.take dn.length) dn)
section
variable {w6 w w':World} {o m k tg wg ig ic pg:Nat} {im:List Nat} {hsT:List Value} {tab:List (List Nat)} {ws:List Value} {ps:List Bool} {lg p:Nat} {hsL:List Value} {dn:List (List Bool)} {tl:List RowS}
theorem LisS.start (h:MonS w6 o m k tg wg ig ic pg im hsT tab ws ps [] w)(hg:w.grownBy w' none)(ho:w'.ownsRow w.heap.size 26 1 (.slice (some ⟨lg,0,none⟩) p p) p hsL):LisS w6 o m k tg wg ig ic pg im hsT tab ws ps lg p hsL [] [] w':=by
 obtain⟨X,hB,hT⟩:=h;have hA:=hB.add hg (e:=26) (sz:=1) ho jd;exact⟨X,hA.rebase,hT.kept hA.kept hA.wk,xX.nil⟩
theorem LisS.grow (h:LisS w6 o m k tg wg ig ic pg im hsT tab ws ps lg p hsL dn tl w)(hg:w.grownBy w' none):LisS w6 o m k tg wg ig ic pg im hsT tab ws ps lg p hsL dn tl w':=by
 obtain⟨X,hB,hT,hL⟩:=h;have k:=hB.mem.keep hg;exact⟨X,(hB.grow hg).rebase,hT.kept k hg.size,hL.kept k hg.size⟩
theorem LisS.g (h:LisS w6 o m k tg wg ig ic pg im hsT tab ws ps lg p hsL dn tl w):w6.grownBy w none:=by
 obtain⟨X,hB,hT,hL⟩:=h;exact hB.grown
theorem LisS.arrL (h:LisS w6 o m k tg wg ig ic pg im hsT tab ws ps lg p hsL dn tl w):Arr w lg 26 hsL/\hsL.length=p:=by
 obtain⟨X,hB,hT,hL⟩:=h;have h1:=hB.own (r:=⟨w6.heap.size,26,.slice (some ⟨lg,0,none⟩) p p,p,hsL,1⟩) yq;exact⟨Arr.of_owns h1,by have:=h1.1;simpa using this⟩
theorem LisS.begin (h:LisS w6 o m k tg wg ig ic pg im hsT tab ws ps lg p hsL dn [] w)(hi:i<p)(hd:dn.length=i)(hg:w.grownBy w' none)(ho:w'.ownsRow w.heap.size 4 1 (.slice (some ⟨bg,0,none⟩) m m) m (bls bs)):LisS w6 o m k tg wg ig ic pg im hsT tab ws ps lg p (hsL.set i (.slice (some ⟨bg,0,none⟩) m m)) dn (⟨w6.heap.size,4,.slice (some ⟨bg,0,none⟩) m m,m,bls bs,1⟩::[]) (w'.setCell ⟨lg,i,none⟩ (.slice (some ⟨bg,0,none⟩) m m)):=by
 obtain⟨X,hB,hT,hL⟩:=h;have hA:=hB.add hg (e:=4) (sz:=1) (n:=m) (v:=.slice (some ⟨bg,0,none⟩) m m) (xs:=bls bs) ho jd;have hP:=hA.put (j:=4) rfl hi (.slice (some ⟨bg,0,none⟩) m m);refine⟨X,hP.rebase,hT.kept hP.kept hP.wk,?_⟩;rw[List.take_set_of_le yo];exact hL.kept hP.kept hP.wk
theorem LisS.putC {j:Nat}(h:LisS w6 o m k tg wg ig ic pg im hsT tab ws ps lg p hsL dn (⟨w6.heap.size,4,.slice (some ⟨bg,0,none⟩) m m,m,bls bs,1⟩::[]) w)(hj:j<m)(b:Bool):LisS w6 o m k tg wg ig ic pg im hsT tab ws ps lg p hsL dn (⟨w6.heap.size,4,.slice (some ⟨bg,0,none⟩) m m,m,bls (bs.set j b),1⟩::[]) (w.setCell ⟨bg,j,none⟩ (.bool b)):=by
 obtain⟨X,hB,hT,hL⟩:=h;have hP:=hB.put (j:=5) rfl hj (.bool b);rw[qEF]at hP;exact⟨X,hP.rebase,hT.kept hP.kept hP.wk,hL.kept hP.kept hP.wk⟩
theorem LisS.ownC (h:LisS w6 o m k tg wg ig ic pg im hsT tab ws ps lg p hsL dn (⟨w6.heap.size,4,.slice (some ⟨bg,0,none⟩) m m,m,bls bs,1⟩::[]) w):w.ownsRow w6.heap.size 4 1 (.slice (some ⟨bg,0,none⟩) m m) m (bls bs):=by
 obtain⟨X,hB,hT,hL⟩:=h;exact hB.own (r:=⟨w6.heap.size,4,.slice (some ⟨bg,0,none⟩) m m,m,bls bs,1⟩) yq
theorem LisS.fin (h:LisS w6 o m k tg wg ig ic pg im hsT tab ws ps lg p hsL dn (⟨w6.heap.size,4,.slice (some ⟨bg,0,none⟩) m m,m,bls bs,1⟩::[]) w)(hd:dn.length=i)(hi:i<p)(hh:hsL[i]?=some (.slice (some ⟨bg,0,none⟩) m m)):LisS w6 o m k tg wg ig ic pg im hsT tab ws ps lg p hsL (dn++[bs]) [] w:=by
 obtain⟨X,hB,hT,hL⟩:=h;have hR:=BoxS.retire (rs:=(⟨w6.heap.size,22,.slice (some ⟨tg,0,none⟩) m m,m,hsT,1⟩::⟨w6.heap.size,9,.slice (some ⟨wg,0,none⟩) m m,m,ws,1⟩::⟨w6.heap.size,3,.slice (some ⟨ig,0,none⟩) k ic,k,nats im,1⟩::⟨w6.heap.size,4,.slice (some ⟨pg,0,none⟩) m m,m,bls ps,1⟩::⟨w6.heap.size,26,.slice (some ⟨lg,0,none⟩) p p,p,hsL,1⟩::[])) (r:=⟨w6.heap.size,4,.slice (some ⟨bg,0,none⟩) m m,m,bls bs,1⟩) hB;have hm:∀j,X j->X j\/(Value.slice (some ⟨bg,0,none⟩) m m).ownBlock=some j:=fun j hj=>.inl hj;refine⟨_,hR,hT.mono hm,?_⟩;have hX:RowX (fun j=>X j\/(Value.slice (some ⟨bg,0,none⟩) m m).ownBlock=some j) 4 w (.slice (some ⟨bg,0,none⟩) m m) (bls bs):=RowX.of_owns (hB.own (r:=⟨w6.heap.size,4,.slice (some ⟨bg,0,none⟩) m m,m,bls bs,1⟩) yq) (fun j hj=>.inr hj);have h9:=(hL.mono hm).snoc hX
 have e:hsL.take dn.length++[.slice (some ⟨bg,0,none⟩) m m]=hsL.take (dn++[bs]).length:=by
  rw[List.length_append,List.length_singleton,hd,List.take_add_one,hh];rfl
 rw[e]at h9;exact h9
end
theorem qSO {v8 t0 t8 c9:Value}{w6 w:World}{o m k tg wg ig ic pg:Nat}{im:List Nat}{x9:List Value}{tab:List (List Nat)}{ws:List Value}{ps:List Bool}{lg p:Nat}{l9:List Value}{dn:List (List Bool)}{a9 st sh kk:Nat}{vn vf:Value}{c:Bool}(h:LisS w6 o m k tg wg ig ic pg im x9 tab ws ps lg p l9 dn (⟨w6.heap.size,4,.slice (some ⟨bg,0,none⟩) m m,m,bls bs,1⟩::[]) w)(k9:w.heap[a9]?=some (.cells #[.int .i64 (st:Int),vn,.int .i64 (sh:Int)] 115 (0,0)))(hi:i<m)(x7:m<=400)(x6:kk<p)(x8:p<=4096)(hh:l9[kk]?=some (.slice (some ⟨bg,0,none⟩) m m))(x5:bs.length=m)(a8:∀W:World,w.grownBy W none->Calls Tryz.prog 85 #[.agg #[.int .i64 (st:Int),vn,.int .i64 (sh:Int)],vf] W fun e w'=>e=.returned (.bool c)/\W.grownBy w' none)(j0:∀(z182 z183 z184 z185 z186 z187 z188 z189 z190:Value) (w':World),LisS w6 o m k tg wg ig ic pg im x9 tab ws ps lg p l9 dn (⟨w6.heap.size,4,.slice (some ⟨bg,0,none⟩) m m,m,bls (bs.set i c),1⟩::[]) w'->w'.heap[a9]?=some (.cells #[.int .i64 (st:Int),vn,.int .i64 (sh:Int)] 115 (0,0))->Q .normal ⟨(v0::v1::v2::v3::v4::v5::v6::v7::v8::v9::t0::t1::t2::(Value.slice (some ⟨lg,0,none⟩) p p)::(Value.int .i64 (kk:Int))::(Value.pointer (some ⟨a9,0,none⟩))::(Value.int .i64 (i:Int))::vf::t3::t4::t5::t6::t7::t8::t9::s0::s1::s2::s3::s4::s5::s6::s7::s8::s9::r0::r1::r2::r3::r4::r5::r6::r7::r8::r9::q3::q4::q5::q6::q7::q8::p0::p1::p2::p3::p4::p5::p6::p7::p8::p9::o0::o1::o2::o3::o4::o5::o6::o7::o8::o9::n0::n1::n2::n3::n4::n5::n6::n7::n8::n9::m0::m1::m2::m3::m4::m5::m6::m7::m8::m9::l0::l1::l2::l3::l4::l5::l6::l7::l8::j1::j2::j3::j4::j5::j6::j7::j8::j9::i0::i1::i2::i3::i4::i5::i6::i7::i8::i9::g0::g1::g2::g3::g4::g5::g6::g7::g8::g9::f0::f1::f2::f3::f4::f5::f6::f7::f8::e0::e1::e2::e3::e4::e5::e6::e7::e8::e9::d0::d1::d2::d3::d4::d5::d6::d7::d8::d9::c0::c1::c2::c3::c4::c5::c6::c7::c8::c9::b0::b1::b2::b3::b4::b5::b6::b7::b8::b9::a0::a1::a2::a3::z182::z183::z184::z185::z186::z187::z188::z189::z190::a4::a5::a6::a7::[]).toArray,[]⟩ w'):Code.wp Tryz.prog (reg Tryz.f70 32) Q ⟨(v0::v1::v2::v3::v4::v5::v6::v7::v8::v9::t0::t1::t2::(Value.slice (some ⟨lg,0,none⟩) p p)::(Value.int .i64 (kk:Int))::(Value.pointer (some ⟨a9,0,none⟩))::(Value.int .i64 (i:Int))::vf::t3::t4::t5::t6::t7::t8::t9::s0::s1::s2::s3::s4::s5::s6::s7::s8::s9::r0::r1::r2::r3::r4::r5::r6::r7::r8::r9::q3::q4::q5::q6::q7::q8::p0::p1::p2::p3::p4::p5::p6::p7::p8::p9::o0::o1::o2::o3::o4::o5::o6::o7::o8::o9::n0::n1::n2::n3::n4::n5::n6::n7::n8::n9::m0::m1::m2::m3::m4::m5::m6::m7::m8::m9::l0::l1::l2::l3::l4::l5::l6::l7::l8::j1::j2::j3::j4::j5::j6::j7::j8::j9::i0::i1::i2::i3::i4::i5::i6::i7::i8::i9::g0::g1::g2::g3::g4::g5::g6::g7::g8::g9::f0::f1::f2::f3::f4::f5::f6::f7::f8::e0::e1::e2::e3::e4::e5::e6::e7::e8::e9::d0::d1::d2::d3::d4::d5::d6::d7::d8::d9::c0::c1::c2::c3::c4::c5::c6::c7::c8::c9::b0::b1::b2::b3::b4::b5::b6::b7::b8::b9::a0::a1::a2::a3::k0::k1::k2::k3::k4::k5::k6::k7::k8::a4::a5::a6::a7::[]).toArray,[]⟩ w:=by
 obtain⟨h9,H2⟩:=h.arrL;have h5:=h.ownC
 have h0:∀W:World,w.grownBy W none->W.cell? ⟨lg,kk,none⟩=some (.slice (some ⟨bg,0,none⟩) m m)/\W.cell? ⟨a9,0,none⟩=some (.int .i64 (st:Int))/\W.cell? ⟨a9,1,none⟩=some vn/\W.cell? ⟨a9,2,none⟩=some (.int .i64 (sh:Int)):=fun W hg=>by
  have h4:=zD k9 hg;have q0:=zJ h4 0;have q1:=zJ h4 1;have q2:=zJ h4 2;simp only[sPd,sPe,sPf]at q0 q1 q2;exact⟨pI (h9.kept hg yq) hh,q0,q1,q2⟩
 have h1:∀W:World,w.grownBy W none->W.cell? ⟨bg,i,none⟩=some (.bool (bs.getD i false))/\W.frozen? ⟨bg,i,none⟩=false:=fun W hg=>by
  have hA:Arr W bg 4 (bls bs):=Arr.of_owns (zZ h5 hg);exact⟨hA.bool i yo,hA.frozen i⟩
 obtain⟨H,H4,H5,H6⟩:=Kd h h1 a8 k9;have H1:Hid (bg≠a9):=Kh (fun e=>zR h5 k9 jd (by rw[e];rfl));have H8:(i:Int)<m:=yo
 have H7:(kk:Int)<p:=yo
 clear h h1 a8 h9 H2 h5 hh k9;have H0:Hid (∀W:World,w.grownBy W none->W.cell? ⟨lg,kk,none⟩=some (.slice (some ⟨bg,0,none⟩) m m)/\W.cell? ⟨a9,0,none⟩=some (.int .i64 (st:Int))/\W.cell? ⟨a9,1,none⟩=some vn/\W.cell? ⟨a9,2,none⟩=some (.int .i64 (sh:Int))):=Kh (fun W hg=>h0 W hg);clear h0
 conv=>arg 2;whnf
 obtain⟨w7,h3⟩:=Nm w.drew;have h8:w.grownBy w7 none:=by rw[h3];exact zY w none
 have H3:=Kh h3;have h6:=Kh h8;clear h3 h8;refine wp_region_noPanic ?_;refine yI (G:=xM 9 (fun _=>True) (fun W=>W.cell? ⟨lg,kk,none⟩=some (.slice (some ⟨bg,0,none⟩) m m)/\W.cell? ⟨a9,0,none⟩=some (.int .i64 (st:Int))/\W.cell? ⟨a9,1,none⟩=some vn/\W.cell? ⟨a9,2,none⟩=some (.int .i64 (sh:Int)))) yk ?_;rw[<-H3.out];have C:=Kh (H0.out w7 h6.out);refine zP 0 ?_;refine zP 1 ?_;refine zP 2 ?_;refine xD 3 ?_;refine zP 4 ?_;refine xD 5 ?_;refine zP 6 ?_;refine jg 7 fun K hK=>?_;go_simp
 go_at_call 85
 refine(H5.out w7 h6.out).mono ?_;rintro e w8 ⟨rfl,h7⟩;have h2:=Kh (zE h6.out h7);have C8:=Kh (H0.out w8 h2.out);refine hK.out _ _ ⟨trivial,fun _=>C8.out⟩ ?_;clear hK K C h7
 try simp only[Act.put,sPd,sPe,sPf,sPa,sPb,sPc]
 refine zP 8 ?_;obtain⟨q9,f9⟩:=H4.out w8 h2.out;refine jg 9 fun K hK=>?_;go_simp;refine hK.out _ _ ⟨trivial,fun h=>by simp at h⟩ ?_;clear hK K q9 f9
 try simp only[Act.put,sPd,sPe,sPf,sPa,sPb,sPc]
 refine uY yk ?_ _;refine NoPanic.normal ?_;exact j0 _ _ _ _ _ _ _ _ _  _ ((H.out.grow h2.out).putC hi c) (zD (zD H6.out h2.out) (zH w8 ⟨bg,i,none⟩ (.bool c)) (fun e=>H1.out (Oj e)))
structure PartV where
 st:Nat
 fin:List Bool
 sh:Nat
deriving Inhabited
def accP (p:PartV)(el:List (List Nat)):List Bool:=el.map fun f=>p.fin.getD (f.getD p.st 0-p.sh) false
theorem qPC (st:Nat)(fin:List Bool)(el:List (List Nat)):accP ⟨st,fin,0⟩ el=accE fin st el:=rfl
def qSB (B:Nat)(w:World)(pb po:Nat)(ps:List PartV):Prop:=∀j,j<ps.length->∃vf,w.cell? ⟨pb,po+j*3,none⟩=some (.int .i64 ((ps.getD j default).st:Nat))/\w.cell? ⟨pb,po+j*3+1,none⟩=some vf/\w.cell? ⟨pb,po+j*3+2,none⟩=some (.int .i64 ((ps.getD j default).sh:Nat))/\Row B w vf (bls (ps.getD j default).fin)
theorem uE.boolP {w:World}{b off:Nat}(h:uE w b off (bls bs))(i:Nat)(hi:i<bs.length):w.cell? ⟨b,off+i,none⟩=some (.bool (bs.getD i false)):=by
 rw[h.map (f:=Value.bool) i hi,zQ hi]
theorem qHZ (B C:Nat)(w:World)(vf fv:Value)(fin:List Bool)(f:List Nat)(st sh:Nat)(h:Row B w vf (bls fin))(hf:Row C w fv (nats f))(a9:st<f.length)(h1:sh<=f.getD st 0)(h2:f.getD st 0<sh+fin.length)(hb:sh+fin.length<=4096):Calls Tryz.prog 85 #[.agg #[.int .i64 (st:Int),vf,.int .i64 (sh:Int)],fv] w fun e w'=>e=.returned (.bool (fin.getD (f.getD st 0-sh) false))/\w.grownBy w' none:=by
 obtain⟨x,hx⟩:=Nm (f.getD st 0);rw[<-hx]at h1 h2⊢;obtain⟨fb,fo,fc,rfl,_,H1,H0,h7⟩:=h.some_ (by rw[yB];omega);obtain⟨gb,go,gc,rfl,_,h9,h8,h6⟩:=hf.some_ (by rw[zV];omega);rw[yB]at H1⊢;rw[zV]at h9⊢;unfold maxLen at H0 h8;obtain⟨wA,h4⟩:=Nm (w.alloc (.cells #[.int .i64 (st:Int),.slice (some ⟨fb,fo,none⟩) fin.length fc,.int .i64 (sh:Int)] 115));have h3:w.grownBy wA none:=by rw[h4];exact Ga w _ none
 have h0:=heap_alloc_new w (.cells #[.int .i64 (st:Int),.slice (some ⟨fb,fo,none⟩) fin.length fc,.int .i64 (sh:Int)] 115);rw[<-h4]at h0;obtain⟨P,hP⟩:=Nm w.heap.size;rw[<-hP]at h0;have q0:=zJ h0 0;have q1:=zJ h0 1;have q2:=zJ h0 2;simp only[sPd,sPe,sPf]at q0 q1 q2;have cx:=zN (h6.nat st a9) h3;rw[<-hx]at cx;have cy:=zN (h7.boolP (x-sh) yo) h3;obtain⟨y,hy⟩:=Nm (fin.getD (x-sh) false);obtain⟨z,hz⟩:=Nm (x-sh);rw[<-hy]at cy⊢;rw[<-hz]at cy;have h5:(x:Int)-(sh:Int)=(z:Int):=yo
 have H7:IntKind.i64.wrap ((x:Int)-(sh:Int))=(z:Int):=by rw[h5];exact wK yo
 have H5:(z:Int)<fin.length:=yo
 have H6:(st:Int)<f.length:=yo
 obtain⟨H4,H2,H3⟩:=Kc h3 h4 hP;clear h hf h7 h6 hx hy hz h3 h4 h0 hP h5;go_enter Tryz.func85,Tryz.ntmps85;go_upto_region 1 with fail;rw[<-H2.out,<-H3.out]
 go_quiet (fail)
 go_wp2;go_ret;exact⟨rfl,zE H4.out (zT wA _ none)⟩
structure EnuAt (B:Nat)(w:World)(b5 m n k:Nat)(el:List (List Nat))(pr la:List Int)(ri:List (List Nat))(qb qo qc lb lo lc rb rf rd eb eo ec:Nat):Prop where
 c3:w.cell? ⟨b5,3,none⟩=some (.slice (some ⟨eb,eo,none⟩) m ec)
 c4:w.cell? ⟨b5,4,none⟩=some (.slice (some ⟨qb,qo,none⟩) m qc)
 c5:w.cell? ⟨b5,5,none⟩=some (.slice (some ⟨lb,lo,none⟩) m lc)
 c6:w.cell? ⟨b5,6,none⟩=some (.slice (some ⟨rb,rf,none⟩) m rd)
 qc1:m<=qc/\qc<=maxLen
 lc1:m<=lc/\lc<=maxLen
 rc1:m<=rd/\rd<=maxLen
 ec1:m<=ec/\ec<=maxLen
 q:∀i,i<m->w.cell? ⟨qb,qo+i,none⟩=some (.int .i64 (pr.getD i 0))
 l:∀i,i<m->w.cell? ⟨lb,lo+i,none⟩=some (.int .i64 (la.getD i 0))
 r:∀i,i<m->∃sb so sc,w.cell? ⟨rb,rf+i,none⟩=some (.slice (some ⟨sb,so,none⟩) k sc)/\(k<=sc/\sc<=maxLen)/\Row B w (.slice (some ⟨sb,so,none⟩) k sc) (nats (ri.getD i []))/\∀a,a<k->w.cell? ⟨sb,so+a,none⟩=some (.int .i64 (((ri.getD i []).getD a 0:Nat):Int))
 e:∀i,i<m->∃v,w.cell? ⟨eb,eo+i,none⟩=some v/\Row B w v (nats (el.getD i []))
theorem EnuAt.kept {B:Nat}{w w':World}{b5 m k:Nat}{qb qo qc lb lo lc rb rf rd eb eo ec:Nat}(h:EnuAt B w b5 m n k el pr la ri qb qo qc lb lo lc rb rf rd eb eo ec)(hg:w.grownBy w' none):EnuAt B w' b5 m n k el pr la ri qb qo qc lb lo lc rb rf rd eb eo ec :=
 ⟨zN h.c3 hg,zN h.c4 hg,zN h.c5 hg,zN h.c6 hg,h.qc1,h.lc1,h.rc1,h.ec1,fun i hi=>zN (h.q i hi) hg,fun i hi=>zN (h.l i hi) hg,fun i hi=>by
  obtain⟨sb,so,sc,h1,h2,h3,h4⟩:=h.r i hi
  exact⟨sb,so,sc,zN h1 hg,h2,h3.kept hg yq,fun a ha=>zN (h4 a ha) hg⟩,fun i hi=>by
  obtain⟨v,h1,h2⟩:=h.e i hi
  exact⟨v,zN h1 hg,h2.kept hg yq⟩⟩
theorem EnuAt.of {w:World}{b5 m k u cG cE cP cL cR cU:Nat}{sG sE sP sL sR sU:Option Addr}(hb:w.heap[b5]?=some (.cells #[.int .i64 n,.bool true,.slice sG k cG,.slice sE m cE,.slice sP m cP,.slice sL m cL,.slice sR m cR,.slice sU u cU,.int .i64 m] 75 (0,0)))(hE:TMat w.heap.size w (.slice sE m cE) el)(hP:Row w.heap.size w (.slice sP m cP) (ints pr))(hL:Row w.heap.size w (.slice sL m cL) (ints la))(hR:TMat w.heap.size w (.slice sR m cR) ri)(he:el.length=m)(hp:pr.length=m)(hl:la.length=m)(hr:ri.length=m)(a9:∀i,i<m->(ri.getD i []).length=k)(hm:1<=m)(hk:1<=k):∃(qb qo lb lo rb rf eb eo:Nat),sP=some ⟨qb,qo,none⟩/\sL=some ⟨lb,lo,none⟩/\sR=some ⟨rb,rf,none⟩/\sE=some ⟨eb,eo,none⟩/\EnuAt w.heap.size w b5 m n k el pr la ri qb qo cP lb lo cL rb rf cR eb eo cE:=by
 obtain⟨q0,q1,q2,q3,q4,q5,q6,q7,q8⟩:=yD hb;obtain⟨qb,qo,cp,e1,_,p1,p2,p3⟩:=hP.some_ (by rw[zL];omega);obtain⟨lb,lo,cl,e2,_,l1,l2,l3⟩:=hL.some_ (by rw[zL];omega);obtain⟨rb,rf,cr,e3,r1,r2,_,_,r3⟩:=hR.head yo;obtain⟨eb,eo,ce,e4,s1,s2,_,_,s3⟩:=hE.head yo;rw[zL,hp]at p1 e1;rw[zL,hl]at l1 e2;rw[hr]at r1 e3;rw[he]at s1 e4;simp only[Value.slice.injEq,true_and]at e1 e2 e3 e4;obtain⟨rfl,rfl⟩:=e1;obtain⟨rfl,rfl⟩:=e2;obtain⟨rfl,rfl⟩:=e3;obtain⟨rfl,rfl⟩:=e4;refine⟨qb,qo,lb,lo,rb,rf,eb,eo,rfl,rfl,rfl,rfl,q3,q4,q5,q6,⟨p1,p2⟩,⟨l1,l2⟩,⟨r1,r2⟩,⟨s1,s2⟩,fun i hi=>p3.int i yo,fun i hi=>l3.int i yo,fun i hi=>?_,fun i hi=>?_⟩
 ·obtain⟨a,c,h1,h2⟩:=r3 i yo
  rw[a9 i hi]at h1 h2;obtain⟨sb,so,sc,e5,_,t1,t2,t3⟩:=h2.row.some_ (by rw[zV,a9 i hi];omega);rw[zV,a9 i hi]at e5 t1;simp only[Value.slice.injEq,true_and]at e5;obtain⟨rfl,rfl⟩:=e5;exact⟨sb,so,c,h1,⟨t1,t2⟩,h2.row,fun a ha=>t3.nat a (by rw[a9 i hi];exact ha)⟩
 obtain⟨a,c,h1,h2⟩:=s3 i yo;exact⟨_,h1,h2.row⟩
end Go.Proofs.YtiknckajkdlppaaGreat
namespace Go.Proofs.YtiknckajkdlppaaGreat
variable{q a y:Nat}{l:List Bool}{d:DfaV}
theorem jY (ts:List (List Nat))(x y:Nat):entN (tabI ts) x y=(ts.getD x []).getD y 0:=by rw[entN,kZ,Int.toNat_natCast]
def tO (ri:List (List Nat)):Bool:=ri.any fun r=>decide (0∈r)
def pluE (m:Nat)(b:Bool):List Bool:=b::List.replicate (m-1) true
section
variable {gs el:List (List Nat)} {n:Nat} {pr la:List Int} {ri:List (List Nat)}
theorem Enm.img (h:Enm gs n el pr la ri el.length)(hg:∀g∈gs,IsT n g):ri.getD 0 []=imgE gs el:=by
 obtain⟨h0,hl,hr⟩:=h.row 0 h.en.pos;refine List.ext_getElem (by rw[kL];exact hl) fun a h1 h2=>?_;have ha:a<gs.length:=by rw[<-hl];exact h1
 obtain⟨h3,h4⟩:=hr a ha;rw[h.en.one,fE (hg _ (wT ha))]at h4;have e:(ri.getD 0 []).getD a 0=(ri.getD 0 [])[a]:=zQ h1;have hm:gs.getD a []∈el:=h.image hg ha;rw[<-e];simp only[imgE,List.getElem_map];rw[<-zQ (d:=[]) ha];refine oH (d:=[]) h.en.nodup h3 (List.idxOf_lt_length_of_mem hm) ?_;rw[h4,cM hm]
theorem Enm.tabR (h:Enm gs n el pr la ri el.length)(hg:∀g∈gs,IsT n g)(hq:q<el.length)(ha:a<gs.length):entN (tabI (tabE pr la ri el.length)) q ((ri.getD 0 []).getD a 0)=(ri.getD q []).getD a 0:=by
 rw[jY];obtain⟨h3,h4⟩:=(h.row 0 h.en.pos).2.2 a ha;obtain⟨h5,h6⟩:=(h.row q hq).2.2 a ha;obtain⟨h7,h8⟩:=h.tab hg hq h3;refine oH (d:=[]) h.en.nodup h7 h5 ?_;rw[h8,h6,h4,h.en.one,fE (hg _ (wT ha))]
theorem Enm.img_gen (h:Enm gs n el pr la ri el.length)(ha:a<gs.length):Gen (tabI (tabE pr la ri el.length)) (ri.getD 0 []) ((ri.getD 0 []).getD a 0) :=
 .base _ (wT (by rw[(h.row 0 h.en.pos).2.1];exact ha))
theorem Enm.rowGen (h:Enm gs n el pr la ri el.length)(hg:∀g∈gs,IsT n g)(hq:q<el.length)(ha:a<gs.length)(hG:q=0\/Gen (tabI (tabE pr la ri el.length)) (ri.getD 0 []) q):Gen (tabI (tabE pr la ri el.length)) (ri.getD 0 []) ((ri.getD q []).getD a 0):=by
 rcases hG with rfl|hG
 ·exact h.img_gen ha
 rw[<-h.tabR hg hq ha];exact .mul _ _ hG (h.img_gen ha)
theorem Enm.last (h:Enm gs n el pr la ri el.length){x:Nat}(hx:x<el.length)(h0:x≠0):∃p a,p<x/\a<gs.length/\vZ pr la x=vZ pr la p++[a]/\(ri.getD p []).getD a 0=x:=by
 rcases h.en.val x hx with ⟨_,h2⟩|⟨h1,h2⟩
 ·exact absurd h2 h0
 rcases h.en.words x hx with h3|⟨h3,h4,h5,h6⟩
 ·exact absurd h3 h1
 refine⟨(pr.getD x 0).toNat,(la.getD x 0).toNat,yo,yo,oB h.en.words hx h1,?_⟩;obtain⟨h7,h8⟩:=(h.row (pr.getD x 0).toNat yo).2.2 (la.getD x 0).toNat yo;exact oH (d:=[]) h.en.nodup h7 hx (by rw[h8,h2])
theorem Enm.genNZ (h:Enm gs n el pr la ri el.length)(hg:∀g∈gs,IsT n g):∀x,x<el.length->x≠0->Gen (tabI (tabE pr la ri el.length)) (ri.getD 0 []) x:=by
 intro x
 induction x using Nat.strongRecOn with
 | ind x ih =>
  intro hx h0;obtain⟨p,a,hp,ha,_,e⟩:=h.last hx h0;rw[<-e];refine h.rowGen hg yo ha ?_;rcases Nat.eq_zero_or_pos p with h1|h1
  ·exact .inl h1
  exact .inr (ih p hp yo yo)
theorem aY (h:Enm gs n el pr la ri el.length)(hq:q<el.length)(ha:a<gs.length)(e:(ri.getD q []).getD a 0=0):tO ri=true:=by
 refine List.any_eq_true.2 ⟨ri.getD q [],wT (by rw[h.rl];exact hq),decide_eq_true ?_⟩;rw[<-e];exact wT (by rw[(h.row q hq).2.1];exact ha)
theorem qJS (h:Enm gs n el pr la ri el.length)(hz:tO ri=true):∃q a,q<el.length/\a<gs.length/\(ri.getD q []).getD a 0=0:=by
 obtain⟨r,hr,h0⟩:=List.any_eq_true.1 hz;have h0:=of_decide_eq_true h0;obtain⟨q,hq,rfl⟩:=List.getElem_of_mem hr;obtain⟨a,ha,e⟩:=List.getElem_of_mem h0;have h1:q<el.length:=by rw[<-h.rl];exact hq
 have hl:=(h.row q h1).2.1;rw[zQ hq]at hl;refine⟨q,a,h1,by rw[<-hl];exact ha,?_⟩;rw[zQ hq,zQ ha,e]
theorem synP {st:Nat}{fin:List Bool}(h:FinE gs n el pr la ri el.length)(hg:∀g∈gs,IsT n g)(hl:el.length<=400):SynE gs n st fin ⟨gs.length,tabE pr la ri el.length,vX pr la el.length,ri.getD 0 [],accE fin st el,pluE el.length (tO ri)⟩:=by
 have hE:=h.toEnm;obtain⟨mm,h7⟩:=Nm ((List.range el.length).filter fun x=>decide (x≠0) || tO ri)
 have h4:∀x,x∈mm↔x<el.length/\(x≠0\/tO ri=true):=fun x=>by
  rw[h7,List.mem_filter,List.mem_range,Bool.or_eq_true,decide_eq_true_eq]
 have h8:∀x∈ri.getD 0 [],∃a,a<gs.length/\x=(ri.getD 0 []).getD a 0:=fun x hx=>by
  obtain⟨a,ha,e⟩:=List.getElem_of_mem hx;exact⟨a,by rw[<-(hE.row 0 hE.en.pos).2.1];exact ha,by rw[zQ ha,e]⟩
 have hG:GenI (tabI (tabE pr la ri el.length)) (ri.getD 0 []) mm:=by
  refine⟨by rw[h7];exact List.Pairwise.filter _ List.nodup_range,fun x hx=>?_,fun x hx=>?_,fun x hx=>?_⟩
  ·rw[xS,wW];exact((h4 x).1 hx).1
  ·obtain⟨a,ha,rfl⟩:=h8 x hx
   refine(h4 _).2 ⟨((hE.row 0 hE.en.pos).2.2 a ha).1,?_⟩;by_cases e:(ri.getD 0 []).getD a 0=0
   ·exact .inr (aY hE hE.en.pos ha e)
   exact .inl e
  obtain⟨h1,h2⟩:=(h4 x).1 hx;by_cases h0:x=0
  ·subst h0
   rcases h2 with h2|h2
   ·exact absurd rfl h2
   obtain⟨q,a,hq,ha,e⟩:=qJS hE h2
   have:=hE.rowGen hg hq ha (by
    rcases Nat.eq_zero_or_pos q with h3|h3
    ·exact .inl h3
    exact .inr (hE.genNZ hg q hq yo))
   rwa [e]at this
  exact hE.genNZ hg x h1 h0
 have hC:pY (tabI (tabE pr la ri el.length)) mm:=by
  intro x hx y hy;obtain⟨h1,_⟩:=(h4 x).1 hx;obtain⟨h3,_⟩:=(h4 y).1 hy;obtain⟨h5,h6⟩:=hE.tab hg h1 h3;by_cases h0:y=0
  ·subst h0
   have e:entN (tabI (tabE pr la ri el.length)) x 0=x:=by
    rw[jY];exact oH (d:=[]) hE.en.nodup h5 h1 (by rw[h6,hE.en.one,qBZ (hE.en.it _ (wT h1))])
   rw[e];exact hx
  refine(h4 _).2 ⟨by rw[jY];exact h5,?_⟩;by_cases hz:entN (tabI (tabE pr la ri el.length)) x y=0
  ·refine .inr ?_
   obtain⟨p,a,hp,ha,hw,_⟩:=hE.last h3 h0
   have e:entN (tabI (tabE pr la ri el.length)) x y=atW ri x (vZ pr la y):=by
    rw[jY,zQ (l:=tabE pr la ri el.length) (by rw[wW];exact h1)];simp only[tabE,List.getElem_map,List.getElem_range];rw[zQ (by rw[sO];exact h3)];simp only[rowE,List.getElem_map,List.getElem_range]
   rw[e,hw,fH]at hz;exact aY hE (hE.at hg h1 _ (oM hE.en.words p yo).1).1 ha hz
  exact .inl hz
 refine⟨el,pr,la,ri,mm,h,hl,rfl,rfl,rfl,hE.img hg,rfl,hG,hC,?_⟩;rw[qBA,qFF];refine List.ext_getElem (by have:=hE.en.pos;simp[metL,pluE];omega) fun i h1 h2=>?_;have hi:i<el.length:=by simpa [metL] using h2
 simp only[metL,List.getElem_map,List.getElem_range]
 match i with
 | 0 =>
  show tO ri=decide (0∈mm);rw[Bool.eq_iff_iff,decide_eq_true_eq,h4];exact⟨fun h=>⟨hi,.inr h⟩,fun h=>h.2.resolve_left (fun h=>h rfl)⟩
 | i+1 =>
  have e:(pluE el.length (tO ri))[i+1]=true:=by simp[pluE]
  rw[e];exact(decide_eq_true ((h4 _).2 ⟨hi,.inl yo⟩)).symm
end
open Go.RowKit
def qCP (pr la:List Int)(y:Nat):Value:=.string (strOfNums (lets (vZ pr la y)))
def wRow (pr la:List Int)(m i:Nat):List Value:=(List.range m).map fun y=>if y<i then qCP pr la y else .string ⟨#[]⟩
def mRow (m i:Nat):List Bool:=(List.range m).map fun y=>decide (1<=y/\y<i)
def tRow (pr la:List Int)(ri:List (List Nat))(m i j:Nat):List Nat:=(List.range m).map fun y=>if y<j then atW ri i (vZ pr la y) else 0
section
variable {pr la:List Int} {ri:List (List Nat)} {m i j:Nat}
theorem fK:(tRow pr la ri m i j).length=m:=by simp[tRow]
theorem qME (hy:y<m)(hi:y<i):(wRow pr la m i)[y]?=some (qCP pr la y):=by
 simp[wRow,hy,hi]
theorem qMD (hm:1<=m)(h:la.getD 0 0<0):wRow pr la m 1=List.replicate m (.string ⟨#[]⟩):=by
 refine List.ext_getElem (by simp[wRow]) fun y h1 h2=>?_;simp only[wRow,List.getElem_map,List.getElem_range,List.getElem_replicate]
 split
 ·have:y=0:=yo
  subst this;rw[qCP,pZ h];rfl
 rfl
theorem qMC:(wRow pr la m i).set i (qCP pr la i)=wRow pr la m (i+1):=by
 refine List.ext_getElem (by simp[wRow]) fun y h1 h2=>?_;rw[List.getElem_set];simp only[wRow,List.getElem_map,List.getElem_range]
 split
 ·rename_i e;subst e;rw[if_pos yo]
 by_cases h:y<i
 ·rw[if_pos h,if_pos yo]
 rw[if_neg h,if_neg yo]
theorem qMF:wRow pr la m m=uV (vX pr la m):=by
 refine List.ext_getElem (by simp[wRow,uV,vX]) fun y h1 h2=>?_;simp only[wRow,uV,vX,List.getElem_map,List.getElem_range];rw[if_pos (by simpa [wRow] using h1)];rfl
theorem qNY:mRow m 1=List.replicate m false:=by
 refine List.ext_getElem (by simp[mRow]) fun y h1 h2=>?_;simp only[mRow,List.getElem_map,List.getElem_range,List.getElem_replicate];exact decide_eq_false yo
theorem qNX (hi:1<=i):(mRow m i).set i true=mRow m (i+1):=by
 refine List.ext_getElem (by simp[mRow]) fun y h1 h2=>?_;rw[List.getElem_set];simp only[mRow,List.getElem_map,List.getElem_range]
 split
 ·rename_i e;subst e;exact(decide_eq_true yo).symm
 exact decide_eq_decide.2 yo
theorem qNZ (hm:1<=m):mRow m m=pluE m false:=by
 refine List.ext_getElem (by simp[mRow,pluE];omega) fun y h1 h2=>?_;have hy:y<m:=by simpa [mRow] using h1
 simp only[mRow,List.getElem_map,List.getElem_range]
 match y with
 | 0 =>
  show decide (1<=0/\0<m)=false;exact decide_eq_false yo
 | y+1 =>
  have e:(pluE m false)[y+1]=true:=by simp[pluE]
  rw[e];exact decide_eq_true yo
theorem qND (m:Nat)(b c:Bool):(pluE m b).set 0 c=pluE m c:=rfl
theorem qCM (hi:i<ri.length):tO (ri.take (i+1))=(tO (ri.take i) || decide (0∈ri.getD i [])):=by
 rw[yH (d:=[]) hi,tO,List.any_append];simp[tO]
theorem qMP (h:la.getD 0 0<0):(List.replicate m 0).set 0 i=tRow pr la ri m i 1:=by
 refine List.ext_getElem (by simp[tRow]) fun y h1 h2=>?_;rw[List.getElem_set];simp only[tRow,List.getElem_map,List.getElem_range,List.getElem_replicate]
 split
 ·rename_i e;subst e;rw[if_pos yo,pZ h];rfl
 rw[if_neg yo]
theorem qMQ (hy:y<m)(hj:y<j):(tRow pr la ri m i j).getD y 0=atW ri i (vZ pr la y):=by
 rw[zQ (by rw[fK];exact hy)];simp only[tRow,List.getElem_map,List.getElem_range];rw[if_pos hj]
theorem qMO:(tRow pr la ri m i j).set j (atW ri i (vZ pr la j))=tRow pr la ri m i (j+1):=by
 refine List.ext_getElem (by simp[tRow]) fun y h1 h2=>?_;rw[List.getElem_set];simp only[tRow,List.getElem_map,List.getElem_range]
 split
 ·rename_i e;subst e;rw[if_pos yo]
 by_cases h:y<j
 ·rw[if_pos h,if_pos yo]
 rw[if_neg h,if_neg yo]
theorem qMR:tRow pr la ri m i m=rowE pr la ri m i:=by
 refine List.ext_getElem (by simp[tRow,rowE]) fun y h1 h2=>?_;simp only[tRow,rowE,List.getElem_map,List.getElem_range];rw[if_pos (by simpa [tRow] using h1)]
end
section
variable {gs el:List (List Nat)} {n:Nat} {pr la:List Int} {ri:List (List Nat)}
theorem Enm.step (h:Enm gs n el pr la ri el.length){i:Nat}(hi:i<el.length)(h0:1<=i):∃p a:Nat,pr.getD i 0=(p:Int)/\la.getD i 0=(a:Int)/\p<i/\a<gs.length/\vZ pr la i=vZ pr la p++[a]/\qCP pr la i=.string (strOfNums (lets (vZ pr la p))++strOfNums [97+(a:Int)])/\(vZ pr la p).length<=p/\∀x,atW ri x (vZ pr la i)=(ri.getD (atW ri x (vZ pr la p)) []).getD a 0:=by
 rcases h.en.val i hi with ⟨_,h2⟩|⟨h1,h2⟩
 ·omega
 rcases h.en.words i hi with h3|⟨h3,h4,h5,h6⟩
 ·exact absurd h3 h1
 have hw:=oB h.en.words hi h1;refine⟨(pr.getD i 0).toNat,(la.getD i 0).toNat,yo,yo,yo,yo,hw,?_,(oM h.en.words _ yo).2,fun x=>by rw[hw,fH]⟩;rw[qCP,hw,gV];simp[lets]
theorem Enm.zero (h:Enm gs n el pr la ri el.length):la.getD 0 0<0:=by
 rcases h.en.words 0 h.en.pos with h3|⟨_,_,_,h6⟩
 ·exact h3
 omega
end
open Go.Maps
theorem qHJ:ElemOk Tryz.prog 102 26 (.slice none 0 0) 24:=⟨Tryz.underlying102,yk,rfl⟩
def bRow (l:List Bool)(m i:Nat):List Bool:=l.take i++List.replicate (m-i) false
theorem qEH {m i:Nat}(hl:l.length=m)(hi:i<=m):(bRow l m i).length=m:=by simp[bRow,hl];omega
theorem qOW {m i:Nat}(hl:l.length=m)(hi:i<m):(bRow l m i).set i (l.getD i false)=bRow l m (i+1):=by
 have e:(l.take i).length=i:=by simp[hl];omega
 rw[bRow,List.set_append_right _ _ yo,e,Nat.sub_self,show m-i=(m-(i+1))+1 by omega,List.replicate_succ,List.set_cons_zero,bRow,yH (d:=false) yo,List.append_assoc];rfl
theorem qOX {m:Nat}(hl:l.length=m):bRow l m m=l:=by rw[bRow,Nat.sub_self,List.take_of_length_le yo];simp
theorem qPD {p:PartV}{el:List (List Nat)}{i:Nat}(hi:i<el.length):(accP p el).getD i false=p.fin.getD ((el.getD i []).getD p.st 0-p.sh) false:=by
 rw[accP,xY (x:=[]) hi]
section
variable {w6 w:World} {o m k tg wg ig ic pg:Nat} {im:List Nat} {hsT:List Value} {tab:List (List Nat)} {ws:List Value} {ps:List Bool} {lg p:Nat} {hsL:List Value} {dn:List (List Bool)}
theorem LisS.read (h:LisS w6 o m k tg wg ig ic pg im hsT tab ws ps lg p hsL dn [] w)(ht:tab.length=m)(hd:dn.length=p):w.heap[o]?=some (.cells #[.int .i64 (k:Int),.slice (some ⟨tg,0,none⟩) m m,.slice (some ⟨wg,0,none⟩) m m,.slice (some ⟨ig,0,none⟩) k ic,.slice none 0 0,.slice (some ⟨pg,0,none⟩) m m] 39 (0,0))/\nV w.heap.size w (.slice (some ⟨tg,0,none⟩) m m) tab/\RowT w.heap.size 9 w (.slice (some ⟨wg,0,none⟩) m m) ws/\RowT w.heap.size 3 w (.slice (some ⟨ig,0,none⟩) k ic) (nats im)/\RowT w.heap.size 4 w (.slice (some ⟨pg,0,none⟩) m m) (bls ps)/\∃hs,RowT w.heap.size 26 w (.slice (some ⟨lg,0,none⟩) p p) hs/\tN w.heap.size 4 bls w hs dn:=by
 obtain⟨X,hB,hT,hL⟩:=h;have h1:=hB.own (r:=⟨w6.heap.size,22,.slice (some ⟨tg,0,none⟩) m m,m,hsT,1⟩) yq;have h2:=hB.own (r:=⟨w6.heap.size,9,.slice (some ⟨wg,0,none⟩) m m,m,ws,1⟩) yq;have h3:=hB.own (r:=⟨w6.heap.size,3,.slice (some ⟨ig,0,none⟩) k ic,k,nats im,1⟩) yq;have h4:=hB.own (r:=⟨w6.heap.size,4,.slice (some ⟨pg,0,none⟩) m m,m,bls ps,1⟩) yq;have h5:=hB.own (r:=⟨w6.heap.size,26,.slice (some ⟨lg,0,none⟩) p p,p,hsL,1⟩) yq;rw[List.take_of_length_le (by have:=h1.1;simp only at this;omega)]at hT;rw[List.take_of_length_le (by have:=h5.1;simp only at this;omega)]at hL;exact⟨hB.box,⟨hsT,RowT.of_owns h1,hT.rowsT⟩,RowT.of_owns h2,RowT.of_owns h3,RowT.of_owns h4,hsL,RowT.of_owns h5,hL.rowsT⟩
end
def qTJ (gs:List (List Nat))(n:Nat)(ps:List PartV)(w:World)(e:Ending)(w':World):Prop :=
 (e=.returned (.tuple #[.agg #[.int .i64 0,.slice none 0 0,.slice none 0 0,.slice none 0 0,.slice none 0 0,.slice none 0 0],.slice none 0 0,.int .i64 3])/\qCJ gs n/\w.grownBy w' none) \/
 ∃(el:List (List Nat)) (pr la:List Int) (ri:List (List Nat)) (tg wg ig ic pg lg:Nat),FinE gs n el pr la ri el.length/\el.length<=400 /\
  e=.returned (.tuple #[.agg #[.int .i64 (gs.length:Int),.slice (some ⟨tg,0,none⟩) el.length el.length,.slice (some ⟨wg,0,none⟩) el.length el.length,.slice (some ⟨ig,0,none⟩) gs.length ic,.slice none 0 0,.slice (some ⟨pg,0,none⟩) el.length el.length],.slice (some ⟨lg,0,none⟩) ps.length ps.length,.int .i64 0]) /\
  nV w'.heap.size w' (.slice (some ⟨tg,0,none⟩) el.length el.length) (tabE pr la ri el.length)/\RowT w'.heap.size 9 w' (.slice (some ⟨wg,0,none⟩) el.length el.length) (uV (vX pr la el.length))/\RowT w'.heap.size 3 w' (.slice (some ⟨ig,0,none⟩) gs.length ic) (nats (ri.getD 0 []))/\RowT w'.heap.size 4 w' (.slice (some ⟨pg,0,none⟩) el.length el.length) (bls (pluE el.length (tO ri))) /\
  (∃hs,RowT w'.heap.size 26 w' (.slice (some ⟨lg,0,none⟩) ps.length ps.length) hs/\tN w'.heap.size 4 bls w' hs (ps.map fun p=>accP p el))/\w.grownBy w' none
theorem qDH (w:World)(o5 gb k pb po cp n:Nat)(gs:List (List Nat))(ps:List PartV)(a8:w.heap[o5]?=some (.cells #[.slice (some ⟨gb,0,none⟩) k k,.slice (some ⟨pb,po,none⟩) ps.length cp,.int .i64 (n:Int)] 101 (0,0)))(hT:TMat w.heap.size w (.slice (some ⟨gb,0,none⟩) k k) gs)(a5:∀g∈gs,IsT n g)(h1:1<=n)(b8:n<=32)(hk:gs.length=k)(a6:1<=k)(b7:k<=6)(a0:qSB w.heap.size w pb po ps)(a7:ps.length<=cp/\cp<=maxLen)(b9:ps.length<=4096)(a4:∀p∈ps,p.st<n/\p.sh+p.fin.length<=4096/\∀el pr la ri,FinE gs n el pr la ri el.length->∀f∈el,p.sh<=f.getD p.st 0/\f.getD p.st 0<p.sh+p.fin.length):Calls Tryz.prog 70 #[.pointer (some ⟨o5,0,none⟩)] w (qTJ gs n ps w):=by
 obtain⟨P,hP⟩:=Nm w.heap.size;obtain⟨np,l6⟩:=Nm ps.length;obtain⟨w1,j9⟩:=Nm (w.alloc (.cells #[.int .i64 0,.slice none 0 0,.slice none 0 0,.slice none 0 0,.slice none 0 0,.slice none 0 0] 39));have i0:w.grownBy w1 none:=by rw[j9];exact Ga w _ none
 have m9:=heap_alloc_new w (.cells #[.int .i64 0,.slice none 0 0,.slice none 0 0,.slice none 0 0,.slice none 0 0,.slice none 0 0] 39);rw[<-j9,<-hP]at m9;rw[<-l6]at a8 a7 b9;have H0:=zD a8 i0;have x0:=Kh (qGR w.heap.size w1 _ gs n i0.size (hT.kept i0 yq) a5 h1 b8 yo yo);obtain⟨k8,y8,l0,t9,HK,x2⟩:=Kf hP j9 i0 a5 hk m9;obtain⟨o1,z8,z6,d9⟩:=Kd H0 a0 a4 l6;have c0:=zJ H0 0;simp only[sPd,sPe,sPf]at c0;have x5:=a7.1;have x4:cp<=9223372036854775807:=by have:=a7.2;unfold maxLen at this;omega
 clear j9 i0 m9 a5 hT a8 H0 a0 a4 hk l6 a7;go_enter Tryz.func70,Tryz.ntmps70;go_upto_region 1 with fail;rw[<-y8.out,<-k8.out];clear hP;go_wp2_with fail;refine x0.out.mono ?_;rintro e w2 (⟨rfl,d6,d5⟩|⟨el,pr,la,ri,m,u,cG,cE,cP,cL,cR,cU,sG,sE,sP,sL,sR,sU,rfl,q7,g6,hl,x7,hE,n1,n3,n0,d5⟩)
 ·have z9:Hid (qCJ gs n):=Kh (cH h1 (by rw[HK.out];exact a6) d6)
  clear d6 c0;have i3:=zD x2.out d5;obtain⟨w3,d2⟩:=Nm (w2.alloc (.cells #[.int .i64 0,.bool false,.slice none 0 0,.slice none 0 0,.slice none 0 0,.slice none 0 0,.slice none 0 0,.slice none 0 0,.int .i64 0] 75));have h5:w2.grownBy w3 none:=by rw[d2];exact Ga w2 _ none
  have c7:=zD i3 h5;have H5:=Kh c7;have k9:=Kh (zE (zE l0.out d5) h5);have n5:=Kh d2;obtain⟨p0,p1,p2,p3,p4,p5⟩:=zU c7;have f0:=zB c7 0;have f1:=zB c7 1;have f2:=zB c7 2;have f3:=zB c7 3;have f4:=zB c7 4;have f5:=zB c7 5;clear d5 i3 d2 h5 c7;go_upto_region 2 with fail;rw[<-n5.out];go_wp2;refine bodyPost_ret (v:=.tuple #[.agg #[.int .i64 0,.slice none 0 0,.slice none 0 0,.slice none 0 0,.slice none 0 0,.slice none 0 0],.slice none 0 0,.int .i64 3]) (by simp[results,Tryz.results70,go_sem,p0,p1,p2,p3,p4,p5]) rfl ?_;obtain⟨p7,h7⟩:=uT H5.out (.int .i64 0) (.slice none 0 0) (.slice none 0 0) (.slice none 0 0) (.slice none 0 0) (.slice none 0 0);exact .inl ⟨rfl,z9.out,yM k9.out h7 (by show _<=P;have:=k8.out;omega)⟩
 subst hl;have e6:=qLD t9.out h1 (by rw[HK.out];exact a6) q7 g6;have i3:=zD x2.out d5;rw[HK.out];obtain⟨m,hm⟩:=Nm el.length;rw[<-hm]at x7 hE n1 n3 n0⊢;obtain⟨w3,d2⟩:=Nm (w2.alloc (.cells #[.int .i64 n,.bool true,.slice sG k cG,.slice sE m cE,.slice sP m cP,.slice sL m cL,.slice sR m cR,.slice sU u cU,.int .i64 m] 75));have h5:w2.grownBy w3 none:=by rw[d2];exact Ga w2 _ none
 have k4:=heap_alloc_new w2 (.cells #[.int .i64 n,.bool true,.slice sG k cG,.slice sE m cE,.slice sP m cP,.slice sL m cL,.slice sR m cR,.slice sU u cU,.int .i64 m] 75);rw[<-d2]at k4;obtain⟨b5,m6⟩:=Nm w2.heap.size;rw[<-m6]at k4;have g1:=h5.size;have k3:1<=m:=by rw[hm];exact e6.en.pos
 obtain⟨qb,qo,lb,lo,rb,rf,eb,eo,rfl,rfl,rfl,rfl,n4⟩:=EnuAt.of k4 (el:=el) (pr:=pr) (la:=la) (ri:=ri) ((hE.tmat.kept h5 yq).mono g1) ((n1.row.kept h5 yq).mono g1) ((n3.row.kept h5 yq).mono g1) ((n0.tmat.kept h5 yq).mono g1) hm.symm (by rw[hm];exact e6.en.l2) (by rw[hm];exact e6.en.l3) (by rw[hm];exact e6.rl) (fun i hi=>by rw[(e6.row i yo).2.1,HK.out]) k3 a6;have H5:=Kh (zD i3 h5);have k9:=Kh (zE (zE l0.out d5) h5);have n5:=Kh d2;have A4:=Kh m6;have c9:=Kh (zE d5 h5);have h8:Hid (FinE gs n el pr la ri el.length):=Kh e6;have HM:=Kh hm;have l1:=Kh n4;have c3:=n4.c3;obtain⟨p0,p1,p2,p3,p4,p5⟩:=zU H5.out;have f0:=zB H5.out 0;have f1:=zB H5.out 1;have f2:=zB H5.out 2;have f3:=zB H5.out 3;have f4:=zB H5.out 4;have f5:=zB H5.out 5;clear q7 g6 e6 i3 hE n1 n3 n0 d5 d2 h5 k4 m6 n4 g1 hm c0 x0;go_upto_region 2 with fail;rw[<-n5.out,<-A4.out];by_cases b0:400<m
 ·have l8:(400:Int)<m:=yo
  go_wp2;refine bodyPost_ret (v:=.tuple #[.agg #[.int .i64 0,.slice none 0 0,.slice none 0 0,.slice none 0 0,.slice none 0 0,.slice none 0 0],.slice none 0 0,.int .i64 3]) (by simp[results,Tryz.results70,go_sem,p0,p1,p2,p3,p4,p5]) rfl ?_;obtain⟨p7,h7⟩:=uT H5.out (.int .i64 0) (.slice none 0 0) (.slice none 0 0) (.slice none 0 0) (.slice none 0 0) (.slice none 0 0);exact .inl ⟨rfl,h8.out.nosyn (by rw[<-HM.out];exact b0) h1 (by rw[HK.out];exact a6),yM k9.out h7 (by show _<=P;have:=k8.out;omega)⟩
 have l8:¬(400:Int)<m:=yo
 have b0:m<=400:=yo
 clear p0 p1 p2 p3 p4 p5 f0 f1 f2 f3 f4 f5;go_upto_region 7 with fail;obtain⟨rb0,ro0,rc0,q6,_,g4,_⟩:=l1.out.r 0 yo;have s1:(ri.getD 0 []).length=k:=by rw[(h8.out.row 0 (by rw[<-HM.out];omega)).2.1,HK.out]
 have i2:=zD o1.out c9.out;have d0:=zJ i2 0;simp only[sPd,sPe,sPf]at d0;refine qRA (im:=ri.getD 0 []) (r0:=rb0) (ro:=ro0) (rc:=rc0) (gb:=gb) (rb:=rb) (rf:=rf) (cR:=cR) k3 b0 ⟨d0,l1.out.c6,by simpa using q6⟩ l1.out.rc1 (fun W hW=>?_) ?_
 ·have:=iL w3.heap.size W (.slice (some ⟨rb0,ro0,none⟩) k rc0) (ri.getD 0 []) (g4.kept hW yq) yo yo
  rw[s1]at this;exact this.mono fun e w' ⟨g,c,he,_,h2,h3,ho,hg⟩=>⟨g,c,he,h2,h3,ho,hg⟩
 intro z36 z37 z38 z39 z40 z41 z42 z43 z44 z45 z46 z47 z48 z49 z50 z51 z52 w6 w7 o tg wg ig ic pg s8 n2;rw[<-qNY,<-qMD (pr:=pr) k3 h8.out.zero]at n2;have t7:=Kh n2;have g0:=Kh s8;have j3:Hid (∀W:World,w6.grownBy W none->EnuAt w3.heap.size W b5 m n k el pr la ri qb qo cP lb lo cL rb rf cR eb eo cE):=Kh (fun W hW=>l1.out.kept (zE g0.out hW));have d7:Hid (∀i,i<m->1<=i->∃p a:Nat,pr.getD i 0=(p:Int)/\la.getD i 0=(a:Int)/\p<i/\a<gs.length/\vZ pr la i=vZ pr la p++[a]/\qCP pr la i=.string (strOfNums (lets (vZ pr la p))++strOfNums [97+(a:Int)])/\(vZ pr la p).length<=p/\∀x,atW ri x (vZ pr la i)=(ri.getD (atW ri x (vZ pr la p)) []).getD a 0):=Kh (fun i hi h0=>h8.out.step (by rw[<-HM.out];exact hi) h0);clear q6 g4 s1 i2 d0 n2 s8 c3;go_wp2
 go_loopg [9] (m-1) (fun gh a9 wr=>∃i:Nat,gh+i=m/\a9=.int .i64 i/\1<=i/\MonS w6 o m k tg wg ig ic pg (ri.getD 0 []) (List.replicate m (.slice none 0 0)) [] (wRow pr la m i) (mRow m i) [] wr)
 case atStart=>exact⟨1,yo,rfl,Nat.le_refl _,t7.out⟩
 clear t7;obtain⟨i,d4,rfl,s4,H1⟩:=hrel;have H4:=Kh d4;have h6:=Kh H1;have E:=j3.out _ H1.g;clear d4 H1;by_cases hi:i<m
 ·have g7:(i:Int)<m:=yo
  obtain⟨p,a,ep,ea,r7,i6,hw,j7,l5,k5⟩:=d7.out i hi s4;have cq:=E.q i hi;have cl:=E.l i hi;rw[ep]at cq;rw[ea]at cl;rw[HK.out]at i6;go_upto_region 11 with fail;refine qQX h6.out hi r7 yo b0 (sp:=strOfNums (lets (vZ pr la p))) (by rw[strOfNums_size,lets,List.length_map];omega) E.c4 cq (qME yo r7) E.c5 cl E.qc1 E.lc1 ?_;intro z58 z59 z60 z61 z62 z63 z64 z65 z66 z67 z68 z69 z70 z71 z72 z73 z74 z75 z76 z77 z78 z79 z80 w9 h9;rw[<-j7,qMC]at h9;obtain⟨i1,_,_,e8,_,_,s0⟩:=h9.cells;have q5:=zJ i1 5;simp only[sPd,sPe,sPf]at q5;have p9:=e8.bool i (by rw[s0];exact hi);have f9:=e8.frozen i;obtain⟨x9,o6⟩:=Nm ((mRow m i).getD i false);rw[<-o6]at p9;have H6:=h9.putP hi true;rw[qNX s4]at H6;have A7:=Kh H6;clear h9 H6 i1 e8 s0 o6 E cq cl ep ea hw j7 l5 k5;go_wp2;go_roundg (m-(i+1))
  case measure=>have:=H4.out;omega
  exact⟨i+1,by have:=H4.out;omega,by go_num,yo,A7.out⟩
 have d3:i=m:=by have:=H4.out;omega
 have g7:¬(i:Int)<m:=yo
 have H8:Hid (MonS w6 o m k tg wg ig ic pg (ri.getD 0 []) (List.replicate m (.slice none 0 0)) ((tabE pr la ri m).take 0) (uV (vX pr la m)) (pluE m (tO (ri.take 0))) [] wr):=Kh (by
  have:=h6.out;rw[d3,qMF,qNZ k3]at this
  exact this)
 have c6:=E.c6;clear h6 E d3;go_wp2
 go_loopg [10,11,12,88] m (fun gh a10 a11 a12 a88 wr=>∃(i:Nat) (H7:List Value),gh+i=m/\a88=.int .i64 i/\MonS w6 o m k tg wg ig ic pg (ri.getD 0 []) H7 ((tabE pr la ri m).take i) (uV (vX pr la m)) (pluE m (tO (ri.take i))) [] wr)
 case atStart=>exact⟨0,_,rfl,rfl,H8.out⟩
 clear H8 c6;obtain⟨i,H7,d4,rfl,H1⟩:=hrel;have H4:=Kh d4;have h6:=Kh H1;have E:=j3.out _ H1.g;clear d4 H1;by_cases hi:i<m
 ·have g7:(i:Int)<m:=yo
  obtain⟨sb,so,sc,cr,k0,g5,_⟩:=E.r i hi;have n6:=Kh g5;have s9:((tabE pr la ri m).take i).length=i:=by rw[List.length_take,wW];omega
  have j4:=Kh s9;have m7:=E.rc1;have y6:=m7.1;have y5:cR<=9223372036854775807:=by have:=m7.2;unfold maxLen at this;omega
  clear g5 k0 E s9 m7;go_upto_region 16 with fail;refine qQY h6.out yo b0 (b:=tO (ri.take i)) rfl (r:=ri.getD i []) (n6.out.mono g0.out.size) ?_;intro z93 z94 z95 z96 z97 z98 z99 z100 z101 z102 z103 w9 h9;rw[qND,<-qCM (by rw[h8.out.rl,<-HM.out];exact hi)]at h9;clear cr;go_upto_region 17 with fail;refine qQZ h9 hi j4.out b0 ?_;intro z104 z105 z106 z107 z108 z109 w10 cg H6;have t4:=H6.cells.2.2.2.2.1;obtain⟨f7,t6,_⟩:=H6.cells;have q1:=zJ f7 1;simp only[sPd,sPe,sPf]at q1
  have m0:(H7.set i (.slice (some ⟨cg,0,none⟩) m m))[i]?=some (.slice (some ⟨cg,0,none⟩) m m):=by
   rw[List.length_set]at t4;rw[List.getElem?_set_self yo]
  have q2:=pI t6 m0;have q3:=H6.arrC.nat 0 (by simp;omega);have f3:=H6.arrC.frozen 0;obtain⟨x3,o8⟩:=Nm ((List.replicate m 0).getD 0 0);rw[<-o8]at q3;have e9:=H6.putC (j:=0) yo (.int .i64 (i:Int));rw[lJ,qMP (pr:=pr) (ri:=ri) h8.out.zero]at e9;have l4:=Kh e9;have j1:=Kh m0;clear h9 H6 e9 t4 f7 t6 m0 o8 h6;go_wp2
  go_loopg [12] (m-1) (fun gh a12 wr=>∃j:Nat,gh+j=m/\a12=.int .i64 j/\1<=j/\MonS w6 o m k tg wg ig ic pg (ri.getD 0 []) (H7.set i (.slice (some ⟨cg,0,none⟩) m m)) ((tabE pr la ri m).take i) (uV (vX pr la m)) (pluE m (tO (ri.take (i+1)))) (⟨w6.heap.size,3,.slice (some ⟨cg,0,none⟩) m m,m,nats (tRow pr la ri m i j),1⟩::[]) wr)
  case atStart=>exact⟨1,yo,rfl,Nat.le_refl _,l4.out⟩
  clear l4 q1 q2 q3 f3;obtain⟨j,s5,rfl,y1,H1⟩:=hrel;have n7:=Kh s5;have h6:=Kh H1;have E:=j3.out _ H1.g;clear s5 H1;by_cases hj:j<m
  ·have y2:(j:Int)<m:=yo
   obtain⟨p,a,ep,ea,x6,i6,hw,j7,l5,k5⟩:=d7.out j hj y1;have cq:=E.q j hj;have cl:=E.l j hj;rw[ep]at cq;rw[ea]at cl;rw[HK.out]at i6
   have hx:atW ri i (vZ pr la p)<m:=by
    have:=(h8.out.at t9.out (x:=i) (by rw[<-HM.out];exact hi) (vZ pr la p) (oM h8.out.en.words p (by rw[<-HM.out];omega)).1).1;rw[HM.out];exact this
   obtain⟨sb,so,sc,cr,k0,_,p8⟩:=E.r _ hx;have cy:=p8 a i6;rw[<-k5 i]at cy;go_upto_region 22 with fail;refine qSN (x:=atW ri i (vZ pr la p)) (y:=atW ri i (vZ pr la j)) h6.out hi hj yo hx i6 b0 fK j1.out (qMQ yo x6) E.c6 E.c4 cq cr E.c5 cl cy E.qc1 E.lc1 E.rc1 k0 ?_;intro z122 z123 z124 z125 z126 z127 z128 z129 z130 z131 z132 z133 z134 z135 z136 z137 z138 z139 z140 z141 z142 z143 z144 z145 z146 z147 z148 z149 z150 z151 w9 h9;rw[qMO]at h9;have H9:=Kh h9;clear h9 E cq cl cr cy p8 k0 hx k5 l5 j7 hw ea ep h6;go_wp2;go_roundg (m-(j+1))
   case measure=>have:=n7.out;omega
   exact⟨j+1,by have:=n7.out;omega,by go_num,yo,H9.out⟩
  have s3:j=m:=by have:=n7.out;omega
  have y2:¬(j:Int)<m:=yo
  have H9:Hid (MonS w6 o m k tg wg ig ic pg (ri.getD 0 []) (H7.set i (.slice (some ⟨cg,0,none⟩) m m)) ((tabE pr la ri m).take (i+1)) (uV (vX pr la m)) (pluE m (tO (ri.take (i+1)))) [] wr):=Kh (by
   have:=h6.out;rw[s3,qMR]at this;have:=this.fin j4.out hi j1.out;rw[<-qAH hi]at this
   exact this)
  clear h6 E s3;go_wp2;go_roundg (m-(i+1))
  case measure=>have:=H4.out;omega
  exact⟨i+1,_,by have:=H4.out;omega,by go_num,H9.out⟩
 have d3:i=m:=by have:=H4.out;omega
 have g7:¬(i:Int)<m:=yo;have k6:=h6.out;rw[d3,List.take_of_length_le (l:=tabE pr la ri m) (by rw[wW];exact Nat.le_refl _),List.take_of_length_le (l:=ri) (by rw[h8.out.rl,<-HM.out];exact Nat.le_refl _)]at k6;have m2:w1.grownBy wr none:=zE (zE c9.out g0.out) k6.g;have f7:=zD o1.out m2;have d1:=zJ f7 1;simp only[sPd,sPe,sPf]at d1;obtain⟨A0,j2,A5⟩:=Kc k6 m2 f7;clear k6 m2 f7 h6 E d3;obtain⟨wo,rfl⟩:=Nm (wr:World);go_upto_region 25 with (first|(at_make;refine eD rfl _ _ _ rfl qHJ rfl .i64 .i64 _ _ np rfl rfl rfl rfl ?b1 ?b2 ?_;(case b1=>omega);(case b2=>(unfold maxLen;omega));intro w8 h4 b4 e4)|fail);obtain⟨lg,r9⟩:=Nm wo.heap.size;have H2:=LisS.start A0.out b4 h4;rw[<-r9]at H2⊢;have g8:=zE j2.out b4;have d8:=zJ (zD o1.out g8) 1;simp only[sPd,sPe,sPf]at d8;have H3:=Kh H2;have A1:Hid (((ps.map fun p=>accP p el).take 0)=[]):=Kh rfl;clear h4 b4 e4 r9 H2 g8 d1 j2 A5;go_wp2
 go_loopg [14,15,16,17,164] np (fun gh a14 a15 a16 a17 a164 wr=>∃(kk:Nat) (e2:List Value),gh+kk=np/\a164=.int .i64 kk/\LisS w6 o m k tg wg ig ic pg (ri.getD 0 []) H7 (tabE pr la ri m) (uV (vX pr la m)) (pluE m (tO ri)) lg np e2 ((ps.map fun p=>accP p el).take kk) [] wr)
 case atStart=>exact⟨0,_,rfl,rfl,by rw[A1.out];exact H3.out⟩
 clear H3 d8;obtain⟨kk,e2,d4,rfl,H2⟩:=hrel;have H4:=Kh d4;have H3:=Kh H2;have b6:w1.grownBy wr none:=zE (zE c9.out g0.out) H2.g;have A3:=Kh b6;clear d4 H2;by_cases hkk:kk<np
 ·have l9:(kk:Int)<np:=yo
  obtain⟨vf,a1,a2,a3,f6⟩:=z8.out kk (by rw[<-d9.out];exact hkk);have b3:=zE l0.out b6;have a1:=zN a1 b3;have a2:=zN a2 b3;have a3:=zN a3 b3;obtain⟨pv,k2⟩:=Nm (ps.getD kk default);have q9:pv∈ps:=(by rw[k2];exact wT (by rw[<-d9.out];exact hkk));rw[<-k2]at a1 a3 f6;obtain⟨fA,fC,rfl⟩:=f6.shape;rw[yB]at a2 f6;obtain⟨nf,l7⟩:=Nm pv.fin.length;rw[<-l7]at a2 f6;obtain⟨wo2,rfl⟩:=Nm (wr:World);obtain⟨w9,j8⟩:=Nm (wo2.alloc (.cells #[.int .i64 (pv.st:Int),.slice fA nf fC,.int .i64 (pv.sh:Int)] 115));have m3:wo2.grownBy w9 none:=(by rw[j8];exact Ga wo2 _ none);have c8:=heap_alloc_new wo2 (.cells #[.int .i64 (pv.st:Int),.slice fA nf fC,.int .i64 (pv.sh:Int)] 115);rw[<-j8]at c8;obtain⟨b15,e7⟩:=Nm wo2.heap.size;rw[<-e7]at c8;have t5:=H3.out.grow m3;obtain⟨j0,y7,o0,j5,z5,z7⟩:=Kf t5 j8 e7 c8 k2 q9;have A8:=Kh l7;have y9:Hid (∀W:World,w.grownBy W none->Row w.heap.size W (.slice fA nf fC) (bls pv.fin)):=Kh (fun W hW=>f6.kept hW yq);have A9:=Kh m3;have j4:Hid (((ps.map fun p=>accP p el).take kk).length=kk):=Kh (by rw[List.length_take,List.length_map,<-d9.out];omega);clear b6 b3 m3 c8 e7 t5 k2 q9 f6 l7 j8 H3;go_upto_region 28 with fail;rw[<-y7.out,<-o0.out];clear a1 a2 a3;go_upto_region 29 with (first|(at_make;refine eD rfl _ _ _ rfl xK rfl .i64 .i64 _ _ m rfl rfl rfl rfl ?b1 ?b2 ?_;(case b1=>omega);(case b2=>(unfold maxLen;omega));intro w8 h4 b4 e4;(have i9:=(j0.out.grow b4).arrL);(have q8:=i9.1.cell kk (by rw[i9.2];exact hkk));(have f8:=i9.1.frozen kk);(obtain⟨x8,o7⟩:∃x,x=e2[kk]'(by rw[i9.2];exact hkk):=⟨_,rfl⟩);(rw[<-o7]at q8);clear i9 o7)|fail);obtain⟨bg,t1⟩:=Nm w9.heap.size;rw[show List.replicate m (.bool false)=bls (List.replicate m false) by simp[bls]]at h4;have i7:=j0.out.begin hkk j4.out b4 h4;have y0:=j0.out.arrL.2;rw[<-t1]at i7⊢;obtain⟨w10,e0⟩:=Nm (w8.setCell ⟨lg,kk,none⟩ (.slice (some ⟨bg,0,none⟩) m m));have i8:=(j0.out.grow b4).arrL.1;have m8:=zD j5.out b4
  have r8:lg≠b15:=fun e=>by
   obtain⟨c1,m1,q1,_⟩:=i8;rw[e,m8]at q1;simp at q1
  have s7:w8.grownBy w10 (some lg):=(by rw[e0];exact zH w8 ⟨lg,kk,none⟩ _);have i5:=zD m8 s7 (fun e=>r8 (Oj e));rw[<-e0]at i7⊢;have j1:Hid ((e2.set kk (.slice (some ⟨bg,0,none⟩) m m))[kk]?=some (.slice (some ⟨bg,0,none⟩) m m)):=Kh (by rw[List.getElem?_set_self yo])
  have t8:Hid (LisS w6 o m k tg wg ig ic pg (ri.getD 0 []) H7 (tabE pr la ri m) (uV (vX pr la m)) (pluE m (tO ri)) lg np (e2.set kk (.slice (some ⟨bg,0,none⟩) m m)) ((ps.map fun p=>accP p el).take kk) (⟨w6.heap.size,4,.slice (some ⟨bg,0,none⟩) m m,m,bls (bRow (accP pv el) m 0),1⟩::[]) w10):=Kh (by
   have e:bRow (accP pv el) m 0=List.replicate m false:=by simp[bRow]
   rw[e];exact i7)
  have j6:=Kh i5;have c3:=(j3.out _ i7.g).c3;clear h4 b4 e4 q8 f8 i7 y0 i8 m8 r8 s7 i5 e0 t1 j0 j5;go_wp2
  go_loopg [16,17,177] m (fun gh a16 a17 a177 wr=>∃i:Nat,gh+i=m/\a177=.int .i64 i/\LisS w6 o m k tg wg ig ic pg (ri.getD 0 []) H7 (tabE pr la ri m) (uV (vX pr la m)) (pluE m (tO ri)) lg np (e2.set kk (.slice (some ⟨bg,0,none⟩) m m)) ((ps.map fun p=>accP p el).take kk) (⟨w6.heap.size,4,.slice (some ⟨bg,0,none⟩) m m,m,bls (bRow (accP pv el) m i),1⟩::[]) wr/\wr.heap[b15]?=some (.cells #[.int .i64 (pv.st:Int),.slice fA nf fC,.int .i64 (pv.sh:Int)] 115 (0,0)))
  case atStart=>exact⟨0,rfl,rfl,t8.out,j6.out⟩
  clear t8 j6 c3;obtain⟨i,s6,rfl,H2,t2⟩:=hrel;obtain⟨n8,H3,A6⟩:=Kc s6 H2 t2;have g9:=H2.g;have n9:=Kh g9;have E:=j3.out _ g9;clear s6 H2 t2;have t3:(accP pv el).length=m:=by rw[accP,List.length_map,<-HM.out]
  have o3:=Kh t3;clear t3;by_cases hi:i<m
  ·have g7:(i:Int)<m:=yo
   obtain⟨vv,ce,k1⟩:=E.e i hi;obtain⟨vA,vC,rfl⟩:=k1.shape;obtain⟨vn,o9⟩:=Nm ((nats (el.getD i [])).length);rw[<-o9]at ce k1;have m5:=E.ec1;have y4:=m5.1;have y3:cE<=9223372036854775807:=by have:=m5.2;unfold maxLen at this;omega
   have m4:el.getD i []∈el:=wT (by rw[<-HM.out];exact hi);obtain⟨p6,g2,g3⟩:=z6.out pv z7.out;have g3:=g3 el pr la ri h8.out _ m4;have g6:=h8.out.en.it _ m4
   have o4:Hid (∀W:World,wr.grownBy W none->Calls Tryz.prog 85 #[.agg #[.int .i64 (pv.st:Int),.slice fA nf fC,.int .i64 (pv.sh:Int)],.slice vA vn vC] W fun e w'=>e=.returned (.bool ((accP pv el).getD i false))/\W.grownBy w' none):=Kh (fun W hW=>by
    rw[qPD (by rw[<-HM.out];exact hi)];refine qHZ w.heap.size w3.heap.size W _ _ pv.fin (el.getD i []) pv.st pv.sh ?_ (k1.kept hW yq) (by rw[g6.1];exact p6) g3.1 g3.2 g2
    exact y9.out _ (zE l0.out (zE (zE c9.out g0.out) (zE n9.out hW))))
   clear g6 g3 g2 p6 m4 m5 k1 E o9;go_upto_region 32 with fail;refine qSO H3.out A6.out hi b0 hkk yo j1.out (qEH o3.out yo) o4.out ?_;intro z182 z183 z184 z185 z186 z187 z188 z189 z190 w11 e9 i4;rw[qOW o3.out hi]at e9;have l4:=Kh e9;have o2:=Kh i4;clear e9 i4 ce;go_wp2;go_roundg (m-(i+1))
   case measure=>have:=n8.out;omega
   exact⟨i+1,by have:=n8.out;omega,by go_num,l4.out,o2.out⟩
  have d3:i=m:=by have:=n8.out;omega
  have g7:¬(i:Int)<m:=yo
  have H9:Hid (LisS w6 o m k tg wg ig ic pg (ri.getD 0 []) H7 (tabE pr la ri m) (uV (vX pr la m)) (pluE m (tO ri)) lg np (e2.set kk (.slice (some ⟨bg,0,none⟩) m m)) ((ps.map fun p=>accP p el).take (kk+1)) [] wr):=Kh (by
   have:=H3.out;rw[d3,qOX o3.out]at this;have:=this.fin j4.out hkk j1.out
   have e:(ps.map fun p=>accP p el).take (kk+1)=(ps.map fun p=>accP p el).take kk++[accP pv el]:=by
    rw[yH (d:=accP default el) (by rw[List.length_map,<-d9.out];exact hkk),xY (x:=default) (by rw[<-d9.out];exact hkk),<-z5.out]
   rw[e];exact this)
  clear H3 E d3;go_wp2;go_roundg (np-(kk+1))
  case measure=>have:=H4.out;omega
  exact⟨kk+1,_,by have:=H4.out;omega,by go_num,H9.out⟩
 have s2:kk=np:=by have:=H4.out;omega
 have l9:¬(kk:Int)<np:=yo;have k7:=H3.out;rw[s2,List.take_of_length_le (l:=ps.map fun p=>accP p el) (by rw[List.length_map,<-d9.out];exact Nat.le_refl _)]at k7;obtain⟨t0,r1,r2,r3,r4,r5⟩:=k7.read (wW _ _ _ _) (by rw[List.length_map,<-d9.out]);have e5:w3.grownBy wr none:=zE g0.out k7.g;have c2:=zD H5.out e5;obtain⟨q0,q1,q2,q3,q4,q5⟩:=zU t0;obtain⟨p0,p1,p2,p3,p4,p5⟩:=zU c2;have f0:=zB c2 0;have f1:=zB c2 1;have f2:=zB c2 2;have f3:=zB c2 3;have f4:=zB c2 4;have f5:=zB c2 5;have x1:=Kh c2;have A2:=Kh (zE k9.out e5);obtain⟨z4,z3,z2,z1,z0⟩:=Ke r1 r2 r3 r4 r5;clear k7 t0 r1 r2 r3 r4 r5 e5 c2 s2 b6 H3;go_wp2;refine bodyPost_ret (v:=.tuple #[.agg #[.int .i64 (k:Int),.slice (some ⟨tg,0,none⟩) m m,.slice (some ⟨wg,0,none⟩) m m,.slice (some ⟨ig,0,none⟩) k ic,.slice none 0 0,.slice (some ⟨pg,0,none⟩) m m],.slice (some ⟨lg,0,none⟩) np np,.int .i64 0]) (by simp[results,Tryz.results70,go_sem,p0,p1,p2,p3,p4,p5]) rfl ?_;obtain⟨p7,h7⟩:=uT x1.out (.int .i64 (k:Int)) (.slice (some ⟨tg,0,none⟩) m m) (.slice (some ⟨wg,0,none⟩) m m) (.slice (some ⟨ig,0,none⟩) k ic) (.slice none 0 0) (.slice (some ⟨pg,0,none⟩) m m)
 have e3:∀e',e'≠39->∀j,(some P:Option Nat)=some j->wr.heap.size<=j\/yS wr e' j:=fun e' he j hj=>by
  have hj:=Oj hj;subst hj;exact .inr ⟨_,_,_,x1.out,fun e1=>he e1.symm⟩
 have hz:=h7.size;obtain⟨hs,r5,r6⟩:=z0.out;refine .inr ⟨el,pr,la,ri,tg,wg,ig,ic,pg,lg,h8.out,by rw[<-HM.out];exact b0,?_⟩;rw[<-HM.out,<-d9.out,HK.out];exact⟨rfl,(z4.out.kept h7 (e3 _ jd) (e3 _ jd)).mono hz,(z3.out.kept h7 (e3 _ jd)).mono hz,(z2.out.kept h7 (e3 _ jd)).mono hz,(z1.out.kept h7 (e3 _ jd)).mono hz,⟨hs,(r5.kept h7 (e3 _ jd)).mono hz,(r6.kept h7 (e3 _ jd)).mono hz⟩,yM A2.out h7 (by show _<=P;have:=k8.out;omega)⟩
def qLW (d:DfaV)(w:World)(e:Ending)(w':World):Prop :=
 (∃c:Int,e=.returned (.tuple #[.agg #[.int .i64 0,.slice none 0 0,.slice none 0 0,.slice none 0 0,.slice none 0 0,.slice none 0 0],.int .i64 c])/\c≠0/\(uR d≠0->c=uR d)/\(uR d=0->c=3/\∀S,¬nK d S)/\w.grownBy w' none) \/
 ∃(S:SynV) (v:Value),e=.returned (.tuple #[v,.int .i64 0])/\nK d S/\iF w'.heap.size w' v S/\w.grownBy w' none
theorem qLY.ret {w w':World}{e:Ending}(h:qLY d w e w'):qLW d w e w':=by
 rcases h with ⟨c,h1,h2,h3,h4,h5⟩|⟨S,v,n,k,m,M,h1,h2,h3,h4,h5,h6,h7,h8⟩
 ·exact .inl ⟨c,h1,h2,h3,fun h=>⟨(h4 h).1,(h4 h).2.2⟩,h5⟩
 exact .inr ⟨S,v,h5,⟨n,k,m,M,h1,h2,h3,h4,h6⟩,h7,h8⟩
theorem qIH (h:uR d=0):d.final.length<=512:=by
 unfold uR at h
 split at h
 ·simp at h
 split at h
 ·simp at h
 split at h
 ·simp at h
 omega
theorem tN.one_ {w:World}{B:Nat}{hs:List Value}{b:List Bool}(h:tN B 4 bls w hs [b]):∃a c,hs=[.slice a b.length c]/\RowT B 4 w (.slice a b.length c) (bls b):=by
 obtain⟨h1,h2⟩:=h
 match hs,h1 with
 | [v],_ =>
  have h3:RowT B 4 w v (bls b):=h2 0 yq yq;obtain⟨a,c,rfl⟩:=h3.shape;rw[yB]at h3⊢;exact⟨a,c,rfl,h3⟩
theorem qIO (B:Nat)(w:World)(v:Value)(d:DfaV)(hB:B<=w.heap.size)(h:rP B w v d):Calls Tryz.prog 45 #[v] w (qLW d w):=by
 obtain⟨fv,nv,rfl,hf,hn⟩:=id h;obtain⟨fA,fC,rfl⟩:=hf.shape;obtain⟨nA,nC,rfl⟩:=hn.shape;rw[yB]at h⊢;obtain⟨nf,g3⟩:=Nm d.final.length;obtain⟨nn,g0⟩:=Nm d.next.length;rw[<-g3,<-g0]at h⊢;obtain⟨wA,b8⟩:=Nm ((w.alloc (.cells #[.int .i64 d.letters,.int .i64 d.start,.slice fA nf fC,.slice nA nn nC] 29)).alloc (.cells #[.int .i64 0,.slice none 0 0,.slice none 0 0,.slice none 0 0,.slice none 0 0,.slice none 0 0] 39));have g1:=Ga w (.cells #[.int .i64 d.letters,.int .i64 d.start,.slice fA nf fC,.slice nA nn nC] 29) none;have n1:=heap_alloc_new w (.cells #[.int .i64 d.letters,.int .i64 d.start,.slice fA nf fC,.slice nA nn nC] 29);obtain⟨w1,b2⟩:=Nm (w.alloc (.cells #[.int .i64 d.letters,.int .i64 d.start,.slice fA nf fC,.slice nA nn nC] 29));rw[<-b2]at g1 n1 b8;have g2:=Ga w1 (.cells #[.int .i64 0,.slice none 0 0,.slice none 0 0,.slice none 0 0,.slice none 0 0,.slice none 0 0] 39) none;have n2:=heap_alloc_new w1 (.cells #[.int .i64 0,.slice none 0 0,.slice none 0 0,.slice none 0 0,.slice none 0 0,.slice none 0 0] 39);rw[<-b8]at g2 n2;have c6:w1.heap.size=w.heap.size+1:=by rw[b2];simp
 have e0:=zD n1 g2;obtain⟨P,hP⟩:=Nm w.heap.size;have a2:=Kh hP;rw[c6]at n2;rw[<-hP]at e0 n2;have b4:=zE g1 g2;have d8:=h.kept b4 yq;have j8:=Kh (qM B wA _ d (Nat.le_trans hB b4.size) d8);obtain⟨j5,j7,HG,HD,i8,k8⟩:=Kf b8 b2 b4 d8 e0 n2;have l0:=Kh c6;clear hf hn h g3 g0 b8 g1 n1 b2 g2 n2 e0 b4 d8 c6;go_enter Tryz.func45,Tryz.ntmps45;go_upto_region 1 with fail;rw[<-j7.out,<-j5.out,<-a2.out];clear hP;obtain⟨c0,c1,c2,c3⟩:=zM i8.out;go_wp2_with fail;refine j8.out.mono ?_;rintro e w2 ⟨rfl,b5⟩;have c5:=Kh b5;have a0:=zD i8.out b5;have h2:=zD k8.out b5;have e8:=Kh a0;have H4:=Kh h2;obtain⟨d0,d1,d2,d3⟩:=zM a0;obtain⟨p0,p1,p2,p3,p4,p5⟩:=zU h2;have f0:=zB h2 0;have f1:=zB h2 1;have f2:=zB h2 2;have f3:=zB h2 3;have f4:=zB h2 4;have f5:=zB h2 5;obtain⟨vd,c7⟩:=Nm (uR d);have a3:=Kh c7;rw[<-c7];clear b5 a0 h2 c0 c1 c2 c3 c7;by_cases hv:vd=0
 ·have h7:=qQJ (by rw[<-a3.out];exact hv)
  have H1:=qIH (by rw[<-a3.out];exact hv);obtain⟨n,hn⟩:=Nm d.final.length;obtain⟨k,hk⟩:=Nm d.letters.toNat;rw[<-hn,<-hk]at h7;rw[<-hn]at H1;obtain⟨w3,b1⟩:=Nm (w2.alloc (.cells #[.slice none 0 0,.slice none 0 0,.int .i64 0] 101));have a5:w2.grownBy w3 none:=by rw[b1];exact Ga w2 _ none
  have d9:=heap_alloc_new w2 (.cells #[.slice none 0 0,.slice none 0 0,.int .i64 0] 101);obtain⟨o5,d4⟩:=Nm w2.heap.size;rw[<-b1,<-d4]at d9;have e3:=zE c5.out a5;have i1:=HD.out.kept e3 yq;have i6:=Kh (qNC B w3 _ d n k (by have:=HG.out.size;have:=e3.size;omega) i1 h7 H1);have b0:=zD e8.out a5;obtain⟨h6,j6,i5,k5⟩:=Kd h7 b1 d4 d9;have k7:=Kh (zD H4.out a5);have k4:=Kh a5;have e6:=Kh H1;clear hn hk i1 h7 d0 d1 d2 d3 p0 p1 p2 p3 p4 p5 f0 f1 f2 f3 f4 f5 b1 a5 d9 d4 e3 H1;subst hv;go_upto_region 5 with fail;rw[<-j6.out,<-i5.out];obtain⟨d0,d1,d2,d3⟩:=zM b0;clear b0;go_wp2_with fail;refine i6.out.mono ?_;rintro e w4 ⟨v4,rfl,H7,d6⟩;have b3:=cJ h6.out;have g4:=qKI h6.out;obtain⟨M,hM⟩:=Nm (minD d k);obtain⟨m,hm⟩:=Nm (minN d k);rw[<-hM,<-hm]at b3;rw[<-hm]at g4;rw[<-hM]at H7;have e9:=Kh (qDF (w0:=w2) (zD k5.out d6) (zE k4.out d6) (by rw[i5.out];exact Nat.le_refl _) H7 b3 (by have:=e6.out;omega));have b9:=Kh hM;have h5:=Kh b3;clear H7 b3 g4 hM hm d6 d0 d1 d2 d3 i6;go_wp2_with fail;refine e9.out.mono ?_;rintro e w5 (⟨H0,rfl,H9⟩|⟨H0,rfl,gb,pb,cp,fA',fC',i2,hT,q0,q1,q2,a7,a6,f8,H9⟩)
  ·have h1:=zD H4.out H9
   have H3:=Kh h1;have c4:=Kh H9;obtain⟨p0,p1,p2,p3,p4,p5⟩:=zU h1;have f0:=zB h1 0;have f1:=zB h1 1;have f2:=zB h1 2;have f3:=zB h1 3;have f4:=zB h1 4;have f5:=zB h1 5;clear H9 h1 e9;go_wp2;refine bodyPost_ret (v:=.tuple #[.agg #[.int .i64 0,.slice none 0 0,.slice none 0 0,.slice none 0 0,.slice none 0 0,.slice none 0 0],.int .i64 3]) (by simp[results,Tryz.results45,go_sem,p0,p1,p2,p3,p4,p5]) rfl ?_;obtain⟨c9,H2⟩:=uT H3.out (.int .i64 0) (.slice none 0 0) (.slice none 0 0) (.slice none 0 0) (.slice none 0 0) (.slice none 0 0);exact .inl ⟨3,rfl,jd,fun h=>absurd a3.out.symm h,fun _=>⟨rfl,qFD h6.out (by rw[<-b9.out];exact h5.out) (.inl H0)⟩,zE (zE (zE HG.out c5.out) c4.out) H2 (fun j e=>by have e:P+1=j:=Oj e;have:=a2.out;omega)⟩
  have g8:=h5.out.k1;have g7:=h5.out.k6;have c8:st0 M<m:=by have:=h5.out.sn;have:=h5.out.s0;unfold st0;omega
  have H6:=qDH w5 o5 gb k pb 0 cp m (pH M m k) [⟨st0 M,M.final,0⟩] i2 hT.tmat (mL h5.out) h5.out.n1 H0 (uH _ _ _) g8 g7 (fun j hj=>by
   have:j=0:=by simpa using hj
   subst this;exact⟨_,by simpa using q0,by simpa using q1,by simpa using q2,f8.row⟩) ⟨a7,a6⟩ yq (fun p hp=>by
   rw[List.mem_singleton]at hp;subst hp;refine⟨c8,by simp only;rw[h5.out.hn];omega,fun el pr la ri b6 f hf=>?_⟩;have g9:=b6.en.it f hf;refine⟨Nat.zero_le _,?_⟩;simp only;rw[h5.out.hn,Nat.zero_add]
   exact g9.2 _ (wT (by rw[g9.1];exact c8)))
  have e5:=Kh H6;have H3:=Kh (zD H4.out H9);have c4:=Kh (zE (zE HG.out c5.out) H9);clear H6 i2 hT q0 q1 q2 a7 a6 f8 H9 e9 c8 g8 g7;go_wp2_with fail;refine e5.out.mono ?_;rintro e w6 (⟨rfl,f9,H8⟩|⟨el,pr,la,ri,tg,wg,ig,ic,pg,lg,b6,g6,rfl,hT,hW,hI,e2,⟨hs,hL,i4⟩,H8⟩)
  ·have k2:=Kh f9
   have h4:=zD H3.out H8;obtain⟨w7,H5⟩:=Nm (w6.alloc (.cells #[.int .i64 0,.slice none 0 0,.slice none 0 0,.slice none 0 0,.slice none 0 0,.slice none 0 0] 39));have h3:w6.grownBy w7 none:=(by rw[H5];exact Ga w6 _ none);have h0:=zD h4 h3;have a1:=Kh h0;have e7:=Kh (zE (zE c4.out H8) h3);have e4:=Kh H5;obtain⟨p0,p1,p2,p3,p4,p5⟩:=zU h0;have f0:=zB h0 0;have f1:=zB h0 1;have f2:=zB h0 2;have f3:=zB h0 3;have f4:=zB h0 4;have f5:=zB h0 5;clear f9 H8 h4 H5 h3 h0 e5;go_upto_region 9 with fail;rw[<-e4.out];go_wp2;refine bodyPost_ret (v:=.tuple #[.agg #[.int .i64 0,.slice none 0 0,.slice none 0 0,.slice none 0 0,.slice none 0 0,.slice none 0 0],.int .i64 3]) (by simp[results,Tryz.results45,go_sem,p0,p1,p2,p3,p4,p5]) rfl ?_;obtain⟨c9,H2⟩:=uT a1.out (.int .i64 0) (.slice none 0 0) (.slice none 0 0) (.slice none 0 0) (.slice none 0 0) (.slice none 0 0);exact .inl ⟨3,rfl,jd,fun h=>absurd a3.out.symm h,fun _=>⟨rfl,qFD h6.out (by rw[<-b9.out];exact h5.out) (.inr (by rw[<-b9.out];exact k2.out))⟩,zE e7.out H2 (fun j e=>by have e:P+1=j:=Oj e;have:=a2.out;omega)⟩
  have e1:=synP (st:=st0 M) (fin:=M.final) b6 (mL h5.out) g6;have i0:(pH M m k).length=k:=uH _ _ _;rw[i0]at e1 hI⊢;obtain⟨aA,aC,rfl,hA⟩:=tN.one_ i4;simp only[qPC,kV]at hA hL;simp only[List.length_singleton]at hL⊢;obtain⟨N,hN⟩:=Nm el.length;rw[<-hN]at hT hW e2 hA hL⊢;have h4:=zD H3.out H8;obtain⟨w7,H5⟩:=Nm (w6.alloc (.cells #[.int .i64 (k:Int),.slice (some ⟨tg,0,none⟩) N N,.slice (some ⟨wg,0,none⟩) N N,.slice (some ⟨ig,0,none⟩) k ic,.slice none 0 0,.slice (some ⟨pg,0,none⟩) N N] 39));have h3:w6.grownBy w7 none:=(by rw[H5];exact Ga w6 _ none);have a8:=heap_alloc_new w6 (.cells #[.int .i64 (k:Int),.slice (some ⟨tg,0,none⟩) N N,.slice (some ⟨wg,0,none⟩) N N,.slice (some ⟨ig,0,none⟩) k ic,.slice none 0 0,.slice (some ⟨pg,0,none⟩) N N] 39);obtain⟨b7,d7⟩:=Nm w6.heap.size;rw[<-H5,<-d7]at a8;have h0:=zD h4 h3;have f6:=h3.size;obtain⟨lb,lo,lc,le,_,d5,_,g5⟩:=(hL.kept h3 yq).row.some_ yq;simp only[Value.slice.injEq,Option.some.injEq,Addr.mk.injEq,and_true]at le;obtain⟨⟨rfl,rfl⟩,j0,i9⟩:=le;clear j0 i9 d5;have c0:=g5.2 0 yq;simp only[List.getElem_cons_zero,Nat.add_zero]at c0;have j9:=Kh e1;have HT:=Kh (hT.kept h3 yq yq);have HW:=Kh (hW.kept h3 yq);have HI:=Kh (hI.kept h3 yq);have k0:=Kh (e2.kept h3 yq);have HA:=Kh (hA.kept h3 yq);have l1:=Kh a8;have a1:=Kh h0;have e7:=Kh (zE (zE c4.out H8) h3);obtain⟨e4,i7,j4,k3⟩:=Kd H5 d7 f6 hN;obtain⟨q0,q1,q2,q3,q4,q5⟩:=zU a8;have r4:=zB a8 4;have k9:P+1<b7:=(by have:=zS h4;omega);have i3:P+1≠b7:=yo;obtain⟨p0,p1,p2,p3,p4,p5⟩:=zU h0;have f0:=zB h0 0;have f1:=zB h0 1;have f2:=zB h0 2;have f3:=zB h0 3;have f4:=zB h0 4;have f5:=zB h0 5;clear b6 g6 hT hW hI e2 hL i4 hA H8 h4 H5 h3 a8 d7 h0 e1 g5 f6 hN e5 i0;go_upto_region 9 with fail;rw[<-e4.out,<-i7.out];go_wp2;refine bodyPost_ret (v:=.tuple #[.agg #[.int .i64 (k:Int),.slice (some ⟨tg,0,none⟩) N N,.slice (some ⟨wg,0,none⟩) N N,.slice (some ⟨ig,0,none⟩) k ic,.slice aA N aC,.slice (some ⟨pg,0,none⟩) N N],.int .i64 0]) (by simp[results,Tryz.results45,go_sem,p0,p1,p2,p3,p4,p5,i3]) rfl ?_;have a4:=zH w7 ⟨b7,4,none⟩ (.slice aA N aC);obtain⟨w8,j1⟩:=Nm (w7.setCell ⟨b7,4,none⟩ (.slice aA N aC));rw[<-j1]at a4⊢;have a9:=zD a1.out a4 (fun e=>i3 (Oj e).symm);obtain⟨c9,H2⟩:=uT a9 (.int .i64 (k:Int)) (.slice (some ⟨tg,0,none⟩) N N) (.slice (some ⟨wg,0,none⟩) N N) (.slice (some ⟨ig,0,none⟩) k ic) (.slice aA N aC) (.slice (some ⟨pg,0,none⟩) N N);have j3:iF w6.heap.size w7 (.agg #[.int .i64 (k:Int),.slice (some ⟨tg,0,none⟩) N N,.slice (some ⟨wg,0,none⟩) N N,.slice (some ⟨ig,0,none⟩) k ic,.slice aA N aC,.slice (some ⟨pg,0,none⟩) N N]) ⟨k,tabE pr la ri N,vX pr la N,ri.getD 0 [],accE M.final (st0 M) el,pluE N (tO ri)⟩:=⟨_,_,_,_,_,rfl,HT.out,HW.out,HI.out,HA.out,k0.out⟩;have h8:=j3.kept a4 (fun q e=>.inl (by have e:b7=q:=Oj e;have:=i7.out;omega));have h9:=h8.kept H2 (fun q e=>by have e:P+1=q:=Oj e;subst e;exact .inr ⟨_,_,_,a9,by unfold qPG;decide⟩);have j2:nK d ⟨k,tabE pr la ri N,vX pr la N,ri.getD 0 [],accE M.final (st0 M) el,pluE N (tO ri)⟩:=⟨n,k,m,M,h6.out,b9.out,h5.out,H0,by have:=j9.out;rw[<-k3.out]at this;exact this⟩;exact .inr ⟨_,_,rfl,j2,h9.mono (by have:=a4.size;have:=H2.size;have:=j4.out;omega),zE (yM e7.out a4 (by show _<=b7;have:=a2.out;omega)) H2 (fun j e=>by have e:P+1=j:=Oj e;have:=a2.out;omega)⟩
 have f7:vd≠0:=hv;go_wp2;refine bodyPost_ret (v:=.tuple #[.agg #[.int .i64 0,.slice none 0 0,.slice none 0 0,.slice none 0 0,.slice none 0 0,.slice none 0 0],.int .i64 vd]) (by simp[results,Tryz.results45,go_sem,p0,p1,p2,p3,p4,p5]) rfl ?_;obtain⟨c9,H2⟩:=uT H4.out (.int .i64 0) (.slice none 0 0) (.slice none 0 0) (.slice none 0 0) (.slice none 0 0) (.slice none 0 0);exact .inl ⟨vd,rfl,f7,fun _=>a3.out,fun h=>absurd (a3.out.trans h) f7,zE (zE HG.out c5.out) H2 (fun j e=>by have e:P+1=j:=Oj e;have:=a2.out;omega)⟩
end Go.Proofs.YtiknckajkdlppaaGreat
