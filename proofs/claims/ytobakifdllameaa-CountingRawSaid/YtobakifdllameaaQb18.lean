/- Part 18 of the proof. -/
import Derived.Test.YtobakifdllameaaQb8
import Derived.Test.YtobakifdllameaaQb17
import Derived.Deep.DeepCutAuto
set_option linter.unusedVariables false
set_option linter.unusedSimpArgs false
set_option maxRecDepth 100000
set_option maxHeartbeats 16000000
namespace Go.Proofs.Ytobakifdllameaa
open Go.Maps Go.RowKit
inductive MonS (w6:World)(o m k tg wg ig ic pg:Nat)(im:List Nat)(hsT:List Value)(done:List (List Nat))(ws:List Value)(ps:List Bool)(tl:List RowS)(w:World):Prop
 | mk (X:Nat->Prop) (hB:BoxS w6.heap.size X o 44 w6 w (⟨w6.heap.size,22,.slice (some ⟨tg,0,none⟩) m m,m,hsT,1⟩::⟨w6.heap.size,9,.slice (some ⟨wg,0,none⟩) m m,m,ws,1⟩::⟨w6.heap.size,3,.slice (some ⟨ig,0,none⟩) k ic,k,nats im,1⟩::⟨w6.heap.size,4,.slice (some ⟨pg,0,none⟩) m m,m,bls ps,1⟩::tl) #[.int .i64 (k:Int),.slice (some ⟨tg,0,none⟩) m m,.slice (some ⟨wg,0,none⟩) m m,.slice (some ⟨ig,0,none⟩) k ic,.slice none 0 0,.slice (some ⟨pg,0,none⟩) m m] w) (hT:xU X 3 nats w (hsT.take done.length) done)
section
variable {w6 w w':World} {o m k tg wg ig ic pg:Nat} {im:List Nat} {hsT:List Value} {done:List (List Nat)} {ws:List Value} {ps:List Bool} {tl:List RowS}
theorem MonS.grow (h:MonS w6 o m k tg wg ig ic pg im hsT done ws ps tl w)(hg:w.grownBy w' none):MonS w6 o m k tg wg ig ic pg im hsT done ws ps tl w':=by
 obtain⟨X,hB,hT⟩:=h;exact⟨X,(hB.grow hg).rebase,hT.kept (hB.mem.keep hg) hg.size⟩
theorem MonS.g (h:MonS w6 o m k tg wg ig ic pg im hsT done ws ps tl w):w6.grownBy w none:=by
 obtain⟨X,hB,hT⟩:=h;exact hB.grown
theorem MonS.cells (h:MonS w6 o m k tg wg ig ic pg im hsT done ws ps tl w):w.heap[o]?=some (.cells #[.int .i64 (k:Int),.slice (some ⟨tg,0,none⟩) m m,.slice (some ⟨wg,0,none⟩) m m,.slice (some ⟨ig,0,none⟩) k ic,.slice none 0 0,.slice (some ⟨pg,0,none⟩) m m] 44 (0,0))/\Arr w tg 22 hsT/\Arr w wg 9 ws/\Arr w pg 4 (bls ps)/\hsT.length=m/\ws.length=m/\ps.length=m:=by
 obtain⟨X,hB,hT⟩:=h;have h1:=hB.own (r:=⟨w6.heap.size,22,.slice (some ⟨tg,0,none⟩) m m,m,hsT,1⟩) (by simp);have h2:=hB.own (r:=⟨w6.heap.size,9,.slice (some ⟨wg,0,none⟩) m m,m,ws,1⟩) (by simp);have h3:=hB.own (r:=⟨w6.heap.size,4,.slice (some ⟨pg,0,none⟩) m m,m,bls ps,1⟩) (by simp);exact⟨hB.box,Arr.of_owns h1,Arr.of_owns h2,Arr.of_owns h3,by have:=h1.1;simpa using this,by have:=h2.1;simpa using this,by have:=h3.1;simpa [bls] using this⟩
theorem MonS.putW (h:MonS w6 o m k tg wg ig ic pg im hsT done ws ps tl w){i:Nat}(hi:i<m)(u:Value):MonS w6 o m k tg wg ig ic pg im hsT done (ws.set i u) ps tl (w.setCell ⟨wg,i,none⟩ u):=by
 obtain⟨X,hB,hT⟩:=h;have hP:=hB.put (j:=1) rfl hi u;exact⟨X,hP.rebase,hT.kept hP.kept hP.wk⟩
theorem MonS.putP (h:MonS w6 o m k tg wg ig ic pg im hsT done ws ps tl w){i:Nat}(hi:i<m)(b:Bool):MonS w6 o m k tg wg ig ic pg im hsT done ws (ps.set i b) tl (w.setCell ⟨pg,i,none⟩ (.bool b)):=by
 obtain⟨X,hB,hT⟩:=h;have hP:=hB.put (j:=3) rfl hi (.bool b);rw[qEB]at hP;exact⟨X,hP.rebase,hT.kept hP.kept hP.wk⟩
theorem MonS.begin {cg i:Nat}{xs:List Value}(h:MonS w6 o m k tg wg ig ic pg im hsT done ws ps [] w)(hi:i<m)(hd:done.length=i)(hg:w.grownBy w' none)(ho:w'.ownsRow w.heap.size 3 1 (.slice (some ⟨cg,0,none⟩) m m) m xs):MonS w6 o m k tg wg ig ic pg im (hsT.set i (.slice (some ⟨cg,0,none⟩) m m)) done ws ps (⟨w6.heap.size,3,.slice (some ⟨cg,0,none⟩) m m,m,xs,1⟩::[]) (w'.setCell ⟨tg,i,none⟩ (.slice (some ⟨cg,0,none⟩) m m)):=by
 obtain⟨X,hB,hT⟩:=h;have hA:=hB.add hg (e:=3) (sz:=1) (n:=m) (v:=.slice (some ⟨cg,0,none⟩) m m) (xs:=xs) ho (by decide);have hP:=hA.put (j:=0) rfl hi (.slice (some ⟨cg,0,none⟩) m m);refine⟨X,hP.rebase,?_⟩;rw[List.take_set_of_le (by omega)];exact hT.kept hP.kept hP.wk
theorem MonS.putC {cg j:Nat}{xs:List Value}(h:MonS w6 o m k tg wg ig ic pg im hsT done ws ps (⟨w6.heap.size,3,.slice (some ⟨cg,0,none⟩) m m,m,xs,1⟩::[]) w)(hj:j<m)(u:Value):MonS w6 o m k tg wg ig ic pg im hsT done ws ps (⟨w6.heap.size,3,.slice (some ⟨cg,0,none⟩) m m,m,(xs.set j u),1⟩::[]) (w.setCell ⟨cg,j,none⟩ u):=by
 obtain⟨X,hB,hT⟩:=h;have hP:=hB.put (j:=4) rfl hj u;exact⟨X,hP.rebase,hT.kept hP.kept hP.wk⟩
theorem MonS.arrC {cg:Nat}{xs:List Value}(h:MonS w6 o m k tg wg ig ic pg im hsT done ws ps (⟨w6.heap.size,3,.slice (some ⟨cg,0,none⟩) m m,m,xs,1⟩::[]) w):Arr w cg 3 xs:=by
 obtain⟨X,hB,hT⟩:=h;exact Arr.of_owns (hB.own (r:=⟨w6.heap.size,3,.slice (some ⟨cg,0,none⟩) m m,m,xs,1⟩) (by simp))
theorem MonS.fin {cg i:Nat}{r:List Nat}(h:MonS w6 o m k tg wg ig ic pg im hsT done ws ps (⟨w6.heap.size,3,.slice (some ⟨cg,0,none⟩) m m,m,nats r,1⟩::[]) w)(hd:done.length=i)(hi:i<m)(hh:hsT[i]?=some (.slice (some ⟨cg,0,none⟩) m m)):MonS w6 o m k tg wg ig ic pg im hsT (done++[r]) ws ps [] w:=by
 obtain⟨X,hB,hT⟩:=h;have hR:=BoxS.retire (rs:=(⟨w6.heap.size,22,.slice (some ⟨tg,0,none⟩) m m,m,hsT,1⟩::⟨w6.heap.size,9,.slice (some ⟨wg,0,none⟩) m m,m,ws,1⟩::⟨w6.heap.size,3,.slice (some ⟨ig,0,none⟩) k ic,k,nats im,1⟩::⟨w6.heap.size,4,.slice (some ⟨pg,0,none⟩) m m,m,bls ps,1⟩::[])) (r:=⟨w6.heap.size,3,.slice (some ⟨cg,0,none⟩) m m,m,nats r,1⟩) hB;refine⟨_,hR,?_⟩;have hX:RowX (fun j=>X j\/(Value.slice (some ⟨cg,0,none⟩) m m).ownBlock=some j) 3 w (.slice (some ⟨cg,0,none⟩) m m) (nats r):=RowX.of_owns (hB.own (r:=⟨w6.heap.size,3,.slice (some ⟨cg,0,none⟩) m m,m,nats r,1⟩) (by simp)) (fun j hj=>.inr hj);have h9:=(hT.mono (X':=fun j=>X j\/(Value.slice (some ⟨cg,0,none⟩) m m).ownBlock=some j) (fun j hj=>.inl hj)).snoc hX
 have e:hsT.take done.length++[.slice (some ⟨cg,0,none⟩) m m]=hsT.take (done++[r]).length:=by
  rw[List.length_append,List.length_singleton,hd,List.take_add_one,hh];rfl
 rw[e]at h9;exact h9
end
theorem qQB {Q:Exit->Act->World->Prop}{v0 v1 v2 v3 v4 v6 v7 s9 r0 r1 r2 r3 r4 r5 r6 r7 r8 r9 q0 q1 q3 q4 q5 q6 q7 q8 p0 p1 p2 p3 p4 p5 p6 p7 p8 p9 o0 o1 o2 o3 o4 o5 o6 o7 o8 o9 n0 n1 n2 n3 n4 n5 n6 n7 n8 x5 x6 x7 x8 x9 t0 t1 t2 t3 t4 t5 t6 t7 t8 t9 s0 s1 s2 s3 s4 s5 s6 s7 n9 m0 m1 m2 m3 m4 m5 m6 m7 m8 m9 l0 l1 l2 l3 l4 l5 l6 l7 k0 k1 k2 k3 k4 k5 k6 k7 k8 k9 j0 j1 j2 j3 j4 j5 j6 j7 j8 j9 i0 i1 i2 i3 i4 i5 i6 i7 i8 i9 g0 g1 g2 g3 g4 g5 g6 g7 g8 g9 f0 f1 f2 f3 f4 f5 f6 f7 f8 e0 e1 e2 e3 e4 e5 e6 e7 e8 e9 d0 d1 d2 d3 d4 d5 d6 d7 d8 d9 c0 c1 c2 c3 c6 c7 c8 c9 b0 b1 b2 b3 b4 b6 b7 b8 b9 a0 a1 a2 a3 a4 a5 a6 a7 a8:Value}{w6 w:World}{o m k tg wg ig ic pg:Nat}{im:List Nat}{s8:List Value}{done:List (List Nat)}{ws:List Value}{ps:List Bool}{tl:List RowS}{b5 qb qo qc lb lo lc i p a:Nat}{sp:ByteArray}(h:MonS w6 o m k tg wg ig ic pg im s8 done ws ps tl w)(hi:i<m)(hp:p<i)(ha:a<26)(hm:m<=400)(x4:sp.size<=400)(c4:w.cell? ⟨b5,4,none⟩=some (.slice (some ⟨qb,qo,none⟩) m qc))(cq:w.cell? ⟨qb,qo+i,none⟩=some (.int .i64 (p:Int)))(cw:ws[p]?=some (.string sp))(c5:w.cell? ⟨b5,5,none⟩=some (.slice (some ⟨lb,lo,none⟩) m lc))(cl:w.cell? ⟨lb,lo+i,none⟩=some (.int .i64 (a:Int)))(l9:m<=qc/\qc<=maxLen)(l8:m<=lc/\lc<=maxLen)(a9:∀(z58 z59 z60 z61 z62 z63 z64 z65 z66 z67 z68 z69 z70 z71 z72 z73 z74 z75 z76 z77 z78 z79 z80:Value) (w':World),MonS w6 o m k tg wg ig ic pg im s8 done (ws.set i (.string (sp++strOfNums [97+(a:Int)]))) ps tl w'->Q .normal ⟨(v0::v1::v2::v3::v4::(Value.pointer (some ⟨b5,0,none⟩))::v6::v7::(Value.pointer (some ⟨o,0,none⟩))::(Value.int .i64 (i:Int))::s9::r0::r1::r2::r3::r4::r5::r6::r7::r8::r9::q0::q1::q3::q4::q5::q6::q7::q8::p0::p1::p2::p3::p4::p5::p6::p7::p8::p9::o0::o1::o2::o3::o4::o5::o6::o7::o8::o9::n0::n1::n2::n3::n4::n5::n6::n7::n8::z58::z59::z60::z61::z62::z63::z64::z65::z66::z67::z68::z69::z70::z71::z72::z73::z74::z75::z76::z77::z78::z79::z80::n9::m0::m1::m2::m3::m4::m5::m6::m7::m8::m9::l0::l1::l2::l3::l4::l5::l6::l7::k0::k1::k2::k3::k4::k5::k6::k7::k8::k9::j0::j1::j2::j3::j4::j5::j6::j7::j8::j9::i0::i1::i2::i3::i4::i5::i6::i7::i8::i9::g0::g1::g2::g3::g4::g5::g6::g7::g8::g9::f0::f1::f2::f3::f4::f5::f6::f7::f8::e0::e1::e2::e3::e4::e5::e6::e7::e8::e9::d0::d1::d2::d3::d4::d5::d6::d7::d8::d9::c0::c1::c2::c3::c6::c7::c8::c9::b0::b1::b2::b3::b4::b6::b7::b8::b9::a0::a1::a2::a3::a4::a5::a6::a7::a8::[]).toArray,[]⟩ w'):Code.wp Try.prog (reg Try.f31 11) Q ⟨(v0::v1::v2::v3::v4::(Value.pointer (some ⟨b5,0,none⟩))::v6::v7::(Value.pointer (some ⟨o,0,none⟩))::(Value.int .i64 (i:Int))::s9::r0::r1::r2::r3::r4::r5::r6::r7::r8::r9::q0::q1::q3::q4::q5::q6::q7::q8::p0::p1::p2::p3::p4::p5::p6::p7::p8::p9::o0::o1::o2::o3::o4::o5::o6::o7::o8::o9::n0::n1::n2::n3::n4::n5::n6::n7::n8::x5::x6::x7::x8::x9::t0::t1::t2::t3::t4::t5::t6::t7::t8::t9::s0::s1::s2::s3::s4::s5::s6::s7::n9::m0::m1::m2::m3::m4::m5::m6::m7::m8::m9::l0::l1::l2::l3::l4::l5::l6::l7::k0::k1::k2::k3::k4::k5::k6::k7::k8::k9::j0::j1::j2::j3::j4::j5::j6::j7::j8::j9::i0::i1::i2::i3::i4::i5::i6::i7::i8::i9::g0::g1::g2::g3::g4::g5::g6::g7::g8::g9::f0::f1::f2::f3::f4::f5::f6::f7::f8::e0::e1::e2::e3::e4::e5::e6::e7::e8::e9::d0::d1::d2::d3::d4::d5::d6::d7::d8::d9::c0::c1::c2::c3::c6::c7::c8::c9::b0::b1::b2::b3::b4::b6::b7::b8::b9::a0::a1::a2::a3::a4::a5::a6::a7::a8::[]).toArray,[]⟩ w:=by
 obtain⟨H2,x1,h4,x2,y7,y6,y5⟩:=h.cells
 have h0:∀W:World,w.grownBy W none->W.cell? ⟨o,2,none⟩=some (.slice (some ⟨wg,0,none⟩) m m)/\W.cell? ⟨b5,4,none⟩=some (.slice (some ⟨qb,qo,none⟩) m qc)/\W.cell? ⟨qb,qo+i,none⟩=some (.int .i64 (p:Int))/\W.cell? ⟨wg,p,none⟩=some (.string sp)/\W.cell? ⟨b5,5,none⟩=some (.slice (some ⟨lb,lo,none⟩) m lc)/\W.cell? ⟨lb,lo+i,none⟩=some (.int .i64 (a:Int)):=fun W hg=>by
  have q2:=zG (zB H2 hg) 2;simp only[List.getElem_toArray,List.getElem_cons_zero,List.getElem_cons_succ]at q2;exact⟨q2,zJ c4 hg,zJ cq hg,pE (h4.kept hg (by simp)) cw,zJ c5 hg,zJ cl hg⟩
 have h1:∀W:World,w.grownBy W none->∃u,W.cell? ⟨wg,i,none⟩=some u:=fun W hg=>⟨_,(h4.kept hg (by simp)).cell i (by omega)⟩;have H1:∀W:World,w.grownBy W none->W.frozen? ⟨wg,i,none⟩=false:=fun W hg=>(h4.kept hg (by simp)).frozen i;obtain⟨H,y2,y0⟩:=K3 h h1 H1;have y8:(i:Int)<m:=by omega
 have y4:(p:Int)<m:=by omega
 have H6:=l9.1;have H8:=l8.1;have H5:qc<=9223372036854775807:=by have:=l9.2;unfold maxLen at this;omega
 have H7:lc<=9223372036854775807:=by have:=l8.2;unfold maxLen at this;omega
 have z0:IntKind.u8.wrap (97+(a:Int))=97+(a:Int):=IntWalk.u8_in _ (by omega);have x0:IntKind.i64.wrap (97+(a:Int))=97+(a:Int):=xR (by omega);obtain⟨ex,h3⟩:=Nm (strOfNums [97+(a:Int)]);have y9:ex.size=1:=by rw[h3];rfl
 have y3:¬9223372036854775807<sp.size+1:=by omega
 have y1:=Kh h3;rw[<-h3]at a9;clear h H2 x1 h4 x2 c4 cq cw c5 cl l9 l8 h1 H1 h3;have H4:Hid (∀W:World,w.grownBy W none->W.cell? ⟨o,2,none⟩=some (.slice (some ⟨wg,0,none⟩) m m)/\W.cell? ⟨b5,4,none⟩=some (.slice (some ⟨qb,qo,none⟩) m qc)/\W.cell? ⟨qb,qo+i,none⟩=some (.int .i64 (p:Int))/\W.cell? ⟨wg,p,none⟩=some (.string sp)/\W.cell? ⟨b5,5,none⟩=some (.slice (some ⟨lb,lo,none⟩) m lc)/\W.cell? ⟨lb,lo+i,none⟩=some (.int .i64 (a:Int))):=Kh (fun W hg=>h0 W hg);clear h0
 conv=>arg 2;whnf
 obtain⟨w7,h6⟩:=Nm w.drew;have H0:w.grownBy w7 none:=by rw[h6];exact zW w none
 have x3:=Kh h6;have H3:=Kh H0;clear h6 H0;refine wp_region_noPanic ?_;refine yQ (G:=wH 23 (fun _=>True) (fun W=>W.cell? ⟨o,2,none⟩=some (.slice (some ⟨wg,0,none⟩) m m)/\W.cell? ⟨b5,4,none⟩=some (.slice (some ⟨qb,qo,none⟩) m qc)/\W.cell? ⟨qb,qo+i,none⟩=some (.int .i64 (p:Int))/\W.cell? ⟨wg,p,none⟩=some (.string sp)/\W.cell? ⟨b5,5,none⟩=some (.slice (some ⟨lb,lo,none⟩) m lc)/\W.cell? ⟨lb,lo+i,none⟩=some (.int .i64 (a:Int)))) (by kernel_rfl) ?_;rw[<-x3.out];have C:=Kh (H4.out w7 H3.out);refine zO 0 ⟨trivial,fun _=>C.out⟩ ?_;refine xG 1 ⟨trivial,fun _=>C.out⟩ ?_;refine zO 2 ⟨trivial,fun _=>C.out⟩ ?_;refine zO 3 ⟨trivial,fun _=>C.out⟩ ?_;refine xG 4 ⟨trivial,fun _=>C.out⟩ ?_;refine zO 5 ⟨trivial,fun _=>C.out⟩ ?_;refine xG 6 ⟨trivial,fun _=>C.out⟩ ?_;refine zO 7 ⟨trivial,fun _=>C.out⟩ ?_;refine zO 8 ⟨trivial,fun _=>C.out⟩ ?_;refine xG 9 ⟨trivial,fun _=>C.out⟩ ?_;refine zO 10 ⟨trivial,fun _=>C.out⟩ ?_;refine xG 11 ⟨trivial,fun _=>C.out⟩ ?_;refine zO 12 ⟨trivial,fun _=>C.out⟩ ?_;refine xG 13 ⟨trivial,fun _=>C.out⟩ ?_;refine zO 14 ⟨trivial,fun _=>C.out⟩ ?_;refine zO 15 ⟨trivial,fun _=>C.out⟩ ?_;refine xG 16 ⟨trivial,fun _=>C.out⟩ ?_;refine zO 17 ⟨trivial,fun _=>C.out⟩ ?_;refine zO 18 ⟨trivial,fun _=>C.out⟩ ?_;refine oneG (i:=19) (by kernel_rfl) rfl (fun K hK=>?_);go_simp;have h2:=heap_alloc_new w7 (.cells #[Value.int .u8 (97+(a:Int))] 5);have h7:=Ga w7 (.cells #[Value.int .u8 (97+(a:Int))] 5) none;obtain⟨gR,h9⟩:=Nm w7.heap.size;obtain⟨w9,h8⟩:=Nm (w7.alloc (.cells #[Value.int .u8 (97+(a:Int))] 5));rw[<-h9]at h2⊢;rw[<-h8]at h2 h7⊢;have h5:=Kh (zC H3.out h7);have C9:=Kh (H4.out w9 h5.out);refine hK.out _ _ ⟨trivial,fun _=>C9.out⟩ ?_;clear hK K C h9 h8 h7
 try simp only[Act.put,sPa,sPb,sPc]
 have H9:(convert 30 9 (.slice (some ⟨gR,0,none⟩) 1 1)).run Try.prog w9=.ok (.string ex) w9:=by
  rw[y1.out];exact fQ 30 5 Try.underlying30 Try.underlying5 9 Try.underlying9 (by simpa using zG h2 0)
 refine oneG (i:=20) (by kernel_rfl) rfl (fun K hK=>?_);go_simp;refine hK.out _ _ ⟨trivial,fun _=>C9.out⟩ ?_;clear hK K H9 h2
 try simp only[Act.put,sPa,sPb,sPc]
 refine oneG (i:=21) (by kernel_rfl) rfl (fun K hK=>?_);go_simp;refine hK.out _ _ ⟨trivial,fun _=>C9.out⟩ ?_;clear hK K
 try simp only[Act.put,sPa,sPb,sPc]
 refine zO 22 ⟨trivial,fun _=>C9.out⟩ ?_;refine oneG (i:=23) (by kernel_rfl) rfl (fun K hK=>?_);obtain⟨u9,q9⟩:=y2.out w9 h5.out;have f9:=y0.out w9 h5.out;go_simp;refine hK.out _ _ ⟨trivial,fun h=>by simp at h⟩ ?_;clear hK K q9 f9
 try simp only[Act.put,sPa,sPb,sPc]
 refine tZ (by kernel_rfl) ?_ _;refine NoPanic.normal ?_;exact a9 _ _ _ _ _ _ _ _ _ _ _ _ _ _ _ _ _ _ _ _ _ _ _  _ ((H.out.grow h5.out).putW hi _)
theorem qQD {Q:Exit->Act->World->Prop}{v0 v1 v2 v3 v4 v5 v6 v9 t2 t3 t4 t5 t6 t7 t8 t9 s0 s1 s2 s3 s4 s5 s6 s7 s8 s9 r0 r1 r2 r3 r4 r5 r6 r7 r8 r9 q0 q1 q3 q4 q5 q6 q7 q8 p0 p1 p2 p3 p4 p5 p6 p7 p8 p9 o0 o1 o2 o3 o4 o5 o6 o7 o8 o9 n0 n1 n2 n3 n4 n5 n6 n7 n8 n9 m0 m1 m2 m3 m4 m5 m6 m7 m8 m9 l0 l1 l2 l3 l4 l5 l6 l7 l8 l9 k0 k1 k2 j0 j1 j2 j3 k3 k4 k5 k6 k7 k8 j4 j5 j6 j7 j8 j9 i0 i1 i2 i3 i4 i5 i6 i7 i8 i9 g0 g1 g2 g3 g4 g5 g6 g7 g8 g9 f0 f1 f2 f3 f4 f5 f6 f7 f8 e0 e1 e2 e3 e4 e5 e6 e7 e8 e9 d0 d1 d2 d3 d4 d5 d6 d7 d8 d9 c0 c1 c2 c3 c4 c5 c6 c7 c8 c9 b0 b1 b2 b3 b4 b5 b6 b7 b8 b9 a0 a1 a2 a3 a4 a5 a6 a7 a8 a9:Value}{w6 w:World}{o m k tg wg ig ic pg:Nat}{im:List Nat}{t1:List Value}{done:List (List Nat)}{ws:List Value}{ps:List Bool}{i:Nat}(h:MonS w6 o m k tg wg ig ic pg im t1 done ws ps [] w)(hi:i<m)(hd:done.length=i)(hm:m<=400)(k9:∀(z104 z105 z106 z107 z108 z109:Value) (w':World) (cg:Nat),MonS w6 o m k tg wg ig ic pg im (t1.set i (.slice (some ⟨cg,0,none⟩) m m)) done ws ps (⟨w6.heap.size,3,.slice (some ⟨cg,0,none⟩) m m,m,nats (List.replicate m 0),1⟩::[]) w'->Q .normal ⟨(v0::v1::v2::v3::v4::v5::v6::(Value.int .i64 (m:Int))::(Value.pointer (some ⟨o,0,none⟩))::v9::(Value.int .i64 (i:Int))::t2::t3::t4::t5::t6::t7::t8::t9::s0::s1::s2::s3::s4::s5::s6::s7::s8::s9::r0::r1::r2::r3::r4::r5::r6::r7::r8::r9::q0::q1::q3::q4::q5::q6::q7::q8::p0::p1::p2::p3::p4::p5::p6::p7::p8::p9::o0::o1::o2::o3::o4::o5::o6::o7::o8::o9::n0::n1::n2::n3::n4::n5::n6::n7::n8::n9::m0::m1::m2::m3::m4::m5::m6::m7::m8::m9::l0::l1::l2::l3::l4::l5::l6::l7::l8::l9::k0::k1::k2::j0::j1::j2::j3::z104::z105::z106::z107::z108::z109::j4::j5::j6::j7::j8::j9::i0::i1::i2::i3::i4::i5::i6::i7::i8::i9::g0::g1::g2::g3::g4::g5::g6::g7::g8::g9::f0::f1::f2::f3::f4::f5::f6::f7::f8::e0::e1::e2::e3::e4::e5::e6::e7::e8::e9::d0::d1::d2::d3::d4::d5::d6::d7::d8::d9::c0::c1::c2::c3::c4::c5::c6::c7::c8::c9::b0::b1::b2::b3::b4::b5::b6::b7::b8::b9::a0::a1::a2::a3::a4::a5::a6::a7::a8::a9::[]).toArray,[]⟩ w'):Code.wp Try.prog (reg Try.f31 17) Q ⟨(v0::v1::v2::v3::v4::v5::v6::(Value.int .i64 (m:Int))::(Value.pointer (some ⟨o,0,none⟩))::v9::(Value.int .i64 (i:Int))::t2::t3::t4::t5::t6::t7::t8::t9::s0::s1::s2::s3::s4::s5::s6::s7::s8::s9::r0::r1::r2::r3::r4::r5::r6::r7::r8::r9::q0::q1::q3::q4::q5::q6::q7::q8::p0::p1::p2::p3::p4::p5::p6::p7::p8::p9::o0::o1::o2::o3::o4::o5::o6::o7::o8::o9::n0::n1::n2::n3::n4::n5::n6::n7::n8::n9::m0::m1::m2::m3::m4::m5::m6::m7::m8::m9::l0::l1::l2::l3::l4::l5::l6::l7::l8::l9::k0::k1::k2::j0::j1::j2::j3::k3::k4::k5::k6::k7::k8::j4::j5::j6::j7::j8::j9::i0::i1::i2::i3::i4::i5::i6::i7::i8::i9::g0::g1::g2::g3::g4::g5::g6::g7::g8::g9::f0::f1::f2::f3::f4::f5::f6::f7::f8::e0::e1::e2::e3::e4::e5::e6::e7::e8::e9::d0::d1::d2::d3::d4::d5::d6::d7::d8::d9::c0::c1::c2::c3::c4::c5::c6::c7::c8::c9::b0::b1::b2::b3::b4::b5::b6::b7::b8::b9::a0::a1::a2::a3::a4::a5::a6::a7::a8::a9::[]).toArray,[]⟩ w:=by
 obtain⟨H3,h6,H5,H6,x3,x2,x1⟩:=h.cells
 have h1:∀W:World,w.grownBy W none->W.cell? ⟨o,1,none⟩=some (.slice (some ⟨tg,0,none⟩) m m):=fun W hg=>by
  have q2:=zG (zB H3 hg) 1;simp only[List.getElem_toArray,List.getElem_cons_zero,List.getElem_cons_succ]at q2;exact q2
 have h2:∀W:World,w.grownBy W none->∃u,W.cell? ⟨tg,i,none⟩=some u:=fun W hg=>⟨_,(h6.kept hg (by simp)).cell i (by omega)⟩;have H2:∀W:World,w.grownBy W none->W.frozen? ⟨tg,i,none⟩=false:=fun W hg=>(h6.kept hg (by simp)).frozen i;obtain⟨H,t0,H9⟩:=K3 h h2 H2;have x4:(i:Int)<m:=by omega
 have x0:∀w:World,(Instr.makeSlice 22 (.int .i64 (m:Int)) (.int .i64 (m:Int))).run Try.prog w=.ok (.slice (some ⟨w.heap.size,0,none⟩) m m) (w.alloc (.cells (madeCells #[.int .i64 0] m) 3)) :=
  fun w=>qPD m (by omega) w
 clear h H3 h6 H5 H6 h2 H2;have H4:Hid (∀W:World,w.grownBy W none->W.cell? ⟨o,1,none⟩=some (.slice (some ⟨tg,0,none⟩) m m)):=Kh (fun W hg=>h1 W hg);clear h1
 conv=>arg 2;whnf
 obtain⟨w7,h5⟩:=Nm w.drew;have H1:w.grownBy w7 none:=by rw[h5];exact zW w none
 have H7:=Kh h5;have h9:=Kh H1;clear h5 H1;refine wp_region_noPanic ?_;refine yQ (G:=wH 6 (fun _=>True) (fun W=>W.cell? ⟨o,1,none⟩=some (.slice (some ⟨tg,0,none⟩) m m))) (by kernel_rfl) ?_;rw[<-H7.out];have C:=Kh (H4.out w7 h9.out);refine zO 0 ⟨trivial,fun _=>C.out⟩ ?_;refine xG 1 ⟨trivial,fun _=>C.out⟩ ?_;refine zO 2 ⟨trivial,fun _=>C.out⟩ ?_;refine zO 3 ⟨trivial,fun _=>C.out⟩ ?_;have h0:=oB (w:=w7) (b:=w7.heap.size) (m:=m) (e:=3) (by rw[aL,yM]) (Nat.le_refl _) (by unfold maxLen;omega);rw[<-yM]at h0;refine oneG (i:=4) (by kernel_rfl) rfl (fun K hK=>?_);go_simp;have h3:=Ga w7 (.cells (madeCells #[.int .i64 0] m) 3) none;obtain⟨cg,h4⟩:=Nm w7.heap.size;obtain⟨w9,H0⟩:=Nm (w7.alloc (.cells (madeCells #[.int .i64 0] m) 3));rw[<-H0]at h0 h3⊢;rw[<-h4]at h0⊢;rw[h4]at h0;have h7:Hid (w9.ownsRow w7.heap.size 3 1 (.slice (some ⟨cg,0,none⟩) m m) m (nats (List.replicate m 0))):=Kh (by rw[h4];exact h0);have H8:=Kh h3;have h8:=Kh (zC h9.out h3);have C9:=Kh (H4.out w9 h8.out);refine hK.out _ _ ⟨trivial,fun _=>C9.out⟩ ?_;clear hK K C h4 H0 h3 h0
 try simp only[Act.put,sPa,sPb,sPc]
 refine zO 5 ⟨trivial,fun _=>C9.out⟩ ?_;refine oneG (i:=6) (by kernel_rfl) rfl (fun K hK=>?_);obtain⟨u9,q9⟩:=t0.out w9 h8.out;have f9:=H9.out w9 h8.out;go_simp;refine hK.out _ _ ⟨trivial,fun h=>by simp at h⟩ ?_;clear hK K q9 f9
 try simp only[Act.put,sPa,sPb,sPc]
 refine tZ (by kernel_rfl) ?_ _;refine NoPanic.normal ?_;exact k9 _ _ _ _ _ _  _ cg ((H.out.grow h9.out).begin hi hd H8.out h7.out)
theorem qEY (n:Nat)(h:n<=4096):∀w:World,(Instr.makeSlice 35 (.int .i64 (n:Int)) (.int .i64 (n:Int))).run Try.prog w=.ok (.slice (some ⟨w.heap.size,0,none⟩) n n) (w.alloc (.cells (madeCells #[.slice none 0 0] n) 22)) :=
 fun w=>run_make_row' 35 22 (.slice none 0 0) 24 Try.underlying35 (by kernel_rfl) rfl .i64 .i64 n (by omega) (by omega) w
theorem qMW (n:Nat)(h:n<=4096):∀w:World,(Instr.makeSlice 42 (.int .i64 (n:Int)) (.int .i64 (n:Int))).run Try.prog w=.ok (.slice (some ⟨w.heap.size,0,none⟩) n n) (w.alloc (.cells (madeCells #[.string ⟨#[]⟩] n) 9)) :=
 fun w=>run_make_row' 42 9 (.string ⟨#[]⟩) 16 Try.underlying42 (by kernel_rfl) rfl .i64 .i64 n (by omega) (by omega) w
theorem qFA {z:Value}(hz:z.cells=#[z])(n:Nat):(madeCells #[z] n).toList=List.replicate n z:=by
 have:=qX hz n
 rwa [Nat.mul_one,hz]at this
theorem qS {w:World}{b b' e e' n n':Nat}{v v':Value}{xs a9:List Value}(h:w.ownsRow b e 1 v n xs)(h':w.ownsRow b' e' 1 v' n' a9)(a8:e≠e'):∀k,v.ownBlock=some k->v'.ownBlock≠some k:=by
 intro k hk h0;obtain⟨c,e3,m,hp,h3⟩:=vO h' (Ne.symm a8) k h0;exact zV h hp (Ne.symm h3) hk
theorem qQE {Q:Exit->Act->World->Prop}{v1 v2 v3 v4 v6 v8 v9 s4 s5 s6 s7 s8 s9 r1 r2 r3 r4 r5 r6 r7 r8 r9 q0 q1 q2 q3 q4 q5 q6 q7 q8 q9 p0 x5 x6 x7 x9 t0 t1 t2 t3 t4 t5 t6 t7 t8 t9 s0 s1 s2 p1 p2 p3 p4 p5 p6 p7 p8 p9 o0 o1 o2 o3 o4 o6 o7 o8 o9 n0 n1 n2 n3 n4 n5 n6 n7 n8 n9 m0 m1 m2 m3 m4 m5 m6 m7 m8 m9 l0 l1 l2 l3 l4 l5 l6 l7 l8 k1 k2 k3 k4 k5 k6 k7 k8 k9 j0 j1 j2 j3 j4 j5 j6 j7 j8 j9 i0 i1 i2 i3 i4 i5 i6 i7 i8 i9 g0 g1 g2 g3 g4 g5 g7 g9 f0 f1 f2 f3 f4 f5 f6 f7 f8 f9 e0 e1 e2 e3 e4 e5 e6 e7 e8 e9 d0 d1 d2 d3 d4 d5 d6 d7 d8 d9 c0 c1 c2 c3 c4 c5 c6 c7 c8 c9 b0 b1 b2 b3 b4 b6 b7 b8 b9 a1 a2 a3 a4 a5 a6 a7 a8 a9:Value}{w:World}{o5 b5 gb rb rf cR r0 ro rc m k:Nat}{im:List Nat}(x4:1<=m)(x3:m<=400)(hC:w.cell? ⟨o5,0,none⟩=some (.slice (some ⟨gb,0,none⟩) k k)/\w.cell? ⟨b5,6,none⟩=some (.slice (some ⟨rb,rf,none⟩) m cR)/\w.cell? ⟨rb,rf,none⟩=some (.slice (some ⟨r0,ro,none⟩) k rc))(l9:m<=cR/\cR<=maxLen)(s3:∀W:World,w.grownBy W none->Calls Try.prog 49 #[.slice (some ⟨r0,ro,none⟩) k rc] W fun e w'=>∃g c,e=.returned (.slice (some ⟨g,0,none⟩) k c)/\k<=c/\c<=maxLen/\w'.ownsRow W.heap.size 3 1 (.slice (some ⟨g,0,none⟩) k c) k (nats im)/\W.grownBy w' none)(k0:∀(z36 z37 z38 z39 z40 z41 z42 z43 z44 z45 z46 z47 z48 z49 z50 z51 z52:Value) (w6 w':World) (o tg wg ig ic pg:Nat),w.grownBy w6 none->MonS w6 o m k tg wg ig ic pg im (List.replicate m (.slice none 0 0)) [] (List.replicate m (.string ⟨#[]⟩)) (List.replicate m false) [] w'->Q .normal ⟨((Value.pointer (some ⟨o5,0,none⟩))::v1::v2::v3::v4::(Value.pointer (some ⟨b5,0,none⟩))::v6::(Value.int .i64 (m:Int))::(Value.pointer (some ⟨o,0,none⟩))::v9::s4::s5::s6::s7::s8::s9::r1::r2::r3::r4::r5::r6::r7::r8::r9::q0::q1::q2::q3::q4::q5::q6::q7::q8::q9::p0::z36::z37::z38::z39::z40::z41::z42::z43::z44::z45::z46::z47::z48::z49::z50::z51::z52::p1::p2::p3::p4::p5::p6::p7::p8::p9::o0::o1::o2::o3::o4::o6::o7::o8::o9::n0::n1::n2::n3::n4::n5::n6::n7::n8::n9::m0::m1::m2::m3::m4::m5::m6::m7::m8::m9::l0::l1::l2::l3::l4::l5::l6::l7::l8::k1::k2::k3::k4::k5::k6::k7::k8::k9::j0::j1::j2::j3::j4::j5::j6::j7::j8::j9::i0::i1::i2::i3::i4::i5::i6::i7::i8::i9::g0::g1::g2::g3::g4::g5::g7::g9::f0::f1::f2::f3::f4::f5::f6::f7::f8::f9::e0::e1::e2::e3::e4::e5::e6::e7::e8::e9::d0::d1::d2::d3::d4::d5::d6::d7::d8::d9::c0::c1::c2::c3::c4::c5::c6::c7::c8::c9::b0::b1::b2::b3::b4::b6::b7::b8::b9::a1::a2::a3::a4::a5::a6::a7::a8::a9::[]).toArray,[]⟩ w'):Code.wp Try.prog (reg Try.f31 7) Q ⟨((Value.pointer (some ⟨o5,0,none⟩))::v1::v2::v3::v4::(Value.pointer (some ⟨b5,0,none⟩))::v6::(Value.int .i64 (m:Int))::v8::v9::s4::s5::s6::s7::s8::s9::r1::r2::r3::r4::r5::r6::r7::r8::r9::q0::q1::q2::q3::q4::q5::q6::q7::q8::q9::p0::x5::x6::x7::x9::t0::t1::t2::t3::t4::t5::t6::t7::t8::t9::s0::s1::s2::p1::p2::p3::p4::p5::p6::p7::p8::p9::o0::o1::o2::o3::o4::o6::o7::o8::o9::n0::n1::n2::n3::n4::n5::n6::n7::n8::n9::m0::m1::m2::m3::m4::m5::m6::m7::m8::m9::l0::l1::l2::l3::l4::l5::l6::l7::l8::k1::k2::k3::k4::k5::k6::k7::k8::k9::j0::j1::j2::j3::j4::j5::j6::j7::j8::j9::i0::i1::i2::i3::i4::i5::i6::i7::i8::i9::g0::g1::g2::g3::g4::g5::g7::g9::f0::f1::f2::f3::f4::f5::f6::f7::f8::f9::e0::e1::e2::e3::e4::e5::e6::e7::e8::e9::d0::d1::d2::d3::d4::d5::d6::d7::d8::d9::c0::c1::c2::c3::c4::c5::c6::c7::c8::c9::b0::b1::b2::b3::b4::b6::b7::b8::b9::a1::a2::a3::a4::a5::a6::a7::a8::a9::[]).toArray,[]⟩ w:=by
 obtain⟨H1,H0,h9⟩:=hC
 conv=>arg 2;whnf
 obtain⟨w5,h8⟩:=Nm w.drew;have h5:w.grownBy w5 none:=by rw[h8];exact zW w none
 have y0:=Kh h8;have y1:=Kh h5;have C:Hid (w5.cell? ⟨o5,0,none⟩=some (.slice (some ⟨gb,0,none⟩) k k)/\w5.cell? ⟨b5,6,none⟩=some (.slice (some ⟨rb,rf,none⟩) m cR)/\w5.cell? ⟨rb,rf,none⟩=some (.slice (some ⟨r0,ro,none⟩) k rc)):=Kh ⟨zJ H1 h5,zJ H0 h5,zJ h9 h5⟩;have y2:Hid (∀W:World,w5.grownBy W none->Calls Try.prog 49 #[.slice (some ⟨r0,ro,none⟩) k rc] W fun e w'=>∃g c,e=.returned (.slice (some ⟨g,0,none⟩) k c)/\k<=c/\c<=maxLen/\w'.ownsRow w5.heap.size 3 1 (.slice (some ⟨g,0,none⟩) k c) k (nats im)/\W.grownBy w' none):=Kh (fun W hW=>(s3 W (zC h5 hW)).mono fun e w' ⟨g,c,he,h1,h2,ho,hg⟩=>⟨g,c,he,h1,h2,wS ho hW.size,hg⟩);have x1:=l9.1;have x0:cR<=9223372036854775807:=by have:=l9.2;unfold maxLen at this;omega
 have y4:0<m:=x4;have H9:m<=maxLen:=by unfold maxLen;omega
 clear h8 h5 H1 H0 h9 s3 l9;refine wp_region_noPanic ?_;refine yQ (G:=wH 18 (fun W=>W.cell? ⟨o5,0,none⟩=some (.slice (some ⟨gb,0,none⟩) k k)/\W.cell? ⟨b5,6,none⟩=some (.slice (some ⟨rb,rf,none⟩) m cR)/\W.cell? ⟨rb,rf,none⟩=some (.slice (some ⟨r0,ro,none⟩) k rc)) (fun _=>True)) (by kernel_rfl) ?_;rw[<-y0.out];refine zO 0 ⟨C.out,fun _=>trivial⟩ ?_;refine zO 1 ⟨C.out,fun _=>trivial⟩ ?_;refine zO 2 ⟨C.out,fun _=>trivial⟩ ?_;refine zO 3 ⟨C.out,fun _=>trivial⟩ ?_;refine zO 4 ⟨C.out,fun _=>trivial⟩ ?_;refine zO 5 ⟨C.out,fun _=>trivial⟩ ?_;refine zO 7 ⟨C.out,fun _=>trivial⟩ ?_;refine zO 9 ⟨C.out,fun _=>trivial⟩ ?_;refine zO 10 ⟨C.out,fun _=>trivial⟩ ?_;refine zO 11 ⟨C.out,fun _=>trivial⟩ ?_;refine zO 12 ⟨C.out,fun _=>trivial⟩ ?_;refine zO 14 ⟨C.out,fun _=>trivial⟩ ?_;refine uQ (fun Wp hWp a0 ha0=>?_);subst hWp
 try simp only[Act.put,sPd,sPe,sPf,sPa,sPb,sPc]at ha0
 have y3:=Kh ha0;refine uP (I:=pm7I k m o5 b5 gb rb rf cR r0 ro rc im w5 a0) (fun l a w h=>qSU C.out h) (qIY ha0 (qEY m (by omega)) (qMW m (by omega)) (qDJ m (by omega)) (Kh (qFA rfl m)) (Kh (qFA rfl m)) (Kh (qFA rfl m)) H9 y2.out) (by kernel_rfl) ?hend (by decide +kernel) ?hinit
 case hinit =>
  clear ha0;refine⟨a0.tmps.getD 42 undef,a0.tmps.getD 44 undef,a0.tmps.getD 49 undef,a0.tmps.getD 51 undef,a0.tmps.getD 52 undef,a0.tmps.getD 8 undef,0,(vQ (by simp)).symm,by decide +kernel,Kh (fun h=>absurd h (by decide +kernel)),Kh (fun h=>absurd h (by decide +kernel)),Kh (fun h=>absurd h (by decide +kernel)),Kh (fun h=>absurd h (by decide +kernel)),Kh (fun h=>absurd h (by decide +kernel)),Kh (fun h=>absurd h (by decide +kernel)),Kh (fun h=>absurd h (by decide +kernel)),Kh (fun h=>absurd h (by decide +kernel)),zT _ _⟩
 clear ha0;intro l a w6 h h0;obtain⟨x42,x44,x49,x51,x52,x8,o,ha,HR,H6,H8,H5,H4,H3,H2,B1,B2,HG⟩:=h;obtain⟨g6,rfl,h7⟩:=H6.out (h0 6 (by decide));obtain⟨g8,rfl,h6⟩:=H8.out (h0 8 (by decide));obtain⟨g13,c13,rfl,H7,x2,h4⟩:=H5.out (h0 13 (by decide));obtain⟨g15,rfl,h3⟩:=H4.out (h0 15 (by decide));obtain⟨_,_,_,_,rfl⟩:=H3.out (h0 16 (by decide));obtain⟨rfl,ho⟩:=H2.out (h0 17 (by decide));obtain⟨_,_,_,_,_,_,hb⟩:=B2.out (h0 18 (by decide));clear H6 H8 H5 H4 H3 H2 B1 B2 HR;subst ha;rw[y3.out];simp only[zP,List.foldl_cons,List.foldl_nil,Act.put,sPa,sPb,sPc];refine NoPanic.normal ?_;have e15:List.replicate m (.bool false)=bls (List.replicate m false):=by simp[bls]
 rw[e15]at h3;refine k0 _ _ _ _ _ _ _ _ _ _ _ _ _ _ _ _ _  w5 w6 o g6 g8 g13 c13 g15 y1.out ⟨fun _=>False,⟨⟨?_,?_,fun r hr k hk hx=>hx,fun k hk=>hk.elim⟩,?_,hb,fun h=>h,Nat.le_refl _,ho,HG.size,HG,xX.refl _ _,Nat.le_refl _⟩,xU.nil⟩
 ·intro r hr
  simp only[List.mem_cons,List.not_mem_nil,or_false]at hr;rcases hr with rfl|rfl|rfl|rfl
  ·exact h7
  ·exact h6
  ·exact h4
  exact h3
 ·refine List.pairwise_cons.2 ⟨fun s hs=>?_,List.pairwise_cons.2 ⟨fun s hs=>?_,List.pairwise_cons.2 ⟨fun s hs=>?_,List.pairwise_cons.2 ⟨fun s hs=>by simp at hs,List.Pairwise.nil⟩⟩⟩⟩
  ·simp only[List.mem_cons,List.not_mem_nil,or_false]at hs
   rcases hs with rfl|rfl|rfl
   ·exact qS h7 h6 (by decide)
   ·exact qS h7 h4 (by decide)
   exact qS h7 h3 (by decide)
  ·simp only[List.mem_cons,List.not_mem_nil,or_false]at hs
   rcases hs with rfl|rfl
   ·exact qS h6 h4 (by decide)
   exact qS h6 h3 (by decide)
  simp only[List.mem_cons,List.not_mem_nil,or_false]at hs;subst hs;exact qS h4 h3 (by decide)
 intro r hr;simp only[List.mem_cons,List.not_mem_nil,or_false]at hr;rcases hr with rfl|rfl|rfl|rfl<;>exact⟨rfl,by simp⟩
theorem qQN (n:Nat)(h:n<=100000):∀w:World,(Instr.makeSlice 22 (.int .i64 (n:Int)) (.int .i64 (n:Int))).run Try.prog w=.ok (.slice (some ⟨w.heap.size,0,none⟩) n n) (w.alloc (.cells (madeCells #[.int .i64 0] n) 3)) :=
 fun w=>run_make_row' 22 3 (.int .i64 0) 8 Try.underlying22 (by kernel_rfl) rfl .i64 .i64 n (by omega) (by omega) w
def mtab (c:CntV)(n k a q:Nat):List Int:=(List.range (n*k)).map fun t=>if a<t % k\/(t % k=a/\t / k<q) then (qL c (t / k) (t % k):Int) else 0
theorem nH (c:CntV)(n k a q:Nat):(mtab c n k a q).length=n*k:=by simp[mtab]
theorem qGK (c:CntV)(n k:Nat)(hk:0<k):mtab c n k k 0=List.replicate (n*k) 0:=by
 refine List.ext_getElem (by simp[mtab]) fun t h1 h2=>?_;have:=Nat.mod_lt t hk;simp only[mtab,List.getElem_map,List.getElem_range,List.getElem_replicate];rw[if_neg (by omega)]
theorem qGM (c:CntV)(n k a:Nat):mtab c n k (a+1) n=mtab c n k a 0:=by
 refine List.ext_getElem (by simp[mtab]) fun t h1 h2=>?_;rw[nH]at h1;have h0:t / k<n:=Nat.div_lt_of_lt_mul (by rw[Nat.mul_comm];exact h1);simp only[mtab,List.getElem_map,List.getElem_range]
 generalize t / k=Q at h0⊢
 generalize t % k=m
 by_cases h:a<m
 ·rw[if_pos (by omega),if_pos (by omega)]
 rw[if_neg (by omega),if_neg (by omega)]
theorem qGL (c:CntV)(n k:Nat)(hk:0<k):mtab c n k k n=mtab c n k k 0:=by
 refine List.ext_getElem (by simp[mtab]) fun t h1 h2=>?_;have:=Nat.mod_lt t hk;simp only[mtab,List.getElem_map,List.getElem_range];rw[if_neg (by omega),if_neg (by omega)]
theorem qMS {c:CntV}{n k a q:Nat}(ha:a<k)(hq:q<n):(mtab c n k a q).set (q*k+a) (qL c q a:Int)=mtab c n k a (q+1):=by
 refine List.ext_getElem (by simp[mtab]) fun t h1 h2=>?_;rw[List.getElem_set];simp only[mtab,List.getElem_map,List.getElem_range];have hk:0<k:=by omega
 split
 ·rename_i e
  subst e;have e1:(q*k+a) % k=a:=by rw[Nat.mul_comm,Nat.mul_add_mod,Nat.mod_eq_of_lt ha]
  have e2:(q*k+a) / k=q:=by rw[Nat.mul_comm,Nat.mul_add_div hk,Nat.div_eq_of_lt ha,Nat.add_zero]
  rw[e1,e2,if_pos (by omega)]
 rename_i e
 by_cases h:t % k=a/\t / k=q
 ·have:=Nat.div_add_mod t k
  rw[h.1,h.2,Nat.mul_comm]at this;exact absurd this e
 generalize t / k=Q at h⊢
 generalize t % k=m at h⊢
 by_cases h2:a<m\/(m=a/\Q<q)
 ·rw[if_pos h2,if_pos (by omega)]
 rw[if_neg h2,if_neg (by omega)]
theorem qMT {c:CntV}{n k s b:Nat}(hs:s<n)(hb:b<k):(mtab c n k 0 n).getD (s*k+b) 0=(qL c s b:Int):=by
 have hk:0<k:=by omega
 have hl:s*k+b<n*k:=by
  have:(s+1)*k<=n*k:=Nat.mul_le_mul_right k hs;rw[Nat.add_mul,Nat.one_mul]at this;omega
 have e1:(s*k+b) % k=b:=by rw[Nat.mul_comm,Nat.mul_add_mod,Nat.mod_eq_of_lt hb]
 have e2:(s*k+b) / k=s:=by rw[Nat.mul_comm,Nat.mul_add_div hk,Nat.div_eq_of_lt hb,Nat.add_zero]
 rw[zN (by rw[nH];exact hl)];simp only[mtab,List.getElem_map,List.getElem_range];rw[e1,e2,if_pos (by omega)]
theorem qQT {Q:Exit->Act->World->Prop}{v0 v2 v3 v4 v6 v7 v8 v9 j0 j1 j2 j3 j4 j5 j6 j7 j8 j9 i0 i1 i2 i3 l9 k0 k1 k2 k3 k4 k5 k6 k7 k8 k9 i4 i5 i6 i7 i8 i9 g0 g1 g2 g3 g4 g5 g6 g7 f0 f1 f2 f3 f4 f5 f6 f7 f8 f9 e2 e3 e4 e5 e6 e7 e8 e9 d0 d1 d2 d3 d4 d5 d6 d7 d8 d9 c1 c2 c3 c4 c5 c6 c7 c8 c9 b0 b1 b2 b3 b4 b5 b6 b7 b8 a0 a1 a2 a3 a4 a5 a6 a7:Value}{dd:_}{w:World}{P k n aC:Nat}{aA:Option Addr}(c0:w.cell? ⟨P,2,none⟩=some (.slice aA n aC))(hn:n<=2000)(hk:k<=6)(a9:∀(z24 z25 z26 z27 z28 z29 z30 z31 z32 z33 z34:Value) (w':World) (M ng:Nat),w'.heap[M]?=some (.cells #[.int .i64 (k:Int),.slice (some ⟨ng,0,none⟩) (n*k) (n*k),.slice aA n aC] 59 (0,0))->Arr w' ng 3 (ints (List.replicate (n*k) 0))->M≠ng->w.heap.size<=M->w.heap.size<=ng->w.grownBy w' none->Q .normal ⟨(v0::(Value.pointer (some ⟨P,0,none⟩))::v2::v3::v4::(Value.int .i64 (k:Int))::(Value.pointer (some ⟨M,0,none⟩))::v7::v8::v9::j0::j1::j2::j3::j4::j5::j6::j7::j8::j9::i0::i1::i2::i3::z24::z25::z26::z27::z28::z29::z30::z31::z32::z33::z34::i4::i5::i6::i7::i8::i9::g0::g1::g2::g3::g4::g5::g6::g7::f0::f1::f2::f3::f4::f5::f6::f7::f8::f9::e2::e3::e4::e5::e6::e7::e8::e9::d0::d1::d2::d3::d4::d5::d6::d7::d8::d9::c1::c2::c3::c4::c5::c6::c7::c8::c9::b0::b1::b2::b3::b4::b5::b6::b7::b8::a0::a1::a2::a3::a4::a5::a6::a7::[]).toArray,dd⟩ w'):Code.wp Try.prog (reg Try.f13 5) Q ⟨(v0::(Value.pointer (some ⟨P,0,none⟩))::v2::v3::v4::(Value.int .i64 (k:Int))::v6::v7::v8::v9::j0::j1::j2::j3::j4::j5::j6::j7::j8::j9::i0::i1::i2::i3::l9::k0::k1::k2::k3::k4::k5::k6::k7::k8::k9::i4::i5::i6::i7::i8::i9::g0::g1::g2::g3::g4::g5::g6::g7::f0::f1::f2::f3::f4::f5::f6::f7::f8::f9::e2::e3::e4::e5::e6::e7::e8::e9::d0::d1::d2::d3::d4::d5::d6::d7::d8::d9::c1::c2::c3::c4::c5::c6::c7::c8::c9::b0::b1::b2::b3::b4::b5::b6::b7::b8::a0::a1::a2::a3::a4::a5::a6::a7::[]).toArray,dd⟩ w:=by
 have h8:n*k<=12000:=Nat.mul_le_mul hn hk;have e0:(n:Int)*(k:Int)=((n*k:Nat):Int):=by simp
 have e1:IntKind.i64.wrap ((n:Int)*(k:Int))=((n*k:Nat):Int):=by rw[e0];exact xR (by omega)
 obtain⟨N,hN⟩:=Nm (n*k);rw[<-hN]at h8 e1 a9;have h9:=qQN N (by omega);have HE:=Kh a9;have H7:=Kh hN;clear e0 hN a9
 conv=>arg 2;whnf
 obtain⟨w7,h2⟩:=Nm w.drew;have h4:w.grownBy w7 none:=by rw[h2];exact zW w none
 have H3:=Kh h2;have h7:=Kh h4;have C:Hid (w7.cell? ⟨P,2,none⟩=some (.slice aA n aC)):=Kh (zJ c0 h4);clear h2 h4 c0;refine wp_region_noPanic ?_;refine yQ (G:=wH 11 (fun W=>W.cell? ⟨P,2,none⟩=some (.slice aA n aC)) (fun _=>True)) (by kernel_rfl) ?_;rw[<-H3.out];refine zO 0 ⟨C.out,fun _=>trivial⟩ ?_;refine zO 1 ⟨C.out,fun _=>trivial⟩ ?_;refine zO 2 ⟨C.out,fun _=>trivial⟩ ?_;refine zO 3 ⟨C.out,fun _=>trivial⟩ ?_;refine zO 4 ⟨C.out,fun _=>trivial⟩ ?_;refine zO 5 ⟨C.out,fun _=>trivial⟩ ?_;refine zO 7 ⟨C.out,fun _=>trivial⟩ ?_;refine zO 8 ⟨C.out,fun _=>trivial⟩ ?_;obtain⟨ng,h3⟩:=Nm w7.heap.size;obtain⟨w8,h0⟩:=Nm (w7.alloc (.cells (madeCells #[.int .i64 0] N) 3));have g8:w7.grownBy w8 none:=by rw[h0];exact Ga w7 _ none
 have a8:Arr w8 ng 3 (ints (List.replicate N 0)):=by
  rw[h0,h3,show ints (List.replicate N 0)=nats (List.replicate N 0) by simp[ints,nats],<-aL];exact Arr.new w7 3 _
 have z8:w8.heap.size=w7.heap.size+1:=by rw[h0,zU]
 obtain⟨H6,H4,H2,h5,H0⟩:=K5 a8 g8 h0 h3 z8;have C:=Kh (zJ C.out g8);clear h3 h0 g8 a8 z8;refine oneG (i:=6) (by kernel_rfl) rfl (fun K hK=>?_);go_simp;rw[<-H2.out,<-h5.out];refine hK.out _ _ ⟨C.out,fun _=>trivial⟩ ?_;clear hK K h9 e1
 try simp only[Act.put,sPd,sPe,sPf,sPa,sPb,sPc]
 refine zO 9 ⟨C.out,fun _=>trivial⟩ ?_;obtain⟨M,hM⟩:=Nm w8.heap.size;obtain⟨w9,h1⟩:=Nm (w8.alloc (.cells #[.int .i64 (k:Int),.slice (some ⟨ng,0,none⟩) N N,.slice aA n aC] 59));have g9:w8.grownBy w9 none:=by rw[h1];exact Ga w8 _ none
 have b9:=heap_alloc_new w8 (.cells #[.int .i64 (k:Int),.slice (some ⟨ng,0,none⟩) N N,.slice aA n aC] 59);rw[<-h1,<-hM]at b9;obtain⟨H5,h6,H1,HM⟩:=K4 b9 g9 h1 hM;have C:=Kh (zJ C.out g9);clear hM h1 g9 b9;refine oneG (i:=10) (by kernel_rfl) rfl (fun K hK=>?_);go_simp;rw[<-H1.out,<-HM.out];refine hK.out _ _ ⟨C.out,fun _=>trivial⟩ ?_;clear hK K
 try simp only[Act.put,sPd,sPe,sPf,sPa,sPb,sPc]
 refine oneG (i:=11) (by kernel_rfl) rfl (fun K hK=>?_);go_simp;refine hK.out _ _ ⟨C.out,fun _=>trivial⟩ ?_;clear hK K
 try simp only[Act.put,sPd,sPe,sPf,sPa,sPb,sPc]
 refine tZ (by kernel_rfl) ?_ _;refine NoPanic.normal ?_;have z1:=h5.out;have z2:=HM.out;have z3:=H0.out;have z4:=h7.out.size;exact HE.out _ _ _ _ _ _ _ _ _ _ _  w9 M ng H5.out (H6.out.kept h6.out (by simp)) (by omega) (by omega) (by omega) (zC (zC h7.out H4.out) h6.out)
end Go.Proofs.Ytobakifdllameaa
namespace Go.Proofs.Ytobakifdllameaa
open Go.RowKit
def qOX (c:CntV)(w:World)(e:Ending)(w':World):Prop :=
 ((∃z:Int,e=.returned (.tuple #[.agg #[.int .i64 0,.int .i64 0,.slice none 0 0,.slice none 0 0],.int .i64 z])/\((z=cntE c/\cntE c≠0)\/(z=3/\CntOk c/\512<minN (dfaC c) c.idx.length))) \/
 ∃f nx,e=.returned (.tuple #[.agg #[.int .i64 (c.idx.length:Int),.int .i64 0,f,nx],.int .i64 0])/\CntOk c/\minN (dfaC c) c.idx.length<=512/\DfaT w' f nx (minD (dfaC c) c.idx.length))/\w.grownBy w' none
def qHL (c:CntV)(z:Int)(m:DfaV):Prop:=(m=qHM/\((z=cntE c/\cntE c≠0)\/(z=3/\CntOk c/\512<minN (dfaC c) c.idx.length)))\/(z=0/\m=minD (dfaC c) c.idx.length/\CntOk c/\minN (dfaC c) c.idx.length<=512)
theorem qOX.out {c:CntV}{w w':World}{e:Ending}(h:qOX c w e w'):∃z m,qRD w z m e w'/\qHL c z m:=by
 obtain⟨⟨z,rfl,h1⟩|⟨f,nx,rfl,h1,h2,h3⟩,hg⟩:=h
 ·exact⟨z,qHM,⟨_,_,rfl,DfaT.zero _,hg⟩,.inl ⟨rfl,h1⟩⟩
 have hv:=iZ (nO h1);have e1:(minD (dfaC c) c.idx.length).letters=(c.idx.length:Int):=hv.hk;have e2:(minD (dfaC c) c.idx.length).start=0:=rfl;exact⟨0,_,⟨f,nx,by rw[e1,e2],h3,hg⟩,.inr ⟨rfl,rfl,h1,h2⟩⟩
theorem qHL.same {c:CntV}{z z':Int}{m m':DfaV}(h:qHL c z m)(h':qHL c z' m'):z=z'/\m=m':=by
 rcases h with ⟨rfl,h⟩|⟨rfl,rfl,h1,h2⟩<;>rcases h' with ⟨rfl,h'⟩|⟨rfl,rfl,h1',h2'⟩
 ·refine⟨?_,rfl⟩
  rcases h with ⟨rfl,h⟩|⟨rfl,h,h3⟩<;>rcases h' with ⟨rfl,h'⟩|⟨rfl,h',h3'⟩
  ·rfl
  ·exact absurd (gH.2 h') h
  ·exact absurd (gH.2 h) h'
  rfl
 ·rcases h with ⟨rfl,h⟩|⟨rfl,h,h3⟩
  ·exact absurd (gH.2 h1') h
  omega
 ·rcases h' with ⟨rfl,h⟩|⟨rfl,h,h3⟩
  ·exact absurd (gH.2 h1) h
  omega
 exact⟨rfl,rfl⟩
open Go.Maps
def powN (t:List (List Int))(x:Nat):Nat->Nat
 | 0=>0
 | i+1=>entN t (powN t x i) x
def uE (t:List (List Int))(x L:Nat):List Nat:=(List.range L).map (powN t x)
theorem vS (t:List (List Int))(x L:Nat):(uE t x L).length=L:=by simp[uE]
theorem iG (t:List (List Int))(x L:Nat):uE t x L++[powN t x L]=uE t x (L+1):=by rw[uE,uE,List.range_succ,List.map_append];rfl
theorem qAW {t:List (List Int)}{x L i:Nat}(h:i<L):(uE t x L).getD i 0=powN t x i:=by
 rw[zN (by rw[vS];exact h)];simp[uE]
theorem aG {t:List (List Int)}(hs:Shape t){x:Nat}(hx:x<t.length):∀i,powN t x i<t.length
 | 0=>hs.pos
 | i+1=>pB hs (aG hs hx i) hx
def PowR (t:List (List Int))(x L j:Nat):Prop:=(uE t x L).Nodup/\j<L/\powN t x L=powN t x j
theorem qIW {t:List (List Int)}{x L i j:Nat}(h:(uE t x L).Nodup)(hi:i<L)(hj:j<L)(e:powN t x i=powN t x j):i=j:=by
 have e1:(uE t x L)[i]'(by rw[vS];exact hi)=(uE t x L)[j]'(by rw[vS];exact hj):=by simpa [uE] using e
 exact(List.getElem_inj h).1 e1
theorem PowR.le {t:List (List Int)}{x L j L' j':Nat}(h:PowR t x L j)(h':PowR t x L' j'):L'<=L:=by
 rcases Nat.lt_or_ge L L' with h1|h1
 ·have:=qIW h'.1 h1 (by have:=h.2.1;omega) h.2.2
  have:=h.2.1;omega
 exact h1
theorem PowR.eq {t:List (List Int)}{x L j L' j':Nat}(h:PowR t x L j)(h':PowR t x L' j'):L=L'/\j=j':=by
 have e:L=L':=Nat.le_antisymm (h'.le h) (h.le h');subst e;exact⟨rfl,qIW h.1 h.2.1 h'.2.1 (h.2.2.symm.trans h'.2.2)⟩
theorem qIV {t:List (List Int)}{x L:Nat}(h:(uE t x L).Nodup)(hn:powN t x L ∉ uE t x L):(uE t x (L+1)).Nodup:=by
 rw[<-iG,List.nodup_append];exact⟨h,by simp,fun a ha b hb=>by rw[List.mem_singleton]at hb;subst hb;exact fun e=>hn (e ▸ ha)⟩
theorem gX {t:List (List Int)}(hs:Shape t){x L:Nat}(hx:x<t.length)(h:(uE t x L).Nodup):L<=t.length:=by
 have:=qK h (n:=t.length) (fun q hq=>by obtain⟨i,_,rfl⟩:=List.mem_map.1 hq;exact aG hs hx i)
 rwa [vS]at this
def vX (l:List Nat):List Int:=l.map fun(x:Nat)=>(x:Int)
theorem qJP {l:List Nat}{x:Nat}:(x:Int)∈vX l↔x∈l:=by
 constructor
 ·intro h
  obtain⟨y,hy,e⟩:=List.mem_map.1 h;have:y=x:=by omega
  rw[<-this];exact hy
 intro h;exact List.mem_map_of_mem h
theorem qJQ {l:List Nat}{x:Nat}:(vX l).idxOf (x:Int)=l.idxOf x:=by
 induction l with
 | nil=>rfl
 | cons a l ih =>
  rw[vX,List.map_cons,List.idxOf_cons,List.idxOf_cons,<-vX,ih];by_cases h:a=x
  ·subst h;simp
  have h2:¬(a:Int)=(x:Int):=by omega
  have e1:((a:Int) == (x:Int))=false:=by rw[beq_eq_false_iff_ne];exact h2
  have e2:(a == x)=false:=by rw[beq_eq_false_iff_ne];exact h
  rw[e1,e2]
def qSH (t:List (List Int))(x:Nat)(w:World)(e:Ending)(w':World):Prop :=
 ∃L j sa sc,PowR t x L j/\e=.returned (.tuple #[.slice sa L sc,.int .i64 (j:Int)])/\w'.ownsRow w.heap.size 3 1 (.slice sa L sc) L (nats (uE t x L))/\w.grownBy w' none
theorem qAX (B:Nat)(w:World)(b off cap:Nat)(RB RO RC:Nat->Nat)(t:List (List Int))(x:Nat)(hB:B<=w.heap.size)(hq:Sq B w t b off RB RO RC)(hs:Shape t)(a6:t.length<=cap)(a5:cap<=9223372036854775807)(hx:x<t.length):Calls Try.prog 34 #[.slice (some ⟨b,off,none⟩) t.length cap,.int .i64 (x:Int)] w (qSH t x w):=by
 have e7:=@run_makeMap Try.prog;have d5:=hs.le;obtain⟨n,hN⟩:=Nm t.length;obtain⟨HN,HS,HQ⟩:=K3 hN hs hq;rw[<-hN]at a6 hx d5⊢;obtain⟨mb,H5⟩:=Nm w.heap.size;obtain⟨w1,H1⟩:=Nm (w.alloc (.map #[] 0));have c8:w.grownBy w1 none:=by rw[H1];exact Ga w _ none
 have b8:w1.heap.size=mb+1:=by rw[H1,zU,H5]
 have d0:Hid (rS w1 mb 0 (vX (uE t x 0))):=Kh (by rw[H1,H5];exact rS.made w);obtain⟨e3,d8,H7,e8⟩:=K4 c8 H1 H5 b8;clear hs hq hN c8 H1 H5 b8;go_enter Try.func34,Try.ntmps34;go_upto_region 2 with fail;rw[<-d8.out,<-H7.out];go_wp2
 go_loopg [7,8,9,10] (n+1) (fun gh a7 a8 a9 a10 wr=>∃(L:Nat) (sa:Option Addr) (sc:Nat),gh+L=n+1/\a7=.slice sa L sc/\a8=.int .i64 ((powN t x L:Nat):Int)/\(uE t x L).Nodup/\wr.ownsRow (mb+1) 3 1 (.slice sa L sc) L (nats (uE t x L))/\rS wr mb L (vX (uE t x L))/\w.grownBy wr none)
 case atStart=>exact⟨0,none,0,rfl,rfl,rfl,by simp[uE],by simpa [uE,nats] using World.ownsRow_nil _ _ _ _,d0.out,e3.out⟩
 clear d0;obtain⟨L,sa,sc,a2,rfl,rfl,H2,h4,h3,H6⟩:=hrel;obtain⟨d2,e0,HO,b4,b6⟩:=K5 a2 H2 h4 h3 H6;have d3:=H6.size;have hp:=aG HS.out (by rw[<-HN.out];exact hx) L;rw[<-HN.out]at hp;have h6:=h3.lookup (x:=((powN t x L:Nat):Int)) ⟨by omega,by omega⟩;have hL:=gX HS.out (by rw[<-HN.out];exact hx) H2;rw[<-HN.out]at hL;have b3:Hid (powN t x (L+1)=entN t (powN t x L) x):=Kh rfl;have b1:=Kh (iG t x L);have h0:((powN t x L:Nat):Int)∈vX (uE t x L)↔powN t x L∈uE t x L:=qJP;have h7:(vX (uE t x L)).idxOf ((powN t x L:Nat):Int)=(uE t x L).idxOf (powN t x L):=qJQ;rw[h7]at h6;by_cases hin:powN t x L∈uE t x L
 ·rw[if_pos (h0.2 hin),decide_eq_true (h0.2 hin)]at h6
  obtain⟨j,hj⟩:=Nm ((uE t x L).idxOf (powN t x L));rw[<-hj]at h6
  have HP:Hid (PowR t x L j):=Kh (by
   have a1:j<(uE t x L).length:=(by rw[hj];exact List.idxOf_lt_length_of_mem hin);have c7:j<L:=(by rw[vS]at a1;exact a1);refine⟨e0.out,c7,?_⟩;have e1:=List.getElem_idxOf (x:=powN t x L) (xs:=uE t x L) (List.idxOf_lt_length_of_mem hin);rw[<-qAW (t:=t) (x:=x) c7,zN a1];simp only[hj]
   exact e1.symm)
  obtain⟨p,H0⟩:=Nm (powN t x L);rw[<-H0]at h6⊢;clear a2 H2 h4 h3 H6 hp hL h0 h7 hin hj H0 d3;go_wp2;refine bodyPost_ret (v:=.tuple #[.slice sa L sc,.int .i64 (j:Int)]) (by simp[results,Try.results34,go_sem]) rfl ?_;exact⟨L,j,sa,sc,HP.out,rfl,wS HO.out (by have:=H7.out;omega),b6.out⟩
 rw[if_neg (fun h=>hin (h0.1 h)),decide_eq_false (fun h=>hin (h0.1 h))]at h6;have H8:Hid (((powN t x L:Nat):Int) ∉ vX (uE t x L)):=Kh (fun h=>hin (h0.1 h));have c9:=Kh (qIV H2 hin);have b0:Hid (vX (uE t x L)++[((powN t x L:Nat):Int)]=vX (uE t x (L+1))):=Kh (by rw[<-iG];simp[vX]);have d7:=gX HS.out (by rw[<-HN.out];exact hx) c9.out;rw[<-HN.out]at d7;obtain⟨l,hl⟩:=Nm (vX (uE t x L));have c6:l.length=L:=by rw[hl];simp[vX,vS]
 obtain⟨p,H0⟩:=Nm (powN t x L);rw[<-hl]at b4 H8 b0;rw[<-H0]at h6 H8 b0 hp b3 b1⊢;have d1:=Kh c6;have e9:=Kh H0;clear a2 H2 h4 h3 H6 hL h0 h7 hin hl c6 H0;go_upto_region 9 with (first|(at_mapUpdate;refine lH rfl _ _ _ rfl mb L l (p:Int) rfl rfl (by rw[d1.out];rfl) b4.out (by unfold maxLen;omega) ⟨by omega,by omega⟩ H8.out (by rw[d1.out];omega) ?_;intro w5 h1 a4)|fail);rw[b0.out]at h1;have h9:w.grownBy w5 none:=yK b6.out a4 (by show _<=mb;have:=H7.out;omega)
 have c4:(Value.slice sa L sc).ownBlock=none\/(Value.slice sa L sc).ownBlock≠some mb:=by
  rcases hv:(Value.slice sa L sc).ownBlock with _|k
  ·exact .inl rfl
  refine .inr (fun e=>?_);have e:k=mb:=Oj e;have:=(HO.out.lt k hv).1;omega
 have c0:=HO.out.kept a4 c4;have e4:=h9.size;obtain⟨b2,b5,H3⟩:=K3 c0 h1 h9;have d6:mb+1<=w5.heap.size:=by have:=h1.lt;omega
 clear h1 a4 h9 c0 h6 b4 H8 HO b6 c4;go_upto_region 4 with (first|(at_builtin;refine app1 rfl (.tmp 32) (.tmp 34) _ rfl yJ (mb+1) _ L _ rfl b2.out _ rfl rfl ?c1 ?c2 ?c3 ?_)|fail)
 case c1=>unfold maxLen;omega
 case c2=>omega
 case c3=>exact d6
 intro sa6 sc6 w6 h2 a3 _;have h5:∀q,(Value.slice sa L sc).ownBlock=some q->w5.heap.size<=q\/mb+1<=q:=fun q hq=>.inr (b2.out.lt q hq).1;have h8:w.grownBy w6 none:=zC H3.out a3 (fun q e=>by rcases h5 q e with h|h<;>(have:=H7.out;omega));have c5:=(b5.out.kept a3 (fun e=>by rcases h5 mb e with h|h<;>(have:=b5.out.lt;omega)));have b9:nats (uE t x L)++[.int .i64 (p:Int)]=nats (uE t x (L+1)):=by rw[<-b1.out];simp[nats]
 rw[b9]at h2;have H4:=HQ.out.kept h8 (by simp);have chd:=H4.hd p (by rw[<-HN.out];exact hp);have cel:=H4.el p x (by rw[<-HN.out];exact hp) (by rw[<-HN.out];exact hx);have a0:=H4.cap p (by rw[<-HN.out];exact hp);have H9:=a0.1;have d4:RC p<=9223372036854775807:=by have:=a0.2;unfold maxLen at this;omega
 rw[<-HN.out]at chd H9;rw[<-b3.out]at cel;have e6:(p:Int)<n:=(by omega);have e5:(x:Int)<n:=(by omega);obtain⟨d9,b7,e2⟩:=K3 h2 h8 c5;obtain⟨y,hy⟩:=Nm (powN t x (L+1));rw[<-hy]at cel;have HY:=Kh hy;clear h2 a3 h5 h8 c5 b9 H4 a0 hy b3 b1 b5 b2 H3;go_wp2;go_roundg (n+1-(L+1))
 case measure=>have:=d2.out;omega
 exact⟨L+1,sa6,sc6,by have:=d2.out;omega,rfl,by rw[HY.out],c9.out,d9.out,e2.out,b7.out⟩
end Go.Proofs.Ytobakifdllameaa
namespace Go.Proofs.Ytobakifdllameaa
open Go.RowKit
theorem qFW {t:List (List Int)}(h:400<t.length):sZ t=3:=by rw[sZ,if_pos h]
theorem iD {t:List (List Int)}(h:¬400<t.length){x:Nat}(hx:x<t.length)(hb:eV t.length (t.getD x [])=false):sZ t=4:=by
 rw[sZ,if_neg h,if_neg (by omega),if_neg];intro ha;have:=List.all_eq_true.1 ha t[x] (List.getElem_mem hx);rw[List.getD,List.getElem?_eq_getElem hx]at hb;rw[Option.getD_some,this]at hb;cases hb
theorem qIG {t:List (List Int)}(h:¬400<t.length)(h0:0<t.length)(ha:∀x,x<t.length->eV t.length (t.getD x [])=true):sZ t=0:=by
 rw[sZ,if_neg h,if_neg (by omega),if_pos];rw[List.all_eq_true];intro r hr;obtain⟨x,hx,rfl⟩:=List.getElem_of_mem hr;have:=ha x hx
 rwa [List.getD,List.getElem?_eq_getElem hx]at this
theorem qIM {n:Nat}{r:List Int}(h:r.length≠n):eV n r=false:=by simp[eV,h]
theorem qAS {n:Nat}{r:List Int}{y:Nat}(hy:y<r.length)(h:r.getD y 0<0\/n<=r.getD y 0):eV n r=false:=by
 rw[<-Bool.not_eq_true];intro hr;have:=(pX.1 hr).2 y hy;omega
def qSG (t:List (List Int))(k:Nat):Prop:=∀x,x<k->eV t.length (t.getD x [])=true
def qOM (t:List (List Int))(x y z:Nat):Prop:=entN t (entN t x y) z=entN t x (entN t y z)
def fG (t:List (List Int))(gs:List Nat):Prop:=∀g∈gs,nJ t g
open Classical in
noncomputable def eD (t:List (List Int))(gs:List Nat):Bool:=decide (fG t gs)
theorem eC {t:List (List Int)}{gs:List Nat}(h:fG t gs):eD t gs=true:=by simp[eD,h]
theorem qBY {t:List (List Int)}{gs:List Nat}{k:Nat}(hk:k<gs.length)(h:¬nJ t (gs.getD k 0)):eD t gs=false:=by
 simp only[eD,decide_eq_false_iff_not];intro ha;refine h (ha _ ?_);simp only[List.getD,List.getElem?_eq_getElem hk];exact List.getElem_mem hk
def qQY (t:List (List Int))(bs:List Bool):Prop:=∀x,bs.getD x false=true->nJ t x
def qPM (t:List (List Int))(gs:List Nat)(k:Nat):Prop:=∀i,i<k->nJ t (gs.getD i 0)
def qTF (t:List (List Int))(g k:Nat):Prop:=∀x,x<k->∀y,y<t.length->qOM t x g y
def qTG (t:List (List Int))(x g k:Nat):Prop:=∀y,y<k->qOM t x g y
theorem qNM {t:List (List Int)}{gs:List Nat}(h:qPM t gs gs.length):fG t gs:=by
 intro g hg;obtain⟨i,hi,rfl⟩:=List.getElem_of_mem hg;have:=h i hi;simpa [List.getD,List.getElem?_eq_getElem hi] using this
theorem dA (B:Nat)(w:World)(v gv:Value)(t:List (List Int))(gs:List Nat)(hB:B<=w.heap.size)(h:Mat B w v t)(hs:Shape t)(hg:Row B w gv (nats gs))(a9:∀g∈gs,g<t.length):Calls Try.prog 98 #[v,gv] w fun e w'=>e=.returned (.bool (eD t gs))/\w.grownBy w' none:=by
 obtain⟨b,off,cap,RB,RO,RC,rfl,e2,c9,hq⟩:=h.sq hs;have d9:cap<=9223372036854775807:=by unfold maxLen at c9;omega
 have a4:=hg.len_le;rw[zR]at a4;unfold maxLen at a4;obtain⟨ga,gc,rfl⟩:=hg.shape;rw[zR];have c6:=hs.pos;have e0:=hs.le;obtain⟨HQ,HS,b6,d5⟩:=K4 hq hs hg a9;clear hq hs h hg a9;go_enter Try.func98,Try.ntmps98;go_wp2_with (at_make;refine qC rfl _ _ _ rfl wF rfl _ _ _ _ t.length rfl rfl rfl rfl ?b1 ?b2 ?_;(case b1=>omega);(case b2=>(unfold maxLen;omega));intro w1 H5 a8 b9);rw[<-qM]at H5;have b8:=Kh H5;clear H5
 go_loopg [18] gs.length (fun g i wr=>∃(k:Nat) (bs:List Bool),g+k=gs.length/\i=.int .i64 k/\bs.length=t.length/\Arr wr w.heap.size 4 (bls bs)/\w.grownBy wr none/\qQY t bs/\qPM t gs k)
 case atStart =>
  refine⟨0,_,rfl,rfl,by simp,b8.out,a8,fun x hx=>?_,fun i hi=>absurd hi (by omega)⟩;exfalso;simp[List.getD,List.getElem?_replicate]at hx
  split at hx<;>simp at hx
 clear b8 a8 b9;obtain⟨k,bs,a5,rfl,b0,h6,H1,a0,a3⟩:=hrel;obtain⟨H9,H2,h1,H6,H8⟩:=K5 a5 b0 h6 a0 a3;have c2:=h6.lt;clear a5 b0 h6 a0 a3;by_cases hk:k<gs.length
 ·have e1:(k:Int)<gs.length:=by omega
  obtain⟨gb,go,gcap,e,_,_,_,H3⟩:=b6.out.some_ (by rw[zR];omega);simp only[Value.slice.injEq]at e;obtain⟨rfl,-,-⟩:=e;have b5:=b6.out.kept H1 (by simp);obtain⟨gb',go',gcap',e,_,_,_,H3⟩:=b5.some_ (by rw[zR];omega);simp only[Value.slice.injEq,Option.some.injEq,Addr.mk.injEq,and_true]at e;obtain⟨⟨rfl,rfl⟩,-,-⟩:=e;have a6:=H3.nat k hk;have h2:=qQO d5.out hk;obtain⟨x,hx⟩:=Nm (gs.getD k 0);rw[<-hx]at a6 h2;have c1:(x:Int)<t.length:=(by omega);have H4:=h1.out.bool x (by rw[H2.out];exact h2);have c8:=h1.out.frozen x;have HX:=Kh hx;clear H3 hx b5;cases hbv:bs.getD x false
  ·rw[hbv]at H4
   have h3:=h1.out.bool_set x (by rw[H2.out];exact h2) true;have h5:=zF wr ⟨w.heap.size,x,none⟩ (.bool true);have b7:=Kh hbv;clear hbv;go_wp2
   generalize hW:wr.setCell ⟨w.heap.size,x,none⟩ (.bool true)=w2 at h3 h5
   have h4:w.grownBy w2 none:=zC H1 h5;have h7:=Kh (HQ.out.kept h4 (by simp));have H7:=Kh h3;have HW:=Kh hW;clear h3 h5 hW H4 c8 a6;have d7:=h7.out.hd x h2
   go_loopg [31] t.length (fun g i wr=>∃k m:Nat,g+k=t.length/\i=.int .i64 k/\qTF t x k/\wr=w2.drewN m)
   case atStart=>exact⟨0,0,rfl,rfl,fun x hx=>absurd hx (by omega),rfl⟩
   obtain⟨a,m,a7,rfl,h9,rfl⟩:=hrel;have d6:=Kh a7;have b4:=Kh h9;clear a7 h9;by_cases ha:a<t.length
   ·have d2:(a:Int)<t.length:=by omega
    have e3:=h7.out.hd a ha;have d0:=h7.out.el a x ha h2;obtain⟨p,hp⟩:=Nm (entN t a x);have a1:p<t.length:=(by rw[hp];exact pB HS.out ha h2);have c7:(p:Int)<t.length:=(by omega);rw[<-hp]at d0;have d8:=h7.out.hd p a1;have HP:=Kh hp;clear hp;go_wp2
    go_loopg [47] t.length (fun g i wr=>∃k m:Nat,g+k=t.length/\i=.int .i64 k/\qTG t a x k/\wr=w2.drewN m)
    case atStart=>exact⟨0,m,rfl,rfl,fun x hx=>absurd hx (by omega),rfl⟩
    obtain⟨y,m,a2,rfl,h9,rfl⟩:=hrel;have d4:=Kh a2;have b3:=Kh h9;clear a2 h9;by_cases hy:y<t.length
    ·have h8:(y:Int)<t.length:=by omega
     have c0:=h7.out.el x y h2 hy;have c5:=h7.out.el p y a1 hy;obtain⟨q,hq⟩:=Nm (entN t x y);have c4:q<t.length:=(by rw[hq];exact pB HS.out h2 hy);have c3:(q:Int)<t.length:=(by omega);rw[<-hq]at c0;have d1:=h7.out.el a q ha c4;obtain⟨r,hr⟩:=Nm (entN t p y);obtain⟨s,hs⟩:=Nm (entN t a q);rw[<-hr]at c5;rw[<-hs]at d1;have H0:qOM t a x y↔r=s:=by rw[qOM,<-HP.out,<-hq,<-hr,<-hs]
     have HA:=Kh H0;clear hq hr hs H0;by_cases hrs:r=s
     ·subst hrs
      have ht:((r:Int) != (r:Int))=false:=by simp
      go_wp2
      go_quiet (fail)
      go_wp2;go_roundg (t.length-(y+1))
      case measure=>have:=d4.out;omega
      refine⟨y+1,_,by omega,by go_num,fun z' hz'=>?_,rfl⟩;rcases Nat.lt_succ_iff_lt_or_eq.1 hz' with hz'|rfl
      ·exact b3.out z' hz'
      exact HA.out.2 (by simp)
     have ht:((r:Int) != (s:Int))=true:=by rw[bne_iff_ne];omega
     have d3:=Kh hrs;clear hrs;go_wp2
     go_quiet (fail)
     go_wp2;go_ret;refine⟨yT (qBY hk (fun hl=>d3.out (HA.out.1 ?_))).symm,vJ h4 rfl rfl rfl rfl⟩;rw[<-HX.out]at hl;exact hl a y ha hy
    go_wp2;go_roundg (t.length-(a+1))
    case measure=>have:=d6.out;omega
    refine⟨a+1,m,by omega,by go_num,fun y' h8=>?_,rfl⟩;rcases Nat.lt_succ_iff_lt_or_eq.1 h8 with h8|rfl
    ·exact b4.out y' h8
    exact fun z' hz'=>b3.out z' (by omega)
   have h0:Hid (nJ t x):=Kh (fun a' y' d2 h8=>b4.out a' (by omega) y' h8);go_wp2;go_roundg (gs.length-(k+1))
   case measure=>have:=H9.out;omega
   refine⟨k+1,bs.set x true,by omega,by go_num,by rw[List.length_set];exact H2.out,H7.out.of_heap rfl,vJ h4 rfl rfl rfl rfl,fun y hy=>?_,fun i hi=>?_⟩
   ·by_cases e:x=y
    ·subst e;exact h0.out
    rw[getD_set_ne _ _ _ _ _ e]at hy;exact H6.out y hy
   rcases Nat.lt_succ_iff_lt_or_eq.1 hi with hi|rfl
   ·exact H8.out i hi
   rw[<-HX.out];exact h0.out
  rw[hbv]at H4;have b7:=Kh hbv;clear hbv;go_wp2;go_roundg (gs.length-(k+1))
  case measure=>have:=H9.out;omega
  refine⟨k+1,bs,by omega,by go_num,H2.out,h1.out,H1,H6.out,fun i hi=>?_⟩;rcases Nat.lt_succ_iff_lt_or_eq.1 hi with hi|rfl
  ·exact H8.out i hi
  rw[<-HX.out];exact H6.out x b7.out
 go_wp2;go_ret;refine⟨yT (eC (qNM ?_)).symm,H1⟩;have:k=gs.length:=by have:=H9.out;omega
 rw[<-this];exact H8.out
structure Sp (w0 w:World)(bi bm g n:Nat)(mv:Value)(bs:List Bool)(made:List Nat):Prop where
 box1:w.heap[bi]?=some (.cells #[.slice (some ⟨g,0,none⟩) n n] 26 (0,0))
 box2:w.heap[bm]?=some (.cells #[mv] 22 (0,0))
 own:w.ownsRow w0.heap.size 3 1 mv made.length (nats made)
 shape:∃sa sc,mv=.slice sa made.length sc
 arr:Arr w g 4 (bls bs)
 len:bs.length=n
 cnt:made.length=bs.count true
 mem:∀x,x<n->(bs.getD x false=true↔x∈made)
 lt:∀x∈made,x<n
 lo:w0.heap.size<=bi/\w0.heap.size<=bm/\w0.heap.size<=g
 fr:w0.grownBy w none
theorem Sp.made_le {w0 w:World}{bi bm g n:Nat}{mv:Value}{bs:List Bool}{made:List Nat}(h:Sp w0 w bi bm g n mv bs made):made.length<=n:=by
 rw[h.cnt,<-h.len];exact List.count_le_length
structure Keep (w w':World)(bm g:Nat)(mv mv':Value):Prop where
 size:w.heap.size<=w'.heap.size
 k1:∀k,k<w.heap.size->k≠g->k≠bm->mv.ownBlock≠some k->w'.heap[k]?=w.heap[k]?
 k2:mv'.ownBlock=mv.ownBlock\/((∀k,k<w.heap.size->k≠g->k≠bm->w'.heap[k]?=w.heap[k]?)/\∀k,mv'.ownBlock=some k->w.heap.size<=k)
def pR (made:List Nat)(x:Nat):List Nat:=if x∈made then made else made++[x]
theorem oK {made:List Nat}{x y:Nat}:y∈pR made x↔y∈made\/y=x:=by
 unfold pR
 split
 ·constructor
  ·exact .inl
  rintro (h|rfl)
  ·exact h
  assumption
 simp
theorem lD (made:List Nat)(x:Nat):∃r,pR made x=made++r:=by
 unfold pR
 split
 ·exact⟨[],by simp⟩
 exact⟨[x],rfl⟩
def qSO (w0 w:World)(bi bm g n:Nat)(mv:Value)(made:List Nat)(x:Nat)(e:Ending)(w':World):Prop :=
 e=.returned (.tuple #[])/\∃bs' mv',Sp w0 w' bi bm g n mv' bs' (pR made x)/\Keep w w' bm g mv mv'
theorem eY {bs:List Bool}{x:Nat}(hx:x<bs.length)(h:bs.getD x false=false):(bs.set x true).count true=bs.count true+1:=by
 rw[List.count_set hx];have:bs[x]=false:=by simpa [List.getD,List.getElem?_eq_getElem hx] using h
 simp[this]
theorem Sp.set {w0 w w3:World}{bi bm g n x:Nat}{mv:Value}{bs:List Bool}{made:List Nat}{sa:Option Addr}{sc:Nat}(h:Sp w0 w bi bm g n mv bs made)(hx:x<n)(hb:bs.getD x false=false)(h1:w3.heap[bi]?=some (.cells #[.slice (some ⟨g,0,none⟩) n n] 26 (0,0)))(h2:w3.heap[bm]?=some (.cells #[.slice sa (made.length+1) sc] 22 (0,0)))(h3:w3.ownsRow w0.heap.size 3 1 (.slice sa (made.length+1) sc) (made.length+1) (nats made++[.int .i64 (x:Int)]))(h4:Arr w3 g 4 (bls (bs.set x true)))(h5:w0.grownBy w3 none)(h6:Keep w w3 bm g mv (.slice sa (made.length+1) sc)):qSO w0 w bi bm g n mv made x (.returned (.tuple #[])) w3:=by
 have h0:¬x∈made:=fun hm=>by rw[(h.mem x hx).2 hm]at hb;cases hb
 refine⟨rfl,bs.set x true,_,⟨h1,h2,?_,?_,h4,by rw[List.length_set];exact h.len,?_,fun y hy=>?_,fun y hy=>?_,h.lo,h5⟩,h6⟩
 ·rw[pR,if_neg h0,List.length_append,qB];exact h3
 ·rw[pR,if_neg h0,List.length_append];exact⟨_,_,rfl⟩
 ·rw[pR,if_neg h0,List.length_append,eY (by rw[h.len];exact hx) hb,h.cnt];rfl
 ·rw[oK]
  by_cases e:x=y
  ·subst e
   rw[qDR _ _ _ _ (by rw[h.len];exact hx)];simp
  rw[getD_set_ne _ _ _ _ _ e,h.mem y hy];exact⟨.inl,fun hh=>hh.elim id (fun e'=>absurd e'.symm e)⟩
 rcases oK.1 hy with hy|rfl
 ·exact h.lt y hy
 exact hx
theorem qEG (w0 w:World)(bi bm g n x:Nat)(mv:Value)(bs:List Bool)(made:List Nat)(hx:x<n)(hn:n<=400)(h:Sp w0 w bi bm g n mv bs made):Calls Try.prog 108 #[.int .i64 (x:Int),.pointer (some ⟨bi,0,none⟩),.pointer (some ⟨bm,0,none⟩)] w (qSO w0 w bi bm g n mv made x):=by
 have H:=Kh h;have b5:=h.made_le;obtain⟨sa,sc,rfl⟩:=h.shape;have ci:=zG h.box1 0;have cx:=h.arr.bool x (by rw[h.len];exact hx);have fx:=h.arr.frozen x;simp only[List.getElem_toArray,List.getElem_cons_zero]at ci;have b4:(x:Int)<n:=by omega
 clear h;cases hb:bs.getD x false
 ·rw[hb]at cx
  have HB:=Kh hb;clear hb;have h8:=H.out.arr.bool_set x (by rw[H.out.len];exact hx) true;have h4:=zF w ⟨g,x,none⟩ (.bool true);go_enter Try.func108,Try.ntmps108;go_upto_region 2 with fail
  generalize hW:w.setCell ⟨g,x,none⟩ (.bool true)=w1 at h8 h4
  have HW:=Kh hW;have b6:=H.out.lo;have a4:=zC H.out.fr h4 (by simp;omega);have a0:=H.out.box2;have h9:=H.out.own
  have H1:=zB a0 h4 (fun e=>by
   have:=Oj e
   exact(H.out.arr.type_ne a0 (by decide)) this)
  have H4:=zB H.out.box1 h4 (fun e=>(H.out.arr.type_ne H.out.box1 (by decide)) (Oj e))
  have h0:=h9.kept h4 (.inr (fun e=>by
   obtain⟨cur,rest,hh,_⟩:=H.out.arr
   exact zV h9 hh (by decide) e))
  have cm:=zG H1 0;simp only[List.getElem_toArray,List.getElem_cons_zero]at cm;obtain⟨a8,a7,H5,a1⟩:=K4 H4 H1 h8 h4;clear hW ci cx fx h8 h4 a0 h9 H4 H1;go_wp2_with (at_builtin;refine jV rfl _ _ _ rfl yJ w0.heap.size _ made.length (nats made) rfl h0 _ rfl rfl ?c1 ?c2 ?c3 ?_)
  case c1=>unfold maxLen;omega
  case c2=>omega
  case c3=>exact a4.size
  intro sa' sc' w3 h7 H2 b0 a3;have H8:=zV h0 a7.out (by decide);have h5:=zB a7.out H2 H8;have b7:=zA h5 0;have b1:=zG h5 0;simp only[List.getElem_toArray,List.getElem_cons_zero]at b1;have H3:=zB a8.out H2 (zV h0 a8.out (by decide))
  have h6:=H5.out.kept H2 (by
   obtain⟨cur,rest,hh,_⟩:=H5.out
   exact zV h0 hh (by decide))
  have H9:=zC a4 H2 (fun k e=>(h0.lt k e).1);obtain⟨a9,H7,a5,a6,H6,b3⟩:=K6 H3 h5 h6 h7 H2 a3;clear H3 h5 h6 h7 H2 h0 cm a3;go_wp2
  go_end0
  have H0:=zF w3 ⟨bm,0,none⟩ (.slice sa' (made.length+1) sc');have a2:=a1.out.size;refine H.out.set hx HB.out (sa:=sa') (sc:=sc') ?_ (heap_setCell_same w3 bm 0 _ _ _ H7.out) ?_ ?_ (zC H9 H0 (by simp;omega)) ⟨Nat.le_trans a2 (Nat.le_trans H6.out.size H0.size),fun k hk h1 h2 h3=>?_,?_⟩
  ·refine zB a9.out H0 (fun e=>?_)
   have e':=Oj e;have h1:=a9.out;rw[<-e',H7.out]at h1;simp at h1
  ·exact a6.out.kept H0 (.inr (zV a6.out H7.out (by decide)))
  ·exact a5.out.kept H0 (fun e=>(a5.out.type_ne H7.out (by decide)) (Oj e).symm)
  ·exact(H0.block k (by have:=H6.out.size;omega) (fun e=>h2 (Oj e))).trans ((H6.out.block k (by omega) (fun e=>h3 e.symm)).trans (a1.out.block k hk (fun e=>h1 (Oj e))))
  rcases b3.out with e|⟨e1,e2⟩
  ·exact .inl e
  exact .inr ⟨fun k hk h1 h2=>(H0.block k (by have:=H6.out.size;omega) (fun e=>h2 (Oj e))).trans ((e1.block k (by omega) (by simp)).trans (a1.out.block k hk (fun e=>h1 (Oj e)))),fun k hk=>Nat.le_trans a2 (e2 k hk)⟩
 rw[hb]at cx;have HB:=Kh hb;clear hb;go_enter Try.func108,Try.ntmps108;go_wp2
 go_end0
 have b2:pR made x=made:=by rw[pR,if_pos ((H.out.mem x hx).1 HB.out)]
 refine⟨rfl,bs,_,by rw[b2];exact H.out,Nat.le_refl _,fun _ _ _ _ _=>rfl,.inl rfl⟩
theorem jE {w w':World}{base e size:Nat}{v:Value}{n:Nat}{xs:List Value}(h:w.ownsRow base e size v n xs)(hb:∀k,v.ownBlock=some k->w'.heap[k]?=w.heap[k]?):w'.ownsRow base e size v n xs:=by
 refine⟨h.1,?_⟩;rcases h.2 with h2|⟨g,cap,cur,rfl,h2,h3,h4⟩
 ·exact .inl h2
 exact .inr ⟨g,cap,cur,rfl,h2,(hb g rfl).trans h3,h4⟩
theorem Arr.of_block {w w':World}{g:Nat}{e:TypeId}{xs:List Value}(h:Arr w g e xs)(hb:w'.heap[g]?=w.heap[g]?):Arr w' g e xs:=by
 obtain⟨cur,rest,h,hc⟩:=h;exact⟨cur,rest,hb.trans h,hc⟩
def qOZ (v u:Value):Prop:=∀k,v.ownBlock=some k->u.ownBlock≠some k
theorem Keep.gens {w0 w w':World}{bi bm g n base m:Nat}{mv a9 gv:Value}{bs:List Bool}{made:List Nat}{xs:List Value}(hk:Keep w w' bm g mv a9)(h:Sp w0 w bi bm g n mv bs made)(hg:w.ownsRow base 3 1 gv m xs)(ha:qOZ gv mv):w'.ownsRow base 3 1 gv m xs/\qOZ gv a9:=by
 have h2:gv.ownBlock≠some g:=by
  obtain⟨cur,rest,hh,_⟩:=h.arr;exact zV hg hh (by decide)
 have h0:gv.ownBlock≠some bm:=zV hg h.box2 (by decide);refine⟨jE hg (fun k e=>hk.k1 k (hg.lt k e).2 (fun e'=>h2 (by rw[e,e'])) (fun e'=>h0 (by rw[e,e'])) (ha k e)),fun k e=>?_⟩;rcases hk.k2 with h1|⟨_,h1⟩
 ·rw[h1];exact ha k e
 intro e';have:=h1 k e';have:=(hg.lt k e).2;omega
theorem Keep.pre {w0 w w':World}{bi bm g n kb:Nat}{mv a8:Value}{bs a7:List Bool}{made a9 pre:List Nat}(hk:Keep w w' bm g mv a8)(h:Sp w0 w bi bm g n mv bs made)(h':Sp w0 w' bi bm g n a8 a7 a9)(hp:∃r,a9=pre++r)(ha:Arr w kb 3 (nats pre)):Arr w' kb 3 (nats pre):=by
 have h1:kb≠g:=by
  rintro rfl;obtain⟨cur,rest,hh,_⟩:=h.arr;exact(ha.type_ne hh (by decide)) rfl
 have h0:kb≠bm:=ha.type_ne h.box2 (by decide);rcases hk.k2 with e|⟨e,_⟩
 ·by_cases hkb:mv.ownBlock=some kb
  ·have h2:=e.trans hkb
   obtain⟨r,rfl⟩:=hp;have ho:=h'.own;rcases ho.2 with ⟨rfl,_⟩|⟨g',cap',cur',rfl,_⟩
   ·simp[Value.ownBlock]at h2
   have eg:g'=kb:=by simpa [Value.ownBlock] using h2
   subst eg;have:=Arr.of_owns ho;rw[fY]at this;exact this.front
  exact ha.of_block (hk.k1 kb ha.lt h1 h0 hkb)
 exact ha.of_block (e kb ha.lt h1 h0)
end Go.Proofs.Ytobakifdllameaa
