/- Part 14 of the proof. -/
import Derived.Test.YtcoimliafiammaaGreatQa13
import Derived.BigRegion
set_option linter.unusedVariables false
set_option linter.unusedSimpArgs false
set_option maxRecDepth 100000
set_option maxHeartbeats 16000000
namespace Go.Proofs.YtcoimliafiammaaGreat
open Go.Maps Go.RowKit
theorem Kc {a b c:Prop}(x:a)(y:b)(z:c):Hid a ∧ Hid b ∧ Hid c:=K3 x y z
theorem Kd {a b c d:Prop}(x:a)(y:b)(z:c)(u:d):Hid a ∧ Hid b ∧ Hid c ∧ Hid d:=K4 x y z u
theorem Ke {a b c d e:Prop}(x:a)(y:b)(z:c)(u:d)(v:e):Hid a ∧ Hid b ∧ Hid c ∧ Hid d ∧ Hid e:=K5 x y z u v
theorem Kf {a b c d e f:Prop}(x:a)(y:b)(z:c)(u:d)(v:e)(w:f):Hid a ∧ Hid b ∧ Hid c ∧ Hid d ∧ Hid e ∧ Hid f:=K6 x y z u v w
theorem qLQ (w:World)(c1 c2:Array Value)(e1 e2:Nat):((w.alloc (.cells c1 e1)).alloc (.cells c2 e2)).heap[w.heap.size]?=some (.cells c1 e1 (0,0))/\((w.alloc (.cells c1 e1)).alloc (.cells c2 e2)).heap[w.heap.size+1]?=some (.cells c2 e2 (0,0))/\w.grownBy ((w.alloc (.cells c1 e1)).alloc (.cells c2 e2)) none/\((w.alloc (.cells c1 e1)).alloc (.cells c2 e2)).heap.size=w.heap.size+2 :=
 ⟨oO w _ _,oL w _ _,vC (Ga w _ none) _,by rw[zL,zL]⟩
theorem qWR {bs:List ByteArray}{i:Nat}(h:i<bs.length):lenP (bs.map zI) i=(bs.getD i ⟨#[]⟩).size:=by
 unfold lenP;rw[zG (show i<(bs.map zI).length by simpa using h),zG h];simp[yM]
structure PSt (w1 W:World)(base mb:Nat)(L:List (List Nat))(n:Nat)(sp:Option Addr)(pc:Nat):Prop where
 own:W.ownsRow base 154 2 (.slice sp n pc) n (pX ((wL L).take n))
 map:MapK 154 qOH posV W mb n n (numP ((wL L).take n))
 grown:w1.grownBy W none
 lo:w1.heap.size<=mb/\mb<base
theorem PSt.put {w1 W W1 W2:World}{base mb n i k:Nat}{L:List (List Nat)}{sp a9:Option Addr}{pc a8:Nat}(h:PSt w1 W base mb L n sp pc)(hi:i<L.length)(hk:k<=lenP L i)(hn:n=offP L i+k)(hm:MapK 154 qOH posV W1 mb (n+1) (if (numP ((wL L).take n) (i,k)).isSome then n else n+1) (fun q=>if q=(i,k) then some n else numP ((wL L).take n) q))(a6:W.grownBy W1 (some mb))(ho:W2.ownsRow base 154 2 (.slice a9 (n+1) a8) (n+1) (pX ((wL L).take n)++[.int .i64 (i:Int),.int .i64 (k:Int)]))(a7:W1.grownBy W2 (Value.slice sp n pc).ownBlock):PSt w1 W2 base mb L (n+1) a9 a8:=by
 have hf:=qHC hi hk;have ht:=aM hi hk;rw[<-hn]at hf ht
 have h0:((wL L).take n).length=n:=by
  have:=rY hi hk;rw[List.length_take];omega
 have e1:numP ((wL L).take n) (i,k)=none:=by unfold numP;rw[if_neg hf]
 have e2:(fun q=>if q=(i,k) then some n else numP ((wL L).take n) q)=numP ((wL L).take (n+1)):=by
  have:=qRA hf;rw[h0]at this;rw[this,ht]
 rw[e1,e2]at hm;refine⟨by rw[<-ht,qDW];exact ho,hm.kept a7 (fun e=>?_),zA (zA h.grown a6 (fun x e=>by have:=Oj e;have:=h.lo;omega)) a7 (fun x e=>?_),h.lo⟩
 ·have:=(h.own.lt mb e).1;have:=h.lo;omega
 have:=(h.own.lt x e).1;have:=h.lo;omega
theorem qPW (B:Nat)(w:World)(v:Value)(bs:List ByteArray)(letters:Int)(h:Row B w v (txtV bs))(hs:∀i (hi:i<bs.length),bs[i].size<=maxLen)(a9:patW bs letters=0->rM bs<=14):Calls Tryz.prog 88 #[.agg #[v],.int .i64 letters] w (qCQ w (patW bs letters) (xI bs letters)):=by
 have q4:=h.len_le;rw[yD]at q4;have H:=Kh h;obtain⟨a,cap,rfl⟩:=h.shape;rw[yD]at H⊢;have j1:bs.length<=9223372036854775807:=by unfold maxLen at q4;omega
 obtain⟨d8,m9,m4,y4⟩:=qLQ w #[.slice a bs.length cap] #[.int .i64 0,.int .i64 0,.slice none 0 0,.slice none 0 0] 65 30;obtain⟨wA,s1⟩:=Nm ((w.alloc (.cells #[.slice a bs.length cap] 65)).alloc (.cells #[.int .i64 0,.int .i64 0,.slice none 0 0,.slice none 0 0] 30));rw[<-s1]at d8 m9 m4 y4;obtain⟨P,hP⟩:=Nm w.heap.size;obtain⟨Q,hQ⟩:=Nm (w.heap.size+1);have G7:=Kh hP;have G6:Hid (Q=P+1):=Kh (by omega);have L3:P<Q:=by omega
 have L1:Q<wA.heap.size:=by omega
 have L2:w.heap.size<=P:=by omega
 rw[<-hQ]at m9;rw[<-hP]at d8;have c0:wA.cell? ⟨P,0,none⟩=some (.slice a bs.length cap):=by simpa using zJ d8 0
 obtain⟨J8,J7,I7,F4⟩:=Kd d8 m9 m4 s1;have B4:=Kh (jP B wA _ bs letters (H.out.kept m4 (by simp)) hs);clear d8 m9 m4 s1 h hs hP hQ y4 q4;go_enter Tryz.func88,Tryz.ntmps88;go_upto_region 1 with fail;rw[<-F4.out,<-G7.out,<-G6.out];go_wp2_with fail;refine B4.out.mono ?_;rintro e w1 ⟨rfl,j8⟩;have K4:=j8.size;have y1:=Kh (zA I7.out j8);have y2:=Kh (zB J8.out j8);have H7:=Kh (zB J7.out j8);have q1:=zE H7.out;have f0:=zF H7.out 0;have f1:=zF H7.out 1;have f2:=zF H7.out 2;have f3:=zF H7.out 3;clear j8 B4 c0;by_cases hE:patW bs letters=0
 case neg =>
  have HD:Hid (xI bs letters=qTZ):=Kh (if_neg hE);obtain⟨E,s5⟩:=Nm (patW bs letters);rw[<-s5]at hE⊢;have e1:(E == 0)=false:=by rw[beq_eq_false_iff_ne];exact hE
  obtain⟨q0,q1,q2,q3⟩:=q1;have J4:=Kh s5;clear hE s5;go_wp2;obtain⟨k2,g8⟩:=vY H7.out (.int .i64 0) (.int .i64 0) (.slice none 0 0) (.slice none 0 0);obtain⟨wz,g7⟩:=Nm ((((w1.setCell ⟨Q,0,none⟩ (.int .i64 0)).setCell ⟨Q,1,none⟩ (.int .i64 0)).setCell ⟨Q,2,none⟩ (.slice none 0 0)).setCell ⟨Q,3,none⟩ (.slice none 0 0));rw[<-g7]at k2 g8⊢;clear g7;obtain⟨r0,r1,r2,r3⟩:=zE k2;clear q0 q1 q2 q3 f0 f1 f2 f3;refine bodyPost_ret (v:=.tuple #[.agg #[.int .i64 0,.int .i64 0,.slice none 0 0,.slice none 0 0],.int .i64 E]) (by simp[results,Tryz.results88,go_sem,r0,r1,r2,r3]) rfl ?_;exact⟨_,_,by rw[J4.out,HD.out];rfl,by rw[HD.out];exact DfaT.zero _,zA y1.out g8 (fun k e=>by have h7:Q=k:=Oj e;omega)⟩
 rw[hE];clear q1 f0 f1 f2 f3;have D7:=a9 hE;obtain⟨q6,m1,p1,K8,o0,D4,p0⟩:=qDZ (vO.1 hE);obtain⟨k,hk⟩:∃k:Nat,letters=(k:Int):=⟨letters.toNat,by omega⟩
 have HD:Hid (xI bs letters=minD (patD k (bs.map zI)) k):=Kh (by
  rw[xI,if_pos hE,hk,Int.toNat_natCast])
 subst hk;have q6:1<=k:=by omega
 have m1:k<=6:=by omega
 obtain⟨kb,off,_,ea,L0,m8,r8,y7⟩:=H.out.some_ (by rw[yD];exact p1);rw[yD]at ea m8;simp only[Value.slice.injEq]at ea;obtain⟨rfl,_,rfl⟩:=ea;have z6:cap<=9223372036854775807:=by unfold maxLen at r8;omega
 have J6:=Kh r8;have t6:Hid (∀W:World,w1.grownBy W none->uQ W kb off (txtV bs)):=Kh (fun W hg=>(y7.kept y1.out (by simp)).kept hg (by simp));have t7:=Kh (vO.1 hE);have HE:=Kh hE;have t8:Hid (∀W:World,w1.grownBy W none->W.cell? ⟨P,0,none⟩=some (.slice (some ⟨kb,off,none⟩) bs.length cap)):=Kh (fun W hg=>by simpa using zJ (zB y2.out hg) 0);obtain⟨L,hL⟩:=Nm (bs.map zI);have A7:L.length=bs.length:=by rw[hL];simp
 have hm:(wL L).length<=22:=by rw[mJ,hL,<-sG,List.length_map];omega
 have z3:∀i,i<bs.length->lenP L i=(bs.getD i ⟨#[]⟩).size:=fun i hi=>by rw[hL];exact qWR hi
 obtain⟨HL,c8,x5⟩:=Kc hL A7 z3;obtain⟨m,p4⟩:=Nm ((wL L).length);rw[<-p4]at hm;have b6:=Kh p4;have E2:=t8.out w1 (zH _ _);have E3:=@run_makeMap Tryz.prog;obtain⟨mb,l9⟩:=Nm w1.heap.size;obtain⟨w2,l7⟩:=Nm (w1.alloc (.map #[] 0));have m6:=Ga w1 (.map #[] 0) none;have i9:=MapK.made 154 qOH posV w1;rw[<-l7]at m6 i9;rw[<-l9]at i9;have J5:Hid (w2.heap.size=mb+1):=Kh (by rw[l7,zL,l9]);obtain⟨I3,F7,J2⟩:=Kc l9 l7 m6
 have B8:Hid (MapK 154 qOH posV w2 mb 0 0 (numP [])):=Kh (by
  have:numP []=(fun _=>none):=by funext x;simp[numP]
  rw[this];exact i9)
 have E1:=t8.out w2 m6;have p7:=i9.lt;have p8:w1.heap.size<=mb:=by omega
 clear hE D4 p0 y7 r8 hL A7 p4 z3 a9 l9 l7 m6 i9 E2;go_upto_region 6 with fail;rw[<-F7.out,<-I3.out];have B6:Hid (PSt w1 w2 w2.heap.size mb L 0 none 0):=Kh ⟨World.ownsRow_nil _ _ _ _,by simpa using B8.out,J2.out,p8,p7⟩;clear E3;go_wp2
 go_loopg [7,9,10,11,35] bs.length (fun gh s7 s9 s10 s11 i wr=>∃(q n:Nat) (sp:Option Addr) (pc:Nat),gh+q=bs.length/\i=.int .i64 q/\n=offP L q/\PSt w1 wr w2.heap.size mb L n sp pc/\s7=.slice sp n pc)
 case atStart=>exact⟨0,0,none,0,rfl,rfl,by rw[tA],B6.out,rfl⟩
 clear B6 B8 E1;obtain⟨q,n,sp,pc,c3,rfl,hn,H3,rfl⟩:=hrel;obtain⟨g4,HN,b7⟩:=Kc c3 hn H3;clear c3 hn;by_cases hq:q<bs.length
 ·have i6:(q:Int)<bs.length:=by omega
  have cu:=vL (t6.out wr H3.grown) q hq;obtain⟨u,hu⟩:=Nm (bs.getD q ⟨#[]⟩);rw[<-hu]at cu;have HU:=Kh hu;have e8:=x5.out q hq;rw[<-hu]at e8;have o7:offP L q+lenP L q<m:=(by rw[b6.out];exact rY (by rw[c8.out];exact hq) (Nat.le_refl _));have K5:u.size<=22:=by omega
  have x4:=Kh e8;clear hu H3 e8 o7;go_wp2
  go_loopg [7,11] (u.size+1) (fun gh s7 i wr=>∃(kk n:Nat) (sp:Option Addr) (pc:Nat),gh+kk=u.size+1/\i=.int .i64 kk/\n=offP L q+kk/\PSt w1 wr w2.heap.size mb L n sp pc/\s7=.slice sp n pc)
  case atStart=>exact⟨0,n,sp,pc,rfl,rfl,HN.out,b7.out,rfl⟩
  clear b7 HN cu;obtain⟨kk,n,sp,pc,c3,rfl,hn,H3,rfl⟩:=hrel;obtain⟨g3,HN,b7⟩:=Kc c3 hn H3;have K9:=H3.map.lt
  have g7:w2.heap.size<=wr.heap.size:=by
   have:=J5.out;omega
  clear c3;by_cases hkk:kk<=u.size
  ·have q5:(kk:Int)<=u.size:=by omega
   have i8:n<m:=by
    rw[hn,b6.out];exact rY (by rw[c8.out];exact hq) (by rw[x4.out];exact hkk)
   clear hn H3;go_wp2_with (first|(at_mapUpdate;refine oH qQG rfl _ _ _ rfl mb n n _ (q,kk) n rfl rfl rfl b7.out.map (by unfold maxLen;omega) ⟨by show q<_;omega,by show kk<_;omega⟩ (by omega) ?_;intro w3 d5 m5;(have I4:=Kh d5);(have J1:=Kh m5);(have I1:=Kh (b7.out.own.kept m5 (.inr (fun e=>by have:=(b7.out.own.lt mb e).1;have:=b7.out.lo;omega))));(have K3:=m5.size);clear d5 m5)|(at_builtin;refine jH rfl _ _ _ rfl qXI w2.heap.size (.slice sp n pc) n _ rfl I1.out [.int .i64 (q:Int),.int .i64 (kk:Int)] rfl rfl ?a0 ?a1 ?a2 ?a3 ?_;(case a0=>(intro u hu;simp at hu;rcases hu with rfl|rfl<;>rfl));(case a1=>(unfold maxLen;omega));(case a2=>omega);(case a3=>omega);intro sa4 sc4 w4 d4 z5;(have I0:=Kh d4);(have J0:=Kh z5);clear d4 z5)|fail);go_roundg (u.size+1-(kk+1))
   case measure=>have:=g3.out;omega
   exact⟨kk+1,n+1,sa4,sc4,by have:=g3.out;omega,by go_num,by rw[HN.out];rfl,b7.out.put (by rw[c8.out];exact hq) (by rw[x4.out];exact hkk) HN.out I4.out J1.out I0.out J0.out,rfl⟩
  have q5:¬(kk:Int)<=u.size:=by omega
  have I5:Hid (kk=u.size+1):=Kh (by have:=g3.out;omega);clear hn H3;go_wp2;go_roundg (bs.length-(q+1))
  case measure=>have:=g4.out;omega
  exact⟨q+1,n,sp,pc,by have:=g4.out;omega,by go_num,by rw[HN.out,qEI (by rw[c8.out];exact hq),x4.out,I5.out];omega,b7.out,rfl⟩
 have y8:q=bs.length:=by have:=g4.out;omega
 have i8:n=m:=by
  have:=mJ L;have h9:=HN.out;rw[y8,<-c8.out]at h9;unfold offP at h9;rw[List.take_length]at h9;have:=b6.out;omega
 subst i8;have i6:¬(q:Int)<bs.length:=by omega
 have e7:0<n:=by
  have:=mJ L;have:=b6.out;have:=c8.out;omega
 obtain⟨pb,rfl,z0,o5⟩:=qMV H3.own e7;have y6:(wL L).take n=wL L:=by rw[b6.out,List.take_length]
 have a7:=H3.own;have b0:=H3.map;rw[y6]at a7 b0;obtain⟨w5,rfl⟩:=Nm (wr:World);have c6:RCtx w5 bs kb off cap pb pc mb n:=⟨t6.out _ H3.grown,⟨m8,J6.out⟩,by rw[<-HL.out];exact PosAt.of_owns a7,⟨z0,o5⟩,by rw[<-HL.out];exact b0,by rw[<-HL.out];exact b6.out.symm,by omega⟩;have E4:kb<w5.heap.size:=(t6.out _ H3.grown).1;have E0:pb<w5.heap.size:=c6.pos.lt;have z2:mb<w5.heap.size:=c6.map.lt;have C4:=Kh H3.grown;have i2:=Kh c6;have b5:Hid (∀W:World,w5.grownBy W none->W.cell? ⟨P,0,none⟩=some (.slice (some ⟨kb,off,none⟩) bs.length cap)):=Kh (fun W hg=>t8.out W (zA C4.out hg))
 have k6:Hid (∀W',w5.grownBy W' none->Calls Tryz.prog 101 #[.int .i64 (n:Int)] W' fun e W''=>∃g,e=.returned (.slice (some ⟨g,0,none⟩) n n)/\w5.heap.size<=g/\Arr W'' g 4 (bls (nV n))/\w5.grownBy W'' none/\W''.cell? ⟨P,0,none⟩=some (.slice (some ⟨kb,off,none⟩) bs.length cap)):=Kh (fun W' hg=>(qMO W' n e7 (by omega)).mono (by
  rintro e W'' ⟨rfl,h1,h2⟩
  exact⟨_,rfl,hg.size,h1,zA hg h2,b5.out _ (zA hg h2)⟩))
 have k7:Hid (∀W' g S,w5.grownBy W' none->w5.heap.size<=g->S.length=n->Arr W' g 4 (bls S)->Calls Tryz.prog 100 #[.agg #[.slice (some ⟨kb,off,none⟩) bs.length cap],.slice (some ⟨pb,0,none⟩) n pc,.map (some mb),.slice (some ⟨g,0,none⟩) n n] W' fun e W''=>e=.returned (.slice (some ⟨g,0,none⟩) n n)/\Arr W'' g 4 (bls (spr L S))/\W'.grownBy W'' (some g)):=Kh (fun W' g S hg h1 h2 h3=>by
  rw[HL.out]
  exact qLV W' bs kb off cap pb pc mb n g S (i2.out.grow hg) h2 h3 (by omega) (by omega) (by omega))
 obtain⟨R1,A5⟩:=Nm (bs.length-1);have e71:(bs.length:Int)-1=(R1:Int):=by omega
 have e72:IntKind.i64.wrap ((bs.length:Int)-1)=(R1:Int):=by rw[e71];exact qB (by omega)
 have H9:R1<bs.length:=(by omega);have F1:(R1:Int)<bs.length:=(by omega);have G5:=Kh A5;clear A5;have p5:=b5.out w5 (zH _ _);have o6:pc<=9223372036854775807:=by unfold maxLen at o5;omega
 have G0:Hid (spr L (nV n)=s0B L):=Kh (by rw[s0B,<-b6.out]);clear a7 b0 c6 H3 y6 b7 y8 o5;go_upto_region 16 with fail;go_cut [13] (fun s13 wx=>∃(g6:Nat) (w7:World),s13=.slice (some ⟨w7.heap.size,0,none⟩) 1 1/\w5.heap.size<=g6/\Arr w7 g6 4 (bls (spr L (nV n)))/\w5.grownBy w7 none/\wx=w7.alloc (.cells #[.slice (some ⟨g6,0,none⟩) n n] 27))
 case first =>
  go_region_law (first|(go_simp;go_at_call 101;refine(k6.out _ (by first|exact zH _ _|exact zN _ none|exact zK _ _ none)).mono ?_;rintro e w6 ⟨g6,rfl,b9,k4,j5,p6⟩)|(go_simp;go_at_call 100;refine(k7.out _ g6 _ j5 b9 (by simp[nV]) k4).mono ?_;rintro e w7 ⟨rfl,h5,c2⟩)|fail)
  all_goals
   go_wp2_with fail
   go_meet
   exact⟨g6,w7,rfl,b9,h5,zA j5 c2 (fun x e=>by have:=Oj e;omega),rfl⟩
 case rest =>
 obtain⟨g6,w7,rfl,b9,h5,h0,rfl⟩:=hcut;obtain⟨SS,n0⟩:=Nm w7.heap.size;obtain⟨w8,i3⟩:=Nm (w7.alloc (.cells #[.slice (some ⟨g6,0,none⟩) n n] 27))
 have H0:w8.ownsRow w5.heap.size 27 1 (.slice (some ⟨SS,0,none⟩) 1 1) 1 [setV n g6]:=by
  rw[i3,n0];exact World.ownsRow_lit w7 #[setV n g6] 1 h0.size (by unfold maxLen;omega) rfl
 have H2:=Ga w7 (.cells #[.slice (some ⟨g6,0,none⟩) n n] 27) none;rw[<-i3]at H2;obtain⟨oD,l8⟩:=Nm w8.heap.size;obtain⟨w9,n8⟩:=Nm (w8.alloc (.cells #[.int .i64 (k:Int),.int .i64 0,.slice none 0 0,.slice none 0 0] 30));have H6:=Ga w8 (.cells #[.int .i64 (k:Int),.int .i64 0,.slice none 0 0,.slice none 0 0] 30) none;have g0:=heap_alloc_new w8 (.cells #[.int .i64 (k:Int),.int .i64 0,.slice none 0 0,.slice none 0 0] 30);rw[<-n8]at H6 g0;rw[<-l8]at g0;have d6:w5.grownBy w9 none:=zA (zA h0 H2) H6;have n7:=(zA h0 H2).size;have o8:w5.heap.size<=oD:=by omega
 have i5:(s0B L).length=n:=by rw[qLZ];exact b6.out.symm
 have h6:Hid (DSt w5 w9 oD (fun _=>False) k n [s0B L] [g6] (rFs L [s0B L] 0) (rTs L k [s0B L] 0) [] none 0 none 0 (some ⟨SS,0,none⟩) 1):=Kh
  ⟨BX.start g0 o8 d6,zP H0 H6,rfl,fun j hj=>by
   have:j=0:=by simp at hj;exact hj
   subst this;have e:spr L (nV n)=s0B L:=G0.out;rw[e]at h5
   exact(h5.kept H2 (by simp)).kept H6 (by simp),fun g hg=>by simp at hg;subst hg;exact b9,fun g hg=>by simp[Value.ownBlock],fun x hx=>by simp at hx;subst hx;exact i5⟩
 have t9:Hid (oD=SS+1):=Kh (by rw[l8,i3,zL,n0]);obtain⟨F6,F5,L5,F9⟩:=Kd i3 n8 l8 n0;clear i3 H0 H2 n8 H6 g0 d6 n7 i5 h5 h0 n0 l8 p5 k6;go_wp2;rw[<-F9.out,<-F6.out];go_upto_region 18 with fail;rw[<-F5.out,<-t9.out];have a4:Hid (BfsI (nxtB L) k (s0B L) [s0B L] 0 0):=Kh BfsI.start;go_wp2
 go_loopg [13,15,16,17,18,19,20,21,22,113] 4194304 (fun gh s13 i s16 s17 s18 s19 s20 s21 s22 s113 wr=>∃(q:Nat) (l:List (List Bool)) (gs:List Nat) (hs:List Value) (X:Nat->Prop) (sf:Option Addr) (cf:Nat) (sn:Option Addr) (cn:Nat) (ss:Option Addr) (sc:Nat),gh+q=4194304/\i=.int .i64 q/\s13=.slice ss l.length sc/\BfsI (nxtB L) k (s0B L) l q 0/\DSt w5 wr oD X k n l gs (rFs L l q) (rTs L k l q) hs sf cf sn cn ss sc)
 case atStart=>exact⟨0,_,_,_,_,_,_,_,_,_,_,rfl,rfl,rfl,a4.out,h6.out⟩
 clear a4 h6;obtain⟨q,l,gs,hs,X,sf,cf,sn,cn,ss,sc,c3,rfl,rfl,b3,h4⟩:=hrel;obtain⟨g4,a4,h6⟩:=Kc c3 b3 h4
 have c1:l.length<=4194304:=by
  have h1:=iP n l b3.nd h4.ll;have h2:2 ^ n<=2 ^ 22:=Nat.pow_le_pow_right (by omega) hm;have h3:2 ^ 22=4194304:=by decide
  omega
 by_cases hq:q<l.length
 ·have i6:(q:Int)<l.length:=by omega
  obtain⟨y9,rfl,o1,a6,j4⟩:=h4.hd (by omega);have chd:=j4 q hq;obtain⟨gi,m2⟩:=Nm (gs.getD q 0);obtain⟨S,hS⟩:=Nm (l.getD q []);have H4:=h4.row q hq;rw[<-m2,<-hS]at H4;rw[<-m2]at chd;obtain⟨ul,i4⟩:=Nm (bs.getD R1 ⟨#[]⟩);have h0:=h4.bx.grown;have cul:=vL ((i2.out.grow h0).blk) R1 H9;rw[<-i4]at cul;have s3:S.length=n:=by rw[hS,zG hq];exact h4.ll _ (List.getElem_mem hq)
  have b8:=(i2.out.grow h0).num (bi:=R1) (bk:=ul.size) H9 (by rw[<-i4];exact Nat.le_refl _);obtain⟨F,hF⟩:=Nm (offP L R1+ul.size);rw[<-HL.out,<-hF]at b8;have B0:=b8.2;have cF:=H4.bool F (by rw[s3];exact B0)
  have j9:S.getD F false=finP L S:=by
   rw[finP,bitP,hF];have e1:L.length-1=R1:=by rw[c8.out];exact G5.out.symm
   rw[e1,x5.out R1 H9,<-i4]
  rw[j9]at cF;obtain⟨bf,f9⟩:=Nm (finP L S);rw[<-f9]at cF;obtain⟨J3,k8,I6,F8,k5⟩:=Ke f9 hS m2 s3 i4;have pP:=b5.out _ h0;obtain⟨d0,d1,d2,d3⟩:=zE h4.bx.box;have fz2:=zF h4.bx.box 2;have l6:Hid ((rFs L l q).length=q):=Kh (qPX (by omega));have n3:Hid ((rTs L k l q).length=q):=Kh (qHA (by omega));rw[l6.out]at d2;rw[n3.out]at d3;obtain⟨wo,rfl⟩:=Nm (wr:World);have a5:sc<=9223372036854775807:=by unfold maxLen at a6;omega
  have z4:∀qq,(Instr.lookup 152 (.map (some mb)) (.agg #[.int .i64 (R1:Int),.int .i64 (ul.size:Int)]) false).run Tryz.prog (wo.drewN qq)=.ok (.int .i64 (F:Int)) (wo.drewN qq):=fun qq=>by
   have:=(((i2.out.grow h0).grow (zK wo qq none)).num (bi:=R1) (bk:=ul.size) H9 (by rw[<-k5.out];exact Nat.le_refl _)).1;rw[<-HL.out,<-hF]at this;exact this
  have j2:(Instr.lookup 152 (.map (some mb)) (.agg #[.int .i64 (R1:Int),.int .i64 (ul.size:Int)]) false).run Tryz.prog wo.drew=.ok (.int .i64 (F:Int)) wo.drew:=by
   have:=(((i2.out.grow h0).grow (zN wo none)).num (bi:=R1) (bk:=ul.size) H9 (by rw[<-k5.out];exact Nat.le_refl _)).1;rw[<-HL.out,<-hF]at this;exact this
  have j3:(Instr.lookup 152 (.map (some mb)) (.agg #[.int .i64 (R1:Int),.int .i64 (ul.size:Int)]) false).run Tryz.prog wo=.ok (.int .i64 (F:Int)) wo:=b8.1;have i7:=zM h4.bx.box;have B7:Hid (∀W1:World,wo.grownBy W1 none->W1.ownsRow oD 4 1 (.slice sf q cf) q (bls (rFs L l q))/\oD<=W1.heap.size):=Kh (fun W1 hg=>⟨by have:=zP h6.out.bx.ownF hg;rwa [l6.out]at this,by have:=hg.size;omega⟩)
  have d9:Hid (∀(W1 w':World) (sf':Option Addr) (cf':Nat),w'.ownsRow oD 4 1 (.slice sf' (q+1) cf') (q+1) (bls (rFs L l q)++[.bool bf])->W1.grownBy w' (Value.slice sf q cf).ownBlock->pG W1 w' (.slice sf q cf) (.slice sf' (q+1) cf')->wo.grownBy W1 none ->
    DSt w5 (w'.setCell ⟨oD,2,none⟩ (.slice sf' (q+1) cf')) oD X k n l gs (rFs L l (q+1)) (rTs L k l q) hs sf' cf' sn cn (some ⟨y9,0,none⟩) sc/\w'.frozen? ⟨oD,2,none⟩=false/\w'.cell? ⟨oD,2,none⟩=some (.slice sf q cf)):=Kh (fun W1 w' sf' cf' ho hg hmv h1=>by
   have s4:=h6.out.grow h1;have B1:=s4.bx.ownF;have s0:=s4.bx.box;rw[l6.out]at B1 s0;have d8:=zB s0 hg (zO B1 s0 (by decide));have hp:=s4.pushF (b:=bf) l6.out ho hg hmv rfl;rw[J3.out,k8.out,<-qUZ hq]at hp
   exact⟨hp,zF d8 2,(zE d8).2.2.1⟩)
  clear c3 b3 h4 j4 m2 hS H4 i4 h0 s3 b8 hF j9 f9;go_upto_region 21 with fail;refine xBH (D:=fun W1 sf1 cf1=>DSt w5 W1 oD X k n l gs (rFs L l (q+1)) (rTs L k l q) hs sf1 cf1 sn cn (some ⟨y9,0,none⟩) sc) B7 d9 z4 j2 j3 d2 fz2 pP cF cul chd j1 z6 m8 hm H9 hq o1 a5 B0 c1 ?_;intro z79 z80 z81 z82 z83 z84 z85 z86 z87 z88 z89 z90 z91 z92 z93 z94 z95 z96 z97 z98 z99 w8 sf8 cf8 k0;have C7:=Kh k0;clear k0 d9 B7 z4 j3 j2 d0 d1 d2 d3 fz2 pP cF cul chd;go_wp2
  go_loopg [13,16,17,18,19,20,21,22,113] k (fun gh s13 s16 i s18 s19 s20 s21 s22 s113 wr=>∃(x:Nat) (l:List (List Bool)) (gs:List Nat) (ss:Option Addr) (sc:Nat) (sr:Option Addr) (cr:Nat),gh+x=k/\i=.int .i64 x/\s13=.slice ss l.length sc/\s16=.slice sr x cr/\BfsI (nxtB L) k (s0B L) l q x/\q<l.length/\l.getD q []=S/\gs.getD q 0=gi/\DSt w5 wr oD X k n l gs (rFs L l (q+1)) (rTs L k l q) hs sf8 cf8 sn cn ss sc/\wr.ownsRow w5.heap.size 3 1 (.slice sr x cr) x (nats (jR L l S x))/\∀j,(Value.slice sr x cr).ownBlock=some j->¬X j)
  case atStart=>exact⟨0,l,gs,_,sc,none,0,rfl,rfl,rfl,rfl,a4.out,hq,k8.out.symm,I6.out.symm,C7.out,World.ownsRow_nil _ _ _ _,fun j hj=>by simp[Value.ownBlock]at hj⟩
  clear h6 a4 i6 C7 a6 a5 o1 l6 n3 c1;obtain⟨x,l,gs,ss,sc,sr,cr,f6,rfl,rfl,rfl,b3,H5,m0,m3,h4,o3,o2⟩:=hrel;obtain⟨l1,a4,h6,t5,n4,i0⟩:=Kf f6 b3 h4 o3 o2 m0;have x7:=Kh m3
  have c1:l.length<=4194304:=by
   have h1:=iP n l b3.nd h4.ll;have h2:2 ^ n<=2 ^ 22:=Nat.pow_le_pow_right (by omega) hm;have h3:2 ^ 22=4194304:=by decide
   omega
  have h0:=h4.bx.grown;have l2:=Kh h0;have K2:=h0.size;by_cases hx:x<k
  ·have D3:(x:Int)<k:=by omega
   obtain⟨D8,rfl,o1,a6,j4⟩:=h4.hd (by omega);have C0:=Kh j4;have H4:=h4.row q H5;rw[m3,m0]at H4;have t4:=Kh H4;have a5:sc<=9223372036854775807:=by unfold maxLen at a6;omega
   have i6:(q:Int)<l.length:=(by omega);obtain⟨wA,rfl⟩:=Nm (wr:World);clear f6 b3 h4 o3 o2 m0 m3 j4 H4 h0 a6;obtain⟨G,hG⟩:=Nm wA.heap.size;have n6:=Kh hG;go_wp2_with (first|(at_make;refine kW rfl _ _ _ rfl xL rfl .i64 .i64 _ _ n rfl rfl rfl rfl ?b1 ?b2 ?_;(case b1=>omega);(case b2=>(unfold maxLen;omega));intro ws H8 q9 p9;rw[<-hG]at H8 p9⊢;(have chd:=(xCQ (C0.out q H5) q9));rw[x7.out]at chd;(have D0:Hid (Arr ws G 4 (bls (yR L n S x 0))):=Kh (by rw[yR,nQ];exact H8));(have C2:=Kh q9);clear H8 q9 hG)|fail);refine xBI HL c8 x5 b6 t7 i2 l2 b5 t4 F8 n6 D0 C2 j1 z6 m8 z0 o6 hm e7 m1 hx ?_;intro z19 z20 z21 z113 z114 z115 z116 z117 z118 z119 z120 z121 z122 z123 z124 z125 z126 z127 z128 z129 z130 z131 z132 z133 z134 z135 z136 z137 z138 z139 z140 z141 z142 z143 z144 z145 z146 z147 z148 z149 z150 z151 z152 z153 z154 z155 z156 z157 z158 z159 z160 z161 z162 z163 z164 z165 z166 z167 z168 z169 z170 wr H8 r4;clear D0 C2 chd;have C1:=Kh r4;have f5:=zA l2.out r4;have C8:=Kh H8;obtain⟨T,hT⟩:=Nm (nxtB L S x);have s2:spr L (yR L n S x n)=T:=by rw[hT,nxtB,<-b6.out]
   have g1:T.length=n:=by rw[hT,qHH];exact b6.out.symm
   have A9:w5.heap.size<=G:=by have:=n6.out;omega
   have pPr:=b5.out wr f5;have s8:=Kh (k7.out wr G _ f5 A9 (tB L n S x n) C8.out);rw[s2]at s8;obtain⟨HT,L4,B5⟩:=Kc hT s2 g1;clear H8 r4 f5 hT s2 g1;go_wp2_with fail;refine s8.out.mono ?_;rintro e w7 ⟨rfl,h5,c2⟩;have j7:wA.grownBy w7 none:=zY C1.out c2 (by show _<=G;have:=n6.out;omega);have C9:=Kh h5;have I8:=Kh j7;clear h5 c2 j7 s8 C8 C1;go_wp2
   go_loopg [22] l.length (fun gh s22 wq=>∃j:Nat,gh+j=l.length/\s22=.int .i64 j/\(∀i,i<j->l.getD i []≠T)/\w7.grownBy wq none)
   case atStart=>exact⟨0,rfl,rfl,fun i hi=>by omega,zH _ _⟩
   obtain⟨j,f7,rfl,e6,j6⟩:=hrel;obtain⟨x6,x2,C3⟩:=Kc f7 e6 j6;have H1:=zA I8.out j6;have l3:=Kh H1;by_cases hj:j<l.length
   ·have q8:(j:Int)<l.length:=by omega
    have E6:decide ((j:Int)<(l.length:Int))=true:=by rw[decide_eq_true_eq];exact q8
    have E5:((j:Int) == (l.length:Int))=false:=by rw[beq_eq_false_iff_ne];omega
    have chj:=xCQ (C0.out j hj) H1;obtain⟨gj,r5⟩:=Nm (gs.getD j 0);rw[<-r5]at chj;have o4:=(h6.out.row j hj).kept H1 (by simp);rw[<-r5]at o4;have g9:=Kh (qQB wr gj G n (l.getD j []) T (h6.out.ll _ (by rw[zG hj];exact List.getElem_mem hj)) B5.out (by omega) o4 (C9.out.kept j6 (by simp)));clear f7 e6 j6 H1 r5 o4;by_cases heq:l.getD j []=T
    ·have hb:(l.getD j [] == T)=true:=by rw[beq_iff_eq];exact heq
     rw[hb]at g9;have C5:=Kh heq;clear hb heq;go_wp2_with fail;refine g9.out.mono ?_;rintro e w8 ⟨rfl,H2⟩;have c4:=zA l3.out H2;have x8:=Kh c4;have b4:=Kh (zP t5.out c4);have D2:=c4.size;clear H2 c4 g9;go_wp2_with (first|(at_builtin;refine qGF rfl _ _ _ rfl yP w5.heap.size (.slice sr x cr) x (nats (jR L l S x)) rfl b4.out (.int .i64 (j:Int)) rfl rfl ?a1 ?a2 ?a3 ?_;(case a1=>(unfold maxLen;omega));(case a2=>omega);(case a3=>omega);intro sr9 cr9 v9 h8 H6 D1 a8;(have x0:=Kh h8);(have i1:=Kh H6);(have x3:=Kh a8);clear h8 H6 a8)|fail);go_roundg (k-(x+1))
     case measure=>have:=l1.out;omega
     have f4:l.idxOf (nxtB L S x)=j:=by rw[<-HT.out];exact qRY hj C5.out x2.out
     have p3:nxtB L S x∈l:=(by rw[<-HT.out,<-C5.out,zG hj];exact List.getElem_mem hj);have k1:=h6.out.grow x8.out;refine⟨x+1,l,gs,_,sc,sr9,cr9,by have:=l1.out;omega,by go_num,rfl,rfl,a4.out.old (by rw[<-i0.out,zG H5,List.getElem?_eq_getElem H5]) p3,H5,i0.out,x7.out,k1.appI b4.out (Nat.le_refl _) n4.out i1.out,?_,fun y hy=>?_⟩
     ·rw[aG,f4,uE];exact x0.out
     rcases x3.out with h9|⟨_,h9⟩
     ·rw[h9]at hy;exact n4.out y hy
     intro hX;have h1:=h9 y hy;have h2:=k1.bx.lt y hX;omega
    have hb:(l.getD j [] == T)=false:=by rw[beq_eq_false_iff_ne];exact heq
    rw[hb]at g9;have I2:=Kh heq;clear hb heq;go_wp2_with fail;refine g9.out.mono ?_;rintro e w8 ⟨rfl,H2⟩;have y0:=Kh H2;clear H2 g9;go_wp2;go_roundg (l.length-(j+1))
    case measure=>have:=x6.out;omega
    refine⟨j+1,by have:=x6.out;omega,by go_num,fun i hi=>?_,zA C3.out y0.out⟩;by_cases e9:i=j
    ·rw[e9];exact I2.out
    exact x2.out i (by omega)
   have q7:j=l.length:=by have:=x6.out;omega
   have q8:¬(j:Int)<l.length:=(by omega);have E6:decide ((j:Int)<(l.length:Int))=false:=by rw[decide_eq_false_iff_not];exact q8
   have E5:((j:Int) == (l.length:Int))=true:=by simp[q7]
   have B9:=Kh q7;have l0:=Kh (zP h6.out.own H1);have k9:=Kh (zP t5.out H1);have K0:=H1.size;clear f7 e6 j6 H1 q7;go_wp2_with (first|(at_builtin;refine jH rfl _ _ _ rfl qSR w5.heap.size (.slice (some ⟨D8,0,none⟩) l.length sc) l.length (gs.map (setV n)) rfl l0.out [.slice (some ⟨G,0,none⟩) n n] rfl rfl ?a0 ?a1 ?a2 ?a3 ?_;(case a0=>(intro u hu;simp at hu;subst hu;rfl));(case a1=>(unfold maxLen;omega));(case a2=>omega);(case a3=>omega);intro ss8 sc8 w8 H0 H2;(have G8:=Kh H0);(have y0:=Kh H2);(have b4:=Kh (k9.out.kept H2 (qK k9.out l0.out (by decide))));(have D2:=H2.size);clear H0 H2)|(at_builtin;refine qGF rfl _ _ _ rfl yP w5.heap.size (.slice sr x cr) x (nats (jR L l S x)) rfl b4.out (.int .i64 (j:Int)) rfl rfl ?a1 ?a2 ?a3 ?_;(case a1=>(unfold maxLen;omega));(case a2=>omega);(case a3=>omega);intro sr9 cr9 v9 h8 H6 D1 a8;(have x0:=Kh h8);(have i1:=Kh H6);(have x3:=Kh a8);clear h8 H6 a8)|fail);go_roundg (k-(x+1))
   case measure=>have:=l1.out;omega
   have i8:nxtB L S x ∉ l:=by
    rw[<-HT.out];exact qWW (fun i hi=>x2.out i (by have:=B9.out;omega))
   have E8:=h6.out.grow l3.out
   have k1:=E8.pushS (T:=T) rfl B5.out (C9.out.kept C3.out (by simp)) A9 (fun e=>by
    have h1:=(h6.out.bx.ownF.lt G e).2;have:=n6.out
    omega) G8.out y0.out
   have m7:=k1.appI b4.out (Nat.le_refl _) n4.out i1.out
   have d7:∀ {α:Type} (a b:List α) (d:α),q<a.length->(a++b).getD q d=a.getD q d:=fun a b d h=>by
    rw[List.getD_eq_getElem?_getD,List.getD_eq_getElem?_getD,List.getElem?_append_left h]
   have f4:(l++[T]).idxOf T=j:=by
    rw[List.idxOf_append,if_neg (by rw[HT.out];exact i8),B9.out];simp
   have E9:S=l.getD q []:=i0.out.symm;have g0:=a4.out.new hx (by rw[<-i0.out,zG H5,List.getElem?_eq_getElem H5]) i8;rw[<-HT.out]at g0;refine⟨x+1,l++[T],gs++[G],ss8,sc8,sr9,cr9,by have:=l1.out;omega,by go_num,by rw[List.length_append];rfl,rfl,g0,by rw[List.length_append];omega,by rw[d7 _ _ _ H5];exact i0.out,by rw[d7 _ _ _ (by rw[h6.out.len];exact H5)];exact x7.out,?_,?_,fun y hy=>?_⟩
   ·rw[qVA (by omega),qUY a4.out];exact m7
   ·have e1:jR L (l++[T]) S x=jR L l S x:=by
     rw[E9];exact qMC a4.out H5 (by omega)
    rw[aG,<-HT.out,f4,e1,uE];exact x0.out
   rcases x3.out with h9|⟨_,h9⟩
   ·rw[h9]at hy;exact n4.out y hy
   intro hX;have h1:=h9 y hy;have h2:=k1.bx.lt y hX;omega
  have y5:x=k:=by have:=l1.out;omega
  have D3:¬(x:Int)<k:=(by omega);obtain⟨d0,d1,d2,d3⟩:=zE h4.bx.box;have fz3:=zF h4.bx.box 3;have g2:(rTs L k l q).length=q:=qHA (by omega);have hN:=h4.bx.ownN;rw[g2]at d3 hN;obtain⟨HN,n3,B3⟩:=Kc hN g2 y5;have i7:=zM h4.bx.box;clear f6 b3 h4 o3 o2 m0 m3 h0 y5 g2 hN;go_wp2_with (first|(at_builtin;refine qGF rfl _ _ _ rfl vX oD (.slice sn q cn) q hs rfl HN.out (.slice sr x cr) rfl rfl ?a1 ?a2 ?a3 ?_;(case a1=>(unfold maxLen;omega));(case a2=>omega);(case a3=>omega);intro sn6 cn6 w10 c9 r6 K1 p2;(have G9:=Kh c9);(have I9:=Kh r6);(have z9:=zB h6.out.bx.box r6 (zO HN.out h6.out.bx.box (by decide)));(obtain⟨e0,e1',e2,e3⟩:=zE z9);(have fz6:=zF z9 3);clear c9 r6 p2)|fail);go_roundg (4194304-(q+1))
  case measure=>have:=g4.out;omega
  have z7:=a4.out;rw[B3.out]at z7;have A1:=t5.out
  have hp:=h6.out.pushN (Y:=fun j=>X j\/(Value.slice sr x cr).ownBlock=some j) n3.out (fun j hj=>.inl hj) (fun j hj=>by
   rcases hj with hj|hj
   ·exact h6.out.bx.lt j hj
   exact(A1.lt j hj).2) G9.out I9.out (row:=qZ (nxtB L) k l S) (by
   have h9:=RowX.of_owns (X:=fun j=>X j\/(Value.slice sr x cr).ownBlock=some j) A1 (fun y hy=>.inr hy);rw[show jR L l S x=jR L l S k by rw[B3.out],qMD]at h9
   exact h9) rfl
  have e1:rTs L k l (q+1)=rTs L k l q++[qZ (nxtB L) k l S]:=by rw[qUX H5,i0.out]
  rw[<-e1]at hp;exact⟨q+1,l,gs,_,_,sf8,cf8,sn6,cn6,ss,sc,by have:=g4.out;omega,by go_num,rfl,z7.next H5,hp⟩
 have i6:¬(q:Int)<l.length:=by omega
 have H5:q=l.length:=by have:=b3.le;omega
 have r9:=b3.done hq;have n9:VD (bfsA (nxtB L) k (finP L) l) l.length k:=r9.vd q6 m1 c1;have n2:(rFs L l q).length=q:=qPX (by omega);have g1:(rTs L k l q).length=q:=qHA (by omega);have f8:=(h4.bx.built (n2.trans g1.symm)).dfa
 have B2:(⟨(k:Int),0,rFs L l q,rTs L k l q⟩:DfaV)=bfsA (nxtB L) k (finP L) l:=by
  rw[rFs,rTs,H5,List.take_length];rfl
 rw[B2,n2,g1]at f8;have A8:0<L.length:=by rw[c8.out];exact p1
 have j0:minD (bfsA (nxtB L) k (finP L) l) k=xI bs (k:Int):=by
  rw[HD.out];have D9:=qBL (k:=k) q6 m1 p1 o0;refine qER n9 D9 fun s hs=>?_;obtain⟨b,us,hb,p0⟩:=gV t7.out;have e1:=r9.acc (fin:=finP L) hs;rw[e1,Bool.eq_iff_iff,qXA A8,HL.out,hb];exact(qQN p0 hs).symm
 have n5:=Kh (dQ wr.heap.size wr _ (bfsA (nxtB L) k (finP L) l) l.length k (Nat.le_refl _) f8 n9);rw[j0]at n5;obtain⟨R,hR⟩:=Nm (xI bs (k:Int));rw[<-hR]at n5;have F0:∃N,N<=66/\VD R N k:=by rw[hR];exact qEC t7.out
 obtain⟨N,F3,n1⟩:=F0;have A3:R.letters=k:=n1.hk;have A0:R.start=0:=by rw[hR,HD.out];rfl
 have A4:R.final.length=N:=n1.hn;have A2:R.next.length=N:=n1.nl;obtain⟨d0,d1,d2,d3⟩:=zE h4.bx.box;rw[n2]at d2;rw[g1]at d3;have l4:Hid (w1.grownBy wr none):=Kh (zA C4.out h4.bx.grown);obtain⟨HR,G3,G1,G4,G2⟩:=Ke hR A3 A0 A4 A2;have i7:=zM h4.bx.box;clear c3 b3 h4 r9 n9 n2 g1 f8 B2 j0 hR n1 A3 A0 A4 A2 A8 H5 a4 h6 g4;go_wp2_with fail;refine n5.out.mono ?_;rintro e x9 ⟨v9,rfl,m7,H6⟩;have C6:=Kh m7;obtain⟨o9,K6,sf9,cf9,sn9,cn9,rfl,K7,r7⟩:=m7;rw[G3.out,G1.out,G4.out,G2.out]at C6⊢;have i1:=Kh (zA l4.out H6);have z8:=zB H7.out i1.out;have J9:=l4.out.size;have c5:=Ga x9 (.cells #[.int .i64 (k:Int),.int .i64 0,.slice sf9 N cf9,.slice sn9 N cn9] 30) none;have c7:=heap_alloc_new x9 (.cells #[.int .i64 (k:Int),.int .i64 0,.slice sf9 N cf9,.slice sn9 N cn9] 30);obtain⟨x10,e4⟩:=Nm (x9.alloc (.cells #[.int .i64 (k:Int),.int .i64 0,.slice sf9 N cf9,.slice sn9 N cn9] 30));obtain⟨o10,e5⟩:=Nm x9.heap.size;rw[<-e4]at c5 c7;rw[<-e5]at c7;have k3:=zB z8 c5;obtain⟨g5,s6,x1,l5,y3⟩:=Ke k3 e4 e5 c5 c7;have F2:Q<wr.heap.size:=(by omega);have A6:¬(512:Int)<N:=(by omega);have z1:Q≠o10:=(by have:=H6.size;omega);clear r7 H6 z8 d0 d1 d2 d3 n5 k3 c5 c7 e4 e5;go_upto_region 46 with fail;rw[<-s6.out,<-x1.out];obtain⟨q0,q1,q2,q3⟩:=zE g5.out;obtain⟨t0,t1,t2,t3⟩:=zE y3.out;have f0:=zF g5.out 0;have f1:=zF g5.out 1;have f2:=zF g5.out 2;have f3:=zF g5.out 3;go_wp2;obtain⟨k2,g8⟩:=vY g5.out (.int .i64 (k:Int)) (.int .i64 0) (.slice sf9 N cf9) (.slice sn9 N cn9);obtain⟨wz,g7⟩:=Nm ((((x10.setCell ⟨Q,0,none⟩ (.int .i64 (k:Int))).setCell ⟨Q,1,none⟩ (.int .i64 0)).setCell ⟨Q,2,none⟩ (.slice sf9 N cf9)).setCell ⟨Q,3,none⟩ (.slice sn9 N cn9));rw[<-g7]at k2 g8⊢;clear g7;obtain⟨r0,r1,r2,r3⟩:=zE k2;clear q0 q1 q2 q3 f0 f1 f2 f3 t0 t1 t2 t3;refine bodyPost_ret (v:=.tuple #[.agg #[.int .i64 (k:Int),.int .i64 0,.slice sf9 N cf9,.slice sn9 N cn9],.int .i64 0]) (by simp[results,Tryz.results88,go_sem,r0,r1,r2,r3]) rfl ?_;have E7:=(C6.out.grow l5.out).far g8 g5.out F2;obtain⟨fv9,nv9,D5,D6⟩:=E7.t;refine⟨fv9,nv9,?_,?_,zA (zA (zA y1.out i1.out) l5.out) g8 (fun y e=>by have h7:Q=y:=Oj e;omega)⟩
 ·rw[HE.out,<-HR.out,<-D5]
 rw[<-HR.out];exact D6
end Go.Proofs.YtcoimliafiammaaGreat
namespace Go.Proofs.YtcoimliafiammaaGreat
open Go.RowKit
def autE (letters:Int)(ps:List (List ByteArray)):Int:=if 300<ps.length then 3 else vV letters ps
theorem qIU (B:Nat)(w:World)(v:Value)(ps:List (List ByteArray))(letters:Int)(hB:B<=w.heap.size)(h:vE B w v ps)(hl:ps.length<=4096)(a9:∀p∈ps,patW p letters=0->rM p<=14):Calls Tryz.prog 70 #[v,.int .i64 letters] w (qLN w (autE letters ps) (autD ps letters)):=by
 obtain⟨a,c,rfl⟩:=h.shape;obtain⟨n,hn⟩:=Nm ps.length;obtain⟨HN,H,e5⟩:=Kc hn h a9;rw[<-hn]at hl H⊢;clear h hn a9;go_enter Tryz.func70,Tryz.ntmps70;by_cases h3:300<n
 ·have d5:(300:Int)<n:=by omega
  have c7:Hid (autE letters ps=3):=Kh (by unfold autE;rw[if_pos (by rw[<-HN.out];exact h3)]);go_wp2;refine bodyPost_ret (v:=.tuple #[.slice none 0 0,.int .i64 3]) (by simp[results,Tryz.results70,go_sem]) rfl ?_;exact⟨none,0,0,by rw[c7.out],zH _ _,.inl (by rw[c7.out];decide)⟩
 have d5:¬(300:Int)<n:=by omega
 have a0:Hid (autE letters ps=vV letters ps):=Kh (by unfold autE;rw[if_neg (by rw[<-HN.out];exact h3)]);go_wp2
 go_loopg [7,8,19] n (fun gh s7 s8 i wr=>∃k:Nat,gh+k=n/\i=.int .i64 k/\vV letters (ps.drop k)=vV letters ps/\w.grownBy wr none)
 case atStart=>exact⟨0,rfl,rfl,rfl,zH _ _⟩
 obtain⟨k,H5,rfl,b5,hg⟩:=hrel;obtain⟨h8,HG,h5⟩:=Kc H5 hg b5;clear H5 b5;by_cases hk:k<n
 ·have b8:(k:Int)<n:=by omega
  have H4:=H.out.kept hg (by simp);obtain⟨b,off,cap,e,d4,h7,a7,h4⟩:=H4.at_ (by rw[<-HN.out];omega);rw[<-HN.out]at e h7 h4;simp only[Value.slice.injEq,true_and]at e;obtain⟨rfl,rfl⟩:=e;obtain⟨sa,sc,c1,h2,H0⟩:=h4 k hk;obtain⟨q,hq⟩:=Nm (ps.getD k []);rw[<-hq]at c1 h2 H0;have c8:c<=9223372036854775807:=by unfold maxLen at a7;omega
  have HV:Hid (∀W:World,wr.grownBy W none->Calls Tryz.prog 58 #[.agg #[.slice sa q.length sc],.int .i64 letters] W fun e w'=>e=.returned (.int .i64 (patW q letters))/\w.grownBy w' none):=Kh (fun W hW=>(jP B W _ q letters (h2.kept hW (by simp)) H0).mono fun e w' ⟨he,hg'⟩=>⟨he,zA HG.out (zC hW hg')⟩);have HQ:=Kh hq;obtain⟨E,hE⟩:=Nm (patW q letters);rw[<-hE]at HV;have HE:=Kh hE;obtain⟨ql,H3⟩:=Nm q.length;rw[<-H3]at c1 HV;clear H4 h4 h2 H0 hq hg hE H3;go_wp2_with fail;refine(HV.out _ (Ga wr _ none)).mono ?_;rintro e w1 ⟨rfl,H6⟩;have h9:=Kh H6;clear H6 HV;by_cases hE:E=0
  ·have e1:(E != 0)=false:=by simp[hE]
   have b2:=Kh hE;clear hE;go_wp2;go_roundg (n-(k+1))
   case measure=>have:=h8.out;omega
   exact⟨k+1,by have:=h8.out;omega,by go_num,(lL (by rw[<-HN.out];exact hk) (by rw[<-HQ.out,<-HE.out];exact b2.out)).trans h5.out,h9.out⟩
  have e1:(E != 0)=true:=by rw[bne_iff_ne];exact hE
  have b2:=Kh hE;have c6:Hid (vV letters ps=E):=Kh (by rw[<-h5.out,dA (by rw[<-HN.out];exact hk) (by rw[<-HQ.out,<-HE.out];exact hE),<-HQ.out,<-HE.out]);clear hE;go_wp2;refine bodyPost_ret (v:=.tuple #[.slice none 0 0,.int .i64 E]) (by simp[results,Tryz.results70,go_sem]) rfl ?_;exact⟨none,0,0,by rw[a0.out,c6.out],h9.out,.inl (by rw[a0.out,c6.out];exact b2.out)⟩
 have a4:k=n:=by have:=h8.out;omega
 have b0:Hid (vV letters ps=0):=Kh (by rw[<-h5.out];exact jW (by rw[<-HN.out];exact hk));have c9:¬(k:Int)<n:=by omega
 have d7:Hid (∀j,j<n->patW (ps.getD j []) letters=0):=Kh (fun j hj=>by
  have:=tE.1 b0.out;rw[zG (by rw[<-HN.out];exact hj)]
  exact this _ (List.getElem_mem _))
 clear a4 h5 h8;obtain⟨wo,rfl⟩:=Nm (wr:World);have c5:Hid (DsUp w.heap.size wo (.slice none 0 0) []):=Kh ⟨World.ownsRow_nil _ _ _ _,fun x hx=>absurd hx (by simp)⟩;have h9:=Kh hg;clear hg HG;go_wp2
 go_loopg [9,11,12,13,32] n (fun gh v9 s11 s12 s13 i wr=>∃(k:Nat) (sa:Option Addr) (sc:Nat) (l:List (DfaV×Value×Value)),gh+k=n/\i=.int .i64 k/\v9=.slice sa k sc/\l.map (·.1)=autD (ps.take k) letters/\DsUp w.heap.size wr (.slice sa k sc) l/\l.length=k/\w.grownBy wr none)
 case atStart=>exact⟨0,_,_,[],rfl,rfl,rfl,rfl,c5.out,rfl,h9.out⟩
 clear c5 h9;obtain⟨k,sa,sc,l,H5,rfl,rfl,b7,b9,b6,hg⟩:=hrel;obtain⟨h8,HG,H9,b3,H8⟩:=Ke H5 hg b7 b9 b6;clear H5 b7 b9 b6;by_cases hk:k<n
 ·have b8:(k:Int)<n:=by omega
  have H4:=H.out.kept hg (by simp);obtain⟨b,off,cap,e,d4,h7,a7,h4⟩:=H4.at_ (by rw[<-HN.out];omega);rw[<-HN.out]at e h7 h4;simp only[Value.slice.injEq,true_and]at e;obtain⟨rfl,rfl⟩:=e;obtain⟨ea,ec,c1,h2,H0⟩:=h4 k hk;have a3:=d7.out k hk
  have a8:Hid (autD (ps.take (k+1)) letters=autD (ps.take k) letters++[xI (ps.getD k []) letters]):=Kh (by
   rw[zT (d:=[]) (by rw[<-HN.out];exact hk),autD,List.map_append];rfl)
  obtain⟨q,hq⟩:=Nm (ps.getD k []);rw[<-hq]at c1 h2 H0 a3 a8;have c8:c<=9223372036854775807:=by unfold maxLen at a7;omega
  have b4:q∈ps:=by rw[hq,zG (by rw[<-HN.out];exact hk)];exact List.getElem_mem _
  have HV:Hid (∀W:World,wr.grownBy W none->Calls Tryz.prog 88 #[.agg #[.slice ea q.length ec],.int .i64 letters] W (qCQ W 0 (xI q letters))):=Kh (fun W hW=>by
   have:=qPW B W _ q letters (h2.kept hW (by simp)) H0 (e5.out q b4);rw[a3]at this
   exact this)
  obtain⟨ql,H3⟩:=Nm q.length;obtain⟨D,hD⟩:=Nm (xI q letters);rw[<-H3]at c1 HV;rw[<-hD]at HV a8;have e6:=hg.size;clear H4 h4 h2 H0 hq hg H3 a3 hD b4;go_wp2_with fail;refine(HV.out _ (Ga wr _ none)).mono ?_;rintro e w1 ⟨f1,x1,rfl,a2,H6⟩;obtain⟨fa1,fl1,fc1,na1,nl1,nc1,rfl,rfl⟩:=a2.shapes;have h9:=Kh (zA (Ga wr (.cells #[.slice ea ql ec] 65) none) H6);have c4:=Kh a2;obtain⟨dl,a6⟩:=Nm D.letters;obtain⟨dst,H1⟩:=Nm D.start;rw[<-a6,<-H1];have e3:=Kh a6;have e2:=Kh H1;clear H6 a2 HV c1 a6 H1;obtain⟨w2,a1⟩:=Nm (w1.alloc (.cells #[.int .i64 dl,.int .i64 dst,.slice fa1 fl1 fc1,.slice na1 nl1 nc1] 30));have H7:=Ga w1 (.cells #[.int .i64 dl,.int .i64 dst,.slice fa1 fl1 fc1,.slice na1 nl1 nc1] 30) none;have h7:=heap_alloc_new w1 (.cells #[.int .i64 dl,.int .i64 dst,.slice fa1 fl1 fc1,.slice na1 nl1 nc1] 30);obtain⟨R,hR⟩:=Nm w1.heap.size;rw[<-a1]at H7 h7;rw[<-hR]at h7;have d8:=Kh (c4.out.grow H7);have b1:=Kh (zA h9.out H7);have H2:=Kh (b3.out.grow b1.out);have d6:=Kh a1;have d9:=Kh hR;obtain⟨d0,d1,d2,d3⟩:=zE h7;have e7:=b1.out.size;clear a1 hR H7 h7 b3 h9 c4;go_upto_region 15 with fail;rw[<-d6.out,<-d9.out];go_wp2_with (first|(at_builtin;refine jH rfl _ _ _ rfl iM w.heap.size (.slice sa k sc) k (jC l) rfl ?h0 [.int .i64 dl,.int .i64 dst,.slice fa1 fl1 fc1,.slice na1 nl1 nc1] rfl rfl ?h1 ?c1 ?c2 ?c3 ?_)|fail)
  case h0=>have:=H2.out.own;rw[H8.out]at this;exact this
  case h1=>intro u hu;simp at hu;rcases hu with rfl|rfl|rfl|rfl<;>rfl
  case c1=>unfold maxLen;omega
  case c2=>omega
  case c3=>have:=HG.out.size;omega
  intro sa' sc' w3 h6 a5;have c0:=H2.out.push (v':=.slice sa' (k+1) sc') (x:=(D,.slice fa1 fl1 fc1,.slice na1 nl1 nc1)) d8.out (by rw[H8.out];unfold dval;rw[<-e3.out,<-e2.out];exact h6) a5;have e4:=Kh c0;have e0:Hid (w.grownBy w3 none):=Kh (zA (zA HG.out b1.out) a5 (fun x e=>(H2.out.own.lt x e).1));clear h6 a5 c0;go_wp2;go_roundg (n-(k+1))
  case measure=>have:=h8.out;omega
  exact⟨k+1,sa',sc',l++[(D,.slice fa1 fl1 fc1,.slice na1 nl1 nc1)],by have:=h8.out;omega,by go_num,rfl,by rw[a8.out,List.map_append,H9.out];rfl,e4.out,by rw[List.length_append,H8.out];rfl,e0.out⟩
 have a4:k=n:=by have:=h8.out;omega
 have b8:¬(k:Int)<n:=(by omega);have HE:Hid (ps.take k=ps):=Kh (List.take_of_length_le (by rw[<-HN.out];omega));rw[HE.out]at H9;clear hg a4;go_wp2;refine bodyPost_ret (v:=.tuple #[.slice sa k sc,.int .i64 0]) (by simp[results,Tryz.results70,go_sem]) rfl ?_;exact⟨sa,k,sc,by rw[a0.out,b0.out],HG.out,.inr ⟨by rw[a0.out,b0.out],by rw[<-H9.out,List.length_map,H8.out],l,H9.out,b3.out⟩⟩
end Go.Proofs.YtcoimliafiammaaGreat
namespace Go.Proofs.YtcoimliafiammaaGreat
theorem nL {α:Type}{l m:List α}{x:α}(h:l <+: m){i:Nat}(hi:i<l.length):m.getD i x=l.getD i x:=by
 obtain⟨r,rfl⟩:=h;simp[List.getD,List.getElem?_append_left hi]
theorem qLA {np:Nat}{cs a9:List ChoV}(h:cs <+: a9){i:Nat}(hi:i<cs.length):choB np a9 i=choB np cs i:=by
 have e:∀p r,refB a9 i p r=refB cs i p r:=fun p r=>by
  unfold refB;by_cases h1:0<=r/\r<=1+(i:Int)
  ·by_cases h2:r<2
   ·simp[h2]
   rw[nL h (show r.toNat-2<cs.length by omega)]
  simp[h1]
 unfold choB;rw[nL h hi,e,e]
theorem qNX {np k:Nat}{cs a9:List ChoV}(h:cs <+: a9)(hk:k<=cs.length):wT np a9 k↔wT np cs k :=
 ⟨fun hc i hi=>by rw[<-qLA h (by omega)];exact hc i hi,fun hc i hi=>by rw[qLA h (by omega)];exact hc i hi⟩
theorem qCH {np:Nat}{cs a9:List ChoV}{m:Nat->Bool}(h:cs <+: a9)(hc:wT np cs cs.length):∀(f:Nat) (r:Int),r<=1+(cs.length:Int)->decF a9 m f r=decF cs m f r
 | 0,r,_=>rfl
 | f+1,r,hr=>by
  rw[decF,decF]
  split
  ·rfl
  ·rename_i h2
   have hi:r.toNat-2<cs.length:=by omega
   rw[nL h hi]
   have hf:=qY (hc _ hi)
   split
   ·exact qCH h hc f _ (by omega)
   ·exact qCH h hc f _ (by omega)
theorem qKU {np:Nat}{cs a9:List ChoV}{m:Nat->Bool}(h:cs <+: a9)(hc:wT np cs cs.length){r:Int}(hr:r<=1+(cs.length:Int)):decG a9 m r=decG cs m r:=qCH h hc _ r hr
structure ClaV where
 m:List Bool
 yes:Int
 no:Int
deriving Inhabited
def ClaV.b (c:ClaV):Bool:=decide (0<=c.yes)
def lH (l:List ClaV)(p:Nat):Prop:=∀c∈l,∀c'∈l,∀q,q<p->c.m.getD q false=c'.m.getD q false
structure ClsOk (np:Nat)(l:List ClaV):Prop where
 len:∀c∈l,c.m.length=np
 nd:(l.map ClaV.m).Nodup
def yesL (l:List ClaV)(p:Nat):List ClaV:=l.filter fun c=>c.m.getD p false
def noL (l:List ClaV)(p:Nat):List ClaV:=l.filter fun c=>!c.m.getD p false
theorem qCV (l:List ClaV)(p:Nat):(yesL l p).length+(noL l p).length=l.length:=by
 induction l with
 | nil=>rfl
 | cons c l ih =>
  unfold yesL noL at ih⊢;rw[List.filter_cons,List.filter_cons]
  generalize c.m.getD p false=b
  cases b
  ·rw[if_neg (by decide),if_pos (by decide),List.length_cons,List.length_cons];omega
  rw[if_pos (by decide),if_neg (by decide),List.length_cons,List.length_cons];omega
theorem ClsOk.sub {np:Nat}{l l':List ClaV}(h:ClsOk np l)(hs:l'.Sublist l):ClsOk np l' :=
 ⟨fun c hc=>h.len c (hs.mem hc),h.nd.sublist (hs.map _)⟩
theorem lH.sub {l l':List ClaV}{p:Nat}(h:lH l p)(hs:l'.Sublist l):lH l' p:=fun c hc c' hc'=>h c (hs.mem hc) c' (hs.mem hc')
theorem lH.yes {l:List ClaV}{p:Nat}(h:lH l p):lH (yesL l p) (p+1):=fun c hc c' hc' q hq=>by
 have h1:=List.mem_filter.1 hc
 have h2:=List.mem_filter.1 hc'
 rcases Nat.lt_succ_iff_lt_or_eq.1 hq with hq|rfl
 ·exact h c h1.1 c' h2.1 q hq
 ·rw[h1.2,h2.2]
theorem lH.no {l:List ClaV}{p:Nat}(h:lH l p):lH (noL l p) (p+1):=fun c hc c' hc' q hq=>by
 have h1:=List.mem_filter.1 hc
 have h2:=List.mem_filter.1 hc'
 rcases Nat.lt_succ_iff_lt_or_eq.1 hq with hq|rfl
 ·exact h c h1.1 c' h2.1 q hq
 ·have e1:=h1.2;have e2:=h2.2
  simp only[Bool.not_eq_true']at e1 e2
  rw[e1,e2]
theorem lH.skip {l:List ClaV}{p:Nat}(h:lH l p)(he:(yesL l p).length=0\/(noL l p).length=0):lH l (p+1):=fun c hc c' hc' q hq=>by
 rcases Nat.lt_succ_iff_lt_or_eq.1 hq with hq|rfl
 ·exact h c hc c' hc' q hq
 ·rcases he with he|he
  ·have h0:=List.eq_nil_of_length_eq_zero he
   have key:∀c∈l,c.m.getD q false=false:=fun c hc=>by
    by_cases h1:c.m.getD q false=true
    ·have:c∈yesL l q:=List.mem_filter.2 ⟨hc,h1⟩
     rw[h0]at this;cases this
    ·simpa using h1
   rw[key c hc,key c' hc']
  ·have h0:=List.eq_nil_of_length_eq_zero he
   have key:∀c∈l,c.m.getD q false=true:=fun c hc=>by
    by_cases h1:c.m.getD q false=true
    ·exact h1
    ·have:c∈noL l q:=List.mem_filter.2 ⟨hc,by simpa using h1⟩
     rw[h0]at this;cases this
   rw[key c hc,key c' hc']
theorem lH.one {np:Nat}{l:List ClaV}(h:lH l np)(hl:ClsOk np l):l.length<=1:=by
 match l,h,hl with
 | [],_,_=>simp
 | [c],_,_=>simp
 | c::c'::r,h,hl =>
  exfalso
  have e:c.m=c'.m:=by
   refine List.ext_getElem (by rw[hl.len c (by simp),hl.len c' (by simp)]) fun i h1 h2=>?_;have:=h c (by simp) c' (by simp) i (by rw[<-hl.len c (by simp)];exact h1)
   rwa [zG h1,zG h2]at this
  have:=hl.nd;simp[e]at this
def qW (l:List ClaV):Bool:=l.all fun c=>c.b == (l.headD default).b
def gL (b:Bool):Int:=if b then 1 else 0
theorem qFS {l:List ClaV}(h:l.length<=1):qW l=true:=by
 match l,h with
 | [],_=>rfl
 | [c],_=>simp[qW]
structure DecOk (np:Nat)(cs cs':List ChoV)(l:List ClaV)(p:Nat)(r:Int):Prop where
 pre:cs <+: cs'
 ok:wT np cs' cs'.length
 nd:cs'.Nodup
 lo:0<=r
 hi:r<=1+(cs'.length:Int)
 pat:2<=r->(p:Int)<=(cs'.getD (r.toNat-2) default).p
 dec:∀c∈l,decG cs' (fun i=>c.m.getD i false) r=c.b
 few:cs'.length+1<=cs.length+l.length
theorem DecOk.const {np:Nat}{cs:List ChoV}{l:List ClaV}{p:Nat}(hc:wT np cs cs.length)(hn:cs.Nodup)(h0:0<l.length){b:Bool}(h:∀c∈l,c.b=b):DecOk np cs cs l p (gL b):=by
 have hb:gL b=0\/gL b=1:=by cases b<;>simp[gL]
 refine⟨List.prefix_refl _,hc,hn,by omega,by omega,fun h2=>by omega,fun c hc=>?_,by omega⟩;rw[qCG _ _ (by omega),h c hc];cases b<;>rfl
theorem gG {np:Nat}{cs a9:List ChoV}{l:List ClaV}{p q:Nat}{r:Int}(h:DecOk np cs a9 l p r)(hq:q<=p):DecOk np cs a9 l q r :=
 ⟨h.pre,h.ok,h.nd,h.lo,h.hi,fun h2=>by have:=h.pat h2;omega,h.dec,h.few⟩
section
variable {np:Nat} {cs c1 c2:List ChoV} {l:List ClaV} {p:Nat} {rn ry:Int}
theorem cO (hn:DecOk np cs c1 (noL l p) (p+1) rn)(hy:DecOk np c1 c2 (yesL l p) (p+1) ry):∀c∈l,decG c2 (fun i=>c.m.getD i false) (if c.m.getD p false then ry else rn)=c.b:=fun c hc=>by
 by_cases h:c.m.getD p false=true
 ·rw[if_pos h];exact hy.dec c (List.mem_filter.2 ⟨hc,h⟩)
 ·rw[if_neg h,qKU hy.pre hn.ok hn.hi]
  exact hn.dec c (List.mem_filter.2 ⟨hc,by simpa using h⟩)
theorem DecOk.same (hn:DecOk np cs c1 (noL l p) (p+1) rn)(hy:DecOk np c1 c2 (yesL l p) (p+1) ry)(e:ry=rn):DecOk np cs c2 l p ry:=by
 have h1:=hn.few;have h2:=hy.few;have h3:=qCV l p;refine⟨hn.pre.trans hy.pre,hy.ok,hy.nd,hy.lo,hy.hi,fun h=>by have:=hy.pat h;omega,fun c hc=>?_,by omega⟩;have:=cO hn hy c hc
 rwa [<-e,ite_self]at this
theorem xCO (hp:p<np)(hn:DecOk np cs c1 (noL l p) (p+1) rn)(hy:DecOk np c1 c2 (yesL l p) (p+1) ry):refB c2 c2.length (p:Int) ry=true/\refB c2 c2.length (p:Int) rn=true:=by
 have hl:=hy.pre.length_le;have h1:=hn.hi;have h2:=hy.hi;have h3:=hn.lo;have h4:=hy.lo;constructor
 ·simp only[refB,Bool.and_eq_true,decide_eq_true_eq]
  refine⟨by omega,?_⟩;rcases Int.lt_or_le ry 2 with h|h
  ·exact .inl h
  have:=hy.pat h;exact .inr (by omega)
 simp only[refB,Bool.and_eq_true,decide_eq_true_eq];refine⟨by omega,?_⟩;rcases Int.lt_or_le rn 2 with h|h
 ·exact .inl h
 have h5:=hn.pat h;rw[nL hy.pre (by omega)];exact .inr (by omega)
theorem DecOk.old (hp:p<np)(hn:DecOk np cs c1 (noL l p) (p+1) rn)(hy:DecOk np c1 c2 (yesL l p) (p+1) ry){i:Nat}(hi:i<c2.length)(e:c2.getD i default=⟨p,ry,rn⟩):DecOk np cs c2 l p (2+(i:Int)):=by
 have h1:=hn.few;have h2:=hy.few;have h3:=qCV l p;have e0:(2+(i:Int)).toNat-2=i:=by omega
 refine⟨hn.pre.trans hy.pre,hy.ok,hy.nd,by omega,by omega,fun h=>by rw[e0,e];exact Int.le_refl _,fun c hc=>?_,by omega⟩;have:=cO hn hy c hc;rw[iO hy.ok (by omega) (by omega),e0,e];exact this
theorem DecOk.new (hp:p<np)(hn:DecOk np cs c1 (noL l p) (p+1) rn)(hy:DecOk np c1 c2 (yesL l p) (p+1) ry)(hm:(⟨p,ry,rn⟩:ChoV) ∉ c2)(hY:0<(yesL l p).length)(hN:0<(noL l p).length):DecOk np cs (c2++[⟨p,ry,rn⟩]) l p (2+(c2.length:Int)):=by
 have h1:=hn.few;have h2:=hy.few;have h3:=qCV l p;have h0:c2 <+: c2++[⟨p,ry,rn⟩]:=List.prefix_append _ _;have e0:(2+(c2.length:Int)).toNat-2=c2.length:=by omega
 have e1:(c2++[(⟨p,ry,rn⟩:ChoV)]).getD c2.length default=⟨p,ry,rn⟩:=by rw[List.getD_eq_getElem?_getD];simp
 have h8:wT np (c2++[⟨p,ry,rn⟩]) (c2++[(⟨p,ry,rn⟩:ChoV)]).length:=by
  rw[List.length_append,List.length_singleton];refine jE ((qNX h0 (Nat.le_refl _)).2 hy.ok) ?_;obtain⟨h4,h5⟩:=xCO hp hn hy
  have e2:∀r,refB c2 c2.length (p:Int) r=true->refB (c2++[(⟨p,ry,rn⟩:ChoV)]) c2.length (p:Int) r=true:=fun r h=>by
   simp only[refB,Bool.and_eq_true,decide_eq_true_eq]at h⊢;refine⟨h.1,?_⟩;rcases Int.lt_or_le r 2 with h6|h6
   ·exact .inl h6
   rcases h.2 with h7|h7
   ·omega
   rw[nL h0 (by omega)];exact .inr h7
  unfold choB;rw[e1];simp only[Bool.and_eq_true,decide_eq_true_eq];exact⟨by omega,e2 _ h4,e2 _ h5⟩
 refine⟨(hn.pre.trans hy.pre).trans h0,h8,?_,by omega,by simp;omega,fun h=>by rw[e0,e1];exact Int.le_refl _,fun c hc=>?_,by simp;omega⟩
 ·rw[List.nodup_append]
  exact⟨hy.nd,by simp,fun a ha b hb e=>by simp at hb;subst hb;subst e;exact hm ha⟩
 have h6:=cO hn hy c hc;rw[iO h8 (by omega) (by simp;omega),e0,e1];show decG _ _ (if c.m.getD (p:Int).toNat false then ry else rn)=_;rw[Int.toNat_natCast]
 have hr:(if c.m.getD p false then ry else rn)<=1+(c2.length:Int):=by
  have:=hy.hi;have:=hn.hi;have:=hy.pre.length_le
  split<;>omega
 rw[qKU h0 hy.ok hr];exact h6
end
def FstI (M:Nat->List Bool)(A:Nat->Bool)(s:Nat)(m:List Bool)(y:Int):Prop :=
 (y = -1/\∀i,i<s->M i=m->A i=false)\/∃j:Nat,y=(j:Int)/\j<s/\M j=m/\A j=true
theorem FstI.keep {M:Nat->List Bool}{A:Nat->Bool}{s:Nat}{m:List Bool}{y:Int}(h:FstI M A s m y)(hA:M s=m->A s=true->0<=y):FstI M A (s+1) m y:=by
 rcases h with ⟨rfl,h⟩|⟨j,rfl,hj,h1,h2⟩
 ·refine .inl ⟨rfl,fun i hi hm=>?_⟩
  rcases Nat.lt_succ_iff_lt_or_eq.1 hi with hi|rfl
  ·exact h i hi hm
  cases hb:A i with
  | false=>rfl
  | true=>have:=hA hm hb;omega
 exact .inr ⟨j,rfl,by omega,h1,h2⟩
theorem FstI.lo {M:Nat->List Bool}{A:Nat->Bool}{s:Nat}{m:List Bool}{y:Int}(h:FstI M A s m y):-1<=y/\y<s\/y = -1:=by
 rcases h with ⟨rfl,h⟩|⟨j,rfl,hj,h1,h2⟩
 ·exact .inr rfl
 exact .inl ⟨by omega,by omega⟩
structure ClsI (M:Nat->List Bool)(A:Nat->Bool)(s t:Nat)(l:List ClaV):Prop where
 nd:(l.map ClaV.m).Nodup
 all:∀i,i<t->M i∈l.map ClaV.m
 met:∀c∈l,∃i,i<t/\M i=c.m
 yes:∀c∈l,FstI M A s c.m c.yes
 no:∀c∈l,FstI M (fun i=>!A i) s c.m c.no
theorem ClsI.nil (M:Nat->List Bool)(A:Nat->Bool):ClsI M A 0 0 [] :=
 ⟨by simp,fun i hi=>by omega,fun c hc=>by simp at hc,fun c hc=>by simp at hc,fun c hc=>by simp at hc⟩
theorem ClsI.old {M:Nat->List Bool}{A:Nat->Bool}{s:Nat}{l:List ClaV}(h:ClsI M A s s l)(hm:M s∈l.map ClaV.m):ClsI M A s (s+1) l :=
 ⟨h.nd,fun i hi=>by
  rcases Nat.lt_succ_iff_lt_or_eq.1 hi with hi|rfl
  ·exact h.all i hi
  ·exact hm,fun c hc=>by obtain⟨i,hi,e⟩:=h.met c hc;exact⟨i,by omega,e⟩,h.yes,h.no⟩
theorem ClsI.new {M:Nat->List Bool}{A:Nat->Bool}{s:Nat}{l:List ClaV}(h:ClsI M A s s l)(hm:M s ∉ l.map ClaV.m):ClsI M A s (s+1) (l++[⟨M s,-1,-1⟩]):=by
 have h0:∀i,i<s->M i=M s->False:=fun i hi e=>hm (e ▸ h.all i hi);refine⟨?_,fun i hi=>?_,fun c hc=>?_,fun c hc=>?_,fun c hc=>?_⟩
 ·rw[List.map_append,List.nodup_append]
  exact⟨h.nd,by simp,fun a ha b hb e=>by simp at hb;subst hb;subst e;exact hm ha⟩
 ·rw[List.map_append]
  rcases Nat.lt_succ_iff_lt_or_eq.1 hi with hi|rfl
  ·exact List.mem_append_left _ (h.all i hi)
  exact List.mem_append_right _ (by simp)
 ·rcases List.mem_append.1 hc with hc|hc
  ·obtain⟨i,hi,e⟩:=h.met c hc;exact⟨i,by omega,e⟩
  simp at hc;subst hc;exact⟨s,by omega,rfl⟩
 ·rcases List.mem_append.1 hc with hc|hc
  ·exact h.yes c hc
  simp at hc;subst hc;exact .inl ⟨rfl,fun i hi e=>(h0 i hi e).elim⟩
 rcases List.mem_append.1 hc with hc|hc
 ·exact h.no c hc
 simp at hc;subst hc;exact .inl ⟨rfl,fun i hi e=>(h0 i hi e).elim⟩
def putC (c:ClaV)(a:Bool)(s:Nat):ClaV:=if a=true then (if c.yes<0 then ⟨c.m,s,c.no⟩ else c) else (if c.no<0 then ⟨c.m,c.yes,s⟩ else c)
theorem qJP (c:ClaV)(a:Bool)(s:Nat):(putC c a s).m=c.m:=by
 unfold putC;split<;>split<;>rfl
theorem ClsI.put {M:Nat->List Bool}{A:Nat->Bool}{s n:Nat}{l:List ClaV}(h:ClsI M A s (s+1) l)(hn:n<l.length)(hm:(l.getD n default).m=M s):ClsI M A (s+1) (s+1) (l.set n (putC (l.getD n default) (A s) s)):=by
 have e0:l.getD n default=l[n]:=zG hn;rw[e0]at hm⊢
 have h6:(l.set n (putC l[n] (A s) s)).map ClaV.m=l.map ClaV.m:=by
  rw[List.map_set,qJP];refine List.ext_getElem (by simp) fun i h1 h2=>?_;rw[List.getElem_set]
  split
  ·rename_i e;subst e;simp
  rfl
 have h0:∀c∈l.set n (putC l[n] (A s) s),c=putC l[n] (A s) s\/(c∈l/\c.m≠M s):=fun c hc=>by
  obtain⟨i,hi,rfl⟩:=List.getElem_of_mem hc;rw[List.length_set]at hi;rw[List.getElem_set]
  split
  ·exact .inl rfl
  rename_i e
  refine .inr ⟨List.getElem_mem hi,fun e2=>e ?_⟩;have h3:=h.nd;have h4:(l.map ClaV.m)[n]'(by simpa using hn)=(l.map ClaV.m)[i]'(by simpa using hi):=by simp only[List.getElem_map];rw[hm,e2]
  exact(List.getElem_inj h3).1 h4
 have h5:=List.getElem_mem hn;refine⟨by rw[h6];exact h.nd,fun i hi=>by rw[h6];exact h.all i hi,fun c hc=>?_,fun c hc=>?_,fun c hc=>?_⟩
 ·rcases h0 c hc with rfl|⟨hc,_⟩
  ·rw[qJP];exact h.met _ h5
  exact h.met c hc
 ·rcases h0 c hc with rfl|⟨hc,hne⟩
  ·rw[qJP]
   have h1:=h.yes _ h5;unfold putC
   split
   ·rename_i ha
    split
    ·exact .inr ⟨s,rfl,by omega,hm.symm,ha⟩
    rename_i h2;exact h1.keep (fun _ _=>by omega)
   rename_i ha
   split
   ·exact h1.keep (fun _ hb=>absurd hb ha)
   exact h1.keep (fun _ hb=>absurd hb ha)
  exact(h.yes c hc).keep (fun e _=>absurd e.symm hne)
 rcases h0 c hc with rfl|⟨hc,hne⟩
 ·rw[qJP]
  have h1:=h.no _ h5;unfold putC
  split
  ·rename_i ha
   split
   ·exact h1.keep (fun _ hb=>by rw[ha]at hb;cases hb)
   exact h1.keep (fun _ hb=>by rw[ha]at hb;cases hb)
  rename_i ha
  split
  ·exact .inr ⟨s,rfl,by omega,hm.symm,by simp only[Bool.not_eq_true]at ha;simp[ha]⟩
  rename_i h2;exact h1.keep (fun _ _=>by omega)
 exact(h.no c hc).keep (fun e _=>absurd e.symm hne)
def jG (c:ClaV):Bool:=decide (0<=c.yes/\0<=c.no)
section
variable {M:Nat->List Bool} {A:Nat->Bool} {s:Nat} {l:List ClaV}
theorem ClsI.both (h:ClsI M A s s l){c:ClaV}(hc:c∈l)(hb:jG c=true):∃y n:Nat,c.yes=(y:Int)/\c.no=(n:Int)/\y<s/\n<s/\M y=M n/\A y=true/\A n=false:=by
 simp only[jG,decide_eq_true_eq]at hb;rcases h.yes c hc with ⟨e,_⟩|⟨y,e1,hy,hy1,hy2⟩
 ·omega
 rcases h.no c hc with ⟨e,_⟩|⟨n,e2,hn,hn1,hn2⟩
 ·omega
 exact⟨y,n,e1,e2,hy,hn,hy1.trans hn1.symm,hy2,by simpa using hn2⟩
theorem ClsI.clash (h:ClsI M A s s l)(hb:∀c∈l,jG c=false){i j:Nat}(hi:i<s)(hj:j<s)(hm:M i=M j)(h1:A i=true)(h2:A j=false):False:=by
 obtain⟨c,hc,e⟩:=List.mem_map.1 (h.all i hi);have h3:=hb c hc
 have h4:0<=c.yes:=by
  rcases h.yes c hc with ⟨_,h5⟩|⟨y,e1,_⟩
  ·have:=h5 i hi e.symm;rw[h1]at this;cases this
  omega
 have h5:0<=c.no:=by
  rcases h.no c hc with ⟨_,h5⟩|⟨y,e1,_⟩
  ·have:=h5 j hj (hm ▸ e.symm);simp[h2]at this
  omega
 simp[jG,h4,h5]at h3
theorem ClsI.dec (h:ClsI M A s s l)(hb:∀c∈l,jG c=false){i:Nat}(hi:i<s):∃c∈l,c.m=M i/\c.b=A i:=by
 obtain⟨c,hc,e⟩:=List.mem_map.1 (h.all i hi);refine⟨c,hc,e,?_⟩;unfold ClaV.b;rcases h.yes c hc with ⟨h4,h5⟩|⟨y,e1,hy,hy1,hy2⟩
 ·rw[h5 i hi e.symm,h4];rfl
 have:A i=true:=by
  cases hA:A i with
  | true=>rfl
  | false=>exact(h.clash hb hy hi (hy1.trans e) hy2 hA).elim
 rw[this,decide_eq_true_eq];omega
theorem ClsI.len_le (h:ClsI M A s s l):l.length<=s:=by
 have h1:(l.map ClaV.m).length<=((List.range s).map M).length:=List.Nodup.length_le_of_subset h.nd (fun x hx=>by
  obtain⟨c,hc,rfl⟩:=List.mem_map.1 hx;obtain⟨i,hi,e⟩:=h.met c hc
  exact List.mem_map.2 ⟨i,List.mem_range.2 hi,e⟩)
 simpa using h1
end
structure GrpI (M:Nat->List Bool)(A:Nat->Bool)(s t:Nat)(sets:List (List Bool))(ys ns:List Bool):Prop where
 nd:sets.Nodup
 all:∀i,i<t->M i∈sets
 met:∀x∈sets,∃i,i<t/\M i=x
 leny:ys.length=sets.length
 lenn:ns.length=sets.length
 yes:∀k,k<sets.length->(ys.getD k false=true↔∃i,i<s/\M i=sets.getD k []/\A i=true)
 no:∀k,k<sets.length->(ns.getD k false=true↔∃i,i<s/\M i=sets.getD k []/\A i=false)
theorem GrpI.nil (M:Nat->List Bool)(A:Nat->Bool):GrpI M A 0 0 [] [] [] :=
 ⟨by simp,fun i hi=>by omega,fun c hc=>by simp at hc,rfl,rfl,fun k hk=>by simp at hk,fun k hk=>by simp at hk⟩
section
variable {M:Nat->List Bool} {A:Nat->Bool} {s:Nat} {sets:List (List Bool)} {ys ns:List Bool}
theorem GrpI.old (h:GrpI M A s s sets ys ns)(hm:M s∈sets):GrpI M A s (s+1) sets ys ns :=
 ⟨h.nd,fun i hi=>by
  rcases Nat.lt_succ_iff_lt_or_eq.1 hi with hi|rfl
  ·exact h.all i hi
  ·exact hm,fun c hc=>by obtain⟨i,hi,e⟩:=h.met c hc;exact⟨i,by omega,e⟩,h.leny,h.lenn,h.yes,h.no⟩
theorem oM {α:Type}{l:List α}{x d:α}{k:Nat}(hk:k<l.length):(l++[x]).getD k d=l.getD k d:=by simp[List.getD,List.getElem?_append_left hk]
theorem qN {α:Type}{l:List α}{x d:α}{k:Nat}(hk:k=l.length):(l++[x]).getD k d=x:=by subst hk;simp[List.getD]
theorem GrpI.new (h:GrpI M A s s sets ys ns)(hm:M s ∉ sets):GrpI M A s (s+1) (sets++[M s]) (ys++[false]) (ns++[false]):=by
 have h0:∀i,i<s->M i=M s->False:=fun i hi e=>hm (e ▸ h.all i hi);refine⟨?_,fun i hi=>?_,fun c hc=>?_,by simp[h.leny],by simp[h.lenn],fun k hk=>?_,fun k hk=>?_⟩
 ·rw[List.nodup_append]
  exact⟨h.nd,by simp,fun a ha b hb e=>by simp at hb;subst hb;subst e;exact hm ha⟩
 ·rcases Nat.lt_succ_iff_lt_or_eq.1 hi with hi|rfl
  ·exact List.mem_append_left _ (h.all i hi)
  exact List.mem_append_right _ (by simp)
 ·rcases List.mem_append.1 hc with hc|hc
  ·obtain⟨i,hi,e⟩:=h.met c hc;exact⟨i,by omega,e⟩
  simp at hc;subst hc;exact⟨s,by omega,rfl⟩
 ·rw[List.length_append,List.length_singleton]at hk
  rcases Nat.lt_succ_iff_lt_or_eq.1 hk with hk|hk
  ·rw[oM (by rw[h.leny];exact hk),oM hk];exact h.yes k hk
  rw[qN (by rw[h.leny];exact hk),qN hk];exact⟨fun e=>(by cases e),fun⟨i,hi,e,_⟩=>(h0 i hi e).elim⟩
 rw[List.length_append,List.length_singleton]at hk;rcases Nat.lt_succ_iff_lt_or_eq.1 hk with hk|hk
 ·rw[oM (by rw[h.lenn];exact hk),oM hk];exact h.no k hk
 rw[qN (by rw[h.lenn];exact hk),qN hk];exact⟨fun e=>(by cases e),fun⟨i,hi,e,_⟩=>(h0 i hi e).elim⟩
theorem qFI {l:List Bool}{n k:Nat}{x:Bool}(hn:n<l.length):(l.set n x).getD k false=if k=n then x else l.getD k false:=by
 simp only[List.getD_eq_getElem?_getD,List.getElem?_set]
 split
 ·rename_i e;subst e;simp[hn]
 rename_i e;rw[if_neg (fun h=>e h.symm)]
theorem GrpI.put (h:GrpI M A s (s+1) sets ys ns){n:Nat}(hn:n<sets.length)(hm:sets.getD n []=M s):GrpI M A (s+1) (s+1) sets (ys.set n (ys.getD n false || A s)) (ns.set n (ns.getD n false || !A s)):=by
 have h0:∀k,k<sets.length->k≠n->sets.getD k []≠M s:=fun k hk hne e=>hne (by
  rw[<-hm,zG hk,zG hn]at e
  exact(List.getElem_inj h.nd).1 e)
 refine⟨h.nd,h.all,h.met,by simp[h.leny],by simp[h.lenn],fun k hk=>?_,fun k hk=>?_⟩
 ·rw[qFI (by rw[h.leny];exact hn)]
  split
  ·rename_i e;subst e
   rw[Bool.or_eq_true,h.yes k hk];constructor
   ·rintro (⟨i,hi,e1,e2⟩|e)
    ·exact⟨i,by omega,e1,e2⟩
    exact⟨s,by omega,hm.symm,e⟩
   rintro ⟨i,hi,e1,e2⟩;rcases Nat.lt_succ_iff_lt_or_eq.1 hi with hi|rfl
   ·exact .inl ⟨i,hi,e1,e2⟩
   exact .inr e2
  rename_i e
  rw[h.yes k hk];constructor
  ·rintro ⟨i,hi,e1,e2⟩;exact⟨i,by omega,e1,e2⟩
  rintro ⟨i,hi,e1,e2⟩;rcases Nat.lt_succ_iff_lt_or_eq.1 hi with hi|rfl
  ·exact⟨i,hi,e1,e2⟩
  exact absurd e1.symm (h0 k hk e)
 rw[qFI (by rw[h.lenn];exact hn)]
 split
 ·rename_i e;subst e
  rw[Bool.or_eq_true,h.no k hk];constructor
  ·rintro (⟨i,hi,e1,e2⟩|e)
   ·exact⟨i,by omega,e1,e2⟩
   exact⟨s,by omega,hm.symm,by simpa using e⟩
  rintro ⟨i,hi,e1,e2⟩;rcases Nat.lt_succ_iff_lt_or_eq.1 hi with hi|rfl
  ·exact .inl ⟨i,hi,e1,e2⟩
  exact .inr (by simp[e2])
 rename_i e
 rw[h.no k hk];constructor
 ·rintro ⟨i,hi,e1,e2⟩;exact⟨i,by omega,e1,e2⟩
 rintro ⟨i,hi,e1,e2⟩;rcases Nat.lt_succ_iff_lt_or_eq.1 hi with hi|rfl
 ·exact⟨i,hi,e1,e2⟩
 exact absurd e1.symm (h0 k hk e)
end
structure BackI (ds:List DfaV)(k:Nat)(L:List (List Nat))(s0 s:Nat)(t:List Nat):Prop where
 ok:yO k t
 walk:rA (nxtT ds) (L.getD s []) t.reverse=L.getD s0 []
 len:t.length+s<=s0
theorem BackI.start (ds:List DfaV)(k:Nat)(L:List (List Nat))(s:Nat):BackI ds k L s s []:=⟨fun a ha=>by simp at ha,rfl,by simp⟩
theorem BackI.step {ds:List DfaV}{k:Nat}{L:List (List Nat)}{s0 s f b:Nat}{t:List Nat}(h:BackI ds k L s0 s t)(hb:b<k)(hf:f<s)(he:nxtT ds (L.getD f []) b=L.getD s []):BackI ds k L s0 f (t++[b]) :=
 ⟨fun a ha=>by
  rcases List.mem_append.1 ha with ha|ha
  ·exact h.ok a ha
  ·simp at ha;subst ha;exact hb,by
  rw[List.reverse_append]
  show rA (nxtT ds) (nxtT ds (L.getD f []) b) t.reverse=_
  rw[he];exact h.walk,by have:=h.len;rw[List.length_append,List.length_singleton];omega⟩
def lets (w:List Nat):List Int:=w.map fun(a:Nat)=>97+(a:Int)
open Go.RowKit
def ofE (d:DfaV)(ps:List (List ByteArray)):Int:=if xK d=0 then (if 300<ps.length then 3 else vV d.letters ps) else xK d
def ofT (d:DfaV)(ps:List (List ByteArray)):List DfaV:=autD ps d.letters++[minD d d.letters.toNat]
theorem xX (ps:List (List ByteArray))(k:Int):(autD ps k).length=ps.length:=by simp[autD]
theorem uV (d:DfaV)(ps:List (List ByteArray)):(ofT d ps).length=ps.length+1:=by rw[ofT,List.length_append,xX];rfl
theorem nE {d:DfaV}{ps:List (List ByteArray)}(h:ofE d ps=0):xK d=0/\ps.length<=300/\vV d.letters ps=0:=by
 unfold ofE at h
 split at h
 ·rename_i h1
  split at h
  ·omega
  exact⟨h1,by omega,h⟩
 omega
theorem qQU {d:DfaV}{ps:List (List ByteArray)}(h:xK d≠0):ofE d ps=xK d:=if_neg h
theorem qVQ {d:DfaV}{ps:List (List ByteArray)}(h:xK d=0)(h3:300<ps.length):ofE d ps=3:=by rw[ofE,if_pos h,if_pos h3]
theorem qVP {d:DfaV}{ps:List (List ByteArray)}(h:xK d=0)(h3:¬300<ps.length):ofE d ps=vV d.letters ps:=by rw[ofE,if_pos h,if_neg h3]
theorem qOO {d:DfaV}(h:xK d=0):d.final.length<=512:=by
 unfold xK at h
 split at h
 ·omega
 split at h
 ·omega
 omega
theorem qHG {d:DfaV}{ps:List (List ByteArray)}{i:Nat}(hi:i<ps.length):(ofT d ps).getD i dN=xI (ps.getD i []) d.letters:=by
 rw[ofT,nL (List.prefix_append _ _) (by rw[xX];exact hi),zG (by rw[xX];exact hi),zG hi];simp[autD]
theorem qBN (d:DfaV)(ps:List (List ByteArray)):(ofT d ps).getD ps.length dN=minD d d.letters.toNat:=by
 rw[ofT,List.getD_eq_getElem?_getD,List.getElem?_append_right (by rw[xX];exact Nat.le_refl _),xX,Nat.sub_self];rfl
theorem xAR {ps:List (List ByteArray)}{k:Nat}(h:vV (k:Int) ps=0):OkT (autD ps (k:Int)) k:=fun i hi=>by
 rw[xX]at hi
 have e:(autD ps (k:Int)).getD i dN=xI (ps.getD i []) (k:Int):=by
  rw[zG (by rw[xX];exact hi),zG hi];simp[autD]
 have hp:patW (ps.getD i []) (k:Int)=0:=by rw[zG hi];exact tE.1 h _ (List.getElem_mem hi)
 obtain⟨n,hn,hv⟩:=qEC (vO.1 hp);exact⟨n,by rw[e];exact hv,by omega⟩
theorem OkT.snoc {ds:List DfaV}{k n:Nat}{d:DfaV}(h:OkT ds k)(hd:VD d n k)(hn:n<=512):OkT (ds++[d]) k:=fun i hi=>by
 rw[List.length_append,List.length_singleton]at hi
 rcases Nat.lt_succ_iff_lt_or_eq.1 hi with hi|rfl
 ·obtain⟨m,h1,h2⟩:=h i hi
  exact⟨m,by rw[nL (List.prefix_append _ _) hi];exact h1,h2⟩
 ·refine⟨n,?_,hn⟩
  rw[List.getD_eq_getElem?_getD,List.getElem?_append_right (Nat.le_refl _),Nat.sub_self];exact hd
theorem qJZ {d:DfaV}{ps:List (List ByteArray)}(h:ofE d ps=0):OkT (ofT d ps) d.letters.toNat:=by
 obtain⟨h1,h2,h3⟩:=nE h;have hv:=bM h1;have h5:=qOO h1;have hk:=hv.hk;have e:((d.letters.toNat:Nat):Int)=d.letters:=hk.symm;have ha:=xAR (ps:=ps) (k:=d.letters.toNat) (by rw[e];exact h3);rw[e]at ha;exact ha.snoc (qEQ hv) (by have:=qRO hv;omega)
theorem qIE {np:Nat}{cs:List ChoV}{m m':Nat->Bool}(hc:wT np cs cs.length)(h:∀i,i<np->m i=m' i):∀(f:Nat) (r:Int),r<=1+(cs.length:Int)->decF cs m f r=decF cs m' f r
 | 0,r,_=>rfl
 | f+1,r,hr=>by
  rw[decF,decF]
  split
  ·rfl
  ·rename_i h2
   have hi:r.toNat-2<cs.length:=by omega
   have hf:=qY (hc _ hi)
   rw[h _ (show (cs.getD (r.toNat-2) default).p.toNat<np by omega)]
   split
   ·exact qIE hc h f _ (by omega)
   ·exact qIE hc h f _ (by omega)
theorem qID {np:Nat}{cs:List ChoV}{m m':Nat->Bool}(hc:wT np cs cs.length)(h:∀i,i<np->m i=m' i){r:Int}(hr:r<=1+(cs.length:Int)):decG cs m r=decG cs m' r:=qIE hc h _ r hr
theorem qBQ {ds:List DfaV}{np:Nat}(hn:np<=ds.length)(u:List Nat){i:Nat}(hi:i<np):(mtsT ds np (rA (nxtT ds) (st0T ds) u)).getD i false=acc (ds.getD i dN) (st0 (ds.getD i dN)) u:=by
 rw[fY hi,uU (by omega)]
abbrev MT (ds:List DfaV)(np:Nat)(L:List (List Nat)):Nat->List Bool:=fun s=>mtsT ds np (L.getD s [])
abbrev AT (ds:List DfaV)(np:Nat)(L:List (List Nat)):Nat->Bool:=fun s=>accT ds (L.getD s []) np
theorem xAK {ds:List DfaV}{np k:Nat}{L:List (List Nat)}{l:List ClaV}{cs:List ChoV}{r:Int}(hn:np<ds.length)(hL:BfsD (nxtT ds) k (st0T ds) L)(hc:ClsI (MT ds np L) (AT ds np L) L.length L.length l)(hb:∀c∈l,jG c=false)(a9:wT np cs cs.length)(hr:r<=1+(cs.length:Int))(hd:∀c∈l,decG cs (fun i=>c.m.getD i false) r=c.b):
  ∀u,yO k u->decG cs (fun i=>acc (ds.getD i dN) (st0 (ds.getD i dN)) u) r=acc (ds.getD np dN) (st0 (ds.getD np dN)) u:=fun u hu=>by
 obtain⟨i,hi,e⟩:=List.getElem_of_mem (hL.all u hL.mem0 hu)
 obtain⟨c,hcl,h1,h2⟩:=hc.dec hb hi
 have e2:L.getD i []=rA (nxtT ds) (st0T ds) u:=by rw[zG hi,e]
 rw[<-uU hn,<-e2]
 show _=AT ds np L i
 rw[<-h2,<-hd c hcl]
 refine qID a9 (fun j hj=>?_) hr
 show acc _ _ _=c.m.getD j false
 rw[h1]
 show _=(mtsT ds np (L.getD i [])).getD j false
 rw[e2,qBQ (by omega) u hj]
theorem qXQ {ds:List DfaV}{np k:Nat}{L:List (List Nat)}{l:List ClaV}(hn:np<ds.length)(hL:BfsD (nxtT ds) k (st0T ds) L)(hc:ClsI (MT ds np L) (AT ds np L) L.length L.length l){c:ClaV}(a9:c∈l)(hb:jG c=true):Conf ds np k:=by
 obtain⟨y,n,_,_,hy,h0,h1,h2,h3⟩:=hc.both a9 hb;exact(lX hn hL).2 ⟨_,_,by rw[zG hy];exact List.getElem_mem hy,by rw[zG h0];exact List.getElem_mem h0,h1,h2,h3⟩
theorem qNU {ds:List DfaV}{np k:Nat}{L:List (List Nat)}{l:List ClaV}(hn:np<ds.length)(hL:BfsD (nxtT ds) k (st0T ds) L)(hc:ClsI (MT ds np L) (AT ds np L) L.length L.length l)(hb:∀c∈l,jG c=false):¬Conf ds np k:=fun h=>by
 obtain⟨x,y,hx,hy,h1,h2,h3⟩:=(lX hn hL).1 h
 obtain⟨i,hi,rfl⟩:=List.getElem_of_mem hx
 obtain⟨j,hj,rfl⟩:=List.getElem_of_mem hy
 rw[<-zG (d:=[]) hi]at h1 h2
 rw[<-zG (d:=[]) hj]at h1 h3
 exact hc.clash hb hi hj h1 h2 h3
inductive OfOut (w':World)(d:DfaV)(ps:List (List ByteArray)):Value->ByteArray->ByteArray->Int->Prop
 | bad (h:ofE d ps≠0):OfOut w' d ps (.agg #[.slice none 0 0,.slice none 0 0,.int .i64 0]) ⟨#[]⟩ ⟨#[]⟩ (ofE d ps)
 | over (h:ofE d ps=0) (ho:Over (ofT d ps) d.letters.toNat):OfOut w' d ps (.agg #[.slice none 0 0,.slice none 0 0,.int .i64 0]) ⟨#[]⟩ ⟨#[]⟩ 3
 | conf (h:ofE d ps=0) (hu:qXY (ofT d ps) d.letters.toNat) (hc:Conf (ofT d ps) ps.length d.letters.toNat) (u v:List Nat) (h1:yO d.letters.toNat u) (h2:yO d.letters.toNat v) (h3:u.length<=4000) (h4:v.length<=4000)
   (h5:∀i,i<ps.length->acc (xI (ps.getD i []) d.letters) (st0 (xI (ps.getD i []) d.letters)) u=acc (xI (ps.getD i []) d.letters) (st0 (xI (ps.getD i []) d.letters)) v) (h6:acc d (st0 d) u=true) (h7:acc d (st0 d) v=false) :
   OfOut w' d ps (.agg #[.slice none 0 0,.slice none 0 0,.int .i64 0]) (strOfNums (lets u)) (strOfNums (lets v)) 20
 | ok (v:Value) (g:DiaV) (l:List ClaV) (L:List (List Nat)) (h:ofE d ps=0) (hL:BfsD (nxtT (ofT d ps)) d.letters.toNat (st0T (ofT d ps)) L) (hl4:L.length<=4000) (hn:¬Conf (ofT d ps) ps.length d.letters.toNat) (hg:mB w'.heap.size w' v g) (h1:g.pats=ps) (h2:wT ps.length g.chos g.chos.length) (h3:0<=g.root) (h4:g.root<=1+(g.chos.length:Int))
   (h5:∀u,yO d.letters.toNat u->decG g.chos (fun i=>acc (xI (ps.getD i []) d.letters) (st0 (xI (ps.getD i []) d.letters)) u) g.root=acc d (st0 d) u) (hc:ClsI (MT (ofT d ps) ps.length L) (AT (ofT d ps) ps.length L) L.length L.length l) (h6:g.chos.length+1<=l.length) :
   OfOut w' d ps v ⟨#[]⟩ ⟨#[]⟩ 0
theorem qZF (d:DfaV)(k:Nat):st0 (minD d k)=0:=rfl
theorem qBR {d:DfaV}{n k:Nat}(hd:VD d n k){u:List Nat}(hu:yO k u):acc (minD d k) (st0 (minD d k)) u=acc d (st0 d) u:=by rw[qZF];exact qRL hd hu
theorem qZR {d:DfaV}{ps:List (List ByteArray)}{L:List (List Nat)}{y n:Nat}{u v:List Nat}(h:ofE d ps=0)(hL:BfsD (nxtT (ofT d ps)) d.letters.toNat (st0T (ofT d ps)) L)(hu:yO d.letters.toNat u)(hv:yO d.letters.toNat v)(h1:rA (nxtT (ofT d ps)) (L.getD 0 []) u=L.getD y [])(h2:rA (nxtT (ofT d ps)) (L.getD 0 []) v=L.getD n [])(hm:MT (ofT d ps) ps.length L y=MT (ofT d ps) ps.length L n)(ha:AT (ofT d ps) ps.length L y=true)(hb:AT (ofT d ps) ps.length L n=false):(∀i,i<ps.length->acc (xI (ps.getD i []) d.letters) (st0 (xI (ps.getD i []) d.letters)) u=acc (xI (ps.getD i []) d.letters) (st0 (xI (ps.getD i []) d.letters)) v)/\acc d (st0 d) u=true/\acc d (st0 d) v=false:=by
 have e0:L.getD 0 []=st0T (ofT d ps):=by rw[List.getD_eq_getElem?_getD,hL.hd];rfl
 rw[e0]at h1 h2;have hn:ps.length<(ofT d ps).length:=by rw[uV];omega
 have h0:=bM (nE h).1;refine⟨fun i hi=>?_,?_,?_⟩
 ·have e1:=qBQ (ds:=ofT d ps) (np:=ps.length) (by omega) u hi
  have e2:=qBQ (ds:=ofT d ps) (np:=ps.length) (by omega) v hi;rw[qHG hi,h1]at e1;rw[qHG hi,h2]at e2;rw[<-e1,<-e2];exact congrArg (fun l=>l.getD i false) hm
 ·have e1:=uU hn u
  rw[h1,qBN,qBR h0 hu]at e1;rw[<-e1];exact ha
 have e1:=uU hn v;rw[h2,qBN,qBR h0 hv]at e1;rw[<-e1];exact hb
theorem xBK {d:DfaV}{ps:List (List ByteArray)}{L:List (List Nat)}{l:List ClaV}{cs:List ChoV}{r:Int}(h:ofE d ps=0)(hL:BfsD (nxtT (ofT d ps)) d.letters.toNat (st0T (ofT d ps)) L)(hc:ClsI (MT (ofT d ps) ps.length L) (AT (ofT d ps) ps.length L) L.length L.length l)(hb:∀c∈l,jG c=false)(a9:wT ps.length cs cs.length)(hr:r<=1+(cs.length:Int))(hd:∀c∈l,decG cs (fun i=>c.m.getD i false) r=c.b):
  ∀u,yO d.letters.toNat u->decG cs (fun i=>acc (xI (ps.getD i []) d.letters) (st0 (xI (ps.getD i []) d.letters)) u) r=acc d (st0 d) u:=fun u hu=>by
 have hn:ps.length<(ofT d ps).length:=by rw[uV];omega
 have h1:=xAK hn hL hc hb a9 hr hd u hu
 rw[qBN,qBR (bM (nE h).1) hu]at h1
 rw[<-h1]
 exact qID a9 (fun i hi=>by rw[qHG hi]) hr
theorem qVN {d:DfaV}{ps:List (List ByteArray)}(h:ofE d ps=0):∀p∈ps,p.length<=100000:=fun p hp=>by
 have h1:=tE.1 (nE h).2.2 p hp
 have:=vH (vO.1 h1)
 omega
end Go.Proofs.YtcoimliafiammaaGreat
