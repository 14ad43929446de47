/- Part 20 of the proof. -/
import Derived.Test.YtjfdomfendbhfaaQh19
import Derived.Deep.RegionLaw
import Derived.BigQuiet
import Derived.Deep.DeepCutAuto
import Derived.Deep.CutBlock
import Derived.Shelf.Vars
set_option linter.unusedVariables false
set_option linter.unusedSimpArgs false
set_option maxRecDepth 100000
set_option maxHeartbeats 16000000
namespace Go.Proofs.Ytjfdomfendbhfaa
open Go.Maps Go.RowKit
theorem qGR:psF.length=7:=by decide +kernel
theorem qGQ:psP.length=2:=by decide +kernel
theorem smallF:∀p∈psFL,∀u∈p,u.length<=4096:=by decide
theorem smallP:∀p∈psPL,∀u∈p,u.length<=4096:=by decide
theorem qHZ:acc dK 0 [0,1]=true/\acc dK 0 [1,0]=false/\acc dK 0 [1,1]=false:=by decide +kernel
theorem knF {w':World}{v:Value}{u1 u2:ByteArray}{E:Int}(h:OfOut w' dK psF v u1 u2 E):E=0/\∃g,oC w'.heap.size w' v g/\∀s,zU s 2=true->diaH g s=acc dK 0 (zJ s):=by
 cases h with
 | bad h=>exact absurd ofEF h
 | over h ho=>exact(rX underF ho).elim
 | conf h hu hc=>exact(noConfF (by rw[<-qGR];exact hc)).elim
 | ok _ g l L h hL hl4 hn hg h1 h2 h3 h4 h5 hc h6=>exact⟨rfl,g,hg,fun s hs=>qER h h1 h2 h3 h4 (by have:=hc.len_le;omega) h5 hs⟩
theorem knP {w':World}{v:Value}{u1 u2:ByteArray}{E:Int}(h:OfOut w' dK psP v u1 u2 E):E=20/\v=.agg #[.slice none 0 0,.slice none 0 0,.int .i64 0]/\∃u v,u1=strOfNums (lets u)/\u2=strOfNums (lets v)/\yO 2 u/\yO 2 v/\u.length<=4000/\v.length<=4000/\acc dK 0 u=true/\acc dK 0 v=false:=by
 cases h with
 | bad h=>exact absurd ofEP h
 | over h ho=>exact(rX underP ho).elim
 | conf h hu hc u v h1 h2 h3 h4 h5 h6 h7=>exact⟨rfl,rfl,u,v,rfl,rfl,h1,h2,h3,h4,h6,h7⟩
 | ok _ g l L h hL hl4 hn=>exact(hn (by rw[qGQ];exact confP)).elim
theorem known34_any (w:World)(hL:SomeLen w):Calls Try.prog 13 #[] w fun e w'=>e=.returned (.bool true)/\w.grownBy w' none:=by
 obtain⟨w5,d4,e2,f0,b8⟩:=dK_lit w;have H8:=Ga w5 (.cells #[.int .i64 2,.int .i64 0,.slice (some ⟨w.heap.size,0,none⟩) 3 3,.slice (some ⟨w.heap.size+1+1+1+1,0,none⟩) 3 3] 42) none;have H6:=heap_alloc_new w5 (.cells #[.int .i64 2,.int .i64 0,.slice (some ⟨w.heap.size,0,none⟩) 3 3,.slice (some ⟨w.heap.size+1+1+1+1,0,none⟩) 3 3] 42);obtain⟨w6,a9⟩:∃w6,w6=w5.alloc (.cells #[.int .i64 2,.int .i64 0,.slice (some ⟨w.heap.size,0,none⟩) 3 3,.slice (some ⟨w.heap.size+1+1+1+1,0,none⟩) 3 3] 42):=⟨_,rfl⟩;rw[<-a9]at H8 H6;obtain⟨fb,b7⟩:∃b,b=w.heap.size:=⟨_,rfl⟩;obtain⟨nb,b4⟩:∃b,b=w.heap.size+1+1+1+1:=⟨_,rfl⟩;obtain⟨P,hP⟩:∃b,b=w.heap.size+1+1+1+1+1:=⟨_,rfl⟩;have f5:=Kh d4;have e3:=Kh a9;have f9:=Kh b7;have f7:=Kh b4;have HP:=Kh hP;rw[<-b4,<-b7]at b8 H6 e3;rw[show w5.heap.size=P by omega]at H6;have e9:=Kh H6;have HD:=Kh (b8.kept H8 (by simp));have e6:=Kh (zA e2 H8 (by simp));have HZ:Hid (w5.heap.size<=w6.heap.size):=Kh H8.size;have HL:=Kh hL;obtain⟨c0,c1,c2,c3⟩:=zF H6;clear d4 e2 f0 b8 H8 H6 a9 b7 b4 hP;go_enter Try.func13,Try.ntmps13;go_upto_region 2 with fail;rw[<-f5.out,<-HP.out,<-f7.out,<-f9.out,<-e3.out]
 have e8:Hid (∀W:World,Calls Try.prog 45 #[.int .i64 5,.int .i64 2,.int .i64 1,.int .i64 0] W (uZ W 0 psFL)):=Kh (fun W=>by
  have h:=qDE 5 2 1 0 W (by decide);rw[show famE 5 ((2:Nat):Int) ((1:Nat):Int) ((0:Nat):Int)=0 from famFE,show famL 5 ((2:Nat):Int) ((1:Nat):Int) ((0:Nat):Int)=psFL from famF]at h
  exact h)
 have e7:Hid (∀W:World,Calls Try.prog 45 #[.int .i64 6,.int .i64 2,.int .i64 1,.int .i64 0] W (uZ W 0 psPL)):=Kh (fun W=>by
  have h:=qDE 6 2 1 0 W (by decide);rw[show famE 6 ((2:Nat):Int) ((1:Nat):Int) ((0:Nat):Int)=0 from famPE,show famL 6 ((2:Nat):Int) ((1:Nat):Int) ((0:Nat):Int)=psPL from famPP]at h
  exact h)
 have H2:Hid (∀(W:World) (pv:Value) (ps:List (List ByteArray)),w6.grownBy W none->vS W.heap.size W pv ps->ps.length<=4096->Calls Try.prog 19 #[.agg #[.int .i64 2,.int .i64 0,.slice (some ⟨fb,0,none⟩) 3 3,.slice (some ⟨nb,0,none⟩) 3 3],pv] W (qJU W dK ps)):=Kh (fun W pv ps hW hp h4=>qHL W.heap.size W _ pv dK ps (Nat.le_refl _) ((HD.out.kept hW (by simp)).mono (by have:=HZ.out;have:=hW.size;omega)) hp h4);go_wp2_with fail;refine(e8.out _).mono ?_;rintro e w7 ⟨sa,sc,svs,rfl,h7,H7,b6⟩;have c5:=Kh (kA h7 H7 smallF);have e5:=Kh b6;have g3:=Kh (zB e9.out b6 (by simp));obtain⟨c0,c1,c2,c3⟩:=zF g3.out;have f3:psFL.length=7:=rfl;rw[f3]at c5⊢;clear h7 H7 b6 e8;go_wp2_with fail;refine(H2.out _ _ psF e5.out c5.out (by rw[qGR];omega)).mono ?_;rintro e w8 ⟨v8,u1,u2,E8,rfl,h0,e1⟩;obtain⟨rfl,g,H1,hh⟩:=knF h0;obtain⟨ap,cp,ac,cc,rfl⟩:=dJ H1;have a5:=Kh H1;have HH:=Kh hh;have e4:=Kh (zA e5.out e1 (by simp));obtain⟨m1,e0⟩:∃m,m=g.pats.length:=⟨_,rfl⟩;obtain⟨m2,d9⟩:∃m,m=g.chos.length:=⟨_,rfl⟩;obtain⟨rt,h7⟩:∃m,m=g.root:=⟨_,rfl⟩;rw[<-e0,<-d9,<-h7]at a5⊢;have a6:=Ga w8 (.cells #[.slice ap m1 cp,.slice ac m2 cc,.int .i64 rt] 25) none;have a7:=heap_alloc_new w8 (.cells #[.slice ap m1 cp,.slice ac m2 cc,.int .i64 rt] 25);obtain⟨w9,a8⟩:∃w9,w9=w8.alloc (.cells #[.slice ap m1 cp,.slice ac m2 cc,.int .i64 rt] 25):=⟨_,rfl⟩;obtain⟨R,hR⟩:∃R,R=w8.heap.size:=⟨_,rfl⟩;rw[<-a8]at a6 a7;rw[<-hR]at a7;have f4:=Kh a8;have f6:=Kh hR;have g2:=Kh a7;have c7:=Kh a6;have f8:=Kh (zA e4.out a6 (by simp));clear h0 e1 H1 hh e0 d9 h7 a6 a7 a8 hR c0 c1 c2 c3 c5;go_upto_region 4 with fail;rw[<-f4.out,<-f6.out];go_wp2_with fail;refine(e7.out _).mono ?_;rintro e w10 ⟨sb,sd,svs2,rfl,h7,H7,h6⟩;have c4:=Kh (kA h7 H7 smallP);have a2:=Kh (zD c7.out h6);have a4:=Kh h6;have H4:=Kh (zA f8.out h6 (by simp));obtain⟨c0,c1,c2,c3⟩:=zF (zB e9.out H4.out (by simp));have b5:psPL.length=2:=rfl;rw[b5]at c4⊢;clear h7 H7 h6 e7;go_wp2_with fail;refine(H2.out _ _ psP H4.out c4.out (by rw[qGQ];omega)).mono ?_;rintro e w11 ⟨v11,s1,s2,E11,rfl,h0,h5⟩;obtain⟨rfl,rfl,u,v,b3,b2,d8,d6,b1,b0,d7,d5⟩:=knP h0
 have g1:Hid (∀W:World,Calls Try.prog 46 #[.string s1] W fun e w'=>e=.returned (.bool true)/\W=w'):=Kh (fun W=>by
  have:=qFI W u d8 b1
  rwa [<-b3,d7]at this)
 have g0:Hid (∀W:World,Calls Try.prog 46 #[.string s2] W fun e w'=>e=.returned (.bool false)/\W=w'):=Kh (fun W=>by
  have:=qFI W v d6 b0
  rwa [<-b2,d5]at this)
 have g8:s1.size<=4000:=by rw[b3,strOfNums_size];simpa [lets] using b1
 have g7:s2.size<=4000:=by rw[b2,strOfNums_size];simpa [lets] using b0
 have a1:=Kh (zD a2.out h5);have H3:=Kh h5;have d2:=Kh (zA H4.out h5 (by simp));clear h0 h5 b3 b2 d8 d6 b1 b0 d7 d5 c0 c1 c2 c3 c4 H2;obtain⟨w12,H0⟩:∃w12,w12=w11.alloc (.cells #[.slice none 0 0,.slice none 0 0,.int .i64 0] 25):=⟨_,rfl⟩;have h2:=Ga w11 (.cells #[.slice none 0 0,.slice none 0 0,.int .i64 0] 25) none;rw[<-H0]at h2;have b9:=Kh H0;have h9:=Kh (zD a1.out h2);have d1:=Kh (zA d2.out h2 (by simp))
 have c6:Hid (∀(W:World) (s:ByteArray) (b:Bool),w8.grownBy W none->s.size<=maxLen->diaH g s=b->Calls Try.prog 11 #[.agg #[.slice ap m1 cp,.slice ac m2 cc,.int .i64 rt],.string s] W fun e w'=>e=.returned (.bool b)/\W.grownBy w' none):=Kh (fun W s b hW hs hb=>by
  have:=cholds_any w8.heap.size W _ g s hW.size (a5.out.kept hW (by simp)) hs (HL.out.kept (zA (zA e6.out e4.out (by simp)) hW (by simp)) (by simp))
  rwa [hb]at this)
 have g6:Hid (diaH g ⟨#[97,98]⟩=true):=Kh (by rw[HH.out _ (by decide)];exact qHZ.1);have g5:Hid (diaH g ⟨#[98,97]⟩=false):=Kh (by rw[HH.out _ (by decide)];exact qHZ.2.1);have g4:Hid (diaH g ⟨#[98,98]⟩=false):=Kh (by rw[HH.out _ (by decide)];exact qHZ.2.2);have hm:(2:Nat)<=maxLen:=by unfold maxLen;omega
 have a3:Hid (w9.grownBy w12 none):=Kh (zD (zD a4.out H3.out) h2);have H5:=Kh (zB g2.out (a3.out) (by simp));clear H0 h2;go_upto_region 6 with fail;rw[<-b9.out];obtain⟨x0,x1,x2⟩:=zN H5.out;go_wp2_with fail;refine(c6.out _ ⟨#[97,98]⟩ true h9.out hm g6.out).mono ?_;rintro e w13 ⟨rfl,h1⟩;have h8:=Kh (zD h9.out h1);have d0:=Kh (zA d1.out h1 (by simp));obtain⟨x0,x1,x2⟩:=zN (zB H5.out h1 (by simp));have d3:=Kh (zB H5.out h1 (by simp));clear h1;go_wp2_with fail;refine(c6.out _ ⟨#[98,97]⟩ false h8.out hm g5.out).mono ?_;rintro e w14 ⟨rfl,h3⟩;have a0:=Kh (zD h8.out h3);have c9:=Kh (zA d0.out h3 (by simp));obtain⟨x0,x1,x2⟩:=zN (zB d3.out h3 (by simp));clear h3;go_wp2_with fail;refine(c6.out _ ⟨#[98,98]⟩ false a0.out hm g4.out).mono ?_;rintro e w15 ⟨rfl,H9⟩;have c8:=Kh (zA c9.out H9 (by simp));clear H9 x0 x1 x2;go_wp2_with fail;refine(g1.out _).mono ?_;rintro e w15 ⟨rfl,rfl⟩;go_wp2_with fail;refine(g0.out _).mono ?_;rintro e w15 ⟨rfl,rfl⟩;have f2:(s1.size:Int)<=4000:=by omega
 have f1:(s2.size:Int)<=4000:=by omega
 go_wp2;go_ret;exact⟨rfl,zA e6.out c8.out (by simp)⟩
end Go.Proofs.Ytjfdomfendbhfaa
namespace Go.Proofs.Ytjfdomfendbhfaa
open Go.RowKit
theorem run_take {d:DfaV}{q:Nat}{l:List Nat}{j:Nat}(h:j<l.length):run d q (l.take (j+1))=nx d (run d q (l.take j)) (l.getD j 0):=by
 rw[zT (d:=0) h,aN]
theorem rrunD_any (B:Nat)(w:World)(v:Value)(d:DfaV)(n k q:Nat)(s:ByteArray)(hB:B<=w.heap.size)(h:tE B w v d)(hd:VD d n k)(hq:q<n)(hs:zU s (k:Int)=true):Calls Try.prog 64 #[v,.int .i64 (q:Int),.string s] w fun e w'=>e=.returned (.int .i64 ((run d q (zJ s):Nat):Int))/\w.grownBy w' none:=by
 have h3:=h;obtain⟨fb,fo,fc,b,off,cap,RB,RO,RC,rfl,h6⟩:=h.at hd;have b9:=hd.n1;have c5:=hd.k6;have c6:=hd.k1;have c7:=h6.cap.1;have h4:=h6.cap.2;have a5:cap<=9223372036854775807:=by unfold maxLen at h4;omega
 obtain⟨S,hS⟩:∃S,S=st0 d:=⟨_,rfl⟩;have H8:dAgg k (st0 d) fb fo fc b off cap n=.agg #[.int .i64 (k:Int),.int .i64 (S:Int),.slice (some ⟨fb,fo,none⟩) n fc,.slice (some ⟨b,off,none⟩) n cap]:=by rw[hS];rfl
 rw[H8]at h3⊢;obtain⟨wA,H5⟩:∃wA,wA=w.alloc (.cells #[.int .i64 (k:Int),.int .i64 (S:Int),.slice (some ⟨fb,fo,none⟩) n fc,.slice (some ⟨b,off,none⟩) n cap] 42):=⟨_,rfl⟩;have H4:=Ga w (.cells #[.int .i64 (k:Int),.int .i64 (S:Int),.slice (some ⟨fb,fo,none⟩) n fc,.slice (some ⟨b,off,none⟩) n cap] 42) none;have h2:=heap_alloc_new w (.cells #[.int .i64 (k:Int),.int .i64 (S:Int),.slice (some ⟨fb,fo,none⟩) n fc,.slice (some ⟨b,off,none⟩) n cap] 42);rw[<-H5]at h2 H4;obtain⟨P,hP⟩:∃P,P=w.heap.size:=⟨_,rfl⟩;rw[<-hP]at h2;obtain⟨c0,c1,c2,c3⟩:=zF h2;have c9:=zK h2;have d4:B<=wA.heap.size:=by omega
 have b3:=Kh hP;have b4:=Kh h2;have a4:=Kh H4;have b2:=Kh H5;have HD:=Kh hd;have b5:Hid (∀W:World,w.grownBy W none->DAt B W d n k fb fo fc b off cap RB RO RC):=Kh (fun W hg=>h6.kept hg (by simp));have HW:=Kh hs;have H6:=Kh (uB hs);have b7:=H6.out.2.2;have b8:(q:Int)<n:=by omega
 clear h2 H4 H5 h6 hd h h3 H8 h4 hS hP hs;go_enter Try.func64,Try.ntmps64;go_upto_region 1 with fail;rw[<-b2.out,<-b3.out];go_wp2_with fail;refine(oG s (k:Int) wA (by unfold maxLen;omega)).mono ?_;rintro e w2 ⟨rfl,rfl⟩;rw[HW.out];go_wp2_with fail
 go_loopg [1,7] s.size (fun gh a1 i wr=>∃j:Nat,gh+j=s.size/\i=.int .i64 j/\a1=.int .i64 ((run d q ((zJ s).take j):Nat):Int)/\wA.grownBy wr none)
 case atStart=>exact⟨0,rfl,rfl,rfl,zH _ _⟩
 case round =>
  clear c0 c1 c2 c3;obtain⟨j,a2,rfl,rfl,h5⟩:=hrel;have H7:=Kh a2;have a3:=Kh h5;obtain⟨d0,d1,d2,d3⟩:=zF (zB b4.out h5 (by simp));clear a2;by_cases hj:j<s.size
  ·have a7:(j:Int)<s.size:=by omega
   have h7:=cY HD.out ((zJ s).take j) hq (fun a ha=>H6.out.1 a (List.mem_of_mem_take ha));have h8:=Kh (run_take (d:=d) (q:=q) (l:=zJ s) (j:=j) (by rw[yM];exact hj));obtain⟨R,hR⟩:∃R,R=run d q ((zJ s).take j):=⟨_,rfl⟩;rw[<-hR]at h7 h8⊢;have b1:(R:Int)<n:=(by omega);have h0:=b5.out wr (zA a4.out h5 (by simp));have chd:=h0.hd R h7;have H2:=h0.rcap R h7;have H1:=H2.1;have H0:RC R<=9223372036854775807:=by have:=H2.2;unfold maxLen at this;omega
   obtain⟨b0,a0,c8,b6,c4,a9,H9⟩:=byte_facts0 H6.out.2.1 hj;have cel:=h0.el R a0 h7 a9;have a8:(a0:Int)<k:=(by omega);rw[H9]at h8;obtain⟨rb,H3⟩:∃rb,rb=RB R:=⟨_,rfl⟩;obtain⟨ro,h9⟩:∃ro,ro=RO R:=⟨_,rfl⟩;obtain⟨rc,h1⟩:∃rc,rc=RC R:=⟨_,rfl⟩;rw[<-H3,<-h9,<-h1]at chd;rw[<-H3,<-h9]at cel;rw[<-h1]at H1 H0;obtain⟨y,hy⟩:∃y,y=nx d R a0:=⟨_,rfl⟩;rw[<-hy]at cel h8;clear h0 H2 H9 H3 h9 h1 hy hR h5;go_wp2_with fail
   go_region
   all_goals (try go_frame)
   all_goals go_wp2
   all_goals
    go_roundg (s.size-(j+1))
    case measure=>have:=H7.out;omega
    case rel=>exact⟨j+1,by have:=H7.out;omega,by go_num,by rw[h8.out],zA a3.out (zO wr none) (by simp)⟩
  ·have a6:j=s.size:=by have:=H7.out;omega
   have a7:¬(j:Int)<s.size:=(by omega);have HJ:Hid ((zJ s).take j=zJ s):=Kh (List.take_of_length_le (by rw[yM];omega));rw[HJ.out];clear a6;go_wp2;go_ret;exact⟨rfl,zA a4.out a3.out (by simp)⟩
theorem raccepts_any (B:Nat)(w:World)(v:Value)(d:DfaV)(n k:Nat)(s:ByteArray)(hB:B<=w.heap.size)(h:tE B w v d)(hd:VD d n k)(hs:zU s (k:Int)=true):Calls Try.prog 23 #[v,.string s] w fun e w'=>e=.returned (.bool (acc d (st0 d) (zJ s)))/\w.grownBy w' none:=by
 have h0:=h;obtain⟨fb,fo,fc,b,off,cap,RB,RO,RC,rfl,h4⟩:=h.at hd;have h7:=pU hd;have a2:=h4.fcap.1;have h2:=h4.fcap.2;have H4:fc<=9223372036854775807:=by unfold maxLen at h2;omega
 have H1:=Kh (cY hd (zJ s) h7 (uB hs).1);obtain⟨S,hS⟩:∃S,S=st0 d:=⟨_,rfl⟩;have h8:dAgg k (st0 d) fb fo fc b off cap n=.agg #[.int .i64 (k:Int),.int .i64 (S:Int),.slice (some ⟨fb,fo,none⟩) n fc,.slice (some ⟨b,off,none⟩) n cap]:=by rw[hS];rfl
 rw[h8]at h0⊢;rw[<-hS]at h7 H1⊢;obtain⟨wA,h6⟩:∃wA,wA=w.alloc (.cells #[.int .i64 (k:Int),.int .i64 (S:Int),.slice (some ⟨fb,fo,none⟩) n fc,.slice (some ⟨b,off,none⟩) n cap] 42):=⟨_,rfl⟩;have h3:=Ga w (.cells #[.int .i64 (k:Int),.int .i64 (S:Int),.slice (some ⟨fb,fo,none⟩) n fc,.slice (some ⟨b,off,none⟩) n cap] 42) none;have h1:=heap_alloc_new w (.cells #[.int .i64 (k:Int),.int .i64 (S:Int),.slice (some ⟨fb,fo,none⟩) n fc,.slice (some ⟨b,off,none⟩) n cap] 42);rw[<-h6]at h1 h3;obtain⟨P,hP⟩:∃P,P=w.heap.size:=⟨_,rfl⟩;rw[<-hP]at h1;obtain⟨c0,c1,c2,c3⟩:=zF h1;have a3:=zK h1;have H7:B<=wA.heap.size:=by omega
 have H9:=Kh hP;have H3:=Kh h1;have a0:=Kh h3;have H8:=Kh h6;have a1:Hid (∀W:World,w.grownBy W none->DAt B W d n k fb fo fc b off cap RB RO RC):=Kh (fun W hg=>h4.kept hg (by simp));have H0:=Kh (rrunD_any B wA _ d n k S s H7 (h0.kept h3 (by simp)) hd h7 hs);clear h1 h3 h6 h4 hd h h0 h8 h2 hS hP hs;go_enter Try.func23,Try.ntmps23;go_upto_region 1 with fail;rw[<-H8.out,<-H9.out];go_wp2_with fail;refine H0.out.mono ?_;rintro e w1 ⟨rfl,h5⟩;have H2:=Kh (zA a0.out h5 (by simp));obtain⟨d0,d1,d2,d3⟩:=zF (zB H3.out h5 (by simp));obtain⟨R,hR⟩:∃R,R=run d S (zJ s):=⟨_,rfl⟩;have H6:R<n:=by rw[hR];exact H1.out
 have H5:(R:Int)<n:=by omega
 have HA:Hid (acc d S (zJ s)=d.final.getD R false):=Kh (by rw[hR];rfl);rw[<-hR];have cfin:=(a1.out w1 H2.out).fin H6;obtain⟨bf,h9⟩:∃bf,bf=d.final.getD R false:=⟨_,rfl⟩;rw[<-h9]at cfin HA;clear h5 H0 c0 c1 c2 c3 H3 hR h9;go_wp2;go_ret;exact⟨yA HA.out.symm,H2.out⟩
theorem Row.found {B:Nat}{w:World}{v:Value}{xs:List Value}(h:Row B w v xs)(hx:0<xs.length):∃b off cap,v=.slice (some ⟨b,off,none⟩) xs.length cap/\xs.length<=cap/\cap<=maxLen/\uJ w b off xs:=by
 rcases h with ⟨a,c,rfl,rfl⟩|⟨b,off,cap,rfl,_,h1,h2,h3⟩
 ·simp at hx
 ·exact⟨b,off,cap,rfl,h1,h2,h3⟩
theorem qBH (B1 B2:Nat)(v1 v2:Value)(ls:List (List Int))(w:World)(h1:Row B1 w v1 (strs ls))(h2:Row B2 w v2 (strs ls))(hl:ls.length<=9223372036854775807):Calls Try.prog 63 #[v1,v2] w fun e w'=>e=.returned (.bool true)/\∃m,w'=w.drewN m:=by
 by_cases h0:0<ls.length
 ·obtain⟨b1,o1,c1,rfl,h7,h5,r1⟩:=h1.found (by simpa [strs] using h0)
  obtain⟨b2,o2,c2,rfl,h6,h4,r2⟩:=h2.found (by simpa [strs] using h0);rw[show (strs ls).length=ls.length by simp[strs]]at *;have hn:((ls.length:Int) != ls.length)=false:=by simp
  clear h1 h2;go_enter Try.func63,Try.ntmps63;go_wp2
  go_loopw [13] (fun i wr=>∃k m:Nat,i=.int .i64 k/\k<=ls.length/\wr=w.drewN m) (fun i _=>ls.length-(intOf i).toNat)
  case atStart=>exact⟨0,0,rfl,Nat.zero_le _,rfl⟩
  case round =>
   obtain⟨k,m,rfl,hk,rfl⟩:=hrel;by_cases hlt:k<ls.length
   ·have q1:=r1.map k hlt
    have q2:=r2.map k hlt;have h3:(k:Int)<ls.length:=(by omega);go_wp2
    go_quiet (fail)
    go_wp2;go_roundw
    case rel=>exact⟨k+1,_,by go_num,by omega,rfl⟩
    case measure=>simp[intOf];omega
   ·go_wp2
    go_ret;exact⟨rfl,m,rfl⟩
 ·have hz:ls=[]:=List.eq_nil_of_length_eq_zero (by omega)
  subst hz;obtain⟨a1,c1,rfl⟩:=h1.shape;obtain⟨a2,c2,rfl⟩:=h2.shape;rw[show (strs []).length=0 by rfl]at *;clear h1 h2;go_enter Try.func63,Try.ntmps63;go_wp2;refine wp_loop_rounds 1 ?_;rw[rounds_succ];go_wp2;go_ret;exact⟨rfl,0,rfl⟩
theorem same33_rows (B1 B2:Nat)(v1 v2:Value)(s1 s2:List Value)(ps:List (List (List Int)))(w:World)(h1:Row B1 w v1 s1)(h2:Row B2 w v2 s2)(k1:s1.length=ps.length/\∀i (h:i<s1.length) (h':i<ps.length),Row B1 w s1[i] (strs ps[i]))(k2:s2.length=ps.length/\∀i (h:i<s2.length) (h':i<ps.length),Row B2 w s2[i] (strs ps[i]))(hl:ps.length<=9223372036854775807)(hl2:∀p∈ps,p.length<=9223372036854775807):Calls Try.prog 21 #[v1,v2] w fun e w'=>e=.returned (.bool true)/\∃m,w'=w.drewN m:=by
 have e1:=k1.1;have e2:=k2.1;by_cases h0:0<ps.length
 ·obtain⟨b1,o1,c1,rfl,h6,h8,r1⟩:=h1.found (by omega)
  obtain⟨b2,o2,c2,rfl,h5,h7,r2⟩:=h2.found (by omega);rw[e1]at h6⊢;rw[e2]at h5⊢;have hn:((ps.length:Int) != ps.length)=false:=by simp
  have E1:=Kh e1;have E2:=Kh e2;clear h1 h2 e1 e2;go_enter Try.func21,Try.ntmps21;go_wp2
  go_loopw [13] (fun i wr=>∃k m:Nat,i=.int .i64 k/\k<=ps.length/\wr=w.drewN m) (fun i _=>ps.length-(intOf i).toNat)
  case atStart=>exact⟨0,0,rfl,Nat.zero_le _,rfl⟩
  case round =>
   obtain⟨k,m,rfl,hk,rfl⟩:=hrel;by_cases hlt:k<ps.length
   ·have i1:k<s1.length:=by rw[E1.out];exact hlt
    have i2:k<s2.length:=(by rw[E2.out];exact hlt);have q1:=r1.2 k i1;have q2:=r2.2 k i2;have t1:=fun n=>((k1.2 k i1 hlt).of_heap (w':=w.drewN n) rfl);have t2:=fun n=>((k2.2 k i2 hlt).of_heap (w':=w.drewN n) rfl);obtain⟨x1,y1,z1⟩:=(k1.2 k i1 hlt).shape;obtain⟨x2,y2,z2⟩:=(k2.2 k i2 hlt).shape;have h4:(k:Int)<ps.length:=(by omega);have h3:=hl2 ps[k] (List.getElem_mem hlt);rw[z1]at q1 t1;rw[z2]at q2 t2;have T1:=Kh t1;have T2:=Kh t2;clear t1 t2 z1 z2;go_wp2
    go_quiet ((go_at_call 63;first|exact Calls.quiet_of (qBH _ _ _ _ _ _ (T1.out _) (T2.out _) h3)|exact quiet_add (qBH _ _ _ _ _ _ (T1.out _) (T2.out _) h3)))
    go_wp2;go_roundw
    case rel=>exact⟨k+1,_,by go_num,by omega,rfl⟩
    case measure=>simp[intOf];omega
   ·go_wp2
    go_ret;exact⟨rfl,m,rfl⟩
 ·have hz:ps=[]:=List.eq_nil_of_length_eq_zero (by omega)
  subst hz;have z1:s1=[]:=List.eq_nil_of_length_eq_zero e1;have z2:s2=[]:=List.eq_nil_of_length_eq_zero e2;subst z1 z2;obtain⟨a1,c1,rfl⟩:=h1.shape;obtain⟨a2,c2,rfl⟩:=h2.shape;rw[show ([]:List Value).length=0 by rfl]at *;clear h1 h2 k1 k2 e1 e2;go_enter Try.func21,Try.ntmps21;go_wp2;refine wp_loop_rounds 1 ?_;rw[rounds_succ];go_wp2;go_ret;exact⟨rfl,0,rfl⟩
theorem same_pats (B1 B2:Nat)(w:World)(v1 v2:Value)(L:List (List (List Int)))(h1:vS B1 w v1 (famB L))(h2:vS B2 w v2 (famB L))(hl:L.length<=9223372036854775807)(hl2:∀p∈L,p.length<=9223372036854775807):Calls Try.prog 21 #[v1,v2] w fun e w'=>e=.returned (.bool true)/\∃m,w'=w.drewN m:=by
 obtain⟨s1,a1,a2,a3⟩:=h1;obtain⟨s2,b1,b2,b3⟩:=h2;rw[uH]at a2 b2;have e:∀i (hi:i<L.length) (h:i<(famB L).length),txtV (famB L)[i]=strs L[i]:=fun i hi h=>by simp[famB,txtV,strs]
 exact same33_rows B1 B2 v1 v2 s1 s2 L w a1 b1 ⟨a2,fun i h h'=>by rw[<-e i h' (by rw[uH];exact h')];exact(a3 i h _).1⟩ ⟨b2,fun i h h'=>by rw[<-e i h' (by rw[uH];exact h')];exact(b3 i h _).1⟩ hl hl2
structure WdI (letters most:Nat)(l:List (List Nat))(q a:Nat):Prop where
 nd:l.Nodup
 len:∀u∈l,u.length<=most
 ok:∀u∈l,yO letters u
 old:∀u∈l,u=[]\/∃j b,(j<q\/(j=q/\b<a))/\l[j]?=some (u.take (u.length-1))/\u=u.take (u.length-1)++[b]
theorem WdI.start (letters most:Nat):WdI letters most [[]] 0 0 :=
 ⟨by simp,fun u hu=>by simp at hu;subst hu;simp,fun u hu=>by simp at hu;subst hu;intro x hx;simp at hx,fun u hu=>by simp at hu;exact .inl hu⟩
theorem WdI.next {letters most q a:Nat}{l:List (List Nat)}(h:WdI letters most l q a):WdI letters most l (q+1) 0 :=
 ⟨h.nd,h.len,h.ok,fun u hu=>by
  rcases h.old u hu with e|⟨j,b,h1,h2⟩
  ·exact .inl e
  ·exact .inr ⟨j,b,by omega,h2⟩⟩
theorem WdI.push {letters most q a:Nat}{l:List (List Nat)}(h:WdI letters most l q a){u:List Nat}(hu:l[q]?=some u)(hl:u.length<most)(ha:a<letters):WdI letters most (l++[u++[a]]) q (a+1):=by
 have hq:q<l.length:=by
  rcases Nat.lt_or_ge q l.length with h|h
  ·exact h
  ·rw[List.getElem?_eq_none h]at hu;cases hu
 have hm:u∈l:=List.mem_of_getElem? hu
 have h5:u++[a] ∉ l:=fun hmem=>by
  rcases h.old _ hmem with e|⟨j,b,h1,h2,h3⟩
  ·simp at e
  ·have e:(u++[a]).take ((u++[a]).length-1)=u:=by simp
   rw[e]at h2 h3;have h4:=List.append_inj_right' h3 rfl;simp at h4
   have hj:j=q:=by
    have h0:j<l.length:=by
     rcases Nat.lt_or_ge j l.length with h|h
     ·exact h
     ·rw[List.getElem?_eq_none h]at h2;cases h2
    rw[List.getElem?_eq_getElem h0]at h2;rw[List.getElem?_eq_getElem hq]at hu;have:l[j]=l[q]:=by rw[Oj h2,Oj hu]
    exact(List.getElem_inj h.nd).1 this
   omega
 refine⟨?_,fun x hx=>?_,fun x hx=>?_,fun x hx=>?_⟩
 ·rw[List.nodup_append]
  exact⟨h.nd,by simp,fun x hx y hy e=>by simp at hy;subst hy;subst e;exact h5 hx⟩
 ·rcases List.mem_append.1 hx with hx|hx
  ·exact h.len x hx
  ·simp at hx;subst hx;simp;omega
 ·rcases List.mem_append.1 hx with hx|hx
  ·exact h.ok x hx
  ·simp at hx;subst hx
   intro y hy;rcases List.mem_append.1 hy with hy|hy
   ·exact h.ok u hm y hy
   ·simp at hy;omega
 ·rcases List.mem_append.1 hx with hx|hx
  ·rcases h.old x hx with e|⟨j,b,h1,h2,h3⟩
   ·exact .inl e
   ·refine .inr ⟨j,b,by omega,?_,h3⟩
    have h0:j<l.length:=by
     rcases Nat.lt_or_ge j l.length with h|h
     ·exact h
     ·rw[List.getElem?_eq_none h]at h2;cases h2
    rw[List.getElem?_append_left h0];exact h2
  ·simp at hx;subst hx
   refine .inr ⟨q,a,by omega,?_,by simp⟩;rw[List.getElem?_append_left hq];simpa using hu
theorem strs_cat2 (a b:List Int):strOfNums a++strOfNums b=strOfNums (a++b):=by
 apply ByteArray.ext;simp[strOfNums]
def qDP (u:List Nat):List Bool:=List.replicate (6-u.length) false++[true]++u.map (fun x=>decide (x=1))
theorem codeW_len {u:List Nat}(h:u.length<=6):(qDP u).length=7:=by simp[qDP];omega
theorem qGO:∀ {m n:Nat} {x y:List Bool},List.replicate m false++true::x=List.replicate n false++true::y->x=y
 | 0,0,x,y,h=>by simpa using h
 | 0,n+1,x,y,h=>by simp[List.replicate_succ]at h
 | m+1,0,x,y,h=>by simp[List.replicate_succ]at h
 | m+1,n+1,x,y,h=>by
  simp only[List.replicate_succ,List.cons_append,List.cons.injEq,true_and]at h
  exact qGO h
theorem qFV:∀ {u v:List Nat},(∀x∈u,x<2)->(∀x∈v,x<2)->u.map (fun x=>decide (x=1))=v.map (fun x=>decide (x=1))->u=v
 | [],[],_,_,_=>rfl
 | [],y::v,_,_,h=>by simp at h
 | x::u,[],_,_,h=>by simp at h
 | x::u,y::v,hu,hv,h=>by
  simp only[List.map_cons,List.cons.injEq,decide_eq_decide]at h
  have h1:=hu x (by simp);have h2:=hv y (by simp)
  have h3:=h.1
  rw[qFV (fun z hz=>hu z (List.mem_cons_of_mem _ hz)) (fun z hz=>hv z (List.mem_cons_of_mem _ hz)) h.2,show x=y by omega]
theorem codeW_inj {u v:List Nat}(hu:∀x∈u,x<2)(hv:∀x∈v,x<2)(h:qDP u=qDP v):u=v:=by
 unfold qDP at h;rw[List.append_assoc,List.append_assoc]at h;exact qFV hu hv (qGO h)
theorem WdI.few {letters most q a:Nat}{l:List (List Nat)}(h:WdI letters most l q a)(h2:letters<=2)(h5:most<=6):l.length<=128:=by
 have h1:∀u∈l,∀x∈u,x<2:=fun u hu x hx=>by have:=h.ok u hu x hx;omega
 have h0:∀u∈l,u.length<=6:=fun u hu=>by have:=h.len u hu;omega
 have hn:(l.map qDP).Nodup:=by
  rw[List.nodup_iff_pairwise_ne,List.pairwise_map];refine h.nd.imp_of_mem fun {x y} hx hy hne e=>hne (codeW_inj (h1 x hx) (h1 y hy) e)
 have:=jO 7 (l.map qDP) hn (fun x hx=>by
  obtain⟨u,hu,rfl⟩:=List.mem_map.1 hx
  exact codeW_len (h0 u hu))
 simpa using this
theorem words2_any (w:World)(letters most:Nat)(h1:1<=letters)(h2:letters<=2)(h4:most<=6):Calls Try.prog 22 #[.int .i64 (letters:Int),.int .i64 (most:Int)] w fun e w'=>∃ws sa sc,e=.returned (.slice sa (ws:List (List Nat)).length sc)/\w'.ownsRow w.heap.size 9 1 (.slice sa ws.length sc) ws.length (oI ws)/\w.grownBy w' none/\WdI letters most ws ws.length 0:=by
 obtain⟨P,hP⟩:∃P,P=w.heap.size:=⟨_,rfl⟩;have a5:=Kh hP;go_enter Try.func22,Try.ntmps22;go_upto_region 2 with fail;have hb:=heap_alloc_new w (.cells #[.string ⟨#[]⟩] 9);have hg:=Ga w (.cells #[.string ⟨#[]⟩] 9) none;have ho:(w.alloc (.cells #[.string ⟨#[]⟩] 9)).ownsRow w.heap.size 9 1 (.slice (some ⟨w.heap.size,0,none⟩) 1 1) 1 (oI [[]]):=qEQ hb (Nat.le_refl _) rfl (by unfold maxLen;omega);have b3:=zL w (.cells #[.string ⟨#[]⟩] 9);rw[<-hP]at ho hb b3⊢;have HO:=Kh ho;have HG:=Kh hg;clear ho hb hg b3 hP;obtain⟨w1,b2⟩:∃w1,w1=w.alloc (.cells #[.string ⟨#[]⟩] 9):=⟨_,rfl⟩;rw[<-b2]at HO HG⊢;clear b2;go_wp2
 go_loopg [5,6,7] 129 (fun gh lv i av wr=>∃(q:Nat) (l:List (List Nat)) (sa:Option Addr) (sc:Nat),gh+q=129/\i=.int .i64 q/\lv=.slice sa l.length sc/\wr.ownsRow P 9 1 (.slice sa l.length sc) l.length (oI l)/\w.grownBy wr none/\WdI letters most l q 0/\q<=l.length)
 case atStart=>exact⟨0,[[]],some ⟨P,0,none⟩,1,rfl,rfl,rfl,HO.out,HG.out,WdI.start _ _,Nat.zero_le _⟩
 case round =>
  obtain⟨q,l,sa,sc,hg,rfl,rfl,h0,H2,H1,c3⟩:=hrel;obtain⟨m,hm⟩:∃m,m=l.length:=⟨_,rfl⟩;have f3:=H1.few h2 h4;have HM:=Kh hm;rw[<-hm]at h0 f3 c3⊢;have H7:=Kh hg;have a6:=Kh h0;have a7:=Kh H2;have a4:=Kh H1;clear hg h0 H2 hm HO HG H1;by_cases hq:q<m
  ·have c4:(q:Int)<m:=by omega
   obtain⟨U,hU⟩:∃U,U=l.getD q []:=⟨_,rfl⟩;have d6:U.length<=most:=by rw[hU];exact a4.out.len _ (mG (by have:=HM.out;omega))
   have HU:Hid (l[q]?=some U):=Kh (by rw[hU,List.getElem?_eq_getElem (by have:=HM.out;omega),zG (by have:=HM.out;omega)]);clear hU;obtain⟨X,hX⟩:∃X,X=strOfNums (lets U):=⟨_,rfl⟩;have a9:X.size=U.length:=by rw[hX,strOfNums_size];simp[lets]
   have HX:=Kh hX;have a3:=Kh a9;obtain⟨wo,b0⟩:∃wo,wo=wr:=⟨_,rfl⟩;rw[<-b0]at a6 a7⊢;clear b0 wr;go_wp2
   go_loopg [5,7] letters (fun gh lv av wr=>∃(a:Nat) (l2:List (List Nat)) (sb:Option Addr) (sd:Nat),gh+a=letters/\av=.int .i64 a/\lv=.slice sb (m+a) sd/\wr.ownsRow P 9 1 (.slice sb (m+a) sd) (m+a) (oI l2)/\w.grownBy wr none/\(most<=U.length->a=0)/\WdI letters most l2 q a/\l2[q]?=some U/\l2.length=m+a)
   case atStart=>exact⟨0,l,sa,sc,rfl,rfl,rfl,a6.out,a7.out,fun _=>rfl,a4.out,HU.out,by have:=HM.out;omega⟩
   case round =>
    obtain⟨a,l2,sb,sd,hg,rfl,rfl,h0,H2,hz,H1,a1,a0⟩:=hrel;obtain⟨kb,rfl,e1,b6,H5⟩:=yG h0 (by omega);have h3:=H5.strL q (by rw[a0];omega);rw[show l2.getD q []=U by rw[List.getD_eq_getElem?_getD,a1];rfl,<-HX.out]at h3;have H0:=Kh H1;have b8:=Kh a1;have h8:=Kh a0;clear H1 a1 a0;have d7:(q:Int)<(m:Int)+(a:Int):=(by omega);have c5:q<m+a:=(by omega);have a8:=Kh hg;have h5:=Kh h0;have h6:=Kh H2;have HZ:=Kh hz;have c6:sd<=9223372036854775807:=by unfold maxLen at b6;omega
    clear hg h0 H2 hz H5 b6 hX a9;by_cases ha:a<letters
    ·have e3:(a:Int)<letters:=by omega
     by_cases hu:X.size<most
     ·have c1:(X.size:Int)<most:=by omega
      have e4:IntKind.i64.wrap (97+(a:Int))=97+(a:Int):=IntWalk.i64_in _ (by omega);have e2:IntKind.u8.wrap (97+(a:Int))=97+(a:Int):=IntWalk.u8_in _ (by omega);obtain⟨Y,hY⟩:∃Y,Y=strOfNums [97+(a:Int)]:=⟨_,rfl⟩;have d9:∀(W:World) (g:Nat),W.cell? ⟨g,0,none⟩=some (.int .u8 (97+(a:Int)))->(convert 106 9 (.slice (some ⟨g,0,none⟩) 1 1)).run Try.prog W=.ok (.string Y) W:=fun W g h=>by rw[hY];exact nU 106 5 Try.underlying106 Try.underlying5 9 Try.underlying9 h
      have e0:∀W:World,(Op.stringOp .add X Y).run Try.prog W=.ok (.string (X++Y)) W:=fun W=>run_string_add_sum W X Y (by
       rw[hY,strOfNums_size];simp;omega)
      have d0:Hid (X++Y=strOfNums (lets (U++[a]))):=Kh (by rw[HX.out,hY,strs_cat2];simp[lets]);clear hY;obtain⟨w5,H8⟩:∃w5,w5=wr.drew:=⟨_,rfl⟩;have H6:wr.grownBy w5 none:=(by rw[H8];exact zO wr none);have d2:=Kh H8;have b7:=Kh (zY h5.out H6 (by simp));have c0:=Kh (zA h6.out H6 (by simp));have C:=Kh (xK h3 H6);clear H8 H6 h5 h6;go_upto_region 8 with fail;clear h3;refine wp_region_noPanic ?_;refine yY (G:=uI 10 (fun _=>True) (fun W=>W.cell? ⟨kb,q,none⟩=some (.string X))) (by kernel_rfl) ?_;rw[<-d2.out];refine zV 0 ⟨trivial,fun _=>C.out⟩ ?_;refine zV 1 ⟨trivial,fun _=>C.out⟩ ?_;refine zV 2 ⟨trivial,fun _=>C.out⟩ ?_;refine zV 3 ⟨trivial,fun _=>C.out⟩ ?_;refine uA 4 ⟨trivial,fun _=>C.out⟩ ?_;refine zV 5 ⟨trivial,fun _=>C.out⟩ ?_;refine zV 6 ⟨trivial,fun _=>C.out⟩ ?_;refine zV 7 ⟨trivial,fun _=>C.out⟩ ?_;refine oneG (i:=8) (by kernel_rfl) rfl (fun K hK=>?_);go_simp;have h9:=heap_alloc_new w5 (.cells #[.int .u8 (97+(a:Int))] 5);have H4:=Ga w5 (.cells #[.int .u8 (97+(a:Int))] 5) none;obtain⟨g6,H3⟩:∃g6,g6=w5.heap.size:=⟨_,rfl⟩;obtain⟨w6,b1⟩:∃w6,w6=w5.alloc (.cells #[.int .u8 (97+(a:Int))] 5):=⟨_,rfl⟩;rw[<-H3]at h9⊢;rw[<-b1]at h9 H4⊢;have c7:=zI h9 0 (by simp);simp only[List.getElem_toArray,List.getElem_cons_zero]at c7;have d4:=Kh (zY b7.out H4 (by simp));have b9:=Kh (zA c0.out H4 (by simp));have C6:=Kh (xK C.out H4);refine hK.out _ _ ⟨trivial,fun _=>C6.out⟩ ?_;clear hK K h9 H4 H3 b1 b7 c0 C
      try simp only[Act.put,sPa,sPb,sPc]
      refine oneG (i:=9) (by kernel_rfl) rfl (fun K hK=>?_);go_simp;refine hK.out _ _ ⟨trivial,fun _=>C6.out⟩ ?_;clear hK K
      try simp only[Act.put,sPa,sPb,sPc]
      refine oneG (i:=10) (by kernel_rfl) rfl (fun K hK=>?_);go_simp;refine hK.out _ _ ⟨trivial,fun h=>by simp at h⟩ ?_;clear hK K
      try simp only[Act.put,sPa,sPb,sPc]
      refine oneG (i:=11) (by kernel_rfl) rfl (fun K hK=>?_);go_simp;have h9:=heap_alloc_new w6 (.cells #[.string (X++Y)] 9);have a2:=Ga w6 (.cells #[.string (X++Y)] 9) none;have H9:=zY d4.out a2 (by simp);refine hK.out _ _ ⟨trivial,fun h=>by simp at h⟩ ?_;clear hK K
      try simp only[Act.put,sPa,sPb,sPc]
      have c2:P<=w6.heap.size:=by have:=b9.out.size;have:=a5.out;omega
      refine oneG (i:=12) (by kernel_rfl) rfl (fun K hK=>?_);refine pT rfl (.tmp 29) (.tmp 40) 26 rfl kH P _ _ _ rfl H9 _ _ _ rfl h9 rfl ?g1 ?g2 ?g3 ?_
      case g1=>unfold maxLen;omega
      case g2=>omega
      case g3=>rw[zL];omega
      intro sa' sc' w8 h7 b5;refine hK.out _ _ ⟨trivial,fun h=>by simp at h⟩ ?_;clear hK K
      try simp only[Act.put,sPa,sPb,sPc]
      refine oneG (i:=13) (by kernel_rfl) rfl (fun K hK=>?_);go_simp;refine hK.out _ _ ⟨trivial,fun h=>by simp at h⟩ ?_;clear hK K
      try simp only[Act.put,sPa,sPb,sPc]
      refine rP (by kernel_rfl) ?_ _;refine NoPanic.normal ?_;have d3:=Kh h7;have d5:=Kh (zA (zA b9.out a2 (by simp)) b5 (fun k e=>by have:=(H9.lt k e).1;have:=a5.out;omega));clear h7 b5 a2 H9 h9;go_wp2;go_roundg (letters-(a+1))
      case measure=>have:=a8.out;omega
      case rel =>
       refine⟨a+1,l2++[U++[a]],sa',sc',by have:=a8.out;omega,by go_num,by rw[Nat.add_assoc],?_,d5.out,by have:=a3.out;omega,H0.out.push b8.out (by have:=a3.out;omega) ha,?_,by rw[List.length_append,h8.out];rfl⟩
       ·rw[show oI (l2++[U++[a]])=oI l2++[.string (X++Y)] by rw[d0.out];simp[oI],<-Nat.add_assoc]
        exact d3.out
       ·rw[List.getElem?_append_left (by rw[h8.out];omega)];exact b8.out
     ·have c1:¬(X.size:Int)<most:=by omega
      have c9:a=0:=HZ.out (by have:=a3.out;omega);subst c9;go_wp2;go_roundg (129-(q+1))
      case measure=>have:=H7.out;omega
      case rel =>
       refine⟨q+1,l2,some ⟨kb,0,none⟩,sd,by have:=H7.out;omega,by go_num,by rw[h8.out];first|done|rfl,?_,h6.out,H0.out.next,by rw[h8.out];omega⟩;have:=h5.out;rw[h8.out];exact this
    ·have c8:a=letters:=by have:=a8.out;omega
     subst c8
     have d8:U.length<most:=by
      rcases Nat.lt_or_ge U.length most with h|h
      ·exact h
      ·have:=HZ.out h;omega
     go_wp2;go_roundg (129-(q+1))
     case measure=>have:=H7.out;omega
     case rel =>
      refine⟨q+1,l2,some ⟨kb,0,none⟩,sd,by have:=H7.out;omega,by go_num,by rw[h8.out];first|done|rfl,?_,h6.out,H0.out.next,by rw[h8.out];omega⟩;rw[h8.out];exact h5.out
  ·have c4:¬(q:Int)<m:=by omega
   have b4:q=l.length:=by have:=HM.out;omega
   have d1:Hid (WdI letters most l l.length 0):=Kh (by have:=a4.out;rwa [b4]at this);clear b4;go_wp2;go_ret;refine⟨l,sa,sc,?_,?_,a7.out,d1.out⟩
   ·rw[<-HM.out];rfl
   ·rw[<-HM.out,<-a5.out];exact a6.out
theorem diaH_no {g:DiaV}{s:ByteArray}(h:diaE g 6≠0):diaH g s=false:=by
 unfold diaH;rw[show decide (diaE g 6=0)=false by rw[decide_eq_false_iff_not];exact h];rfl
theorem diaH_word {g:DiaV}{s:ByteArray}(h:zU s 6=false):diaH g s=false:=by
 unfold diaH;rw[h];simp
theorem diaH_yes {g:DiaV}{s:ByteArray}(h:diaE g 6=0)(hw:zU s 6=true):diaH g s=decG g.chos (fun p=>(mtsW g.pats s).getD p false) g.root:=by
 obtain⟨_,_,_,_,_,h6,_,h8⟩:=jM h;unfold diaH;rw[show decide (diaE g 6=0)=true by rw[decide_eq_true_eq];exact h,hw];simp only[Bool.true_and];unfold decG
 have key:∀(f:Nat) (r:Int),r<=1+(g.chos.length:Int)->decF g.chos (fun p=>yI (g.pats.getD p []) s) f r=decF g.chos (fun p=>(mtsW g.pats s).getD p false) f r:=by
  intro f
  induction f with
  | zero=>exact fun r _=>rfl
  | succ f ih =>
   intro r hr;rw[decF,decF]
   split
   ·rfl
   ·rename_i h2
    have hc:=rJ (h6 (r.toNat-2) (by omega));have e:yI (g.pats.getD (g.chos.getD (r.toNat-2) default).p.toNat []) s=(mtsW g.pats s).getD (g.chos.getD (r.toNat-2) default).p.toNat false:=(mtsW_get (by omega)).symm;rw[e]
    split
    ·exact ih _ (by omega)
    ·exact ih _ (by omega)
 exact key _ _ h8
theorem rholds34_any (B:Nat)(w:World)(v:Value)(g:DiaV)(s:ByteArray)(hB:B<=w.heap.size)(h:oC B w v g)(hs:s.size<=maxLen):Calls Try.prog 12 #[v,.string s] w fun e w'=>e=.returned (.bool (diaH g s))/\w.grownBy w' none:=by
 obtain⟨pv,cv,rfl,hp,hc⟩:=h;obtain⟨ps,cs,root⟩:=g;simp only at hp hc⊢;have h1:=Ga w (.cells #[pv,cv,.int .i64 root] 25) none;have h4:=heap_alloc_new w (.cells #[pv,cv,.int .i64 root] 25);obtain⟨wA,H1⟩:∃w1,w1=w.alloc (.cells #[pv,cv,.int .i64 root] 25):=⟨_,rfl⟩;obtain⟨P,hP⟩:∃P,P=w.heap.size:=⟨_,rfl⟩;rw[<-H1]at h1 h4;rw[<-hP]at h4;have H2:=Kh H1;have H3:=Kh hP;have H4:=Kh h1;have a2:=Kh h4;have HP:=Kh (hp.kept h1 (by simp));have HC:=Kh (hc.kept h1 (by simp));have a3:=h1.size
 have HV:Hid (∀W:World,wA.grownBy W none->Calls Try.prog 10 #[.agg #[pv,cv,.int .i64 root],.int .i64 6] W fun e w'=>e=.returned (.int .i64 (diaE ⟨ps,cs,root⟩ 6))/\wA.grownBy w' none):=Kh (fun W hW =>
  (iT B W _ ⟨ps,cs,root⟩ 6 (by have:=hW.size;omega) ⟨pv,cv,rfl,HP.out.kept hW (by simp),HC.out.kept hW (by simp)⟩).mono fun e w' ⟨he,hg⟩=>⟨he,zD hW hg⟩)
 have H0:Hid (∀W:World,wA.grownBy W none->Calls Try.prog 43 #[.string s,.int .i64 6] W fun e w'=>e=.returned (.bool (zU s 6))/\wA.grownBy w' none):=Kh (fun W hW=>(oG s 6 W hs).mono fun e w' ⟨he,hg⟩=>⟨he,by rw[<-hg];exact hW⟩);have a1:Hid (∀W:World,wA.grownBy W none->W.cell? ⟨P,0,none⟩=some pv/\W.cell? ⟨P,1,none⟩=some cv/\W.cell? ⟨P,2,none⟩=some (.int .i64 root)):=Kh (fun W hW=>zN (zB a2.out hW (by simp)));obtain⟨p0,p1,p2⟩:=zN h4;have GA:wA.grownBy wA.drew none:=zO _ _;clear h4 h1 H1 hP hp hc;by_cases hE:diaE ⟨ps,cs,root⟩ 6=0
 case neg =>
  have HR:=Kh (diaH_no (s:=s) hE);obtain⟨E,H6⟩:∃E,E=diaE ⟨ps,cs,root⟩ 6:=⟨_,rfl⟩;rw[<-H6]at HV hE;have e1:(E == 0)=false:=by rw[beq_eq_false_iff_ne];exact hE
  clear H6;go_enter Try.func12,Try.ntmps12;go_upto_region 1 with fail;rw[<-H2.out,<-H3.out]
  first|go_region_law (first|(go_simp;go_at_call 10;(with_reducible refine(HV.out _ (by first|assumption|exact zH _ _)).mono ?_);rintro e w7 ⟨rfl,h9⟩)|(go_simp;go_at_call 43;(with_reducible refine(H0.out _ (by assumption)).mono ?_);rintro e w8 ⟨rfl,h5⟩;have h9:=h5)|fail)|fail
  all_goals
   go_wp2;go_ret;exact⟨yA HR.out.symm,zA H4.out (by assumption) (by simp)⟩
 obtain⟨vb,h2⟩:∃b,b=zU s 6:=⟨_,rfl⟩;rw[hE]at HV;rw[<-h2]at H0;cases vb with
 | false =>
  have HR:=Kh (diaH_word (g:=⟨ps,cs,root⟩) h2.symm);clear h2 hE;go_enter Try.func12,Try.ntmps12;go_upto_region 1 with fail;rw[<-H2.out,<-H3.out]
  first|go_region_law (first|(go_simp;go_at_call 10;(with_reducible refine(HV.out _ (by first|assumption|exact zH _ _)).mono ?_);rintro e w7 ⟨rfl,h9⟩)|(go_simp;go_at_call 43;(with_reducible refine(H0.out _ (by assumption)).mono ?_);rintro e w8 ⟨rfl,h5⟩;have h9:=h5)|fail)|fail
  all_goals
   go_wp2;go_ret;exact⟨yA HR.out.symm,zA H4.out (by assumption) (by simp)⟩
 | true =>
  have HR:=Kh (diaH_yes (g:=⟨ps,cs,root⟩) hE h2.symm);obtain⟨_,_,h3,_,_,h6,h7,h8⟩:=jM hE;simp only at h3 h6 h7 h8;obtain⟨n,hn⟩:∃n,n=ps.length:=⟨_,rfl⟩
  have HM:Hid (∀W:World,wA.grownBy W none->Calls Try.prog 24 #[pv,.string s] W fun e w'=>∃sa sc,e=.returned (.slice sa n sc)/\Row w'.heap.size w' (.slice sa n sc) (bls (mtsW ps s))/\wA.grownBy w' none):=Kh (fun W hW=>by
   rw[hn]
   exact(rmatched_any B W pv ps s (by have:=hW.size;omega) (HP.out.kept hW (by simp)) (by omega) hs).mono fun e w' ⟨sa,sc,he,ho,hg⟩=>⟨sa,sc,he,Row.of_owns ho,zD hW hg⟩)
  have H7:Hid (∀(W:World) (sa:Option Addr) (sc:Nat),wA.grownBy W none->Row W.heap.size W (.slice sa n sc) (bls (mtsW ps s))->Calls Try.prog 44 #[.agg #[pv,cv,.int .i64 root],.slice sa n sc] W fun e w'=>e=.returned (.bool (decG cs (fun p=>(mtsW ps s).getD p false) root))/\wA.grownBy w' none):=Kh (fun W sa sc hW hr =>
   (fQ W.heap.size W _ ⟨ps,cs,root⟩ _ (mtsW ps s) (oC.mono (B:=B) ⟨pv,cv,rfl,HP.out.kept hW (by simp),HC.out.kept hW (by simp)⟩ (by have:=hW.size;omega)) h6 h7 h8 (by rw[eI];exact Nat.le_refl _) hr).mono fun e w' ⟨he,hg⟩=>⟨he,zD hW hg⟩)
  obtain⟨ans,h0⟩:∃b,b=decG cs (fun p=>(mtsW ps s).getD p false) root:=⟨_,rfl⟩;rw[<-h0]at H7;have a0:Hid (diaH ⟨ps,cs,root⟩ s=ans):=Kh (by rw[HR.out,h0]);clear h2 hE h0 HR h3 h6 h7 h8 hn;go_enter Try.func12,Try.ntmps12;go_upto_region 1 with fail;rw[<-H2.out,<-H3.out]
  go_region_held3 (fun w'=>w'.cell? ⟨P,0,none⟩=some pv/\w'.cell? ⟨P,1,none⟩=some cv/\w'.cell? ⟨P,2,none⟩=some (.int .i64 root))
   (first|go_keep|exact a1.out _ (by assumption)|fail)
   (first|(go_at_call 10;(with_reducible refine(HV.out _ (by assumption)).mono ?_);rintro e w7 ⟨rfl,h9⟩)|(go_at_call 43;(with_reducible refine(H0.out _ (by assumption)).mono ?_);rintro e w8 ⟨rfl,h5⟩)|(go_at_call 24;(with_reducible refine(HM.out _ (by assumption)).mono ?_);rintro e w9 ⟨sa9,sc9,rfl,H5,a4⟩;have H9:=Kh H5;clear H5)|(go_at_call 44;(with_reducible refine(H7.out _ _ _ (by assumption) H9.out).mono ?_);rintro e w10 ⟨rfl,H8⟩)|fail)
  all_goals
   go_wp2;go_ret;exact⟨yA a0.out.symm,zA H4.out (by assumption) (by simp)⟩
open Go.Maps
theorem zeroD_bad:wI jV≠0:=by decide
theorem qGA.t34 {w w':World}{v:Value}{m:DfaV}{n k:Nat}(h:qGA w w' v m)(hd:VD m n k):∃f nx,v=.agg #[.int .i64 m.letters,.int .i64 m.start,f,nx]/\DfaT w' f nx m:=by
 obtain⟨o,hs,sf,cf,sn,cn,rfl,_,hh⟩:=h;have hb:=hh.built (by rw[hd.hn,hd.nl]);exact⟨_,_,rfl,hs,RowT.of_owns hb.ownF,RowT.of_owns hb.ownN,hb.rows⟩
theorem tape_otherD {B:Nat}{w:World}{tb:Nat}(h:xL B w tb):∀k,some tb=some k->zX w 4 k/\zX w 34 k/\zX w 3 k:=fun k e=>by
 have e:tb=k:=Oj e
 subst e
 obtain⟨sl,zs,n,hb,_⟩:=h
 exact⟨⟨_,_,_,hb,by decide⟩,⟨_,_,_,hb,by decide⟩,⟨_,_,_,hb,by decide⟩⟩
def DfaK (k:Nat)(m:DfaV):Prop:=m=jV\/m.letters=(k:Int)
theorem dY.k {g:DiaV}{k:Nat}{E:Int}{m:DfaV}(h:dY g (k:Int) E m):DfaK k m:=by
 by_cases hE:E=0
 ·subst hE
  obtain⟨k',hk,h1,h6,L,hL,_,rfl,_⟩:=h.ok;have h0:k=k':=by omega
  subst h0;exact .inr (diaM_vd h1 h6 hL).hk
 ·exact .inl (h.err hE)
theorem of_zero {w':World}{d:DfaV}{ps:List (List ByteArray)}{v:Value}{u1 u2:ByteArray}{E:Int}(h:OfOut w' d ps v u1 u2 E)(hE:E=0):ofE d ps=0/\∃(g:DiaV) (l:List ClaV) (L:List (List Nat)),BfsD (nxtT (ofT d ps)) d.letters.toNat (st0T (ofT d ps)) L/\L.length<=4000/\oC w'.heap.size w' v g/\g.pats=ps/\wH ps.length g.chos g.chos.length/\0<=g.root/\g.root<=1+(g.chos.length:Int)/\(∀u,yO d.letters.toNat u->decG g.chos (fun i=>acc (xH (ps.getD i []) d.letters) (st0 (xH (ps.getD i []) d.letters)) u) g.root=acc d (st0 d) u)/\ClsI (MT (ofT d ps) ps.length L) (AT (ofT d ps) ps.length L) L.length L.length l/\g.chos.length+1<=l.length:=by
 cases h with
 | bad h=>exact absurd hE h
 | over h ho=>cases hE
 | conf h hu hc u v h1 h2 h3 h4 h5 h6 h7=>cases hE
 | ok v g l L h hL hl4 hn hg h1 h2 h3 h4 h5 hc h6=>exact⟨h,g,l,L,hL,hl4,hg,h1,h2,h3,h4,h5,hc,h6⟩
theorem chos_none {g:DiaV}(h:wH 0 g.chos g.chos.length):g.chos.length=0:=by
 rcases Nat.eq_zero_or_pos g.chos.length with h0|h0
 ·exact h0
 ·have:=rJ (h 0 h0);omega
theorem mul_room {g:DiaV}{pl cl:Nat}(h:wH pl g.chos g.chos.length)(h6:g.chos.length+1<=cl):g.chos.length<=pl*cl:=by
 rcases Nat.eq_zero_or_pos pl with h0|h0
 ·subst h0;rw[chos_none h];exact Nat.zero_le _
 ·have:1*cl<=pl*cl:=Nat.mul_le_mul_right _ h0
  omega
theorem mul_num {pl cl:Nat}(h1:pl<=300)(h2:cl<=4000):wrap64 ((pl:Int)*(cl:Int))=((pl*cl:Nat):Int)/\IntKind.i64.wrap ((pl:Int)*(cl:Int))=((pl*cl:Nat):Int)/\pl*cl<=1200000:=by
 have h3:pl*cl<=300*4000:=Nat.mul_le_mul h1 h2;have e:(pl:Int)*(cl:Int)=((pl*cl:Nat):Int):=by push_cast;rfl
 rw[e];exact⟨IntWalk.wrap64_in _ (by omega),tW (by omega),by omega⟩
def CofD (w:World)(R:Nat)(k:Nat)(ml ms:Int)(fa na:Option Addr)(mf fc mn nc:Nat)(m:DfaV):Prop :=
 w.heap[R]?=some (.cells #[.int .i64 ml,.int .i64 ms,.slice fa mf fc,.slice na mn nc] 42 (0,0))/\tE w.heap.size w (.agg #[.int .i64 ml,.int .i64 ms,.slice fa mf fc,.slice na mn nc]) m/\DfaK k m
theorem combineOf_walk (w:World)(v0:Value)(z0:List Int)(h0:Row w.heap.size w v0 (z0.map (Value.int .i64)))(hL:SomeLen w):Calls Try.prog 4 #[v0] w fun e w'=>e=.returned (.bool true)/\w.grownBy w' none:=by
 have HL:=Kh hL;clear hL;go_enter Try.func4,Try.ntmps4;go_wp2_with fail;refine(new_any w.heap.size w v0 z0 h0 (Nat.le_refl _)).mono ?_;rintro e w1 ⟨rfl,l6,l0⟩;go_wp2_with fail;refine(wW w.heap.size w.heap.size w1 2 (by omega) l6).mono ?_;rintro e w2 ⟨r,rfl,x0,j9,l5,k9⟩;replace j9:=j9 (by omega);have GW2:=Kh (zA l0 k9 (by simp));obtain⟨k,hk⟩:∃k:Nat,1+r=(k:Int):=⟨(1+r).toNat,by omega⟩;have d5:1<=k:=by omega
 have g2:k<=2:=by omega
 have n6:=Kh (family34_any w.heap.size w.heap.size w2 k d5 g2 l5);clear l6 l0 l5 k9;go_wp2_with fail;refine n6.out.mono ?_;rintro e w3 ⟨pv,L,rfl,hF,i2,k8⟩;obtain⟨_,_,_,_,pa,pc,rfl⟩:=id hF;have n9:=Kh hF;have GW3:=Kh (zA GW2.out k8 (fun j e=>by have e:w.heap.size=j:=Oj e;omega));have o3:=Kh (many_any w.heap.size w.heap.size w3 k 3 d5 g2 (by omega) (by omega) i2);have m3:=Kh i2;clear n6 k8 hF i2;go_wp2_with fail;refine o3.out.mono ?_;rintro e w4 ⟨dv,m,n,rfl,b7,H6,x5,-,i1,g5⟩;obtain⟨f4,n4,rfl,g8⟩:=b7.t34 H6;obtain⟨fa,mf,fc,na,mn,nc,rfl,rfl⟩:=g8.shapes;have GW4:=Kh (zA GW3.out g5 (fun j e=>by have e:w.heap.size=j:=Oj e;omega));have j4:=Kh (n9.out.kept g5 (mQ m3.out));obtain⟨ml,a0⟩:∃x,x=m.letters:=⟨_,rfl⟩;obtain⟨ms,H9⟩:∃x,x=m.start:=⟨_,rfl⟩;rw[<-a0,<-H9];have r6:Hid (DfaK k m):=Kh (.inr H6.hk);have r4:=Kh a0;have r1:=Kh H9;have e0:=heap_alloc_new w4 (.cells #[.int .i64 ml,.int .i64 ms,.slice fa mf fc,.slice na mn nc] 42);have b3:=Ga w4 (.cells #[.int .i64 ml,.int .i64 ms,.slice fa mf fc,.slice na mn nc] 42) none;obtain⟨w5,d4⟩:∃w5,w5=w4.alloc (.cells #[.int .i64 ml,.int .i64 ms,.slice fa mf fc,.slice na mn nc] 42):=⟨_,rfl⟩;obtain⟨R,hR⟩:∃R,R=w4.heap.size:=⟨_,rfl⟩;have l8:Hid (w5.heap.size=R+1):=Kh (by rw[d4,zL,hR]);rw[<-d4]at e0 b3;rw[<-hR]at e0;have p9:=Kh d4;have q9:=Kh hR;have t4:=Kh e0;have GW5:=Kh (zA GW4.out b3 (by simp));have i3:=Kh (i1.kept b3 (by simp));have n8:=Kh (j4.out.kept b3 (by simp));have t2:=Kh (g8.kept b3 (by simp));obtain⟨pl,H8⟩:∃pl,pl=L.length:=⟨_,rfl⟩;rw[<-H8]at n8⊢;have f8:pl<=300:=by have:=(kG j4.out.1).1;rw[uH]at this;omega
 have i4:=Kh H8;have t8:w.heap.size<R:=by have:=i1.lt;omega
 clear b7 H6 g8 i1 g5 a0 H9 e0 b3 d4 hR o3 m3 H8 n9 j4;go_upto_region 5 with fail;rw[<-p9.out,<-q9.out];go_wp2_with fail;refine(wW w.heap.size w.heap.size w5 2 (by omega) i3.out).mono ?_;rintro e w6 ⟨r2,rfl,f7,f6,l4,H4⟩;have GW6:=Kh (zA GW5.out H4 (fun j e=>by have e:w.heap.size=j:=Oj e;omega));have o2:=Kh (zB t4.out H4 (fun e=>by have:=Oj e;omega));have n7:=Kh (n8.out.kept H4 (mQ i3.out));have t1:=Kh (t2.out.kept H4 (tape_otherD i3.out));have m2:=Kh l4;have p5:Hid (R+1<=w6.heap.size):=Kh (by have:=H4.size;have:=l8.out;omega);clear l4 H4 f7 f6
 go_upto_if 30 with fail
 go_cut [7,8] (fun s7 s8 wx=>∃(m:DfaV) (ml ms:Int) (fa na:Option Addr) (mf fc mn nc:Nat),CofD wx R k ml ms fa na mf fc mn nc m/\FamD wx (.slice pa pl pc) L/\w.grownBy wx none)
 case first =>
  by_cases hr:r2=1
  ·have e1:(r2 == 1)=true:=by rw[hr];rfl
   go_wp2_with fail;refine(wW w.heap.size w.heap.size w6 2 (by omega) m2.out).mono ?_;rintro e w7 ⟨r3,rfl,f5,e9,i0,H1⟩;have GW7:=Kh (zA GW6.out H1 (fun j e=>by have e:w.heap.size=j:=Oj e;omega));have j6:=Kh (zB o2.out H1 (fun e=>by have:=Oj e;omega));have s6:=Kh (n7.out.kept H1 (mQ m2.out));have p4:Hid (R+1<=w7.heap.size):=Kh (Nat.le_trans p5.out H1.size);have d8:=heap_alloc_new w7 (.cells #[.slice pa pl pc,.slice none 0 0,.int .i64 r3] 25);have H3:=Ga w7 (.cells #[.slice pa pl pc,.slice none 0 0,.int .i64 r3] 25) none;obtain⟨w8,d3⟩:∃w8,w8=w7.alloc (.cells #[.slice pa pl pc,.slice none 0 0,.int .i64 r3] 25):=⟨_,rfl⟩;obtain⟨P,hP⟩:∃P,P=w7.heap.size:=⟨_,rfl⟩;have o4:w8.heap.size=P+1:=by rw[d3,zL,hP]
   rw[<-d3]at d8 H3;rw[<-hP]at d8;have p7:=Kh d3;have e3:=Kh hP;have e6:=Kh d8;have n5:Hid (w7.grownBy w8 (some w.heap.size)):=Kh (xM H3);have q6:=Kh i0;have m1:=Kh (i0.kept H3 (by simp));have t9:w.heap.size<P/\R<P:=(by have:=p4.out;omega);have m7:Hid (w8.ownsRow (P+1) 45 3 (.slice none 0 0) 0 (sJ [])):=Kh (World.ownsRow_nil _ _ _ _);have q5:Hid (∀W:World,w7.grownBy W (some w.heap.size)->FamD W (.slice pa pl pc) L/\W.heap[R]?=some (.cells #[.int .i64 ml,.int .i64 ms,.slice fa mf fc,.slice na mn nc] 42 (0,0))/\w.grownBy W none):=Kh (fun W hW=>⟨s6.out.kept hW (mQ q6.out),zB j6.out hW (fun e=>by have:=Oj e;omega),zA GW7.out hW (fun j e=>by have e:w.heap.size=j:=Oj e;omega)⟩);clear i0 H1 f5 e9 d3 hP d8 H3 o4;go_upto_region 7 with fail;rw[<-p7.out,<-e3.out];go_wp2
   go_loopg [8] pl (fun gh v8 wr=>∃(i rt:Int) (q cc:Nat) (sc:Option Addr) (cs:List ChoV),v8=.int .i64 i/\-1<=i/\i<pl/\(gh:Int)=i+1/\q<=8/\cs.length=q/\wr.heap[P]?=some (.cells #[.slice pa pl pc,.slice sc q cc,.int .i64 rt] 25 (0,0))/\wr.ownsRow (P+1) 45 3 (.slice sc q cc) q (sJ cs)/\xL w.heap.size wr w.heap.size/\w7.grownBy wr (some w.heap.size))
   case atStart=>exact⟨(pl:Int)-1,r3,0,0,none,[],by go_num,by omega,by omega,by omega,by omega,rfl,e6.out,m7.out,m1.out,n5.out⟩
   case round =>
    clear m7 e6 m1 n5;obtain⟨i,rt,q,cc,sc,cs,rfl,x7,x6,b9,x3,c7,hb,ho,hT,hg⟩:=hrel;have e4:=Kh b9;have o0:=Kh c7;have HB:=Kh hb;have HO:=Kh ho;have HT:=Kh hT;have HG:=Kh hg;obtain⟨b0,b1,b2⟩:=zN hb;have y0:=zK hb;clear b9 c7 hb ho hT hg;by_cases hgo:0<=i/\q<8
    ·obtain⟨hi,hq⟩:=hgo
     have x4:(q:Int)<8:=(by omega);go_upto_region 10 with fail;clear b0 b1 b2;refine co_reg10 (P:=P) (tb:=w.heap.size) (B:=w.heap.size) (base:=P+1) (m:=q) (cs:=cs) (i:=i) (pv:=.slice pa pl pc) (rv:=.int .i64 rt) HB.out HO.out HT.out ⟨by omega,by omega⟩ (by omega) (by omega) (by omega) (by omega) ?_;intro z48 z49 z50 z51 z52 z53 z54 z55 z56 z57 z58 z59 z60 z61 z62 z63 z64 z65 z66 sc' cc' y n wa wb wc k7 k6 k5 o6 o5 o8 g1 c8 k2 l7;have t5:=Kh c8;have m9:=Kh k2;have q7:=Kh l7
     have s4:Hid (w7.grownBy wc (some w.heap.size)):=Kh (by
      refine xZ (xZ (xZ HG.out k7 (.inr (.inl rfl)) (.inr (.inl rfl))) k6 (.inr (.inl rfl)) ?_) k5 (.inr (.inl rfl)) (.inr (.inr ⟨P,rfl,by have:=e3.out;omega⟩));rcases hv:(Value.slice sc q cc).ownBlock with _|j
      ·exact .inl rfl
      ·exact .inr (.inr ⟨j,rfl,by have:=(HO.out.lt j hv).1;have:=e3.out;omega⟩))
     obtain⟨b0,b1,b2⟩:=zN c8;have f2:=zE c8 2;have y1:=zK c8;clear k7 k6 k5 o6 o5 o8 g1 c8 k2 l7;go_wp2;go_roundg (i.toNat)
     case measure=>have:=e4.out;omega
     case rel=>exact⟨i-1,_,q+1,cc',sc',cs++[⟨i,y,n⟩],by go_num,by omega,by omega,by omega,by omega,by rw[List.length_append,o0.out];rfl,heap_setCell_same wc P 2 _ _ _ t5.out,m9.out.kept (zC wc ⟨P,2,none⟩ _) (.inr (fun e=>by have:=(m9.out.lt P e).1;omega)),q7.out.kept (zC wc ⟨P,2,none⟩ _) (fun j e=>by have e:P=j:=Oj e;omega),xZ s4.out (zC wc ⟨P,2,none⟩ _) (.inr (.inl rfl)) (.inr (.inr ⟨P,rfl,by have:=e3.out;omega⟩))⟩
    ·have hc:¬0<=i\/(0<=i/\¬(q:Int)<8):=by omega
     obtain⟨d7,a6,b8⟩:=q5.out wr HG.out;have s5:=Kh d7;have e5:=Kh a6;have b4:=Kh b8;have t0:Hid (oC wr.heap.size wr (.agg #[.slice pa pl pc,.slice sc q cc,.int .i64 rt]) ⟨famB L,cs,rt⟩):=Kh ⟨_,_,rfl,d7.pats,gD (by have:=HO.out;rw[<-o0.out]at this⊢;exact this) (Nat.le_refl _)⟩;have m4:=Kh (rdia_any wr.heap.size wr _ ⟨famB L,cs,rt⟩ (k:Int) (Nat.le_refl _) t0.out (by rw[uH,<-i4.out];omega) (fun p hp _=>by have:=(kG d7.1).2 p hp;omega));have x8:=zK a6;clear d7 a6 b8 hgo;rcases hc with hc|⟨hc,hc2⟩
     all_goals
      go_wp2_with fail;refine m4.out.mono ?_;rintro e w9 ⟨E,m',⟨f',nx',rfl,g7,H2⟩,H0⟩;obtain⟨fa',mf',fc',na',mn',nc',rfl,rfl⟩:=g7.shapes;have r7:=Kh H0.k;have h7:=Kh (zB e5.out H2 (by simp));have j2:=Kh (s5.out.kept H2 (by simp));have i9:=Kh (zA b4.out H2 (by simp));have s9:=Kh g7;obtain⟨ml',a0⟩:∃x,x=m'.letters:=⟨_,rfl⟩;obtain⟨ms',H9⟩:∃x,x=m'.start:=⟨_,rfl⟩;rw[<-a0,<-H9];have i8:=Kh a0;have i6:=Kh H9;have f0:=zE h7.out 0;have f1:=zE h7.out 1;have f2:=zE h7.out 2;have f3:=zE h7.out 3;obtain⟨q0,q1,q2,q3⟩:=zF h7.out;have x9:=zK h7.out;clear H0 H2 g7 a0 H9 b0 b1 b2 m4;go_wp2;obtain⟨p1,g3⟩:=wF h7.out (.int .i64 ml') (.int .i64 ms') (.slice fa' mf' fc') (.slice na' mn' nc')
      go_meet
      have k1:∀j,some R=some j->(zX w9 4 j/\zX w9 34 j/\zX w9 3 j)/\(zX w9 28 j/\zX w9 9 j):=fun j e=>by
       have e:R=j:=Oj e;subst e;exact⟨⟨⟨_,_,_,h7.out,by decide⟩,⟨_,_,_,h7.out,by decide⟩,⟨_,_,_,h7.out,by decide⟩⟩,⟨_,_,_,h7.out,by decide⟩,⟨_,_,_,h7.out,by decide⟩⟩
      exact⟨m',ml',ms',fa',na',mf',fc',mn',nc',⟨p1,qFM (s9.out.kept g3 (fun j e=>(k1 j e).1)) i8.out i6.out,r7.out⟩,j2.out.kept g3 (fun j e=>(k1 j e).2),zA i9.out g3 (fun j e=>by have e:R=j:=Oj e;have:=GW5.out.size;have:=l8.out;omega)⟩
  ·have e1:(r2 == 1)=false:=by rw[beq_eq_false_iff_ne];exact hr
   go_wp2
   go_meet
   exact⟨m,ml,ms,fa,na,mf,fc,mn,nc,⟨o2.out,qFM t1.out r4.out r1.out,r6.out⟩,n7.out,GW6.out⟩
 case rest =>
  obtain⟨m,ml,ms,fa,na,mf,fc,mn,nc,⟨a6,a4,a3⟩,H5,b8⟩:=hcut;have e5:=Kh a6;have d1:=Kh a4;have r5:=Kh a3;have j3:=Kh H5;have b4:=Kh b8;have l1:=kG H5.1;obtain⟨ps,b6⟩:∃ps,ps=famB L:=⟨_,rfl⟩;have k0:ps.length=pl:=by rw[b6,uH];exact i4.out.symm
  have m5:=Kh b6;have i5:Hid (vS wc.heap.size wc (.slice pa pl pc) ps):=Kh (by rw[b6];exact H5.pats);have m6:=Kh k0;have m8:=Kh (qHL wc.heap.size wc _ _ m ps (Nat.le_refl _) a4 i5.out (by omega));have o1:Hid (∀W:World,wc.grownBy W none->Calls Try.prog 20 #[.agg #[.int .i64 ml,.int .i64 ms,.slice fa mf fc,.slice na mn nc],.slice pa pl pc] W (qJK W m ps)):=Kh (fun W hW=>rcan_any wc.heap.size W _ _ m ps hW.size (d1.out.kept hW (by simp)) (i5.out.kept hW (by simp)) (by omega) (fun p hp _=>by rw[b6]at hp;have:=l1.2 p hp;omega));obtain⟨c0,c1,c2,c3⟩:=zF a6;clear a6 a4 a3 H5 b8 l1 b6 k0;go_wp2_with fail;refine m8.out.mono ?_;rintro e w6 ⟨v6,s1,s2,E,rfl,H0,H4⟩;obtain⟨⟨ap,n1,cp,ac,n2,cc,rt,rfl⟩,-⟩:=of_cases H0;have c9:=Kh H0;have d9:=heap_alloc_new w6 (.cells #[.slice ap n1 cp,.slice ac n2 cc,.int .i64 rt] 25);have H1:=Ga w6 (.cells #[.slice ap n1 cp,.slice ac n2 cc,.int .i64 rt] 25) none;obtain⟨w7,e7⟩:∃w7,w7=w6.alloc (.cells #[.slice ap n1 cp,.slice ac n2 cc,.int .i64 rt] 25):=⟨_,rfl⟩;obtain⟨X,hX⟩:∃X,X=w6.heap.size:=⟨_,rfl⟩;rw[<-e7]at d9 H1;rw[<-hX]at d9;have p8:=Kh e7;have p6:=Kh hX;have j0:=Kh H1;have a7:=Kh (zD H4 H1);have j6:=Kh d9;have n0:Hid (∀W:World,wc.grownBy W none->Calls Try.prog 13 #[] W fun e w'=>e=.returned (.bool true)/\wc.grownBy w' none):=Kh (fun W hW=>(known34_any W (HL.out.kept (zA b4.out hW (by simp)) (by simp))).mono fun e w' h=>⟨h.1,zD hW h.2⟩);clear H0 H4 d9 H1 e7 hX m8 c0 c1 c2 c3;go_upto_region 14 with fail;rw[<-p8.out,<-p6.out];obtain⟨c0,c1,c2,c3⟩:=zF (zB e5.out a7.out (by simp));go_wp2_with fail;refine(o1.out _ a7.out).mono ?_;rintro e w8 ⟨cn,F,rfl,H3,a5⟩;have p3:=of_can c9.out a5;subst p3;have j5:=Kh a5;have h8:=Kh (zD a7.out H3);have e6:=Kh (zB j6.out H3 (by simp));have a8:=Kh (zD j0.out H3);have e1:(E != E)=false:=by simp
  clear a5 H3 c0 c1 c2 c3 o1;by_cases hE:E=0
  case neg =>
   have e2:(E != 0)=true:=by rw[bne_iff_ne];exact hE
   go_wp2_with fail;refine(n0.out _ h8.out).mono ?_;rintro e w9 ⟨rfl,H2⟩;go_wp2;go_ret;exact⟨rfl,zA b4.out H2 (by simp)⟩
  case pos =>
   obtain⟨ho,g,l,LS,hL,k4,l2,h1,h2,h3,h4,h5,hc,h6⟩:=of_zero c9.out hE;subst hE;have H7:=(qX ho).1
   have a3:m.letters=(k:Int):=by
    rcases r5.out with h|h
    ·exact absurd (by rw[<-h];exact H7) zeroD_bad
    ·exact h
   have H6:=aG H7;have hn:=cls_can hL k4 hc ho j5.out;have o9:=hc.len_le;have g4:g.chos.length<=20000:=by omega
   have c6:=qIT ho h1 h2 h3 h4 g4;have r8:Hid (∀s,zU s (k:Int)=true->diaH g s=acc m (st0 m) (zJ s)):=Kh (fun s hs=>qER ho h1 h2 h3 h4 g4 h5 (by rw[a3];exact hs));have a9:=Kh (l2.kept a8.out (by simp));obtain⟨pv8,cv8,ev8,f9,l3⟩:=a9.out;cases ev8
   have g1:n1=pl:=by
    obtain⟨a,c,e⟩:=f9.shape;simp only[Value.slice.injEq]at e;rw[e.2.1,h1];exact m6.out
   have k3:n2=g.chos.length:=by
    obtain⟨a,c,e⟩:=l3.shape;simp only[Value.slice.injEq]at e;exact e.2.1
   subst g1
   have q4:Hid (Calls Try.prog 9 #[.agg #[.slice ap n1 cp,.slice ac n2 cc,.int .i64 g.root],.int .i64 (k:Int)] w8 fun e w'=>e=.returned (.int .i64 0)/\w8.grownBy w' none):=Kh (by
    have:=bZ w6.heap.size w8 _ g (k:Int) a8.out.size a9.out;have hz:diaE g (k:Int)=0:=by rw[<-a3];exact c6.2
    rw[hz]at this
    exact this)
   have q8:Hid (∀W:World,w8.grownBy W none->Calls Try.prog 21 #[.slice ap n1 cp,.slice pa n1 pc] W fun e w'=>e=.returned (.bool true)/\w8.grownBy w' none):=Kh (fun W hW=>by
    have q1:=f9.kept hW (by simp);have q2:=(i5.out.kept h8.out (by simp)).kept hW (by simp);rw[h1,m5.out]at q1;rw[m5.out]at q2;refine(same_pats _ _ W _ _ L q1 q2 (by rw[<-i4.out];omega) (fun p hp=>?_)).mono fun e w' ⟨he,m,hm⟩=>⟨he,by rw[hm];exact zD hW (zM _ _ none)⟩;have h9:=j3.out.1;simp only[qGD,Bool.and_eq_true,decide_eq_true_eq,List.all_eq_true]at h9;have:=(h9.2 p hp).2
    omega)
   have t6:Hid (∀(W:World) (s:ByteArray),w8.grownBy W none->zU s (k:Int)=true->Calls Try.prog 23 #[.agg #[.int .i64 ml,.int .i64 ms,.slice fa mf fc,.slice na mn nc],.string s] W fun e w'=>e=.returned (.bool (acc m (st0 m) (zJ s)))/\W.grownBy w' none):=Kh (fun W s hW hs=>by
    have h9:=raccepts_any wc.heap.size W _ m _ _ s (Nat.le_trans h8.out.size hW.size) ((d1.out.kept h8.out (by simp)).kept hW (by simp)) H6 (by rw[<-H6.hk,a3];exact hs)
    exact h9)
   have i7:Hid (n2<=n1*l.length):=Kh (by rw[k3];exact mul_room (by have:=h2;rw[m6.out]at this;exact this) h6);obtain⟨cl,c7⟩:∃cl,cl=l.length:=⟨_,rfl⟩;have g9:cl<=4000:=by omega
   rw[<-c7]at i7 hn;obtain⟨em1,em2,em3⟩:=mul_num f8 g9;obtain⟨M,hM⟩:∃M,M=n1*cl:=⟨_,rfl⟩;rw[<-hM]at em1 em2 em3 i7;have p2:¬(M:Int)<n2:=Int.not_lt.2 (Int.ofNat_le.2 i7.out);subst hn;have s3:Hid (w.grownBy w8 none):=Kh (zA b4.out h8.out (by simp));have d2:Hid (∀W:World,w8.grownBy W none->(W.cell? ⟨X,0,none⟩=some (.slice ap n1 cp)/\W.cell? ⟨X,1,none⟩=some (.slice ac n2 cc)/\W.cell? ⟨X,2,none⟩=some (.int .i64 g.root))/\(W.cell? ⟨R,0,none⟩=some (.int .i64 ml)/\W.cell? ⟨R,1,none⟩=some (.int .i64 ms)/\W.cell? ⟨R,2,none⟩=some (.slice fa mf fc)/\W.cell? ⟨R,3,none⟩=some (.slice na mn nc))):=Kh (fun W hW=>⟨zN (zB e6.out hW (by simp)),zF (zB e5.out (zD h8.out hW) (by simp))⟩);clear ho hL k4 l2 h1 h2 h3 h4 h5 hc h6 H7 a3 H6 o9 g4 c6 f9 l3 k3 c7 hM;obtain⟨⟨b0,b1,b2⟩,-⟩:=d2.out w8 (zH _ _);go_wp2_with fail;refine q4.out.mono ?_;rintro e w9 ⟨rfl,H2⟩;have n3:=Kh H2;clear H2 b0 b1 b2;obtain⟨⟨b0,b1,b2⟩,-⟩:=d2.out w9 n3.out;go_wp2_with fail;refine(q8.out _ n3.out).mono ?_;rintro e w10 ⟨rfl,c5⟩;have d0:=Kh c5;clear c5 b0 b1 b2;obtain⟨⟨b0,b1,b2⟩,-⟩:=d2.out w10 d0.out;go_wp2_with fail;refine(words2_any w10 k 5 d5 g2 (by omega)).mono ?_;rintro e w11 ⟨ws,sa,sc,rfl,j7,c4,j8⟩;have j1:=Kh (zD d0.out c4);obtain⟨nw,g0⟩:∃n,n=ws.length:=⟨_,rfl⟩;have l9:=Kh j7;have m0:=Kh j8;have r0:=Kh g0;rw[<-g0]at l9⊢;clear j7 c4 j8 g0 b0 b1 b2 em1 em2 p2;go_wp2
   go_loopg [16,122] nw (fun gh v16 v122 wr=>∃i:Nat,gh+i=nw/\v122=.int .i64 i/\w11.grownBy wr none)
   case atStart=>exact⟨0,rfl,rfl,zH _ _⟩
   case round =>
    obtain⟨i,b9,rfl,hg⟩:=hrel;have e4:=Kh b9;have b5:=Kh (zD j1.out hg);have s0:=Kh hg;clear b9;by_cases hi:i<nw
    ·have p0:(i:Int)<nw:=by omega
     obtain⟨wb,rfl,x1,x2,xarr⟩:=yG (zP l9.out hg) (by omega);have d6:i<ws.length:=(by rw[<-r0.out];exact hi);have cx:=xarr.strL i d6;obtain⟨u,hu⟩:∃u,u=ws.getD i []:=⟨_,rfl⟩;rw[<-hu]at cx;have e8:u∈ws:=(by rw[hu,zG d6];exact List.getElem_mem d6);have o7:=m0.out.len u e8;obtain⟨a1,a2⟩:=lets_valid d5 (by omega) (m0.out.ok u e8) (by omega);obtain⟨s,hs⟩:∃s,s=strOfNums (lets u):=⟨_,rfl⟩;rw[<-hs]at cx a1 a2;have q1:sc<=9223372036854775807:=by unfold maxLen at x2;omega
     obtain⟨b,hb⟩:∃b,b=acc m (st0 m) (zJ s):=⟨_,rfl⟩
     have r9:Hid (∀W:World,wr.grownBy W none->Calls Try.prog 12 #[.agg #[.slice ap n1 cp,.slice ac n2 cc,.int .i64 g.root],.string s] W fun e w'=>e=.returned (.bool b)/\wr.grownBy w' none):=Kh (fun W hW=>by
      have h9:=rholds34_any w6.heap.size W _ g s (Nat.le_trans a8.out.size (zD b5.out hW).size) (a9.out.kept (zD b5.out hW) (by simp)) (by have:=(uB a1).2.2;unfold maxLen;omega);rw[r8.out s a1,<-hb]at h9
      exact h9.mono fun e w' h=>⟨h.1,zD hW h.2⟩)
     have t7:Hid (∀W:World,wr.grownBy W none->Calls Try.prog 23 #[.agg #[.int .i64 ml,.int .i64 ms,.slice fa mf fc,.slice na mn nc],.string s] W fun e w'=>e=.returned (.bool b)/\wr.grownBy w' none):=Kh (fun W hW=>by
      have h9:=t6.out W s (zD b5.out hW) a1;rw[<-hb]at h9
      exact h9.mono fun e w' h=>⟨h.1,zD hW h.2⟩)
     have t3:Hid (∀W:World,wr.grownBy W none->(W.cell? ⟨X,0,none⟩=some (.slice ap n1 cp)/\W.cell? ⟨X,1,none⟩=some (.slice ac n2 cc)/\W.cell? ⟨X,2,none⟩=some (.int .i64 g.root))/\(W.cell? ⟨R,0,none⟩=some (.int .i64 ml)/\W.cell? ⟨R,1,none⟩=some (.int .i64 ms)/\W.cell? ⟨R,2,none⟩=some (.slice fa mf fc)/\W.cell? ⟨R,3,none⟩=some (.slice na mn nc))):=Kh (fun W hW=>d2.out W (zD b5.out hW));obtain⟨⟨b0,b1,b2⟩,c0,c1,c2,c3⟩:=d2.out wr b5.out;clear o7 e8 hu hs a1 a2 hb x2 xarr hg d6;go_upto_region 24 with fail
     go_region_held3 (fun W=>(W.cell? ⟨X,0,none⟩=some (.slice ap n1 cp)/\W.cell? ⟨X,1,none⟩=some (.slice ac n2 cc)/\W.cell? ⟨X,2,none⟩=some (.int .i64 g.root))/\(W.cell? ⟨R,0,none⟩=some (.int .i64 ml)/\W.cell? ⟨R,1,none⟩=some (.int .i64 ms)/\W.cell? ⟨R,2,none⟩=some (.slice fa mf fc)/\W.cell? ⟨R,3,none⟩=some (.slice na mn nc)))
      (first|go_keep|exact t3.out _ (by first|assumption|exact zO _ none)|fail)
      (first|(go_at_call 12;(with_reducible refine(r9.out _ (by first|assumption|exact zO _ none)).mono ?_);rintro e w7 ⟨rfl,y3⟩)|(go_at_call 23;(with_reducible refine(t7.out _ (by first|assumption|exact zO _ none)).mono ?_);rintro e w8 ⟨rfl,y2⟩)|fail)
     all_goals
      go_wp2;go_roundg (nw-(i+1))
      case measure=>have:=e4.out;omega
      case rel=>exact⟨i+1,by have:=e4.out;omega,by go_num,zD s0.out (by assumption)⟩
    ·have p0:¬(i:Int)<nw:=by omega
     clear hg;go_wp2_with fail;refine(n0.out _ (zD h8.out b5.out)).mono ?_;rintro e w12 ⟨rfl,g6⟩;go_wp2;go_ret;exact⟨rfl,zA b4.out g6 (by simp)⟩
end Go.Proofs.Ytjfdomfendbhfaa
namespace Go.Proofs.Ytjfdomfendbhfaa
open Go.RowKit
theorem someLen_of_shaped {w:World}(h:w.ShapedOpen Try.prog):SomeLen w:=by
 obtain⟨m,hm⟩:=Go.Proofs.cell_of_shapedOpen_int (P:=Try.prog) (w:=w) (g:=0) (t:=3) (zero:=#[.int .i64 0]) (k:=.i64) h (of_decide_eq_true (by kernel_rfl)) (by kernel_rfl) rfl (by kernel_rfl) (by kernel_rfl) Try.underlying3;exact⟨World.block_lt_of_cell? w _ hm,m,hm⟩
end Go.Proofs.Ytjfdomfendbhfaa
