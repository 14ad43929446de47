/- Part 51 of the proof: KnW, RunD. -/
import Derived.Test.YtjfdomfendbhfaaQe47
set_option linter.unusedVariables false
set_option linter.unusedSimpArgs false
namespace Go.Proofs.Ytjfdomfendbhfaa
open Go.RowKit Go.Maps
theorem qAS:psF.length=7:=by decide +kernel
theorem qAR:psP.length=2:=by decide +kernel
theorem smallF:∀ p∈psFL,∀ u∈p,u.length<=4096:=by decide
theorem smallP:∀ p∈psPL,∀ u∈p,u.length<=4096:=by decide
theorem qBX:acc dK 0 [0,1]=true/\acc dK 0 [1,0]=false/\acc dK 0 [1,1]=false:=by decide +kernel
theorem knF {w':World} {v:Value} {u1 u2:ByteArray} {E:Int} (h:OfOut w' dK psF v u1 u2 E):E=0/\∃ g,qG w'.heap.size w' v g/\∀ s,zP s 2=true->diaH g s=acc dK 0 (zI s):=by
 cases h with
 | bad h=>exact absurd ofEF h
 | over h ho=>exact(iF underF ho).elim
 | conf h hu hc=>exact(noConfF (by rw[<- qAS];exact hc)).elim
 | ok _ g l L h hL hl4 hn hg h1 h2 h3 h4 h5 hc h6=>exact⟨rfl,g,hg,fun s hs=>aE h h1 h2 h3 h4 (by have:=hc.len_le;omega) h5 hs⟩
theorem knP {w':World} {v:Value} {u1 u2:ByteArray} {E:Int} (h:OfOut w' dK psP v u1 u2 E):E=20/\v=.agg #[.slice none 0 0,.slice none 0 0,.int .i64 0]/\∃ u v,u1=strOfNums (lets u)/\u2=strOfNums (lets v)/\zX 2 u/\zX 2 v/\u.length<=4000/\v.length<=4000/\acc dK 0 u=true/\acc dK 0 v=false:=by
 cases h with
 | bad h=>exact absurd ofEP h
 | over h ho=>exact(iF underP ho).elim
 | conf h hu hc u v h1 h2 h3 h4 h5 h6 h7=>exact⟨rfl,rfl,u,v,rfl,rfl,h1,h2,h3,h4,h6,h7⟩
 | ok _ g l L h hL hl4 hn=>exact(hn (by rw[qAR];exact confP)).elim
set_option maxRecDepth 100000 in
set_option maxHeartbeats 1600000 in
theorem jC (w:World) (hL:SomeLen w):Calls Try.prog 13 #[] w fun e w'=>e=.returned (.bool true)/\w.grownBy w' none:=by
 obtain⟨w5,d4,e2,f0,b8⟩:=dK_lit w
 have H8:=Ga w5 (.cells #[.int .i64 2,.int .i64 0,.slice (some ⟨w.heap.size,0,none⟩) 3 3,.slice (some ⟨w.heap.size+1+1+1+1,0,none⟩) 3 3] 42) none
 have H6:=heap_alloc_new w5 (.cells #[.int .i64 2,.int .i64 0,.slice (some ⟨w.heap.size,0,none⟩) 3 3,.slice (some ⟨w.heap.size+1+1+1+1,0,none⟩) 3 3] 42)
 obtain⟨w6,a9⟩:∃ w6,w6=w5.alloc (.cells #[.int .i64 2,.int .i64 0,.slice (some ⟨w.heap.size,0,none⟩) 3 3,.slice (some ⟨w.heap.size+1+1+1+1,0,none⟩) 3 3] 42):=⟨_,rfl⟩
 rw[<- a9]at H8 H6
 obtain⟨fb,b7⟩:∃ b,b=w.heap.size:=⟨_,rfl⟩
 obtain⟨nb,b4⟩:∃ b,b=w.heap.size+1+1+1+1:=⟨_,rfl⟩
 obtain⟨P,hP⟩:∃ b,b=w.heap.size+1+1+1+1+1:=⟨_,rfl⟩
 have f5:=Kh d4;have e3:=Kh a9;have f9:=Kh b7;have f7:=Kh b4;have HP:=Kh hP
 rw[<- b4,<- b7]at b8 H6 e3
 rw[show w5.heap.size=P by omega]at H6
 have e9:=Kh H6
 have HD:=Kh (b8.kept H8 (by simp))
 have e6:=Kh (zB e2 H8 (by simp))
 have HZ:Hid (w5.heap.size<=w6.heap.size):=Kh H8.size
 have HL:=Kh hL
 obtain⟨c0,c1,c2,c3⟩:=zG H6
 clear d4 e2 f0 b8 H8 H6 a9 b7 b4 hP
 go_enter Try.func13,Try.ntmps13
 go_upto_region 2 with fail
 rw[<- f5.out,<- HP.out,<- f7.out,<- f9.out,<- e3.out]
 have e8:Hid (∀ W:World,Calls Try.prog 45 #[.int .i64 5,.int .i64 2,.int .i64 1,.int .i64 0] W (pE W 0 psFL)):=Kh (fun W=>by
  have h:=rfam5_any 2 1 0 W (by decide) (by decide) (by decide) (by decide) rfl
  rw[show famE 5 ((2:Nat):Int) ((1:Nat):Int) ((0:Nat):Int)=0 from famFE,show famL 5 ((2:Nat):Int) ((1:Nat):Int) ((0:Nat):Int)=psFL from famF]at h
  exact h)
 have e7:Hid (∀ W:World,Calls Try.prog 45 #[.int .i64 6,.int .i64 2,.int .i64 1,.int .i64 0] W (pE W 0 psPL)):=Kh (fun W=>by
  have h:=rfam6_any 2 1 0 W (by decide) (by decide) (by decide) (by decide) rfl
  rw[show famE 6 ((2:Nat):Int) ((1:Nat):Int) ((0:Nat):Int)=0 from famPE,show famL 6 ((2:Nat):Int) ((1:Nat):Int) ((0:Nat):Int)=psPL from famPP]at h
  exact h)
 have H2:Hid (∀ (W:World) (pv:Value) (ps:List (List ByteArray)),w6.grownBy W none->vI W.heap.size W pv ps->ps.length<=4096->Calls Try.prog 19 #[.agg #[.int .i64 2,.int .i64 0,.slice (some ⟨fb,0,none⟩) 3 3,.slice (some ⟨nb,0,none⟩) 3 3],pv] W (qDA W dK ps)):=Kh (fun W pv ps hW hp h4=>qBJ W.heap.size W _ pv dK ps (Nat.le_refl _) ((HD.out.kept hW (by simp)).mono (by have:=HZ.out;have:=hW.size;omega)) hp h4)
 go_wp2_with fail
 refine(e8.out _).mono ?_
 rintro e w7 ⟨sa,sc,svs,rfl,h7,H7,b6⟩
 have c5:=Kh (rQ h7 H7 smallF)
 have e5:=Kh b6
 have g3:=Kh (zA e9.out b6 (by simp))
 obtain⟨c0,c1,c2,c3⟩:=zG g3.out
 have f3:psFL.length=7:=rfl
 rw[f3]at c5 ⊢
 clear h7 H7 b6 e8
 go_wp2_with fail
 refine(H2.out _ _ psF e5.out c5.out (by rw[qAS];omega)).mono ?_
 rintro e w8 ⟨v8,u1,u2,E8,rfl,h0,e1⟩
 obtain⟨rfl,g,H1,hh⟩:=knF h0
 obtain⟨ap,cp,ac,cc,rfl⟩:=jS H1
 have a5:=Kh H1;have HH:=Kh hh
 have e4:=Kh (zB e5.out e1 (by simp))
 obtain⟨m1,e0⟩:∃ m,m=g.pats.length:=⟨_,rfl⟩
 obtain⟨m2,d9⟩:∃ m,m=g.chos.length:=⟨_,rfl⟩
 obtain⟨rt,h7⟩:∃ m,m=g.root:=⟨_,rfl⟩
 rw[<- e0,<- d9,<- h7]at a5 ⊢
 have a6:=Ga w8 (.cells #[.slice ap m1 cp,.slice ac m2 cc,.int .i64 rt] 25) none
 have a7:=heap_alloc_new w8 (.cells #[.slice ap m1 cp,.slice ac m2 cc,.int .i64 rt] 25)
 obtain⟨w9,a8⟩:∃ w9,w9=w8.alloc (.cells #[.slice ap m1 cp,.slice ac m2 cc,.int .i64 rt] 25):=⟨_,rfl⟩
 obtain⟨R,hR⟩:∃ R,R=w8.heap.size:=⟨_,rfl⟩
 rw[<- a8]at a6 a7
 rw[<- hR]at a7
 have f4:=Kh a8;have f6:=Kh hR;have g2:=Kh a7
 have c7:=Kh a6
 have f8:=Kh (zB e4.out a6 (by simp))
 clear h0 e1 H1 hh e0 d9 h7 a6 a7 a8 hR c0 c1 c2 c3 c5
 go_upto_region 4 with fail
 rw[<- f4.out,<- f6.out]
 go_wp2_with fail
 refine(e7.out _).mono ?_
 rintro e w10 ⟨sb,sd,svs2,rfl,h7,H7,h6⟩
 have c4:=Kh (rQ h7 H7 smallP)
 have a2:=Kh (zD c7.out h6)
 have a4:=Kh h6
 have H4:=Kh (zB f8.out h6 (by simp))
 obtain⟨c0,c1,c2,c3⟩:=zG (zA e9.out H4.out (by simp))
 have b5:psPL.length=2:=rfl
 rw[b5]at c4 ⊢
 clear h7 H7 h6 e7
 go_wp2_with fail
 refine(H2.out _ _ psP H4.out c4.out (by rw[qAR];omega)).mono ?_
 rintro e w11 ⟨v11,s1,s2,E11,rfl,h0,h5⟩
 obtain⟨rfl,rfl,u,v,b3,b2,d8,d6,b1,b0,d7,d5⟩:=knP h0
 have g1:Hid (∀ W:World,Calls Try.prog 46 #[.string s1] W fun e w'=>e=.returned (.bool true)/\W=w'):=Kh (fun W=>by
  have:=aR W u d8 b1
  rwa [<- b3,d7]at this)
 have g0:Hid (∀ W:World,Calls Try.prog 46 #[.string s2] W fun e w'=>e=.returned (.bool false)/\W=w'):=Kh (fun W=>by
  have:=aR W v d6 b0
  rwa [<- b2,d5]at this)
 have g8:s1.size<=4000:=by rw[b3,strOfNums_size];simpa [lets] using b1
 have g7:s2.size<=4000:=by rw[b2,strOfNums_size];simpa [lets] using b0
 have a1:=Kh (zD a2.out h5)
 have H3:=Kh h5
 have d2:=Kh (zB H4.out h5 (by simp))
 clear h0 h5 b3 b2 d8 d6 b1 b0 d7 d5 c0 c1 c2 c3 c4 H2
 obtain⟨w12,H0⟩:∃ w12,w12=w11.alloc (.cells #[.slice none 0 0,.slice none 0 0,.int .i64 0] 25):=⟨_,rfl⟩
 have h2:=Ga w11 (.cells #[.slice none 0 0,.slice none 0 0,.int .i64 0] 25) none
 rw[<- H0]at h2
 have b9:=Kh H0
 have h9:=Kh (zD a1.out h2)
 have d1:=Kh (zB d2.out h2 (by simp))
 have c6:Hid (∀ (W:World) (s:ByteArray) (b:Bool),w8.grownBy W none->s.size<=maxLen->diaH g s=b->Calls Try.prog 11 #[.agg #[.slice ap m1 cp,.slice ac m2 cc,.int .i64 rt],.string s] W fun e w'=>e=.returned (.bool b)/\W.grownBy w' none):=Kh (fun W s b hW hs hb=>by
  have:=pT w8.heap.size W _ g s hW.size (a5.out.kept hW (by simp)) hs (HL.out.kept (zB (zB e6.out e4.out (by simp)) hW (by simp)) (by simp))
  rwa [hb]at this)
 have g6:Hid (diaH g ⟨#[97,98]⟩=true):=Kh (by rw[HH.out _ (by decide)];exact qBX.1)
 have g5:Hid (diaH g ⟨#[98,97]⟩=false):=Kh (by rw[HH.out _ (by decide)];exact qBX.2.1)
 have g4:Hid (diaH g ⟨#[98,98]⟩=false):=Kh (by rw[HH.out _ (by decide)];exact qBX.2.2)
 have hm:(2:Nat)<=maxLen:=by unfold maxLen;omega
 have a3:Hid (w9.grownBy w12 none):=Kh (zD (zD a4.out H3.out) h2)
 have H5:=Kh (zA g2.out (a3.out) (by simp))
 clear H0 h2
 go_upto_region 6 with fail
 rw[<- b9.out]
 obtain⟨x0,x1,x2⟩:=zJ H5.out
 go_wp2_with fail
 refine(c6.out _ ⟨#[97,98]⟩ true h9.out hm g6.out).mono ?_
 rintro e w13 ⟨rfl,h1⟩
 have h8:=Kh (zD h9.out h1)
 have d0:=Kh (zB d1.out h1 (by simp))
 obtain⟨x0,x1,x2⟩:=zJ (zA H5.out h1 (by simp))
 have d3:=Kh (zA H5.out h1 (by simp))
 clear h1
 go_wp2_with fail
 refine(c6.out _ ⟨#[98,97]⟩ false h8.out hm g5.out).mono ?_
 rintro e w14 ⟨rfl,h3⟩
 have a0:=Kh (zD h8.out h3)
 have c9:=Kh (zB d0.out h3 (by simp))
 obtain⟨x0,x1,x2⟩:=zJ (zA d3.out h3 (by simp))
 clear h3
 go_wp2_with fail
 refine(c6.out _ ⟨#[98,98]⟩ false a0.out hm g4.out).mono ?_
 rintro e w15 ⟨rfl,H9⟩
 have c8:=Kh (zB c9.out H9 (by simp))
 clear H9 x0 x1 x2
 go_wp2_with fail
 refine(g1.out _).mono ?_
 rintro e w15 ⟨rfl,rfl⟩
 go_wp2_with fail
 refine(g0.out _).mono ?_
 rintro e w15 ⟨rfl,rfl⟩
 have f2:(s1.size:Int)<=4000:=by omega
 have f1:(s2.size:Int)<=4000:=by omega
 go_wp2
 go_ret
 exact⟨rfl,zB e6.out c8.out (by simp)⟩
end Go.Proofs.Ytjfdomfendbhfaa
namespace Go.Proofs.Ytjfdomfendbhfaa
open Go.RowKit
theorem run_take {d:DfaV} {q:Nat} {l:List Nat} {j:Nat} (h:j < l.length):run d q (l.take (j+1))=nx d (run d q (l.take j)) (l.getD j 0):=by
 rw[zW (d:=0) h,gW]
set_option maxRecDepth 100000 in
set_option maxHeartbeats 800000 in
theorem runD_any (B:Nat) (w:World) (v:Value) (d:DfaV) (n k q:Nat) (s:ByteArray) (hB:B<=w.heap.size) (h:tE B w v d) (hd:VD d n k) (h5:n<=512) (hq:q < n) (hs:zP s (k:Int)=true) :
  Calls Try.prog 66 #[v,.int .i64 (q:Int),.string s] w fun e w'=>e=.returned (.int .i64 ((run d q (zI s):Nat):Int))/\w.grownBy w' none:=by
 have h2:=h
 obtain⟨fb,fo,fc,b,off,cap,RB,RO,RC,rfl,h8⟩:=h.at hd
 have d5:=hd.n1
 have d7:=hd.k6
 have d8:=hd.k1
 have d9:=h8.cap.1
 have h4:=h8.cap.2
 have b2:cap<=9223372036854775807:=by unfold maxLen at h4;omega
 obtain⟨S,hS⟩:∃ S,S=st0 d:=⟨_,rfl⟩
 have a2:dAgg k (st0 d) fb fo fc b off cap n=.agg #[.int .i64 (k:Int),.int .i64 (S:Int),.slice (some ⟨fb,fo,none⟩) n fc,.slice (some ⟨b,off,none⟩) n cap]:=by rw[hS];rfl
 rw[a2]at h2 ⊢
 obtain⟨wA,H7⟩:∃ wA,wA=w.alloc (.cells #[.int .i64 (k:Int),.int .i64 (S:Int),.slice (some ⟨fb,fo,none⟩) n fc,.slice (some ⟨b,off,none⟩) n cap] 42):=⟨_,rfl⟩
 have h7:=Ga w (.cells #[.int .i64 (k:Int),.int .i64 (S:Int),.slice (some ⟨fb,fo,none⟩) n fc,.slice (some ⟨b,off,none⟩) n cap] 42) none
 have h3:=heap_alloc_new w (.cells #[.int .i64 (k:Int),.int .i64 (S:Int),.slice (some ⟨fb,fo,none⟩) n fc,.slice (some ⟨b,off,none⟩) n cap] 42)
 rw[<- H7]at h3 h7
 obtain⟨P,hP⟩:∃ P,P=w.heap.size:=⟨_,rfl⟩
 rw[<- hP]at h3
 obtain⟨c0,c1,c2,c3⟩:=zG h3
 have e1:=zH h3
 have b8:B<=wA.heap.size:=by omega
 have c5:=Kh hP
 have b1:=Kh h3;have c6:=Kh h7;have b9:=Kh H7;have HD:=Kh hd
 have c7:Hid (∀ W:World,w.grownBy W none->DAt B W d n k fb fo fc b off cap RB RO RC):=Kh (fun W hg=>h8.kept hg (by simp))
 have a5:=Kh (vQ B wA _ d b8 (h2.kept h7 (by simp)))
 have c4:=Kh (qH hd h5)
 have HW:=Kh hs
 have H8:=Kh (wV hs)
 have c9:=H8.out.2.2
 have d4:(q:Int) < n:=by omega
 clear h3 h7 H7 h8 hd h h2 a2 h4 hS hP hs
 go_enter Try.func66,Try.ntmps66
 go_upto_region 1 with fail
 rw[<- b9.out,<- c5.out]
 go_wp2_with fail
 refine a5.out.mono ?_
 rintro e w1 ⟨rfl,H6⟩
 rw[c4.out]
 have a8:=Kh (zB c6.out H6 (by simp))
 have a9:=Kh (zA b1.out H6 (by simp))
 obtain⟨d0,d1,d2,d3⟩:=zG a9.out
 clear H6 a5 c0 c1 c2 c3 b1
 go_wp2_with fail
 refine(tK s (k:Int) w1 (by unfold maxLen;omega)).mono ?_
 rintro e w2 ⟨rfl,rfl⟩
 rw[HW.out]
 go_wp2_with fail
 go_loopg [1,7,31] s.size (fun gh a1 a7 i wr=>∃ j:Nat,gh+j=s.size/\i=.int .i64 j/\a1=.int .i64 ((run d q ((zI s).take j):Nat):Int)/\w1.grownBy wr none)
 case atStart=>exact⟨0,rfl,rfl,rfl,zN _ _⟩
 case round =>
  clear d0 d1 d2 d3
  obtain⟨j,a4,rfl,rfl,h6⟩:=hrel
  have H9:=Kh a4;have a6:=Kh h6
  obtain⟨d0,d1,d2,d3⟩:=zG (zA a9.out h6 (by simp))
  clear a4
  by_cases hj:j < s.size
  ·have b4:(j:Int) < s.size:=by omega
   have h9:=iM HD.out ((zI s).take j) hq (fun a ha=>H8.out.1 a (List.mem_of_mem_take ha))
   have H0:=Kh (run_take (d:=d) (q:=q) (l:=zI s) (j:=j) (by rw[yH];exact hj))
   obtain⟨R,hR⟩:∃ R,R=run d q ((zI s).take j):=⟨_,rfl⟩
   rw[<- hR]at h9 H0 ⊢
   have b7:(R:Int) < n:=by omega
   have h0:=c7.out wr (zB a8.out h6 (by simp))
   have chd:=h0.hd R h9
   have H4:=h0.rcap R h9
   have H3:=H4.1
   have H2:RC R<=9223372036854775807:=by have:=H4.2;unfold maxLen at this;omega
   obtain⟨b0,a0,e0,c8,d6,b6,a3⟩:=byte_facts0 H8.out.2.1 hj
   have cel:=h0.el R a0 h9 b6
   have b5:(a0:Int) < k:=by omega
   rw[a3]at H0
   obtain⟨rb,H5⟩:∃ rb,rb=RB R:=⟨_,rfl⟩
   obtain⟨ro,H1⟩:∃ ro,ro=RO R:=⟨_,rfl⟩
   obtain⟨rc,h1⟩:∃ rc,rc=RC R:=⟨_,rfl⟩
   rw[<- H5,<- H1,<- h1]at chd
   rw[<- H5,<- H1]at cel
   rw[<- h1]at H3 H2
   obtain⟨y,hy⟩:∃ y,y=nx d R a0:=⟨_,rfl⟩
   rw[<- hy]at cel H0
   clear h0 H4 a3 H5 H1 h1 hy hR h6
   go_wp2_with fail
   go_region
   all_goals (try go_frame)
   all_goals go_wp2
   all_goals
    go_roundg (s.size - (j+1))
    case measure=>have:=H9.out;omega
    case rel=>exact⟨j+1,by have:=H9.out;omega,by go_num,by rw[H0.out],zB a6.out (zL wr none) (by simp)⟩
  ·have b3:j=s.size:=by have:=H9.out;omega
   have b4:¬ (j:Int) < s.size:=by omega
   have HJ:Hid ((zI s).take j=zI s):=Kh (List.take_of_length_le (by rw[yH];omega))
   rw[HJ.out]
   clear b3
   go_wp2
   go_ret
   exact⟨rfl,zB a8.out a6.out (by simp)⟩
set_option maxRecDepth 100000 in
set_option maxHeartbeats 800000 in
theorem accepts_any (B:Nat) (w:World) (v:Value) (d:DfaV) (n k:Nat) (s:ByteArray) (hB:B<=w.heap.size) (h:tE B w v d) (hd:VD d n k) (h5:n<=512) (hs:zP s (k:Int)=true) :
  Calls Try.prog 25 #[v,.string s] w fun e w'=>e=.returned (.bool (acc d (st0 d) (zI s)))/\w.grownBy w' none:=by
 have h0:=h
 obtain⟨fb,fo,fc,b,off,cap,RB,RO,RC,rfl,h4⟩:=h.at hd
 have h8:=rB hd
 have a3:=h4.fcap.1
 have h2:=h4.fcap.2
 have H5:fc<=9223372036854775807:=by unfold maxLen at h2;omega
 have H2:=Kh (iM hd (zI s) h8 (wV hs).1)
 obtain⟨S,hS⟩:∃ S,S=st0 d:=⟨_,rfl⟩
 have h9:dAgg k (st0 d) fb fo fc b off cap n=.agg #[.int .i64 (k:Int),.int .i64 (S:Int),.slice (some ⟨fb,fo,none⟩) n fc,.slice (some ⟨b,off,none⟩) n cap]:=by rw[hS];rfl
 rw[h9]at h0 ⊢
 rw[<- hS]at h8 H2 ⊢
 obtain⟨wA,h7⟩:∃ wA,wA=w.alloc (.cells #[.int .i64 (k:Int),.int .i64 (S:Int),.slice (some ⟨fb,fo,none⟩) n fc,.slice (some ⟨b,off,none⟩) n cap] 42):=⟨_,rfl⟩
 have h3:=Ga w (.cells #[.int .i64 (k:Int),.int .i64 (S:Int),.slice (some ⟨fb,fo,none⟩) n fc,.slice (some ⟨b,off,none⟩) n cap] 42) none
 have h1:=heap_alloc_new w (.cells #[.int .i64 (k:Int),.int .i64 (S:Int),.slice (some ⟨fb,fo,none⟩) n fc,.slice (some ⟨b,off,none⟩) n cap] 42)
 rw[<- h7]at h1 h3
 obtain⟨P,hP⟩:∃ P,P=w.heap.size:=⟨_,rfl⟩
 rw[<- hP]at h1
 obtain⟨c0,c1,c2,c3⟩:=zG h1
 have a4:=zH h1
 have H8:B<=wA.heap.size:=by omega
 have a0:=Kh hP
 have H4:=Kh h1;have a1:=Kh h3;have H9:=Kh h7
 have a2:Hid (∀ W:World,w.grownBy W none->DAt B W d n k fb fo fc b off cap RB RO RC):=Kh (fun W hg=>h4.kept hg (by simp))
 have H1:=Kh (runD_any B wA _ d n k S s H8 (h0.kept h3 (by simp)) hd h5 h8 hs)
 clear h1 h3 h7 h4 hd h h0 h9 h2 hS hP hs
 go_enter Try.func25,Try.ntmps25
 go_upto_region 1 with fail
 rw[<- H9.out,<- a0.out]
 go_wp2_with fail
 refine H1.out.mono ?_
 rintro e w1 ⟨rfl,h6⟩
 have H3:=Kh (zB a1.out h6 (by simp))
 obtain⟨d0,d1,d2,d3⟩:=zG (zA H4.out h6 (by simp))
 obtain⟨R,hR⟩:∃ R,R=run d S (zI s):=⟨_,rfl⟩
 have H7:R < n:=by rw[hR];exact H2.out
 have H6:(R:Int) < n:=by omega
 have HA:Hid (acc d S (zI s)=d.final.getD R false):=Kh (by rw[hR];rfl)
 rw[<- hR]
 have cfin:=(a2.out w1 H3.out).fin H7
 obtain⟨bf,H0⟩:∃ bf,bf=d.final.getD R false:=⟨_,rfl⟩
 rw[<- H0]at cfin HA
 clear h6 H1 c0 c1 c2 c3 H4 hR H0
 go_wp2
 go_ret
 exact⟨yD HA.out.symm,H3.out⟩
end Go.Proofs.Ytjfdomfendbhfaa
