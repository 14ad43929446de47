/- Part 23 of the proof. -/
import Derived.Test.YtobakifdllameaaGreatQd22
import Derived.Deep.Cut
import Derived.BigQuiet
import Derived.Deep.RegionHeld
set_option linter.unusedVariables false
set_option linter.unusedSimpArgs false
set_option maxRecDepth 100000
set_option maxHeartbeats 16000000
namespace Go.Proofs.YtobakifdllameaaGreat
open Go.RowKit
theorem eH (B:Nat)(w:World)(v:Value)(c:CntV)(s:ByteArray)(h:rV B w v c)(hs:s.size<=maxLen):Calls Tryz.prog 22 #[v,.string s] w fun e w'=>e=.returned (.bool (pR c s))/\w.grownBy w' none:=by
 obtain⟨vi,vp,va,rfl,hi,hp,ha⟩:=id h;obtain⟨iA,iC,rfl⟩:=hi.shape;obtain⟨pA,pC,rfl⟩:=hp.shape;obtain⟨aA,aC,rfl⟩:=ha.shape;obtain⟨n,hn⟩:=Nm ((ints c.idx).length);obtain⟨pn,h3⟩:=Nm ((ints c.per).length);obtain⟨an,h6⟩:=Nm ((bls c.acc).length);rw[<-hn]at hi h;rw[<-h3]at hp h;rw[<-h6]at ha h;rw[<-hn,<-h3,<-h6];rw[zJ]at hn h3;rw[zX]at h6;obtain⟨w1,h7⟩:=Nm (w.alloc (.cells #[.slice iA n iC,.slice pA pn pC,.slice aA an aC] 35));have H6:w.grownBy w1 none:=by rw[h7];exact Ga w _ none
 have H1:=heap_alloc_new w (.cells #[.slice iA n iC,.slice pA pn pC,.slice aA an aC] 35);obtain⟨P,hP⟩:=Nm w.heap.size;rw[<-h7,<-hP]at H1;obtain⟨q0,q1,q2⟩:=xW H1;obtain⟨R,hR⟩:=Nm (pR c s);rw[<-hR];have a4:Hid (cntE c≠0->R=false):=Kh (fun h=>by rw[hR];exact qCP h);have a3:Hid (xQ s (n:Int)=false->R=false):=Kh (fun h=>by rw[hR];exact bH (by rw[<-hn];exact h));have H3:Hid (cntE c=0->xQ s (n:Int)=true->R=c.acc.getD (atTo c (xO n (yS s)) n) false):=Kh (fun h h2=>by rw[hR,hn];exact qCO h (by rw[<-hn];exact h2));have HV:=Kh (nI B w1 _ c (h.kept H6));have f2:=Kh h;have HI:Hid (∀W:World,w.grownBy W none->Row B W (.slice iA n iC) (ints c.idx)):=Kh (fun W hg=>hi.kept hg (by simp));have HP:Hid (∀W:World,w.grownBy W none->Row B W (.slice pA pn pC) (ints c.per)):=Kh (fun W hg=>hp.kept hg (by simp));have HA:Hid (∀W:World,w.grownBy W none->Row B W (.slice aA an aC) (bls c.acc)):=Kh (fun W hg=>ha.kept hg (by simp));obtain⟨f0,c4,d8,e5,HN,e4⟩:=K6 H6 H1 h7 hP hn h3;have a8:=Kh h6;obtain⟨E,hE⟩:=Nm (cntE c);rw[<-hE]at HV a4 H3;have HE:=Kh hE;clear h hi hp ha hn h3 h6 H6 H1 h7 hP hR hE;go_enter Tryz.func22,Tryz.ntmps22;go_upto_region 1 with fail;rw[<-d8.out,<-e5.out];go_wp2_with fail;refine HV.out.mono ?_;rintro e w2 ⟨rfl,H0⟩;have h5:=Kh (zC f0.out H0);obtain⟨q0,q1,q2⟩:=xW (zB c4.out H0);have f4:=Kh (zB c4.out H0);clear H0 HV;by_cases hE0:E=0
 case neg =>
  have e1:(E != 0)=true:=by rw[bne_iff_ne];exact hE0
  have HF:=Kh (a4.out hE0);clear hE0;go_wp2;go_ret;exact⟨yT HF.out.symm,h5.out⟩
 have e1:(E != 0)=false:=by rw[bne_eq_false_iff_eq];exact hE0
 have h1:Hid (CntOk c):=Kh (gU.1 (by rw[<-HE.out];exact hE0));have f1:=Kh hE0;clear hE0;have H9:=Kh (qDP s (n:Int) w2 hs);obtain⟨wv,H5⟩:=Nm (xQ s (n:Int));rw[<-H5]at H9 a3 H3;have H8:=Kh H5;clear H5;go_wp2_with fail;refine H9.out.mono ?_;rintro e w3 ⟨rfl,rfl⟩;clear H9;cases wv with
 | false =>
  have HF:=Kh (a3.out rfl);go_wp2;go_ret;exact⟨yT HF.out.symm,h5.out⟩
 | true =>
  have b7:=Kh (gH H8.out.symm);have d9:=Kh (H3.out f1.out rfl);have f7:=b7.out.2.2;have b3:1<=n:=by rw[HN.out];exact h1.out.k1
  have f9:n<=6:=by rw[HN.out];exact h1.out.k6
  clear a4 a3 H3;have HC:=f2;obtain⟨ib,io,ic,ei,_,i1,i2,ir⟩:=(HI.out _ h5.out).some_ (by rw[zJ,<-HN.out];exact b3);obtain⟨pb,po,pc,ep,_,p1,p2,pr⟩:=(HP.out _ h5.out).some_ (by rw[zJ,h1.out.pl,<-HN.out];exact b3)
  have b6:1<=c.acc.length:=by
   have:=qDI h1.out.pos [] _ _ (Nat.le_refl _) h1.out.size;omega
  obtain⟨ab,ao,ac,ea,_,a1,a2,ar⟩:=(HA.out _ h5.out).some_ (by rw[zX];exact b6);simp only[Value.slice.injEq]at ei ep ea;obtain⟨rfl,d1,rfl⟩:=ei;obtain⟨rfl,d0,rfl⟩:=ep;obtain⟨rfl,c9,rfl⟩:=ea;rw[zJ,<-HN.out]at i1;rw[zJ,h1.out.pl,<-HN.out]at p1;rw[zX,<-a8.out]at a1;have h3:n=pn:=by rw[e4.out,h1.out.pl,HN.out]
  unfold maxLen at i2 p2 a2;obtain⟨IR,PR,AR⟩:=K3 ir pr ar;subst h3;clear ir pr ar d1 d0 c9 b6;obtain⟨wo,rfl⟩:=Nm (w2:World);go_upto_region 4 with (first|(at_make;refine qG rfl _ _ _ rfl yH rfl _ _ _ _ n rfl rfl rfl rfl ?b1 ?b2 ?_;(case b1=>omega);(case b2=>(unfold maxLen;omega));intro w4 H2 b5 c8)|fail);rw[<-yN,<-iZ]at H2;obtain⟨g,hg⟩:=Nm wo.heap.size;rw[<-hg]at H2⊢;have e7:Hid (wo.heap.size<=g):=Kh (by rw[hg];exact Nat.le_refl _);have c7:Hid (Arr w4 g 3 (nats (xO n ((yS s).take 0)))):=Kh H2;have e8:=Kh b5;clear H2 b5 c8 hg q0 q1 q2;go_wp2
  go_loopg [6] s.size (fun gh a6 wr=>∃j:Nat,gh+j=s.size/\a6=.int .i64 j/\Arr wr g 3 (nats (xO n ((yS s).take j)))/\wo.grownBy wr none)
  case atStart=>exact⟨0,rfl,rfl,c7.out,e8.out⟩
  clear c7;obtain⟨j,b4,rfl,h0,h4⟩:=hrel;obtain⟨b9,c6,e6⟩:=K3 b4 h0 h4;clear b4;by_cases hj:j<s.size
  ·have d2:(j:Int)<s.size:=by omega
   obtain⟨b0,a0,g1,f6,f8,H7,a9⟩:=dA b7.out.2.1 hj;have ca:=h0.nat a0 (by rw[wU];exact H7);have fa:=h0.frozen a0;rw[oU H7]at ca;have d6:((yS s).take j).count a0<=2048:=Nat.le_trans List.count_le_length (by rw[List.length_take];omega);have d7:(a0:Int)<n:=(by omega);have H4:=Kh (h0.nat_set a0 (by rw[wU];exact H7) (((yS s).take j).count a0+1));rw[eY,show (yS s).take j++[a0]=(yS s).take (j+1) by rw[yB (d:=0) (by rw[vH];exact hj),a9]]at H4;obtain⟨x,hx⟩:=Nm (((yS s).take j).count a0);rw[<-hx]at ca d6 H4;have g0:g<wr.heap.size:=h0.lt;clear h0 a9 hx h4;go_wp2;go_roundg (s.size-(j+1))
   case measure=>have:=b9.out;omega
   refine⟨j+1,by have:=b9.out;omega,by go_num,?_,?_⟩
   ·first|exact H4.out|(have:=H4.out;simpa using this)
   exact zC e6.out (zF wr ⟨g,a0,none⟩ _) (fun q e=>by have e:g=q:=Oj e;rw[<-e];exact e7.out)
  have d2:¬(j:Int)<s.size:=by omega
  have c5:Hid (Arr wr g 3 (nats (xO n (yS s)))):=Kh (by
   rw[<-List.take_of_length_le (l:=yS s) (i:=j) (by rw[vH];omega)];exact c6.out)
  have a5:=Kh (zC h5.out h4);have f3:=Kh (zB f4.out h4);obtain⟨z,hz⟩:=Nm (atTo c (xO n (yS s)) n)
  have d4:z<an:=by
   have hx:=h1.out.size;rw[<-HN.out,<-a8.out]at hx;rw[hz];exact qDI h1.out.pos _ _ _ (by rw[HN.out];exact Nat.le_refl _) hx
  have d3:(z:Int)<an:=by omega
  have b8:Hid (Row wr.heap.size wr (.slice (some ⟨g,0,none⟩) n n) (nats (xO n (yS s)))):=Kh (by
   have h9:=c5.out.rowT' (cap:=n) (by simp[nats,xO]) (by unfold maxLen;omega);have e9:(nats (xO n (yS s))).length=n:=by simp[nats,xO]
   rw[e9]at h9
   exact h9.row)
  have f5:Hid (∀W:World,wr.grownBy W none->Calls Tryz.prog 30 #[.agg #[.slice (some ⟨ib,io,none⟩) n iC,.slice (some ⟨pb,po,none⟩) n pC,.slice (some ⟨ab,ao,none⟩) an aC],.slice (some ⟨g,0,none⟩) n n] W fun e w'=>e=.returned (.int .i64 (z:Int))/\wr.grownBy w' none):=Kh (fun W hW=>by
   have h9:=(HC.out.kept (zC a5.out hW)).mono (Nat.le_add_right B W.heap.size)
   have h8:=qJO (B+W.heap.size) W _ (.slice (some ⟨g,0,none⟩) n n) c (xO n (yS s)) h9 h1.out (((b8.out.kept hW (by simp)).mono (Nat.le_trans hW.size (Nat.le_add_left _ B)))) (by rw[wU,HN.out]) (fun x hx=>by
    simp only[xO,List.mem_map]at hx;obtain⟨a,_,rfl⟩:=hx
    exact Nat.le_trans List.count_le_length (by rw[vH];omega))
   rw[<-HN.out,<-hz]at h8
   exact h8.mono fun e w' h=>⟨h.1,zG hW h.2⟩)
  have a7:Hid (∀W:World,wr.grownBy W none->W.cell? ⟨P,0,none⟩=some (.slice (some ⟨ib,io,none⟩) n iC)/\W.cell? ⟨P,1,none⟩=some (.slice (some ⟨pb,po,none⟩) n pC)/\W.cell? ⟨P,2,none⟩=some (.slice (some ⟨ab,ao,none⟩) an aC)/\W.cell? ⟨ab,ao+z,none⟩=some (.bool R)):=Kh (fun W hW=>by
   obtain⟨c0,c1,c2⟩:=xW (zB f3.out hW);have c3:=((AR.out.kept h4 (by simp)).kept hW (by simp)).boolQ z (by rw[<-a8.out];exact d4);rw[hz,<-d9.out]at c3
   exact⟨c0,c1,c2,by rw[hz];exact c3⟩)
  clear h0 h4 c6 hz c5 b8;have d5:=zS wr none;go_upto_region 8 with fail;obtain⟨e0,e1,e2,e3⟩:=a7.out _ d5
  go_region_held3 (fun w'=>w'.cell? ⟨P,0,none⟩=some (.slice (some ⟨ib,io,none⟩) n iC)/\w'.cell? ⟨P,1,none⟩=some (.slice (some ⟨pb,po,none⟩) n pC)/\w'.cell? ⟨P,2,none⟩=some (.slice (some ⟨ab,ao,none⟩) an aC)/\w'.cell? ⟨ab,ao+z,none⟩=some (.bool R))
   (first|go_keep|exact a7.out _ (by assumption)|exact a7.out _ (zS wr none)|exact⟨e0,e1,e2,e3⟩|fail)
   (first|(go_at_call 30;(with_reducible refine(f5.out _ (by assumption)).mono ?_);rintro e w7 ⟨rfl,g2⟩)|fail)
  all_goals
   go_wp2;go_ret
   first
   | exact zC a5.out (by assumption)
   | exact⟨rfl,zC a5.out (by assumption)⟩
theorem kF (B:Nat)(w:World)(v:Value)(c:CntV)(s:ByteArray)(h:rV B w v c)(hs:s.size<=maxLen):Calls Tryz.prog 21 #[v,.string s] w fun e w'=>e=.returned (.bool (pR c s))/\w.grownBy w' none:=by
 obtain⟨vi,vp,va,rfl,hi,hp,ha⟩:=id h;obtain⟨iA,iC,rfl⟩:=hi.shape;obtain⟨pA,pC,rfl⟩:=hp.shape;obtain⟨aA,aC,rfl⟩:=ha.shape;obtain⟨n,hn⟩:=Nm ((ints c.idx).length);obtain⟨pn,h6⟩:=Nm ((ints c.per).length);obtain⟨an,h9⟩:=Nm ((bls c.acc).length);rw[<-hn]at hi h;rw[<-h6]at hp h;rw[<-h9]at ha h;rw[<-hn,<-h6,<-h9];rw[zJ]at hn h6;rw[zX]at h9;obtain⟨w1,H0⟩:=Nm (w.alloc (.cells #[.slice iA n iC,.slice pA pn pC,.slice aA an aC] 35));have H8:w.grownBy w1 none:=by rw[H0];exact Ga w _ none
 have H2:=heap_alloc_new w (.cells #[.slice iA n iC,.slice pA pn pC,.slice aA an aC] 35);obtain⟨P,hP⟩:=Nm w.heap.size;rw[<-H0,<-hP]at H2;obtain⟨q0,q1,q2⟩:=xW H2;obtain⟨R,hR⟩:=Nm (pR c s);rw[<-hR];have b5:Hid (cntE c≠0->R=false):=Kh (fun h=>by rw[hR];exact qCP h);have b4:Hid (xQ s (n:Int)=false->R=false):=Kh (fun h=>by rw[hR];exact bH (by rw[<-hn];exact h));have H5:Hid (cntE c=0->xQ s (n:Int)=true->R=c.acc.getD (atTo c (xO n (yS s)) n) false):=Kh (fun h h2=>by rw[hR,hn];exact qCO h (by rw[<-hn];exact h2));have HV:=Kh (kE B w1 _ c (h.kept H8));have HI:Hid (∀W:World,w.grownBy W none->Row B W (.slice iA n iC) (ints c.idx)):=Kh (fun W hg=>hi.kept hg (by simp));have HP:Hid (∀W:World,w.grownBy W none->Row B W (.slice pA pn pC) (ints c.per)):=Kh (fun W hg=>hp.kept hg (by simp));have HA:Hid (∀W:World,w.grownBy W none->Row B W (.slice aA an aC) (bls c.acc)):=Kh (fun W hg=>ha.kept hg (by simp));obtain⟨i0,d2,g1,g5,HN,g4⟩:=K6 H8 H2 H0 hP hn h6;have b6:=Kh h9;obtain⟨E,hE⟩:=Nm (cntE c);rw[<-hE]at HV b5 H5;have HE:=Kh hE;clear h hi hp ha hn h6 h9 H8 H2 H0 hP hR hE;go_enter Tryz.func21,Tryz.ntmps21;go_upto_region 1 with fail;rw[<-g1.out,<-g5.out];go_wp2_with fail;refine HV.out.mono ?_;rintro e w2 ⟨rfl,H1⟩;have h7:=Kh (zC i0.out H1);obtain⟨q0,q1,q2⟩:=xW (zB d2.out H1);have i4:=Kh (zB d2.out H1);clear H1 HV;by_cases hE0:E=0
 case neg =>
  have e1:(E != 0)=true:=by rw[bne_iff_ne];exact hE0
  have HF:=Kh (b5.out hE0);clear hE0;go_wp2;go_ret;exact⟨yT HF.out.symm,h7.out⟩
 have e1:(E != 0)=false:=by rw[bne_eq_false_iff_eq];exact hE0
 have h1:Hid (CntOk c):=Kh (gU.1 (by rw[<-HE.out];exact hE0));have i3:=Kh hE0;clear hE0;have b3:=Kh (bV s (n:Int) w2 hs);obtain⟨wv,H7⟩:=Nm (xQ s (n:Int));rw[<-H7]at b3 b4 H5;have a5:=Kh H7;clear H7;go_wp2_with fail;refine b3.out.mono ?_;rintro e w3 ⟨rfl,rfl⟩;clear b3;cases wv with
 | false =>
  have HF:=Kh (b4.out rfl);go_wp2;go_ret;exact⟨yT HF.out.symm,h7.out⟩
 | true =>
  have d0:=Kh (gH a5.out.symm);have g3:=Kh (H5.out i3.out rfl);have e5:=d0.out.2.2;have c3:1<=n:=by rw[HN.out];exact h1.out.k1
  have j0:n<=6:=by rw[HN.out];exact h1.out.k6
  clear b5 b4 H5;obtain⟨ib,io,ic,ei,_,i1,i2,ir⟩:=(HI.out _ h7.out).some_ (by rw[zJ,<-HN.out];exact c3);obtain⟨pb,po,pc,ep,_,p1,p2,pr⟩:=(HP.out _ h7.out).some_ (by rw[zJ,h1.out.pl,<-HN.out];exact c3)
  have c7:1<=c.acc.length:=by
   have:=qDI h1.out.pos [] _ _ (Nat.le_refl _) h1.out.size;omega
  obtain⟨ab,ao,ac,ea,_,a1,a2,ar⟩:=(HA.out _ h7.out).some_ (by rw[zX];exact c7);simp only[Value.slice.injEq]at ei ep ea;obtain⟨rfl,d8,rfl⟩:=ei;obtain⟨rfl,d7,rfl⟩:=ep;obtain⟨rfl,d6,rfl⟩:=ea;rw[zJ,<-HN.out]at i1;rw[zJ,h1.out.pl,<-HN.out]at p1;rw[zX,<-b6.out]at a1;have h6:n=pn:=by rw[g4.out,h1.out.pl,HN.out]
  unfold maxLen at i2 p2 a2;obtain⟨IR,PR,AR⟩:=K3 ir pr ar;subst h6;clear ir pr ar d8 d7 d6 c7;obtain⟨wo,rfl⟩:=Nm (w2:World);go_upto_region 4 with (first|(at_make;refine qG rfl _ _ _ rfl yH rfl _ _ _ _ n rfl rfl rfl rfl ?b1 ?b2 ?_;(case b1=>omega);(case b2=>(unfold maxLen;omega));intro w4 H4 c4 d5)|fail);rw[<-yN,<-iZ]at H4;obtain⟨g,hg⟩:=Nm wo.heap.size;rw[<-hg]at H4⊢;have g8:Hid (wo.heap.size<=g):=Kh (by rw[hg];exact Nat.le_refl _);have d4:Hid (Arr w4 g 3 (nats (xO n ((yS s).take 0)))):=Kh H4;have g9:=Kh c4;clear H4 c4 d5 hg q0 q1 q2;go_wp2
  go_loopg [6,27] s.size (fun gh a6 a27 wr=>∃j:Nat,gh+j=s.size/\a27=.int .i64 j/\Arr wr g 3 (nats (xO n ((yS s).take j)))/\wo.grownBy wr none)
  case atStart=>exact⟨0,rfl,rfl,d4.out,g9.out⟩
  clear d4;obtain⟨j,h8,rfl,h0,h3⟩:=hrel;obtain⟨h5,d3,g7⟩:=K3 h8 h0 h3;clear h8;by_cases hj:j<s.size
  ·have e8:(j:Int)<s.size:=by omega
   obtain⟨b0,a0,j3,i6,i9,a3,c2⟩:=dA d0.out.2.1 hj;have ca:=h0.nat a0 (by rw[wU];exact a3);have fa:=h0.frozen a0;rw[oU a3]at ca;have f7:((yS s).take j).count a0<=2048:=Nat.le_trans List.count_le_length (by rw[List.length_take];omega);have f8:(a0:Int)<n:=(by omega);have H6:=Kh (h0.nat_set a0 (by rw[wU];exact a3) (((yS s).take j).count a0+1));rw[eY,show (yS s).take j++[a0]=(yS s).take (j+1) by rw[yB (d:=0) (by rw[vH];exact hj),c2]]at H6;obtain⟨x,hx⟩:=Nm (((yS s).take j).count a0);rw[<-hx]at ca f7 H6;have j2:g<wr.heap.size:=h0.lt;clear h0 c2 hx h3;go_wp2;go_roundg (s.size-(j+1))
   case measure=>have:=h5.out;omega
   refine⟨j+1,by have:=h5.out;omega,by go_num,?_,?_⟩
   ·first|exact H6.out|(have:=H6.out;simpa using this)
   exact zC g7.out (zF wr ⟨g,a0,none⟩ _) (fun q e=>by have e:g=q:=Oj e;rw[<-e];exact g8.out)
  have e8:¬(j:Int)<s.size:=by omega
  have i5:Hid (Arr wr g 3 (nats (xO n (yS s)))):=Kh (by
   rw[<-List.take_of_length_le (l:=yS s) (i:=j) (by rw[vH];omega)];exact d3.out)
  have g6:=Kh (zC h7.out h3);have IRX:=Kh (IR.out.kept h3 (by simp));have PRX:=Kh (PR.out.kept h3 (by simp));have ARX:=Kh (AR.out.kept h3 (by simp));obtain⟨q0,q1,q2⟩:=xW (zB i4.out h3);clear h0 h3 d3;obtain⟨wx,rfl⟩:=Nm (wr:World);go_wp2
  go_loopg [7,8,9,42] n (fun gh a7 a8 a9 a42 wr=>∃a q:Nat,gh+a=n/\a42=.int .i64 a/\a7=.int .i64 ((atTo c (xO n (yS s)) a:Nat):Int)/\wr=wx.drewN q)
  case atStart=>exact⟨0,0,rfl,rfl,rfl,rfl⟩
  obtain⟨a,q,h8,rfl,rfl,rfl⟩:=hrel;have h5:=Kh h8;clear h8;by_cases haN:a<n
  ·have f9:(a:Int)<n:=by omega
   have H3:a<c.idx.length:=(by rw[<-HN.out];exact haN);obtain⟨i,p,ei,ep,j1,e6,i7⟩:=qNG h1.out H3;have ci:=IRX.out.int a H3;have cp:=PRX.out.int a (by rw[h1.out.pl];exact H3);rw[ei]at ci;rw[ep]at cp;have ca:=i5.out.nat a (by rw[wU];exact haN);obtain⟨N,a4⟩:=Nm ((xO n (yS s)).getD a 0)
   have j4:N<=2048:=by
    rw[a4,oU haN];exact Nat.le_trans List.count_le_length (by rw[vH];exact e5)
   have h4:=qLV (ns:=xO n (yS s)) ei ep;have hK:=qTF h1.out (xO n (yS s)) (a:=a) (by omega);rw[<-a4]at ca h4;obtain⟨K,c8⟩:=Nm (atTo c (xO n (yS s)) a);rw[<-c8]at hK h4⊢;obtain⟨r,hr⟩:=Nm (i+p);rw[<-hr]at h4;have c1:r<=4000:=by omega
   obtain⟨x,hx⟩:=Nm (asN N i p);rw[<-hx]at h4;have b9:x<=4000:=by have:=qDJ (n:=N) (i:=i) e6;omega
   obtain⟨e1,e2,e3⟩:=nQ hK c1;clear e2;obtain⟨m,hm⟩:=Nm (K*r);rw[<-hm]at e1 e3 h4;obtain⟨y,hy⟩:=Nm (m+x);rw[<-hy]at h4;obtain⟨d1,c9,g0,j5⟩:=K4 h4 hx b9 e3;have c0:(i:Int)+(p:Int)=(r:Int):=by omega
   have b7:(m:Int)+(x:Int)=(y:Int):=by omega
   have f1:IntKind.i64.wrap ((i:Int)+(p:Int))=(r:Int):=by rw[c0];exact xJ (by omega)
   have f2:IntKind.i64.wrap ((m:Int)+(x:Int))=(y:Int):=by rw[b7];exact xJ (by omega)
   clear a4 c8 hr hx hm hy h4 c0 b7 e3 hK c1 b9 ei ep H3;by_cases hlt:N<i
   ·have e7:(N:Int)<(i:Int):=by omega
    have e9:¬(i:Int)<=(N:Int):=by omega
    have e0:x=N:=by rw[c9.out,asN,if_pos hlt]
    subst e0;clear hlt;go_wp2
    go_quiet (fail)
    clear e1 f1 f2;go_wp2;go_roundg (n-(a+1))
    case measure=>have:=h5.out;omega
    exact⟨a+1,_,by have:=h5.out;omega,by go_num,by rw[d1.out],by first|rfl|exact World.drewN_drewN _ _ _⟩
   obtain⟨d,hd⟩:=Nm (N-i);obtain⟨t,ht⟩:=Nm (d % p);have d9:x=i+t:=by rw[c9.out,asN,if_neg hlt,ht,hd]
   have c6:(N:Int)-(i:Int)=(d:Int):=by omega
   have e4:t<p:=(by rw[ht];exact Nat.mod_lt _ (by omega));have b8:(i:Int)+(t:Int)=(x:Int):=by omega
   have f3:IntKind.i64.wrap ((N:Int)-(i:Int))=(d:Int):=by rw[c6];exact xJ (by omega)
   have f4:(d:Int).tmod (p:Int)=(t:Int):=by rw[ht];exact Int.ofNat_tmod d p
   have f5:IntKind.i64.wrap ((i:Int)+(t:Int))=(x:Int):=by rw[b8];exact xJ (by have:=g0.out;omega)
   have f6:IntKind.i64.wrap (t:Int)=(t:Int):=xJ (by omega);have i8:¬(p:Int)=0:=by omega
   have e9:(i:Int)<=(N:Int):=by omega
   clear hd ht d9 c6 e4 b8 hlt;go_wp2
   go_quiet (fail)
   go_wp2
   go_quiet (fail)
   clear e1 f1 f2 f3 f4 f5 f6;go_wp2;go_roundg (n-(a+1))
   case measure=>have:=h5.out;omega
   exact⟨a+1,_,by have:=h5.out;omega,by go_num,by rw[d1.out],by first|rfl|exact World.drewN_drewN _ _ _⟩
  have H9:a=n:=by have:=h5.out;omega
  have f9:¬(a:Int)<n:=by omega
  have c5:atTo c (xO n (yS s)) a<an:=by
   rw[H9,b6.out];have hx:=h1.out.size;rw[<-HN.out]at hx;exact qDI h1.out.pos _ _ _ (by rw[HN.out];exact Nat.le_refl _) hx
  have g2:Hid (R=c.acc.getD (atTo c (xO n (yS s)) a) false):=Kh (by rw[H9];exact g3.out);have cz:=ARX.out.boolQ (atTo c (xO n (yS s)) a) (by rw[<-b6.out];exact c5);rw[<-g2.out]at cz;obtain⟨z,hz⟩:=Nm (atTo c (xO n (yS s)) a);rw[<-hz]at cz c5⊢;have f0:(z:Int)<an:=(by omega);clear hz H9;go_wp2;go_ret;exact⟨rfl,zC g6.out (zQ wx _ none)⟩
theorem qOU (B1 B2:Nat)(w:World)(v1 v2:Value)(d:DfaV)(n k:Nat)(hd:VD d n k)(h1:tR B1 w v1 d)(h2:tR B2 w v2 d):Calls Tryz.prog 44 #[v1,v2] w fun e w'=>e=.returned (.bool true)/\w.grownBy w' none:=by
 obtain⟨fb,fo,fc,b,off,cap,RB,RO,RC,rfl,H2⟩:=h1.at hd;obtain⟨fb',fo',fc',b',off',cap',RB',RO',RC',rfl,h3⟩:=h2.at hd;have hn:=hd.nbig;have b0:=hd.k6;obtain⟨S,hS⟩:=Nm (st0 d);have a0:dAgg k (st0 d) fb fo fc b off cap n=.agg #[.int .i64 (k:Int),.int .i64 (S:Int),.slice (some ⟨fb,fo,none⟩) n fc,.slice (some ⟨b,off,none⟩) n cap]:=by rw[hS];rfl
 have H9:dAgg k (st0 d) fb' fo' fc' b' off' cap' n=.agg #[.int .i64 (k:Int),.int .i64 (S:Int),.slice (some ⟨fb',fo',none⟩) n fc',.slice (some ⟨b',off',none⟩) n cap']:=by rw[hS];rfl
 rw[a0,H9];obtain⟨H0,h9,H3,H8⟩:=qB w #[.int .i64 (k:Int),.int .i64 (S:Int),.slice (some ⟨fb,fo,none⟩) n fc,.slice (some ⟨b,off,none⟩) n cap] #[.int .i64 (k:Int),.int .i64 (S:Int),.slice (some ⟨fb',fo',none⟩) n fc',.slice (some ⟨b',off',none⟩) n cap'] 29;obtain⟨wA,H4⟩:=Nm ((w.alloc (.cells #[.int .i64 (k:Int),.int .i64 (S:Int),.slice (some ⟨fb,fo,none⟩) n fc,.slice (some ⟨b,off,none⟩) n cap] 29)).alloc (.cells #[.int .i64 (k:Int),.int .i64 (S:Int),.slice (some ⟨fb',fo',none⟩) n fc',.slice (some ⟨b',off',none⟩) n cap'] 29));rw[<-H4]at H0 h9 H3 H8;obtain⟨P,hP⟩:=Nm w.heap.size;obtain⟨Q,hQ⟩:=Nm (w.heap.size+1);rw[<-hP]at H0;rw[<-hQ]at h9;have a9:=Kh hP;have a8:Hid (Q=P+1):=Kh (by omega);obtain⟨H6,H5,h4,a7,H7,h5⟩:=K6 H0 h9 H3 H4 H2 h3;have a6:=H2.cap;have a5:=h3.cap;have a4:=H2.fcap;have a3:=h3.fcap;unfold maxLen at a6 a5 a4 a3;have q1:=zL H0;have q2:=zL h9;clear H2 h3 hd h1 h2 a0 H9 H0 h9 H3 H8 H4 hP hQ hS;go_enter Tryz.func44,Tryz.ntmps44;go_upto_region 1 with fail;rw[<-a7.out,<-a9.out,<-a8.out];obtain⟨p0,p1,p2,p3⟩:=q1;obtain⟨q0,q1,q2,q3⟩:=q2;go_wp2;clear p0 p1 p2 p3 q0 q1 q2 q3
 go_loopg [5,41] n (fun gh s5 i wr=>∃q:Nat,gh+q=n/\i=.int .i64 q/\wA.grownBy wr none)
 case atStart=>exact⟨0,rfl,rfl,zU _ _⟩
 obtain⟨q,h8,rfl,hg⟩:=hrel;have h6:=Kh h8;have HG:=Kh hg;clear h8;obtain⟨p0,p1,p2,p3⟩:=zL (zB H6.out hg);obtain⟨q0,q1,q2,q3⟩:=zL (zB H5.out hg);have ha:=(H7.out.kept h4.out (by simp)).kept hg (by simp);have h0:=(h5.out.kept h4.out (by simp)).kept hg (by simp);by_cases hq:q<n
 ·have H1:(q:Int)<n:=by omega
  have c1:=ha.fin hq;have c2:=h0.fin hq;obtain⟨x,hx⟩:=Nm (d.final.getD q false);rw[<-hx]at c1 c2;clear hx ha h0 hg;go_wp2
  go_quiet (fail)
  go_wp2;go_roundg (n-(q+1))
  case measure=>have:=h6.out;omega
  exact⟨q+1,by have:=h6.out;omega,by go_num,zC HG.out (by first|exact zS _ none|exact zQ _ _ none)⟩
 have H1:¬(q:Int)<n:=by omega
 clear ha h0 hg;go_wp2;clear p0 p1 p2 p3 q0 q1 q2 q3
 go_loopg [6,7,59,81] n (fun gh s6 s7 i s81 wr=>∃q:Nat,gh+q=n/\i=.int .i64 q/\wA.grownBy wr none)
 case atStart=>exact⟨0,rfl,rfl,HG.out⟩
 clear HG h6 hq H1;obtain⟨q,h8,rfl,hg⟩:=hrel;have h6:=Kh h8;have HG:=Kh hg;clear h8;obtain⟨p0,p1,p2,p3⟩:=zL (zB H6.out hg);obtain⟨q0,q1,q2,q3⟩:=zL (zB H5.out hg);have ha:=(H7.out.kept h4.out (by simp)).kept hg (by simp);have h0:=(h5.out.kept h4.out (by simp)).kept hg (by simp);by_cases hq:q<n
 ·have H1:(q:Int)<n:=by omega
  have c1:=ha.hd q hq;have c2:=h0.hd q hq;clear ha h0 hg;go_wp2
  go_quiet (fail)
  go_wp2
  go_loopg [7,81] k (fun gh s7 i wr=>∃x:Nat,gh+x=k/\i=.int .i64 x/\wA.grownBy wr none)
  case atStart=>exact⟨0,rfl,rfl,zC HG.out (by first|exact zS _ none|exact zQ _ _ none)⟩
  clear HG p0 p1 p2 p3 q0 q1 q2 q3 c1 c2;obtain⟨x,h7,rfl,hg⟩:=hrel;have a1:=Kh h7;have HG:=Kh hg;clear h7;obtain⟨p0,p1,p2,p3⟩:=zL (zB H6.out hg);obtain⟨q0,q1,q2,q3⟩:=zL (zB H5.out hg);have ha:=(H7.out.kept h4.out (by simp)).kept hg (by simp);have h0:=(h5.out.kept h4.out (by simp)).kept hg (by simp);by_cases hx:x<k
  ·have a2:(x:Int)<k:=by omega
   have c1:=ha.hd q hq;have c2:=h0.hd q hq;have e1:=ha.el q x hq hx;have e2:=h0.el q x hq hx;have r1:=ha.rcap q hq;have r2:=h0.rcap q hq;unfold maxLen at r1 r2;obtain⟨y,hy⟩:=Nm (nx d q x);rw[<-hy]at e1 e2;clear hy ha h0 hg;go_wp2
   go_quiet (fail)
   go_wp2;go_roundg (k-(x+1))
   case measure=>have:=a1.out;omega
   exact⟨x+1,by have:=a1.out;omega,by go_num,zC HG.out (by first|exact zS _ none|exact zQ _ _ none)⟩
  have a2:¬(x:Int)<k:=by omega
  clear ha h0 hg;go_wp2;go_roundg (n-(q+1))
  case measure=>have:=h6.out;omega
  exact⟨q+1,by have:=h6.out;omega,by go_num,HG.out⟩
 have H1:¬(q:Int)<n:=by omega
 clear ha h0 hg;go_wp2;go_ret;exact⟨rfl,zC h4.out HG.out⟩
theorem qHS (B1 B2:Nat)(w:World)(v1 v2:Value)(h1:tR B1 w v1 qIH)(h2:tR B2 w v2 qIH):Calls Tryz.prog 44 #[v1,v2] w fun e w'=>e=.returned (.bool true)/\w.grownBy w' none:=by
 obtain⟨fv,nv,rfl,hf,hn⟩:=h1;obtain⟨fv',nv',rfl,h8,h7⟩:=h2;obtain⟨a1,c1,rfl⟩:=hf.shape;obtain⟨a2,c2,rfl⟩:=hn.shape;obtain⟨a3,c3,rfl⟩:=h8.shape;obtain⟨a4,c4,rfl⟩:=h7.shape;show Calls Tryz.prog 44 #[.agg #[.int .i64 0,.int .i64 0,.slice a1 0 c1,.slice a2 0 c2],.agg #[.int .i64 0,.int .i64 0,.slice a3 0 c3,.slice a4 0 c4]] w _;clear hf hn h8 h7;obtain⟨h3,h0,h4,h6⟩:=qB w #[.int .i64 0,.int .i64 0,.slice a1 0 c1,.slice a2 0 c2] #[.int .i64 0,.int .i64 0,.slice a3 0 c3,.slice a4 0 c4] 29;obtain⟨wA,h5⟩:=Nm ((w.alloc (.cells #[.int .i64 0,.int .i64 0,.slice a1 0 c1,.slice a2 0 c2] 29)).alloc (.cells #[.int .i64 0,.int .i64 0,.slice a3 0 c3,.slice a4 0 c4] 29));rw[<-h5]at h3 h0 h4 h6;obtain⟨P,hP⟩:=Nm w.heap.size;obtain⟨Q,hQ⟩:=Nm (w.heap.size+1);rw[<-hP]at h3;rw[<-hQ]at h0;have H1:=Kh hP;have H0:Hid (Q=P+1):=Kh (by omega);have H2:=Kh h4;have h9:=Kh h5;obtain⟨p0,p1,p2,p3⟩:=zL h3;obtain⟨q0,q1,q2,q3⟩:=zL h0;clear h3 h0 h4 h6 h5 hP hQ;go_enter Tryz.func44,Tryz.ntmps44;go_upto_region 1 with fail;rw[<-h9.out,<-H1.out,<-H0.out];go_wp2;refine wp_loop_rounds 1 ?_;rw[rounds_succ];go_wp2;refine wp_loop_rounds 1 ?_;rw[rounds_succ];go_wp2;go_ret;exact⟨rfl,H2.out⟩
theorem qOV (B1 B2:Nat)(w:World)(v1 v2:Value)(c:CntV)(z:Int)(m:DfaV)(h:qIG c z m)(h1:tR B1 w v1 m)(h2:tR B2 w v2 m):Calls Tryz.prog 44 #[v1,v2] w fun e w'=>e=.returned (.bool true)/\w.grownBy w' none:=by
 rcases h with ⟨rfl,_⟩|⟨rfl,rfl,hc,_⟩
 ·exact qHS B1 B2 w v1 v2 h1 h2
 exact qOU B1 B2 w v1 v2 _ _ _ (gO (pW hc)) h1 h2
theorem qLX (B:Nat)(w:World)(v:Value)(c:CntV)(s:ByteArray)(h:rV B w v c)(hB:B<=w.heap.size)(a9:s.size<=maxLen):Calls Tryz.prog 18 #[v,.string s] w fun e w'=>e=.returned (.bool true)/\w.grownBy w' none:=by
 obtain⟨vi,vp,va,rfl,hi,hp,ha⟩:=id h;obtain⟨iA,iC,rfl⟩:=hi.shape;obtain⟨pA,pC,rfl⟩:=hp.shape;obtain⟨aA,aC,rfl⟩:=ha.shape;obtain⟨il,b2⟩:=Nm ((ints c.idx).length);obtain⟨pl,b1⟩:=Nm ((ints c.per).length);obtain⟨al,b6⟩:=Nm ((bls c.acc).length);rw[<-b2,<-b1,<-b6]at h⊢;have h8:=Ga w (.cells #[.slice iA il iC,.slice pA pl pC,.slice aA al aC] 35) none;have H3:=heap_alloc_new w (.cells #[.slice iA il iC,.slice pA pl pC,.slice aA al aC] 35);obtain⟨wA,a6⟩:=Nm (w.alloc (.cells #[.slice iA il iC,.slice pA pl pC,.slice aA al aC] 35));obtain⟨P,hP⟩:=Nm w.heap.size;rw[<-a6]at h8 H3;rw[<-hP]at H3;have e1:=h8.size;obtain⟨c0,c1,c2⟩:=xW H3;obtain⟨c6,d3,b9,d6⟩:=K4 a6 hP H3 h8;have h4:Hid (∀W:World,wA.grownBy W none->rV B W (.agg #[.slice iA il iC,.slice pA pl pC,.slice aA al aC]) c/\B<=W.heap.size):=Kh (fun W hg=>⟨(h.kept h8).kept hg,by have:=hg.size;omega⟩);have b8:=Kh (qPG B wA _ c (h4.out _ (zU _ _)).2 (h4.out _ (zU _ _)).1);clear h hi hp ha H3 h8 a6 hP b2 b1 b6;go_enter Tryz.func18,Tryz.ntmps18;go_upto_region 1 with fail;rw[<-c6.out,<-d3.out];go_wp2_with fail;refine b8.out.mono ?_;intro e w6 H2;obtain⟨E,D,⟨fv,nv,rfl,b5,a4⟩,h5⟩:=H2.out;have b0:=Kh b5.ok;have e7:=Kh a4;have H6:=Kh h5;obtain⟨c4,h9,h6,_⟩:=b5;obtain⟨fa,fc,rfl⟩:=h9.shape;obtain⟨na,nc,rfl⟩:=h6.shape;obtain⟨fl,H0⟩:=Nm ((bls D.final).length);obtain⟨nl,h7⟩:=Nm c4.length;rw[<-H0,<-h7]at b0⊢;obtain⟨LT,H5⟩:=Nm D.letters;obtain⟨ST,H4⟩:=Nm D.start;rw[<-H5,<-H4]at b0⊢;obtain⟨Q,hQ⟩:=Nm w6.heap.size;obtain⟨w7,a2⟩:=Nm (w6.alloc (.cells #[.int .i64 LT,.int .i64 ST,.slice fa fl fc,.slice na nl nc] 29));have H8:=Ga w6 (.cells #[.int .i64 LT,.int .i64 ST,.slice fa fl fc,.slice na nl nc] 29) none;have a0:=heap_alloc_new w6 (.cells #[.int .i64 LT,.int .i64 ST,.slice fa fl fc,.slice na nl nc] 29);rw[<-a2]at H8 a0;rw[<-hQ]at a0;obtain⟨c7,d2,e0⟩:=K3 a2 hQ a0;have h0:=Kh (zC a4 H8);have d8:=Kh (b0.out.kept H8 (by simp));obtain⟨c70,c71,c72⟩:=xW (zB b9.out h0.out);have b7:=Kh (qJM B w7 _ c (h4.out _ h0.out).2 (h4.out _ h0.out).1);clear h9 h6 H0 h7 H5 H4 hQ a2 H8 a0 a4 b8 c0 c1 c2 H2 h5;go_upto_region 2 with fail;rw[<-c7.out,<-d2.out];go_wp2_with fail;refine b7.out.mono ?_;intro e w8 H1;obtain⟨E',D',⟨fv,nv,rfl,b4,b3⟩,h3⟩:=H1.out;obtain⟨rfl,rfl⟩:=qIG.same H6.out h3;have a7:=Kh b4.ok;obtain⟨c3,h9,h6,_⟩:=b4;obtain⟨fa',fc',rfl⟩:=h9.shape;obtain⟨na',nc',rfl⟩:=h6.shape;obtain⟨fl',H0⟩:=Nm ((bls D.final).length);obtain⟨nl',h7⟩:=Nm c3.length;rw[<-H0,<-h7]at a7⊢;obtain⟨LT',H5⟩:=Nm D.letters;obtain⟨ST',H4⟩:=Nm D.start;rw[<-H5,<-H4]at a7⊢;obtain⟨R,hR⟩:=Nm w8.heap.size;obtain⟨wo,a1⟩:=Nm (w8.alloc (.cells #[.int .i64 LT',.int .i64 ST',.slice fa' fl' fc',.slice na' nl' nc'] 29));have H7:=Ga w8 (.cells #[.int .i64 LT',.int .i64 ST',.slice fa' fl' fc',.slice na' nl' nc'] 29) none;have H9:=heap_alloc_new w8 (.cells #[.int .i64 LT',.int .i64 ST',.slice fa' fl' fc',.slice na' nl' nc'] 29);rw[<-a1]at H7 H9;rw[<-hR]at H9;obtain⟨c5,d1,d9⟩:=K3 a1 hR H9;have G7o:=Kh (zC b3 H7);have GAo:=Kh (zC h0.out G7o.out);have d7:=Kh (a7.out.kept H7 (by simp));have a8:=Kh (d8.out.kept G7o.out (by simp));obtain⟨ce,a5⟩:=Nm (cntE c);obtain⟨mm,a3⟩:=Nm (pR c s);have c9:Hid (∀W:World,wo.grownBy W none->Calls Tryz.prog 19 #[.agg #[.slice iA il iC,.slice pA pl pC,.slice aA al aC]] W fun e w'=>e=.returned (.int .i64 ce)/\wo.grownBy w' none):=Kh (fun W hW=>(kE B W _ c (h4.out _ (zC GAo.out hW)).1).mono fun e w' ⟨he,hg⟩=>⟨by rw[he,a5],zG hW hg⟩);have c8:Hid (∀W:World,wo.grownBy W none->Calls Tryz.prog 20 #[.agg #[.slice iA il iC,.slice pA pl pC,.slice aA al aC]] W fun e w'=>e=.returned (.int .i64 ce)/\wo.grownBy w' none):=Kh (fun W hW=>(nI B W _ c (h4.out _ (zC GAo.out hW)).1).mono fun e w' ⟨he,hg⟩=>⟨by rw[he,a5],zG hW hg⟩);have d5:Hid (∀W:World,wo.grownBy W none->Calls Tryz.prog 21 #[.agg #[.slice iA il iC,.slice pA pl pC,.slice aA al aC],.string s] W fun e w'=>e=.returned (.bool mm)/\wo.grownBy w' none):=Kh (fun W hW=>(kF B W _ c s (h4.out _ (zC GAo.out hW)).1 a9).mono fun e w' ⟨he,hg⟩=>⟨by rw[he,a3],zG hW hg⟩);have d4:Hid (∀W:World,wo.grownBy W none->Calls Tryz.prog 22 #[.agg #[.slice iA il iC,.slice pA pl pC,.slice aA al aC],.string s] W fun e w'=>e=.returned (.bool mm)/\wo.grownBy w' none):=Kh (fun W hW=>(eH B W _ c s (h4.out _ (zC GAo.out hW)).1 a9).mono fun e w' ⟨he,hg⟩=>⟨by rw[he,a3],zG hW hg⟩)
 have d0:Hid (∀W:World,wo.grownBy W none->Calls Tryz.prog 44 #[.agg #[.int .i64 LT,.int .i64 ST,.slice fa fl fc,.slice na nl nc],.agg #[.int .i64 LT',.int .i64 ST',.slice fa' fl' fc',.slice na' nl' nc']] W fun e w'=>e=.returned (.bool true)/\wo.grownBy w' none):=Kh (fun W hW=>by
  have h1:=a8.out.kept hW (by simp);have h2:=d7.out.kept hW (by simp)
  exact(qOV _ _ W _ _ c _ _ H6.out h1 h2).mono fun e w' ⟨he,hg⟩=>⟨he,zG hW hg⟩)
 have HC:Hid (∀W:World,wo.grownBy W none->(W.cell? ⟨P,0,none⟩=some (.slice iA il iC)/\W.cell? ⟨P,1,none⟩=some (.slice pA pl pC)/\W.cell? ⟨P,2,none⟩=some (.slice aA al aC))/\(W.cell? ⟨Q,0,none⟩=some (.int .i64 LT)/\W.cell? ⟨Q,1,none⟩=some (.int .i64 ST)/\W.cell? ⟨Q,2,none⟩=some (.slice fa fl fc)/\W.cell? ⟨Q,3,none⟩=some (.slice na nl nc))/\W.cell? ⟨R,0,none⟩=some (.int .i64 LT')/\W.cell? ⟨R,1,none⟩=some (.int .i64 ST')/\W.cell? ⟨R,2,none⟩=some (.slice fa' fl' fc')/\W.cell? ⟨R,3,none⟩=some (.slice na' nl' nc')):=Kh (fun W hW=>by
  exact⟨xW (zB b9.out (zC GAo.out hW)),zL (zB (zB e0.out G7o.out) hW),zL (zB d9.out hW)⟩)
 obtain⟨⟨y01,y02,y03⟩,⟨y1,y2,y3,y4⟩,y5,y6,y7,y8⟩:=HC.out wo (zU _ _);have GA:wo.grownBy wo.drew none:=zS _ _;have emm:(mm == mm)=true:=by simp
 have eEE:(E == E)=true:=by simp
 have ece:(ce == ce)=true:=by simp
 clear a3 a5 h9 h6 H0 h7 H5 H4 hR a1 H7 H9 b3 b7 c70 c71 c72 H1 h3;go_upto_region 3 with fail;rw[<-c5.out,<-d1.out]
 go_region_held3 (fun w'=>(w'.cell? ⟨P,0,none⟩=some (.slice iA il iC)/\w'.cell? ⟨P,1,none⟩=some (.slice pA pl pC)/\w'.cell? ⟨P,2,none⟩=some (.slice aA al aC))/\(w'.cell? ⟨Q,0,none⟩=some (.int .i64 LT)/\w'.cell? ⟨Q,1,none⟩=some (.int .i64 ST)/\w'.cell? ⟨Q,2,none⟩=some (.slice fa fl fc)/\w'.cell? ⟨Q,3,none⟩=some (.slice na nl nc))/\w'.cell? ⟨R,0,none⟩=some (.int .i64 LT')/\w'.cell? ⟨R,1,none⟩=some (.int .i64 ST')/\w'.cell? ⟨R,2,none⟩=some (.slice fa' fl' fc')/\w'.cell? ⟨R,3,none⟩=some (.slice na' nl' nc'))
  (first|go_keep|exact HC.out _ (by assumption)|fail)
  (first|(go_at_call 19;(with_reducible refine(c9.out _ (by assumption)).mono ?_);rintro e x1 ⟨rfl,e6⟩)|(go_at_call 20;(with_reducible refine(c8.out _ (by assumption)).mono ?_);rintro e x2 ⟨rfl,e5⟩)|(go_at_call 21;(with_reducible refine(d5.out _ (by assumption)).mono ?_);rintro e x3 ⟨rfl,e4⟩)|(go_at_call 22;(with_reducible refine(d4.out _ (by assumption)).mono ?_);rintro e x4 ⟨rfl,e3⟩)|(go_at_call 44;(with_reducible refine(d0.out _ (by assumption)).mono ?_);rintro e x5 ⟨rfl,e2⟩)|fail)
 all_goals
  go_wp2;go_ret;exact⟨rfl,zC (zC d6.out GAo.out) (by assumption)⟩
def dQ:DfaV:=⟨1,0,[false,false,false,true],[[1],[2],[3],[3]]⟩
def elQ:List (List Nat):=[[0,1,2,3],[1,2,3,3],[2,3,3,3],[3,3,3,3]]
def gsQ:List (List Nat):=[[1,2,3,3]]
def prQ:List Int:=[-1,0,1,2]
def laQ:List Int:=[-1,0,0,0]
def riQ:List (List Nat):=[[1],[2],[3],[3]]
theorem qTX:wI gsQ (yO gsQ 4 gsQ.length) 4=((elQ,prQ,laQ),riQ):=by decide +kernel
theorem qFZ:uJ dQ=0:=by decide +kernel
theorem qSX:VD dQ 4 1:=qQS qFZ
def sQ:SynV:=⟨1,tabE prQ laQ riQ 4,vJ prQ laQ 4,imgE gsQ elQ,accE dQ.final 0 elQ,kI 4 (mT (metL 4 [1,2,3]))⟩
theorem qSN:sQ.images=[1]:=by decide +kernel
theorem qLM {d e:DfaV}(h:d.letters=e.letters/\d.start=e.start/\d.final=e.final/\d.next=e.next):d=e:=by
 obtain⟨a,b,c,x⟩:=d;obtain⟨a',b',c',x'⟩:=e;obtain⟨h1,h2,h3,h4⟩:=h;simp only at h1 h2 h3 h4;rw[h1,h2,h3,h4]
theorem qUD:minD dQ 1=dQ:=qLM (by decide +kernel)
theorem qSU:pG dQ 4 1=gsQ:=by decide +kernel
def tQ:List (List Int):=[[0,1,2,3],[1,2,3,3],[2,3,3,3],[3,3,3,3]]
theorem qQD:tabI sQ.tab=tQ:=by decide +kernel
theorem qUF:FinE gsQ 4 elQ prQ laQ riQ elQ.length:=qLE (by unfold IsT;decide) (by omega) (by decide) qTX (by unfold IsT;decide)
theorem qUE:GenI tQ [1] [1,2,3] where
 nd:=by decide
 lt:=by decide
 base:=by decide
 gen:=fun x hx=>by
  have g1:Gen tQ [1] 1:=.base 1 (by simp)
  have g2:Gen tQ [1] 2:=.mul 1 1 g1 g1
  have g3:Gen tQ [1] 3:=.mul 1 2 g1 g2
  simp only[List.mem_cons,List.not_mem_nil,or_false]at hx
  rcases hx with rfl|rfl|rfl
  ·exact g1
  ·exact g2
  ·exact g3
theorem qPE:oB tQ [1,2,3]:=by unfold oB;decide +kernel
theorem qQW:mD dQ sQ:=by
 refine⟨4,1,4,dQ,qSX,qUD.symm,qSX,by omega,?_⟩;rw[qSU];exact⟨elQ,prQ,laQ,riQ,[1,2,3],qUF,by decide,rfl,rfl,rfl,rfl,rfl,by rw[qQD,qSN];exact qUE,by rw[qQD];exact qPE,rfl⟩
theorem qUH:autI sQ.I=dQ:=qLM (by decide +kernel)
theorem qQT:pK sQ.I:=⟨by decide +kernel,sQ,by rw[qUH];exact qQW,rfl⟩
theorem qTA:fD sQ.I.tab=true:=by decide +kernel
theorem qTY:PowR sQ.I.tab ((imI sQ.I).getD 0 0) 4 3:=by unfold PowR;decide +kernel
theorem qQE {Ls js:List Nat}(h:PowsR sQ.I Ls js sQ.I.images.length):Ls=[4]/\js=[3]:=by
 have e1:sQ.I.images.length=1:=by decide +kernel
 rw[e1]at h;have h1:=h.pow 0 (by omega);obtain⟨h2,h3⟩:=h1.eq qTY;have l1:=h.l1;have l2:=h.l2
 match Ls,js,l1,l2,h2,h3 with
 | [a],[b],_,_,h2,h3=>simp at h2 h3;rw[h2,h3];exact⟨rfl,rfl⟩
def cQ:CntV:=⟨[3],[1],[false,false,false,true]⟩
theorem qUG {c:CntV}(h:qMG sQ.I c):c=cQ:=by
 obtain⟨Ls,js,hp,h1,h2,h3,h4⟩:=h;obtain⟨rfl,rfl⟩:=qQE hp;obtain⟨ci,cp,ca⟩:=c;simp only at h1 h2 h3 h4;have e1:uB [3]=[3]:=by decide
 have e2:uB (perL [4] [3])=[1]:=by decide
 rw[e1]at h1;rw[e2]at h2;subst h1 h2;have e3:vN [3] [1] sQ.I.images.length=some 4:=by decide +kernel
 rw[e3]at h3;have e4:ca.length=4:=(Oj h3).symm;rw[e4]at h4;have e5:((List.range 4).map fun i=>sQ.I.accept.getD (valC sQ.I.tab (imI sQ.I) [4] sQ.I.images.length i 0) false)=[false,false,false,true]:=by decide +kernel
 rw[h4,e5];rfl
theorem qRV:¬qSH sQ.I:=by
 rintro ⟨Ls,js,hp,h⟩;obtain⟨rfl,rfl⟩:=qQE hp;have e3:vN (uB [3]) (uB (perL [4] [3])) sQ.I.images.length=some 4:=by decide +kernel
 rw[e3]at h;exact absurd h (by simp)
theorem qKS:pR cQ ⟨#[97,97,97,97]⟩=true/\pR cQ ⟨#[97,97]⟩=false:=by decide +kernel
theorem mL {xs:List Bool}{k:Nat}(h:k<xs.length):xs.take (k+1)=xs.take k++[xs.getD k false]:=by
 rw[List.take_add_one];simp[List.getD,h]
theorem qJE (B C:Nat)(w:World)(va vb:Value)(xs ys:List Bool)(ha:Row B w va (bls xs))(hb:Row C w vb (bls ys)):Calls Tryz.prog 42 #[va,vb] w fun e w'=>e=.returned (.bool (decide (xs=ys)))/\∃m,w'=w.drewN m:=by
 have h2:=ha.len_le;rw[zX]at h2;unfold maxLen at h2;have h1:=hb.len_le;rw[zX]at h1;unfold maxLen at h1;obtain⟨aa,ac,rfl⟩:=ha.shape;obtain⟨ba,bc,rfl⟩:=hb.shape;rw[zX]at ha hb⊢;rw[zX];by_cases hl:xs.length=ys.length
 ·by_cases h0:xs.length=0
  ·have hx:xs=[]:=List.eq_nil_of_length_eq_zero h0
   have hy:ys=[]:=List.eq_nil_of_length_eq_zero (by omega);subst hx;subst hy;clear ha hb;go_enter Tryz.func42,Tryz.ntmps42;go_wp2
   go_loopg [13] 0 (fun g i wr=>i=.int .i64 0/\wr=w)
   case atStart=>exact⟨rfl,rfl⟩
   obtain⟨rfl,rfl⟩:=hrel;go_wp2;go_ret;exact⟨yT rfl,0,rfl⟩
  obtain⟨ab,ao,ac',e,_,_,_,h4⟩:=ha.some_ (by rw[zX];omega);simp only[Value.slice.injEq]at e;obtain⟨rfl,-,-⟩:=e;obtain⟨bb,bo,bc',e,_,_,_,h3⟩:=hb.some_ (by rw[zX];omega);simp only[Value.slice.injEq]at e;obtain⟨rfl,-,-⟩:=e;obtain⟨RA,RB,HL⟩:=K3 h4 h3 hl;clear ha hb h4 h3;rw[<-hl];clear hl;go_enter Tryz.func42,Tryz.ntmps42;go_wp2
  go_loopg [13] xs.length (fun g i wr=>∃k:Nat,g+k=xs.length/\i=.int .i64 k/\xs.take k=ys.take k/\∃m,wr=w.drewN m)
  case atStart=>exact⟨0,rfl,rfl,rfl,0,rfl⟩
  obtain⟨k,hg,rfl,h5,m,rfl⟩:=hrel;have HG:=Kh hg;have OK:=Kh h5;clear hg h5;by_cases hk:k<xs.length
  ·have h7:(k:Int)<xs.length:=by omega
   have ca:=RA.out.boolQ k hk;have cb:=RB.out.boolQ k (by have:=HL.out;omega);obtain⟨z,hz⟩:=Nm (xs.getD k false);obtain⟨u,hu⟩:=Nm (ys.getD k false);rw[<-hz]at ca;rw[<-hu]at cb;have HZ:=Kh hz;have HU:=Kh hu;clear hz hu;by_cases hzu:z=u
   ·have HN:Hid (xs.take (k+1)=ys.take (k+1)):=Kh (by rw[mL hk,mL (by have:=HL.out;omega),OK.out,<-HZ.out,<-HU.out,hzu])
    subst hzu;have e1:(z != z)=false:=by simp
    go_wp2
    go_quiet (fail)
    go_wp2;go_roundg (xs.length-(k+1))
    case measure=>have:=HG.out;omega
    exact⟨k+1,by omega,by go_num,HN.out,_,rfl⟩
   have HN:Hid (decide (xs=ys)=false):=Kh (by rw[decide_eq_false_iff_not];rintro rfl;exact hzu (by rw[HZ.out,HU.out]));cases z<;>cases u
   case false.false=>exact absurd rfl hzu
   case true.true=>exact absurd rfl hzu
   all_goals
    clear hzu;go_wp2
    go_quiet (fail)
    go_wp2;go_ret;exact⟨yT HN.out.symm,_,by rw[World.drewN_drewN]⟩
  have HY:Hid (decide (xs=ys)=true):=by
   have h6:k=xs.length:=by have:=HG.out;omega
   have:=OK.out;rw[List.take_of_length_le (by omega),List.take_of_length_le (by have:=HL.out;omega)]at this;exact Kh (by rw[decide_eq_true_eq];exact this)
  go_wp2;go_ret;exact⟨yT HY.out.symm,m,rfl⟩
 have e1:((xs.length:Int) != (ys.length:Int))=true:=by rw[bne_iff_ne];omega
 have HN:Hid (decide (xs=ys)=false):=Kh (by rw[decide_eq_false_iff_not];rintro rfl;exact hl rfl);clear ha hb;go_enter Tryz.func42,Tryz.ntmps42;go_wp2;go_ret;exact⟨yT HN.out.symm,0,rfl⟩
theorem qLN (B C:Nat)(w:World)(va vb:Value)(a b:CntV)(ha:rV B w va a)(hb:rV C w vb b):Calls Tryz.prog 15 #[va,vb] w fun e w'=>e=.returned (.bool (decide (a.idx=b.idx) && decide (a.per=b.per) && decide (a.acc=b.acc)))/\w.grownBy w' none:=by
 obtain⟨a1,a2,a3,rfl,H4,H0,h9⟩:=ha;obtain⟨b1,b2,b3,rfl,h8,h7,h6⟩:=hb;obtain⟨w1,h0⟩:=Nm (w.alloc (.cells #[a1,a2,a3] 35));have g1:w.grownBy w1 none:=by rw[h0];exact Ga w _ none
 have n1:=heap_alloc_new w (.cells #[a1,a2,a3] 35);have h2:w1.heap.size=w.heap.size+1:=by rw[h0];simp
 obtain⟨w2,h1⟩:=Nm (w1.alloc (.cells #[b1,b2,b3] 35));have g2:w1.grownBy w2 none:=by rw[h1];exact Ga w1 _ none
 have n2:=heap_alloc_new w1 (.cells #[b1,b2,b3] 35);rw[<-h0]at n1;rw[<-h1,h2]at n2;obtain⟨P,hP⟩:=Nm w.heap.size;rw[<-hP]at n1 n2;obtain⟨p0,p1,p2⟩:=xW (zB n1 g2);obtain⟨q0,q1,q2⟩:=xW n2;have hg:=zC g1 g2;have H1:=Kh (fun(W:World) (h:w.grownBy W none)=>lR B C W a1 b1 a.idx b.idx (H4.kept h (by simp)) (h8.kept h (by simp)));have H2:=Kh (fun(W:World) (h:w.grownBy W none)=>lR B C W a2 b2 a.per b.per (H0.kept h (by simp)) (h7.kept h (by simp)));have H3:=Kh (fun(W:World) (h:w.grownBy W none)=>qJE B C W a3 b3 a.acc b.acc (h9.kept h (by simp)) (h6.kept h (by simp)));obtain⟨d1,h5⟩:=Nm (decide (a.idx=b.idx));obtain⟨d2,h4⟩:=Nm (decide (a.per=b.per));obtain⟨d3,h3⟩:=Nm (decide (a.acc=b.acc));rw[<-h5]at H1⊢;rw[<-h4]at H2⊢;rw[<-h3]at H3⊢;obtain⟨HG,H6,H5,HP⟩:=K4 hg h0 h1 hP;clear H4 H0 h9 h8 h7 h6 h0 h1 g1 g2 n1 n2 h2 hP hg h5 h4 h3;go_enter Tryz.func15,Tryz.ntmps15;go_upto_region 1 with fail;rw[<-H6.out,<-HP.out,<-H5.out];go_wp2_with fail;refine(H1.out w2 HG.out).mono ?_;rintro e w3 ⟨rfl,m3,rfl⟩;have HD:Hid (∀q,w.grownBy (w2.drewN q) none):=Kh (fun q=>zC HG.out (zQ w2 q none));cases d1 with
 | false =>
  go_wp2;go_ret;exact⟨rfl,HD.out _⟩
 | true =>
  go_wp2_with fail;refine(H2.out _ (HD.out _)).mono ?_;rintro e w4 ⟨rfl,m4,rfl⟩;cases d2 with
  | false =>
   go_wp2;go_ret;exact⟨rfl,HD.out _⟩
  | true =>
   go_wp2_with fail;refine(H3.out _ (HD.out _)).mono ?_;rintro e w5 ⟨rfl,m5,rfl⟩;cases d3 with
   | false =>
    go_wp2;go_ret;exact⟨rfl,HD.out _⟩
   | true =>
    go_wp2;go_ret;exact⟨rfl,HD.out _⟩
open Go.Maps
theorem dB {w:World}{p e:Nat}{z0 z1 z2:Value}(h:w.heap[p]?=some (.cells #[z0,z1,z2] e (0,0)))(x0 x1 x2:Value):(((w.setCell ⟨p,0,none⟩ x0).setCell ⟨p,1,none⟩ x1).setCell ⟨p,2,none⟩ x2).heap[p]?=some (.cells #[x0,x1,x2] e (0,0))/\w.grownBy (((w.setCell ⟨p,0,none⟩ x0).setCell ⟨p,1,none⟩ x1).setCell ⟨p,2,none⟩ x2) (some p):=by
 have s0:=heap_setCell_same w p 0 _ _ x0 h;have s1:=heap_setCell_same _ p 1 _ _ x1 s0;have s2:=heap_setCell_same _ p 2 _ _ x2 s1;refine⟨by rw[s2];simp,?_⟩;have t:=fun(W:World) (i:Nat) (u:Value)=>zF W ⟨p,i,none⟩ u;exact zG (zG (t _ 0 _) (t _ 1 _)) (t _ 2 _)
theorem qLQ (B:Nat)(w:World)(v:Value)(I:SynI)(a6:B<=w.heap.size)(h:qAT B w v I):Calls Tryz.prog 13 #[v] w (qQP I w):=by
 obtain⟨vT,vW,vI,vA,vP,rfl,hT,hW,hI,hA,hP⟩:=id h;obtain⟨tA,tC,rfl⟩:=hT.shape;obtain⟨wA,wC,rfl⟩:=hW.shape;obtain⟨iA,iC,rfl⟩:=hI.shape;obtain⟨aA,aC,rfl⟩:=hA.shape;obtain⟨pA,pC,rfl⟩:=hP.shape;obtain⟨n,hn⟩:=Nm I.tab.length;obtain⟨wn,n0⟩:=Nm ((rK I.words).length);obtain⟨k,hk⟩:=Nm I.images.length;obtain⟨an,i8⟩:=Nm I.accept.length;obtain⟨pn,c5⟩:=Nm ((bls I.plus).length);rw[<-hn,<-n0,zJ,<-hk,zX,<-i8,<-c5]at h⊢;rw[<-hn]at hT;rw[zJ,<-hk]at hI;rw[zX,<-i8]at hA;obtain⟨w1,c3⟩:=Nm (w.alloc (.cells #[.int .i64 I.k,.slice tA n tC,.slice wA wn wC,.slice iA k iC,.slice aA an aC,.slice pA pn pC] 39));have g1:w.grownBy w1 none:=by rw[c3];exact Ga w _ none
 have n1:=heap_alloc_new w (.cells #[.int .i64 I.k,.slice tA n tC,.slice wA wn wC,.slice iA k iC,.slice aA an aC,.slice pA pn pC] 39);have g9:w1.heap.size=w.heap.size+1:=by rw[c3];simp
 rw[<-c3]at n1;obtain⟨w2,i3⟩:=Nm (w1.alloc (.cells #[.slice none 0 0,.slice none 0 0,.slice none 0 0] 35));have g2:w1.grownBy w2 none:=by rw[i3];exact Ga w1 _ none
 have n2:=heap_alloc_new w1 (.cells #[.slice none 0 0,.slice none 0 0,.slice none 0 0] 35);rw[<-i3,g9]at n2;obtain⟨P,l5⟩:=Nm w.heap.size;rw[<-l5]at n1 n2;have k6:=zB n1 g2;have i5:=zC g1 g2;obtain⟨ik,o4⟩:=Nm I.k;rw[<-o4]at c3 k6 h⊢;have t7:=Kh (h.kept i5);have HT:Hid (∀W:World,w.grownBy W none->Mat B W (.slice tA n tC) I.tab):=Kh (fun W hg=>hT.kept hg (by simp));have HI:Hid (∀W:World,w.grownBy W none->Row B W (.slice iA k iC) (ints I.images)):=Kh (fun W hg=>hI.kept hg (by simp));have HA:Hid (∀W:World,w.grownBy W none->Row B W (.slice aA an aC) (bls I.accept)):=Kh (fun W hg=>hA.kept hg (by simp));obtain⟨q7,c2,HG,s8,s7,f3⟩:=K6 k6 n2 i5 c3 i3 l5;obtain⟨HN,HK,m8⟩:=K3 hn hk i8;have HV:=Kh (qGN B w2 _ I (Nat.le_trans a6 i5.size) t7.out);clear h hT hW hI hA hP hn n0 hk i8 c5 o4 g1 n1 g9 g2 n2 k6 i5 c3 i3 l5;go_enter Tryz.func13,Tryz.ntmps13;go_upto_region 1 with fail;rw[<-s8.out,<-f3.out,<-s7.out];obtain⟨q0,q1,q2,q3,q4,q5⟩:=yD q7.out;go_wp2_with fail;refine HV.out.mono ?_;rintro e w3 ⟨⟨z,rfl,hz⟩,i7⟩;have j0:=Kh (zC HG.out i7);have g8:=Kh (zB q7.out i7);have h6:=Kh (zB c2.out i7);obtain⟨p0,p1,p2⟩:=xW h6.out;have f0:=zA h6.out 0;have f1:=zA h6.out 1;have f2:=zA h6.out 2;clear i7 HV q0 q1 q2 q3 q4 q5;rcases hz with ⟨rfl,h3⟩|⟨rfl,hnv⟩
 case inr =>
  have t5:=Kh hnv;clear hnv;go_wp2;refine bodyPost_ret (v:=.tuple #[.agg #[.slice none 0 0,.slice none 0 0,.slice none 0 0],.int .i64 8]) (by simp[results,Tryz.results13,go_sem,p0,p1,p2]) rfl ?_;obtain⟨j5,H2⟩:=dB h6.out (.slice none 0 0) (.slice none 0 0) (.slice none 0 0);exact⟨.inl ⟨8,rfl,.inl ⟨rfl,t5.out⟩⟩,zC j0.out H2 (fun j e=>by have e:P+1=j:=Oj e;have:=f3.out;omega)⟩
 have b9:=Kh h3;have b0:=Kh h3.tab;have h2:=Kh (lQ h3.1);clear h3;obtain⟨q0,q1,q2,q3,q4,q5⟩:=yD g8.out;have m3:=Kh (qPB B w3 _ I.tab (Nat.le_trans a6 j0.out.size) (HT.out _ j0.out) b0.out.1 b0.out.2);obtain⟨cb,k3⟩:=Nm (fD I.tab);rw[<-k3]at m3;have c0:=Kh k3;clear k3;go_wp2_with fail;refine m3.out.mono ?_;rintro e w4 ⟨rfl,i6⟩;have f5:=Kh (zC j0.out i6);have g7:=Kh (zB g8.out i6);have h5:=Kh (zB h6.out i6);clear i6 m3 q0 q1 q2 q3 q4 q5 p0 p1 p2 f0 f1 f2;obtain⟨p0,p1,p2⟩:=xW h5.out;have f0:=zA h5.out 0;have f1:=zA h5.out 1;have f2:=zA h5.out 2;cases cb with
 | false =>
  go_wp2;refine bodyPost_ret (v:=.tuple #[.agg #[.slice none 0 0,.slice none 0 0,.slice none 0 0],.int .i64 20]) (by simp[results,Tryz.results13,go_sem,p0,p1,p2]) rfl ?_;obtain⟨j5,H2⟩:=dB h5.out (.slice none 0 0) (.slice none 0 0) (.slice none 0 0);exact⟨.inl ⟨20,rfl,.inr (.inl ⟨rfl,b9.out,c0.out.symm⟩)⟩,zC f5.out H2 (fun j e=>by have e:P+1=j:=Oj e;have:=f3.out;omega)⟩
 | true =>
  clear p0 p1 p2 f0 f1 f2;have r8:(k:Int)=I.k:=by rw[HK.out];exact h2.out.2.1.2.2.2
  have o3:1<=k:=by have:=h2.out.1.1;omega
  have y8:k<=6:=by have:=h2.out.1.2.1;omega
  have r7:n<=400:=by rw[HN.out];exact h2.out.1.2.2.2
  clear r8;obtain⟨ib,io,ic,ei,_,i1,i2,ir⟩:=(HI.out _ f5.out).some_ (by rw[zJ,<-HK.out];exact o3);obtain⟨tb,tf,tc,RB,RO,RC,et,t1,t2,hq⟩:=(HT.out _ f5.out).sq b0.out.1;obtain⟨ab,ao,ac,ea,_,a1,a2,ar⟩:=(HA.out _ f5.out).some_ (by rw[zX,h2.out.2.1.2.1,<-HN.out];have:=h2.out.1.2.2.1;have:=HN.out;omega);simp only[Value.slice.injEq]at ei et ea;obtain⟨rfl,g9,rfl⟩:=ei;obtain⟨rfl,r3,rfl⟩:=et;obtain⟨rfl,q9,rfl⟩:=ea;rw[zJ,<-HK.out]at i1;rw[<-HN.out]at t1;rw[zX,<-m8.out]at a1;have t2':tC<=9223372036854775807:=by unfold maxLen at t2;omega
  unfold maxLen at i2 a2;obtain⟨IR,HQ,AR⟩:=K3 ir hq ar;have k7:an=n:=by rw[m8.out,h2.out.2.1.2.1,HN.out]
  subst k7;obtain⟨w5,i0⟩:=Nm (w4.alloc (.cells #[.slice none 0 0,.slice none 0 0,.slice none 0 0] 35));have h7:w4.grownBy w5 none:=by rw[i0];exact Ga w4 _ none
  have k5:=heap_alloc_new w4 (.cells #[.slice none 0 0,.slice none 0 0,.slice none 0 0] 35);obtain⟨o,ho⟩:=Nm w4.heap.size;rw[<-i0,<-ho]at k5;have p5:BoxS w4.heap.size (fun _=>False) o 35 w4 w5 [] #[.slice none 0 0,.slice none 0 0,.slice none 0 0] w5:=⟨⟨fun r hr=>by simp at hr,List.Pairwise.nil,fun r hr=>by simp at hr,fun k hk=>hk.elim⟩,fun r hr=>by simp at hr,k5,fun h=>h,Nat.le_refl _,by rw[ho];exact Nat.le_refl _,h7.size,h7,xV.refl _ _,Nat.le_refl _⟩;obtain⟨q0,q1,q2,q3,q4,q5⟩:=yD (zB g7.out h7);obtain⟨t0,s6,HO,z9⟩:=K4 p5 i0 ho h7;have g0:Hid (∀W:World,w4.grownBy W none->W.heap[P]?=some (.cells #[.int .i64 ik,.slice (some ⟨tb,tf,none⟩) an tC,.slice wA wn wC,.slice (some ⟨ib,io,none⟩) k iC,.slice (some ⟨ab,ao,none⟩) an aC,.slice pA pn pC] 39 (0,0))/\w.grownBy W none):=Kh (fun W hW=>⟨zB g7.out hW,zC f5.out hW⟩);clear ir hq ar g9 r3 q9 i0 h7 k5 p5 ho HI HT HA;go_upto_region 7 with fail;rw[<-s6.out,<-HO.out];go_upto_region 8 with (first|(at_make;refine bJ rfl _ _ _ rfl wG rfl .i64 .i64 _ _ k rfl rfl rfl rfl ?b1 ?b2 ?_;(case b1=>omega);(case b2=>(unfold maxLen;omega));intro w6 h1 c6 b6)|fail);obtain⟨pg,n8⟩:=Nm w5.heap.size;have l4:=((t0.out.add c6 h1 (by decide)).nil (e:=3) (sz:=1) (by decide)).nil (e:=3) (sz:=1) (by decide);rw[<-n8]at l4⊢;have m5:Hid (CoS I w4 o k pg (List.replicate k (.slice none 0 0)) [] [] none 0 none 0 (.slice none 0 0) [] w6):=Kh ⟨_,l4.rebase,xU.nil⟩;obtain⟨q0,q1,q2,q3,q4,q5⟩:=yD (g0.out w6 m5.out.g).1;clear h1 c6 b6 l4 n8;go_wp2
  go_loopg [7,8,9,10,35] k (fun gh a7 a8 a9 a10 a35 wr=>∃(a:Nat) (c4:List Value) (Ls js:List Nat) (sI:Option Addr) (cI:Nat) (sP:Option Addr) (cP:Nat),gh+a=k/\a35=.int .i64 a/\PowsR I Ls js a/\CoS I w4 o k pg c4 Ls js sI cI sP cP (.slice none 0 0) [] wr)
  case atStart=>exact⟨0,_,[],[],none,0,none,0,rfl,rfl,⟨rfl,rfl,fun b hb=>by omega⟩,m5.out⟩
  clear m5 q0 q1 q2 q3 q4 q5;obtain⟨a,c4,Ls,js,sI,cI,sP,cP,o6,rfl,H9,H3⟩:=hrel;have m1:=Kh o6;have c9:=Kh H9;have h0:=H3.g;obtain⟨o9,H1⟩:=g0.out wr h0;obtain⟨q0,q1,q2,q3,q4,q5⟩:=yD o9;clear o6 o9;by_cases ha:a<k
  ·have s2:(a:Int)<k:=by omega
   obtain⟨x,ex,d5⟩:=qAK h2.out.2.2.2 (i:=a) (by rw[<-HK.out];exact ha);have ci:=(IR.out.kept h0 (by simp)).int a (by rw[<-HK.out];exact ha);rw[ex]at ci
   have i9:Hid ((imI I).getD a 0=x):=Kh (by
    rw[imI,xZ (x:=0) (by rw[<-HK.out];exact ha),ex,Int.toNat_natCast])
   have l8:=Kh (qBS B wr tb tf tC RB RO RC I.tab x (by have:=H1.size;omega) (HQ.out.kept h0 (by simp)) b0.out.1 (by rw[<-HN.out];exact t1) t2' d5);rw[<-HN.out]at l8;have H4:Ls.length=a:=H9.l1;obtain⟨_,e9,e4,_,_⟩:=H3.cells;have h9:=Kh H3;have q8:=Kh e9;clear ex d5 H3 h0 H1 H9 e9;go_wp2_with fail;refine l8.out.mono ?_;rintro e w7 ⟨L,j,sa,sc,hR,rfl,b5,e5⟩;obtain⟨X,hB,hT⟩:=h9.out;rw[H4]at hB hT;have l6:=hB.fresh e5 (Y:=fun q=>(Value.slice sa L sc).ownBlock=some q) (fun q hq=>b5.lt q hq);have l3:=(hT.kept (hB.mem.keep e5) e5.size).mono (X':=fun q=>X q\/(Value.slice sa L sc).ownBlock=some q) (fun q hq=>.inl hq);have k9:RowX (fun q=>X q\/(Value.slice sa L sc).ownBlock=some q) 3 w7 (.slice sa L sc) (nats (uH I.tab x L)):=RowX.of_owns b5 (fun q hq=>.inr hq);obtain⟨X1,e8⟩:=Nm ((fun q=>X q\/(Value.slice sa L sc).ownBlock=some q));rw[<-e8]at l6 l3 k9;have b8:=l6.put (j:=0) rfl ha (.slice sa L sc);have l0:=l3.kept b8.kept b8.wk;have k8:=k9.kept b8.kept b8.wk;have l7:=q8.out.kept e5 (by simp);have c7:=l7.cell a (by omega);have f7:=l7.frozen a;obtain⟨u7,n3⟩:=Nm (c4[a]'(by omega));rw[<-n3]at c7;obtain⟨w8,j3⟩:=Nm (w7.setCell ⟨pg,a,none⟩ (.slice sa L sc));rw[<-j3]at b8 l0 k8;have c2:=Kh b8.rebase;obtain⟨q6,p7,HR,s5,t8,b3⟩:=K6 l0 k8 hR j3 e4 H4;clear hR b5 e5 hB hT l6 l3 k9 e8 b8 l0 k8 l7 n3 j3 e4 l8 h9 q8 q0 q1 q2 q3 q4 q5 ci H4;go_upto_region 13 with fail;rw[<-s5.out];clear c7 f7;have d0:=zH c2.out.box 0;simp only[List.getElem_toArray,List.getElem_cons_zero,List.getElem_cons_succ]at d0;have a4:=c2.out.own (r:=⟨w4.heap.size,3,.slice sI a cI,a,nats js,1⟩) (by simp);simp only at a4;have m9:w4.heap.size<=w8.heap.size:=c2.out.grown.size;go_upto_region 14 with (first|(at_builtin;refine qR rfl _ _ _ rfl yH.toN w4.heap.size (.slice sI a cI) a (nats js) rfl a4 [.int .i64 (j:Int)] rfl rfl ?z1 ?z2 ?z3 ?z4 ?_;(case z1=>(intro v hv;simp only[List.mem_cons,List.not_mem_nil,or_false]at hv;subst hv;rfl));(case z2=>(unfold maxLen;omega));(case z3=>(show (a+1)*8<=140737488355328;omega));(case z4=>exact m9);intro sI2 cI2 w9 a0 o8 n9;(have j2:=Kh (c2.out.appAt (j:=1) rfl a0 o8 n9));(have d9:=zH j2.out.box 0);(simp only[List.getElem_toArray,List.getElem_cons_zero,List.getElem_cons_succ]at d9);(have f9:=zA j2.out.box 0))|fail);obtain⟨w10,d7⟩:=Nm (w9.setCell ⟨o,0,none⟩ (.slice sI2 (a+1) cI2));have a5:=j2.out.set 0 (.slice sI2 (a+1) cI2);rw[<-d7]at a5⊢;simp only[sPa,sPb,sPc]at a5;have p9:=Kh (q6.out.kept a5.kept a5.wk);have p6:=Kh (p7.out.kept a5.kept a5.wk);have g5:=Kh a5.rebase;obtain⟨d,hd⟩:=Nm (L-j)
   have s3:L<=an:=by rw[HN.out];exact fK b0.out.1 (by
    obtain⟨y,ey,hy⟩:=qAK h2.out.2.2.2 (i:=a) (by rw[<-HK.out];exact ha);rw[imI,xZ (x:=0) (by rw[<-HK.out];exact ha),ey,Int.toNat_natCast]at i9
    rw[<-i9.out];exact hy) HR.out.1
   have y9:=HR.out.2.1;have edi:(L:Int)-(j:Int)=(d:Int):=by omega
   have edw:wrap64 ((L:Int)-(j:Int))=(L:Int)-(j:Int):=IntWalk.wrap64_in _ (by omega);have d1:=zH g5.out.box 1;simp only[List.getElem_toArray,List.getElem_cons_zero,List.getElem_cons_succ]at d1;have a3:=g5.out.own (r:=⟨w4.heap.size,3,.slice sP a cP,a,nats (perL Ls js),1⟩) (by simp);simp only at a3;have d4:w4.heap.size<=w10.heap.size:=g5.out.grown.size;have HD:=Kh hd;have x4:=Kh edi;clear a5 d7 d0 d9 f9 a4 m9 a0 o8 n9 j2 q6 p7 c2 hd edi;go_upto_region 15 with (first|(at_builtin;refine qR rfl _ _ _ rfl yH.toN w4.heap.size (.slice sP a cP) a (nats (perL Ls js)) rfl a3 [.int .i64 ((L:Int)-(j:Int))] rfl rfl ?y1 ?y2 ?y3 ?y4 ?_;(case y1=>(intro v hv;simp only[List.mem_cons,List.not_mem_nil,or_false]at hv;subst hv;rfl));(case y2=>(unfold maxLen;clear edw;omega));(case y3=>(show (a+1)*8<=140737488355328;clear edw;omega));(case y4=>exact d4);intro sP2 cP2 w11 H0 e6 d8;(have j1:=Kh (g5.out.appAt (j:=2) rfl H0 e6 d8));(have d9:=zH j1.out.box 1);(simp only[List.getElem_toArray,List.getElem_cons_zero,List.getElem_cons_succ]at d9);(have f9:=zA j1.out.box 1))|fail);obtain⟨w12,d6⟩:=Nm (w11.setCell ⟨o,1,none⟩ (.slice sP2 (a+1) cP2));have H7:=j1.out.set 1 (.slice sP2 (a+1) cP2);rw[<-d6]at H7⊢;simp only[sPa,sPb,sPc]at H7;have p4:=p9.out.kept H7.kept H7.wk;have p3:=p6.out.kept H7.kept H7.wk
   have x6:Hid (CoS I w4 o k pg (c4.set a (.slice sa L sc)) (Ls++[L]) (js++[j]) sI2 cI2 sP2 cP2 (.slice none 0 0) [] w12):=Kh (by
    have e1:nats js++[.int .i64 (j:Int)]=nats (js++[j]):=by simp[nats]
    have e2:nats (perL Ls js)++[.int .i64 ((L:Int)-(j:Int))]=nats (perL (Ls++[L]) (js++[j])):=by
     rw[x4.out,qJV L j (by rw[c9.out.l1,c9.out.l2]),HD.out];simp[nats]
    have e3:a+1=(Ls++[L]).length:=by rw[List.length_append,List.length_singleton,b3.out]
    rw[e1,e2,e3]at H7;refine⟨X1,H7.rebase,?_⟩;rw[<-e3,qGY,b3.out,i9.out,List.take_add_one,List.getElem?_set_self (by have:=t8.out;omega),List.take_set_of_le (Nat.le_refl _)]
    exact p4.snoc p3)
   have t3:Hid (PowsR I (Ls++[L]) (js++[j]) (a+1)):=Kh (c9.out.add (by rw[i9.out];exact HR.out));clear H7 p4 p3 d6 d1 d9 f9 a3 d4 H0 e6 d8 j1 g5 p9 p6 edw;go_wp2;go_roundg (k-(a+1))
   case measure=>have:=m1.out;omega
   exact⟨a+1,_,_,_,_,_,_,_,by have:=m1.out;omega,by go_num,t3.out,x6.out⟩
  have s1:k=a:=by have:=m1.out;omega
  have s2:¬(a:Int)<k:=(by omega);subst s1;have t4:=Kh H9.posC;have H4:Ls.length=k:=H9.l1;have b7:js.length=k:=H9.l2;obtain⟨H6,e9,e4,a4,a3⟩:=H3.cells;rw[H4]at H6 a4 a3;have b4:=qGA wr.heap.size wr (.slice sI k cI) (.slice sP k cP) (.slice none 0 0) (uB js) (uB (perL Ls js)) (by rw[kB];exact Row.of_owns a4) (by rw[kB];exact Row.of_owns a3) (by rw[sM,sM,rR,H4,b7]) t4.out (by rw[sM,b7];exact o3);have x9:=Kh H6;have h9:=Kh H3;have m7:=Kh (zB h5.out h0);obtain⟨x0,x3,b3,z7⟩:=K4 H1 h0 H4 b7;obtain⟨o0,o1,o2⟩:=xW H6;have l9:Hid (k=I.images.length):=HK;rcases hct:vN (uB js) (uB (perL Ls js)) k with _|c
  ·obtain⟨e1,e2⟩:=eX hct (by rw[sM,b7];exact Nat.le_refl _)
   rw[e1,e2]at b4;have t6:Hid (qSH I):=Kh ⟨Ls,js,by rw[<-l9.out];exact c9.out,by rw[<-l9.out];exact hct⟩;have b4:=Kh b4;clear e1 e2 hct H6 e9 e4 a4 a3 H3 h0 H1 H4 b7 H9;go_wp2_with fail;refine b4.out.mono ?_;rintro e w5 ⟨rfl,h7⟩;have f8:=Kh (zB m7.out h7);have t9:=Kh (zC x0.out h7);obtain⟨p0,p1,p2⟩:=xW f8.out;have f0:=zA f8.out 0;have f1:=zA f8.out 1;have f2:=zA f8.out 2;clear h7;go_wp2;refine bodyPost_ret (v:=.tuple #[.agg #[.slice none 0 0,.slice none 0 0,.slice none 0 0],.int .i64 3]) (by simp[results,Tryz.results13,go_sem,p0,p1,p2]) rfl ?_;obtain⟨j5,H2⟩:=dB f8.out (.slice none 0 0) (.slice none 0 0) (.slice none 0 0);exact⟨.inl ⟨3,rfl,.inr (.inr ⟨rfl,b9.out,c0.out.symm,t6.out⟩)⟩,zC t9.out H2 (fun j e=>by have e:P+1=j:=Oj e;have:=f3.out;omega)⟩
  obtain⟨e1,e2⟩:=iH (idx:=uB js) (per:=uB (perL Ls js)) (c:=c) (by rw[sM,b7];exact hct);rw[e1,e2]at b4;have s0:=qP hct;have x7:=Kh hct;have b4:=Kh b4;clear e1 e2 hct H6 e9 e4 a4 a3 H3 h0 H1 H4 b7 H9;go_wp2_with fail;refine b4.out.mono ?_;rintro e w5 ⟨rfl,h7⟩;have m6:=Kh (h9.out.grow h7);clear h7 o0 o1 o2 q0 q1 q2 q3 q4 q5;have H6:=m6.out.cells.1;rw[b3.out]at H6;have g3:=Kh H6;clear H6;go_upto_region 20 with (first|(at_make;refine bJ rfl _ _ _ rfl wF rfl .i64 .i64 _ _ c rfl rfl rfl rfl ?b1 ?b2 ?_;(case b1=>omega);(case b2=>(unfold maxLen;omega));intro w6 h1 c6 b6;(have k4:=zB g3.out c6);(obtain⟨d0,d1,d2⟩:=xW k4);(have f2:=zA k4 2))|fail);obtain⟨ag,c8⟩:=Nm w5.heap.size;obtain⟨w7,j4⟩:=Nm (w6.setCell ⟨o,2,none⟩ (.slice (some ⟨w5.heap.size,0,none⟩) c c));rw[show List.replicate c (Value.bool false)=bls (List.replicate c false) by simp[bls],<-c8,<-qHI I Ls k c]at h1
  have m4:Hid (CoS I w4 o k pg c4 Ls js sI cI sP cP (.slice (some ⟨ag,0,none⟩) c c) [⟨w4.heap.size,4,.slice (some ⟨ag,0,none⟩) c c,c,bls (jV I Ls k c 0),1⟩] w7):=Kh (by
   rw[j4,<-c8];have:=m6.out.begin (ag:=ag) (c:=c) (xs:=jV I Ls k c 0) c6 (by rw[c8];rw[c8]at h1;exact h1)
   exact this)
  rw[<-j4,<-c8];clear h1 c6 b6 k4 d0 d1 d2 f2 c8 j4 g3 m6 h9 x9;obtain⟨o0,o1,o2⟩:=xW m4.out.cells.1;clear o0 o1;go_wp2
  go_loopg [13,14,15,16,81] c (fun gh a13 a14 a15 a16 a81 wr=>∃i:Nat,gh+i=c/\a81=.int .i64 i/\CoS I w4 o k pg c4 Ls js sI cI sP cP (.slice (some ⟨ag,0,none⟩) c c) [⟨w4.heap.size,4,.slice (some ⟨ag,0,none⟩) c c,c,bls (jV I Ls k c i),1⟩] wr)
  case atStart=>exact⟨0,rfl,rfl,m4.out⟩
  clear m4 o2;obtain⟨i,o5,rfl,H3⟩:=hrel;have m0:=Kh o5;have h9:=Kh H3;clear o5 H3;by_cases hi:i<c
  ·have r9:(i:Int)<c:=by omega
   go_wp2
   go_loopg [14,15,16] k (fun gh a14 a15 a16 wx=>∃(b r v q:Nat) (z:Int),gh=b/\a14=.int .i64 (r:Int)/\a15=.int .i64 (v:Int)/\a16=.int .i64 z/\z=(b:Int)-1/\b<=k/\r<=2000/\v<an/\valC I.tab (imI I) Ls b r v=valC I.tab (imI I) Ls k i 0/\wx=wr.drewN q)
   case atStart=>exact⟨k,i,0,0,(k:Int)-1,rfl,rfl,rfl,by go_num,rfl,Nat.le_refl _,by omega,by have:=h2.out.1.2.2.1;have:=HN.out;omega,rfl,rfl⟩
   obtain⟨b,r,v,q,z,o7,rfl,rfl,rfl,hz,z0,hr,hv,h3,rfl⟩:=hrel;have p8:=Kh h3;have x2:=Kh o7;have H5:=h9.out.grow (zQ wr q none);have x8:=Kh H5;clear h3 o7;rcases b with _|b
   ·obtain rfl:z = -1:=by omega
    have h4:=H5.g;obtain⟨q0,q1,q2,q3,q4,q5⟩:=yD (g0.out _ h4).1;have e0:v=valC I.tab (imI I) Ls k i 0:=p8.out;have c1:=(AR.out.kept h4 (by simp)).boolQ v (by rw[<-m8.out];exact hv);have x5:=Kh e0;clear H5 h4 e0 hz q0 q1 q2 q3 q5;go_upto_region 29 with fail;refine qRU x8.out hi s0 hv r7 ⟨a1,a2⟩ q4 c1 ?_;intro z119 z120 z121 z122 z123 z124 z125 z126 z127 w8 h8;rw[x5.out,qKT hi]at h8;have H8:=Kh h8;clear h8 c1 q4;go_wp2;go_roundg (c-(i+1))
    case measure=>have:=m0.out;omega
    exact⟨i+1,by have:=m0.out;omega,by go_num,H8.out⟩
   obtain rfl:z=(b:Int):=by omega
   have h4:=h9.out.g;obtain⟨q0,q1,q2,q3,q4,q5⟩:=yD (g0.out _ h4).1;have e7:b<k:=(by omega);obtain⟨c5,n7,_⟩:=c9.out.pow b (by exact e7);obtain⟨rb,ro,rc,cr,rc1,rc2,cel⟩:=h9.out.row (b:=b) (by rw[b3.out];exact e7) (by omega) (by rw[b3.out];exact Nat.le_refl _);obtain⟨L,hL⟩:=Nm (Ls.getD b 0);rw[<-hL]at cr rc1 cel n7 c5;have s4:0<L:=by omega
   have k0:(imI I).getD b 0<I.tab.length:=by
    obtain⟨y,ey,hy⟩:=qAK h2.out.2.2.2 (i:=b) (by rw[<-HK.out];exact e7);rw[imI,xZ (x:=0) (by rw[<-HK.out];exact e7),ey,Int.toNat_natCast];exact hy
   have s3:L<=an:=by rw[HN.out];exact fK b0.out.1 k0 c5
   obtain⟨t,ht⟩:=Nm (r % L);obtain⟨s,hs⟩:=Nm (r / L);have n4:t<L:=(by rw[ht];exact Nat.mod_lt _ s4);have r5:s<=r:=by rw[hs];exact Nat.div_le_self _ _
   have ce:=cel t n4;obtain⟨x,hx⟩:=Nm (powN I.tab ((imI I).getD b 0) t);rw[<-hx]at ce;have d5:x<an:=(by rw[hx,HN.out];exact qAA b0.out.1 k0 t);have i4:=HQ.out.kept h4 (row:=none) (by simp);have cv:=i4.hd v (by rw[<-HN.out];exact hv);have cx:=i4.el v x (by rw[<-HN.out];exact hv) (by rw[<-HN.out];exact d5);have cc:=i4.cap v (by rw[<-HN.out];exact hv);rw[<-HN.out]at cv cc;obtain⟨y,hy⟩:=Nm (entN I.tab v x);rw[<-hy]at cx;have r4:y<an:=(by rw[hy,HN.out];exact pH b0.out.1 (by rw[<-HN.out];exact hv) (by rw[<-HN.out];exact d5));have s9:Hid (valC I.tab (imI I) Ls b s y=valC I.tab (imI I) Ls k i 0):=Kh (by rw[<-p8.out,valC,<-hL,<-ht,<-hx,<-hy,<-hs]);have f4:(r:Int).tmod (L:Int)=(t:Int):=by rw[ht];exact Int.ofNat_tmod r L
   have g4:(r:Int).tdiv (L:Int)=(s:Int):=by rw[hs];exact Int.ofNat_tdiv r L
   have f6:IntKind.i64.wrap (t:Int)=(t:Int):=xJ (by omega);have g6:wrap64 (s:Int)=(s:Int):=IntWalk.wrap64_in _ (by omega);have y7:¬(L:Int)=0:=by omega
   have z6:(b:Int)<k:=(by omega);have y5:(v:Int)<an:=(by omega);have y0:(x:Int)<an:=(by omega);have y6:(t:Int)<L:=(by omega);have cc1:=cc.1;have cc2:RC v<=9223372036854775807:=by have:=cc.2;unfold maxLen at this;omega
   have rc2':rc<=9223372036854775807:=by unfold maxLen at rc2;omega
   obtain⟨rv,j8⟩:=Nm (RB v);obtain⟨rw',j7⟩:=Nm (RO v);obtain⟨rz,j6⟩:=Nm (RC v);rw[<-j8,<-j7]at cx;rw[<-j8,<-j7,<-j6]at cv;rw[<-j6]at cc1 cc2;have z5:(0:Int)<=b:=by omega
   clear j8 j7 j6 cc rc2 H5 h4 c5 n7 cel hL k0 ht hs hx i4 hy hz q0 q2 q3 q4 q5 n4;go_wp2
   go_quiet (fail)
   clear f4 f6;go_wp2;go_roundg b
   case measure=>have:=x2.out;omega
   exact⟨b,s,y,_,(b:Int)-1,rfl,by go_num,by go_num,by go_num,rfl,Nat.le_of_lt e7,Nat.le_trans r5 hr,r4,s9.out,by first|rfl|exact World.drewN_drewN _ _ _⟩
  have k1:c=i:=by have:=m0.out;omega
  have r9:¬(i:Int)<c:=(by omega);have z8:=Kh k1;obtain⟨o0,o1,o2⟩:=xW h9.out.cells.1;rw[b3.out]at o0 o1;have h0:=h9.out.g;have d3:=Kh (zB h5.out h0);have x1:=Kh (g0.out _ h0).2;obtain⟨r0,r1,r2⟩:=xW d3.out;have f0:=zA d3.out 0;have f1:=zA d3.out 1;have f2:=zA d3.out 2;have k2:=h9.out.cntT;rw[b3.out,<-k1]at k2;have m2:=Kh k2;clear h0 k1 k2;go_wp2;refine bodyPost_ret (v:=.tuple #[.agg #[.slice sI k cI,.slice sP k cP,.slice (some ⟨ag,0,none⟩) c c],.int .i64 0]) (by simp[results,Tryz.results13,go_sem,r0,r1,r2]) rfl ?_;obtain⟨j5,H2⟩:=dB d3.out (.slice sI k cI) (.slice sP k cP) (.slice (some ⟨ag,0,none⟩) c c)
  have j9:∀e',e'≠35->∀j,(some (P+1):Option Nat)=some j->wr.heap.size<=j\/xG wr e' j:=fun e' he j hj=>by
   have hj:=Oj hj;subst hj;exact .inr ⟨_,_,_,d3.out,fun e1=>he e1.symm⟩
  have hz:=H2.size;have e1:ints (uB js)=nats js:=kB js;have e2:ints (uB (perL Ls js))=nats (perL Ls js):=kB _;have n6:=((m2.out.1.kept H2 (j9 _ (by decide))).mono hz).row;have n5:=((m2.out.2.1.kept H2 (j9 _ (by decide))).mono hz).row;have r6:=((m2.out.2.2.kept H2 (j9 _ (by decide))).mono hz).row;rw[<-e1]at n6;rw[<-e2]at n5;exact⟨.inr ⟨⟨uB js,uB (perL Ls js),jV I Ls k c c⟩,_,rfl,b9.out,c0.out.symm,qMG.make l9.out c9.out x7.out,_,_,_,rfl,n6,n5,r6⟩,zC x1.out H2 (fun j e=>by have e:P+1=j:=Oj e;have:=f3.out;omega)⟩
end Go.Proofs.YtobakifdllameaaGreat
