/- Part 52 of the proof: CAgr, SomeLen. -/
import Derived.Test.YtjfdomfendbhfaaQe50
import Derived.Test.YtjfdomfendbhfaaQe51
import Derived.Deep.DeepCutAuto
import Derived.Deep.CutBlock
import Derived.Shelf.Vars
set_option linter.unusedVariables false
set_option linter.unusedSimpArgs false
namespace Go.Proofs.Ytjfdomfendbhfaa
open Go.RowKit Go.Maps
set_option maxRecDepth 100000 in
set_option maxHeartbeats 1600000 in
theorem combineAgrees_walk (w:World) (v0 v1:Value) (z0 z1:List Int) (h0:Row w.heap.size w v0 (z0.map (Value.int .i64))) (h1:Row w.heap.size w v1 (z1.map (Value.int .i64))) (hL:SomeLen w) :
  Calls Try.prog 7 #[v0,v1] w fun e w'=>e=.returned (.bool true)/\w.grownBy w' none:=by
 have i3:=Kh h1
 clear h1
 have HL:=Kh hL
 clear hL
 go_enter Try.func7,Try.ntmps7
 go_wp2_with fail
 refine(qAZ w.heap.size w v0 z0 h0 (Nat.le_refl _)).mono ?_
 rintro e w1 ⟨rfl,f2,e8⟩
 go_wp2_with fail
 refine(uK w.heap.size w.heap.size w1 2 (by omega) f2).mono ?_
 rintro e w2 ⟨r,rfl,k1,d8,d0,e7⟩
 replace d8:=d8 (by omega)
 have GW2:=Kh (zB e8 e7 (by simp))
 obtain⟨k,hk⟩:∃ k:Nat,1+r=(k:Int):=⟨(1+r).toNat,by omega⟩
 have d9:1<=k:=by omega
 have k3:k<=2:=by omega
 have d2:=Kh d0.lt
 have f8:=Kh (ldia_any w.heap.size w.heap.size w2 k d9 (by omega) d0)
 clear f2 e8 d0 e7
 go_wp2_with fail
 refine f8.out.mono ?_
 rintro e w3 ⟨pa,ca,np,nc,pc,cc,root,L,cs,rfl,h6⟩
 have GW3:=Kh (zB GW2.out h6.gr (fun j e=>by have e:w.heap.size=j:=Oj e;omega))
 have b1:=heap_alloc_new w3 (.cells #[.slice pa np pc,.slice ca nc cc,.int .i64 root] 25)
 have a0:=Ga w3 (.cells #[.slice pa np pc,.slice ca nc cc,.int .i64 root] 25) none
 obtain⟨w4,b7⟩:∃ w4,w4=w3.alloc (.cells #[.slice pa np pc,.slice ca nc cc,.int .i64 root] 25):=⟨_,rfl⟩
 obtain⟨G,hG⟩:∃ G,G=w3.heap.size:=⟨_,rfl⟩
 rw[<- b7]at b1 a0
 rw[<- hG]at b1
 have i2:=Kh b7;have j0:=Kh hG;have j6:=Kh b1
 have g6:=h6.tape.lt
 have k0:w.heap.size < G:=by omega
 have GW4:=Kh (zB GW3.out a0 (by simp))
 have H6:w.heap.size < w2.heap.size:=d2.out
 have a7:=Kh (h6.step a0 (by simp) H6 (h6.tape.kept a0 (by simp)))
 clear h6 b1 a0 b7 hG g6 f8
 go_upto_region 4 with fail
 rw[<- i2.out,<- j0.out]
 go_wp2_with fail
 refine(qAZ w.heap.size w4 v1 z1 (i3.out.kept GW4.out (by simp)) GW4.out.size).mono ?_
 rintro e w5 ⟨rfl,f0,e6⟩
 go_wp2_with fail
 refine(gM w.heap.size w4.heap.size w5 (k:Int) 10 (by omega) (by omega) (by omega) (by omega) f0).mono ?_
 rintro e w6 ⟨l,rfl,c6,H8,g7,e5⟩
 have h5:w4.grownBy w6 none:=zB e6 e5 (fun j e=>by have e:w4.heap.size=j:=Oj e;omega)
 have h6:=a7.out.step h5 (by simp) H6 (a7.out.tape.kept h5 (by simp))
 have g5:=Kh (zA j6.out h5 (by simp))
 have GW6:=Kh (zB GW4.out h5 (by simp))
 obtain⟨s,hs⟩:∃ s,s=strOfNums l:=⟨_,rfl⟩
 have b2:Hid (zP s (k:Int)=true):=Kh (by rw[hs];exact nD H8 (by omega) (by omega) (by omega))
 have d7:s.size<=maxLen:=by rw[hs,strOfNums_size];unfold maxLen;omega
 rw[<- hs]
 obtain⟨ps,c3⟩:∃ ps,ps=famB L:=⟨_,rfl⟩
 have a9:=h6.dia
 have c9:=h6.dE d9 (by omega)
 rw[<- c3]at a9 c9
 have j2:=Kh a9;have b3:=Kh c9
 have f5:Hid (ps.length<=4096):=Kh (by rw[c3,tZ];have:=h6.np_;have:=h6.few;omega)
 have d3:=Kh d7
 have g4:=Kh (cdfa_any w6.heap.size w6 _ ⟨ps,cs,root⟩ (k:Int) (Nat.le_refl _) a9 f5.out)
 obtain⟨c0,c1,c2⟩:=zJ g5.out
 clear c6 H8 f0 g7 e6 e5 h5 h6 a9 c9 hs d7 c3
 go_wp2_with fail
 refine g4.out.mono ?_
 rintro e w7 ⟨E,m,⟨f1,n1,rfl,b9,e4⟩,H7⟩
 obtain⟨fa,mf,fc,na,mn,nc1,rfl,rfl⟩:=b9.shapes
 obtain⟨ml,c5⟩:∃ x,x=m.letters:=⟨_,rfl⟩
 obtain⟨ms,c4⟩:∃ x,x=m.start:=⟨_,rfl⟩
 rw[<- c5,<- c4]
 have j4:=Kh (dfaT_agg b9 c5 c4)
 have a5:=Kh H7
 have b0:=heap_alloc_new w7 (.cells #[.int .i64 ml,.int .i64 ms,.slice fa mf fc,.slice na mn nc1] 42)
 have H9:=Ga w7 (.cells #[.int .i64 ml,.int .i64 ms,.slice fa mf fc,.slice na mn nc1] 42) none
 obtain⟨w8,b6⟩:∃ w8,w8=w7.alloc (.cells #[.int .i64 ml,.int .i64 ms,.slice fa mf fc,.slice na mn nc1] 42):=⟨_,rfl⟩
 obtain⟨X,hX⟩:∃ X,X=w7.heap.size:=⟨_,rfl⟩
 rw[<- b6]at b0 H9
 rw[<- hX]at b0
 have i1:=Kh b6;have g9:=Kh hX;have j5:=Kh b0
 have h4:=Kh (zD e4 H9)
 have f9:=Kh (j4.out.kept H9 (by simp))
 have a4:Hid (w7.heap.size<=w8.heap.size):=Kh H9.size
 have GW8:=Kh (zB GW6.out h4.out (by simp))
 have a6:=Kh (HL.out.kept GW8.out (by simp))
 have i6:Hid (∀ W:World,w8.grownBy W none->Calls Try.prog 13 #[] W fun e w'=>e=.returned (.bool true)/\w8.grownBy w' none):=Kh (fun W hW=>(jC W (a6.out.kept hW (by simp))).mono fun e w' h=>⟨h.1,zD hW h.2⟩)
 clear b0 H9 b6 hX c5 c4 b9 e4 H7 g4 c0 c1 c2
 go_upto_region 6 with fail
 rw[<- i1.out,<- g9.out]
 by_cases hE:E=0
 case neg =>
  have h3:=dia_lim a5.out b3.out hE
  subst h3
  clear hE
  go_wp2_with fail
  refine(i6.out _ (zN _ _)).mono ?_
  rintro e w9 ⟨rfl,a8⟩
  go_wp2
  go_ret
  exact⟨rfl,zB GW8.out a8 (by simp)⟩
 case pos =>
  subst hE
  obtain⟨k',k2,h8,h7,LS,a2,hN,hm,_⟩:=a5.out.ok
  have c7:k=k':=by omega
  subst c7
  have HM:=Kh hm;have i5:=Kh a2
  have b8:=bI h8 h7 a2
  rw[<- hm]at b8
  obtain⟨ans,H1⟩:∃ b,b=diaH ⟨ps,cs,root⟩ s:=⟨_,rfl⟩
  have f7:Hid (ans=acc m (st0 m) (zI s)):=Kh (by rw[H1,hm];exact jJ h8 h7 a2 b3.out b2.out)
  have H5:=Kh (j2.out.kept h4.out (by simp))
  have i9:Hid (∀ W:World,w8.grownBy W none->Calls Try.prog 11 #[.agg #[.slice pa np pc,.slice ca nc cc,.int .i64 root],.string s] W fun e w'=>e=.returned (.bool ans)/\w8.grownBy w' none):=Kh (fun W hW=>by
   rw[H1]
   exact(pT w6.heap.size W _ ⟨ps,cs,root⟩ s (zD h4.out hW).size (H5.out.kept hW (by simp)) d3.out (a6.out.kept hW (by simp))).mono fun e w' h=>⟨h.1,zD hW h.2⟩)
  have j9:Hid (∀ W:World,w8.grownBy W none->Calls Try.prog 25 #[.agg #[.int .i64 ml,.int .i64 ms,.slice fa mf fc,.slice na mn nc1],.string s] W fun e w'=>e=.returned (.bool ans)/\w8.grownBy w' none):=Kh (fun W hW=>by
   rw[f7.out]
   exact(accepts_any w7.heap.size W _ m _ _ s (Nat.le_trans a4.out hW.size) (f9.out.kept hW (by simp)) b8 hN b2.out).mono fun e w' h=>⟨h.1,zD hW h.2⟩)
  have b4:Hid (∀ W:World,w8.grownBy W none->(W.cell? ⟨G,0,none⟩=some (.slice pa np pc)/\W.cell? ⟨G,1,none⟩=some (.slice ca nc cc)/\W.cell? ⟨G,2,none⟩=some (.int .i64 root))/\(W.cell? ⟨X,0,none⟩=some (.int .i64 ml)/\W.cell? ⟨X,1,none⟩=some (.int .i64 ms)/\W.cell? ⟨X,2,none⟩=some (.slice fa mf fc)/\W.cell? ⟨X,3,none⟩=some (.slice na mn nc1))):=Kh (fun W hW=>⟨zJ (zA g5.out (zD h4.out hW) (by simp)),zG (zA j5.out hW (by simp))⟩)
  have i4:Hid (∀ W:World,w8.grownBy W none->Calls Try.prog 19 #[.agg #[.int .i64 ml,.int .i64 ms,.slice fa mf fc,.slice na mn nc1],.slice pa np pc] W (qDA W m ps)):=Kh (fun W hW=>by
   obtain⟨pv,cv,e,hp,-⟩:=H5.out.kept hW (by simp)
   cases e
   exact qBJ (w8.heap.size) W _ _ m ps hW.size ((f9.out.mono a4.out).kept hW (by simp)) (hp.mono h4.out.size) f5.out)
  have j8:Hid (∀ (w':World) (v:Value) (u1 u2:ByteArray) (E:Int),OfOut w' m ps v u1 u2 E->E=3\/(E=0/\∃ c:DiaV,qG w'.heap.size w' v c/\diaH c s=ans)):=Kh (fun w' v u1 u2 E h=>by
   rw[hm]at h
   rcases of_again (g:=⟨ps,cs,root⟩) h8 h7 a2 hN b3.out h with h3|⟨h0,c,hc,hh⟩
   ·exact .inl h3
   ·exact .inr ⟨h0,c,hc,by rw[hh s b2.out,H1]⟩)
  obtain⟨⟨g0,g1,g2⟩,x0,x1,x2,x3⟩:=b4.out w8 (zN _ _)
  clear H1 hm b8 hN a2
  go_upto_region 8 with fail
  go_region_held3 (fun W=>(W.cell? ⟨G,0,none⟩=some (.slice pa np pc)/\W.cell? ⟨G,1,none⟩=some (.slice ca nc cc)/\W.cell? ⟨G,2,none⟩=some (.int .i64 root))/\(W.cell? ⟨X,0,none⟩=some (.int .i64 ml)/\W.cell? ⟨X,1,none⟩=some (.int .i64 ms)/\W.cell? ⟨X,2,none⟩=some (.slice fa mf fc)/\W.cell? ⟨X,3,none⟩=some (.slice na mn nc1)))
    (first|go_keep|exact b4.out _ (by assumption)|fail)
    (first|(go_at_call 25;(with_reducible refine(j9.out _ (by first|assumption|exact zL _ none)).mono ?_);rintro e w7 ⟨rfl,f4⟩)|(go_at_call 11;(with_reducible refine(i9.out _ (by first|assumption|exact zL _ none)).mono ?_);rintro e w7 ⟨rfl,f3⟩)|fail)
  have e0:=f3
  have e9:(ans != ans)=false:=by simp
  have d4:=Kh e0
  clear e0 f3 g0 g1 g2 x0 x1 x2 x3
  obtain⟨⟨g0,g1,g2⟩,x0,x1,x2,x3⟩:=b4.out w7 d4.out
  go_wp2_with fail
  refine(i4.out w7 d4.out).mono ?_
  rintro e w9 ⟨v9,u1,u2,F,rfl,H4,a8⟩
  obtain⟨⟨ap,n2,cp,ac,n3,cc3,rt,rfl⟩,-⟩:=of_cases H4
  have j7:=Kh (j8.out _ _ _ _ _ H4)
  have H0:=heap_alloc_new w9 (.cells #[.slice ap n2 cp,.slice ac n3 cc3,.int .i64 rt] 25)
  have h9:=Ga w9 (.cells #[.slice ap n2 cp,.slice ac n3 cc3,.int .i64 rt] 25) none
  obtain⟨w10,H3⟩:∃ w10,w10=w9.alloc (.cells #[.slice ap n2 cp,.slice ac n3 cc3,.int .i64 rt] 25):=⟨_,rfl⟩
  obtain⟨Y,hY⟩:∃ Y,Y=w9.heap.size:=⟨_,rfl⟩
  rw[<- H3]at H0 h9
  rw[<- hY]at H0
  have d1:=Kh H3;have g8:=Kh hY;have d6:=Kh H0
  have H2:=Kh h9
  have h2:=Kh (zD d4.out (zD a8 h9))
  clear H0 h9 H3 hY a8 H4 g0 g1 g2 x0 x1 x2 x3
  go_upto_region 11 with fail
  rw[<- d1.out,<- g8.out]
  have f6:Hid (∀ W:World,w10.grownBy W none->Calls Try.prog 13 #[] W fun e w'=>e=.returned (.bool true)/\w10.grownBy w' none):=Kh (fun W hW=>(jC W (a6.out.kept (zD h2.out hW) (by simp))).mono fun e w' h=>⟨h.1,zD hW h.2⟩)
  have g3:Hid (∀ W:World,w10.grownBy W none->(W.cell? ⟨G,0,none⟩=some (.slice pa np pc)/\W.cell? ⟨G,1,none⟩=some (.slice ca nc cc)/\W.cell? ⟨G,2,none⟩=some (.int .i64 root))/\(W.cell? ⟨Y,0,none⟩=some (.slice ap n2 cp)/\W.cell? ⟨Y,1,none⟩=some (.slice ac n3 cc3)/\W.cell? ⟨Y,2,none⟩=some (.int .i64 rt))):=Kh (fun W hW=>⟨(b4.out W (zD h2.out hW)).1,zJ (zA d6.out hW (by simp))⟩)
  obtain⟨⟨g0,g1,g2⟩,y0,y1,y2⟩:=g3.out w10 (zN _ _)
  rcases j7.out with h3|⟨h0,c,hc,hh⟩
  ·subst h3
   clear g0 g1 g2 y0 y1 y2
   have c8:=zL w10 none
   obtain⟨wd,b5⟩:∃ wd,wd=w10.drew:=⟨_,rfl⟩
   rw[<- b5]at c8
   have j1:=Kh c8;have i0:=Kh b5
   clear c8 b5
   refine wp_region_noPanic ?_
   refine wN (G:=uZ 18 (fun _=>True) (fun _=>True)) (by kernel_rfl) ?_
   rw[<- i0.out]
   refine takeC (i:=0) (v:=?_) rfl rfl (Or.inl ⟨by first|(simp[Region.wanted,yielded];done)|kernel_rfl,?_⟩) ⟨trivial,fun _=>trivial⟩ ?_
   rotate_left
   ·(rintro wz hz;(try dsimp only at hz);go_simp;(try with_reducible rfl))
   try simp only[Act.put,sPd,sPe,sPf,sPa,sPb,sPc]
   refine takeC (i:=1) (v:=?_) rfl rfl (Or.inl ⟨by first|(simp[Region.wanted,yielded];done)|kernel_rfl,?_⟩) ⟨trivial,fun _=>trivial⟩ ?_
   rotate_left
   ·(rintro wz hz;(try dsimp only at hz);go_simp;(try with_reducible rfl))
   try simp only[Act.put,sPd,sPe,sPf,sPa,sPb,sPc]
   refine takeC (i:=2) (v:=?_) rfl rfl (Or.inl ⟨by first|(simp[Region.wanted,yielded];done)|kernel_rfl,?_⟩) ⟨trivial,fun _=>trivial⟩ ?_
   rotate_left
   ·(rintro wz hz;(try dsimp only at hz);go_simp;(try with_reducible rfl))
   try simp only[Act.put,sPd,sPe,sPf,sPa,sPb,sPc]
   refine lS (i:=3) (v:=undef) rfl rfl (by kernel_rfl) (by kernel_rfl) (by kernel_rfl) (fun _ _ _ h=>h) (Or.inr ⟨by first|(simp[Region.wanted,yielded];done)|kernel_rfl,rfl⟩) ⟨trivial,fun _=>trivial⟩ ?_
   try simp only[Act.put,sPd,sPe,sPf,sPa,sPb,sPc]
   refine lS (i:=4) (v:=undef) rfl rfl (by kernel_rfl) (by kernel_rfl) (by kernel_rfl) (fun _ _ _ h=>h) (Or.inr ⟨by first|(simp[Region.wanted,yielded];done)|kernel_rfl,rfl⟩) ⟨trivial,fun _=>trivial⟩ ?_
   try simp only[Act.put,sPd,sPe,sPf,sPa,sPb,sPc]
   refine lS (i:=5) (v:=undef) rfl rfl (by kernel_rfl) (by kernel_rfl) (by kernel_rfl) (fun _ _ _ h=>h) (Or.inr ⟨by first|(simp[Region.wanted,yielded];done)|kernel_rfl,rfl⟩) ⟨trivial,fun _=>trivial⟩ ?_
   try simp only[Act.put,sPd,sPe,sPf,sPa,sPb,sPc]
   refine lS (i:=6) (v:=undef) rfl rfl (by kernel_rfl) (by kernel_rfl) (by kernel_rfl) (fun _ _ _ h=>h) (Or.inr ⟨by first|(simp[Region.wanted,yielded];done)|kernel_rfl,rfl⟩) ⟨trivial,fun _=>trivial⟩ ?_
   try simp only[Act.put,sPd,sPe,sPf,sPa,sPb,sPc]
   refine lS (i:=7) (v:=undef) rfl rfl (by kernel_rfl) (by kernel_rfl) (by kernel_rfl) (fun _ _ _ h=>h) (Or.inr ⟨by first|(simp[Region.wanted,yielded];done)|kernel_rfl,rfl⟩) ⟨trivial,fun _=>trivial⟩ ?_
   try simp only[Act.put,sPd,sPe,sPf,sPa,sPb,sPc]
   refine lS (i:=8) (v:=undef) rfl rfl (by kernel_rfl) (by kernel_rfl) (by kernel_rfl) (fun _ _ _ h=>h) (Or.inr ⟨by first|(simp[Region.wanted,yielded];done)|kernel_rfl,rfl⟩) ⟨trivial,fun _=>trivial⟩ ?_
   try simp only[Act.put,sPd,sPe,sPf,sPa,sPb,sPc]
   refine lS (i:=9) (v:=undef) rfl rfl (by kernel_rfl) (by kernel_rfl) (by kernel_rfl) (fun _ _ _ h=>h) (Or.inr ⟨by first|(simp[Region.wanted,yielded];done)|kernel_rfl,rfl⟩) ⟨trivial,fun _=>trivial⟩ ?_
   try simp only[Act.put,sPd,sPe,sPf,sPa,sPb,sPc]
   refine lS (i:=10) (v:=undef) rfl rfl (by kernel_rfl) (by kernel_rfl) (by kernel_rfl) (fun _ _ _ h=>h) (Or.inr ⟨by first|(simp[Region.wanted,yielded];done)|kernel_rfl,rfl⟩) ⟨trivial,fun _=>trivial⟩ ?_
   try simp only[Act.put,sPd,sPe,sPf,sPa,sPb,sPc]
   refine lS (i:=11) (v:=undef) rfl rfl (by kernel_rfl) (by kernel_rfl) (by kernel_rfl) (fun _ _ _ h=>h) (Or.inr ⟨by first|(simp[Region.wanted,yielded];done)|kernel_rfl,rfl⟩) ⟨trivial,fun _=>trivial⟩ ?_
   try simp only[Act.put,sPd,sPe,sPf,sPa,sPb,sPc]
   refine lS (i:=12) (v:=undef) rfl rfl (by kernel_rfl) (by kernel_rfl) (by kernel_rfl) (fun _ _ _ h=>h) (Or.inr ⟨by first|(simp[Region.wanted,yielded];done)|kernel_rfl,rfl⟩) ⟨trivial,fun _=>trivial⟩ ?_
   try simp only[Act.put,sPd,sPe,sPf,sPa,sPb,sPc]
   refine lS (i:=13) (v:=undef) rfl rfl (by kernel_rfl) (by kernel_rfl) (by kernel_rfl) (fun _ _ _ h=>h) (Or.inr ⟨by first|(simp[Region.wanted,yielded];done)|kernel_rfl,rfl⟩) ⟨trivial,fun _=>trivial⟩ ?_
   try simp only[Act.put,sPd,sPe,sPf,sPa,sPb,sPc]
   refine takeC (i:=14) (v:=?_) rfl rfl (Or.inl ⟨by first|(simp[Region.wanted,yielded];done)|kernel_rfl,?_⟩) ⟨trivial,fun _=>trivial⟩ ?_
   rotate_left
   ·(rintro wz hz;(try dsimp only at hz);go_simp;(try with_reducible rfl))
   try simp only[Act.put,sPd,sPe,sPf,sPa,sPb,sPc]
   refine takeC (i:=15) (v:=?_) rfl rfl (Or.inl ⟨by first|(simp[Region.wanted,yielded];done)|kernel_rfl,?_⟩) ⟨trivial,fun _=>trivial⟩ ?_
   rotate_left
   ·(rintro wz hz;(try dsimp only at hz);go_simp;(try with_reducible rfl))
   try simp only[Act.put,sPd,sPe,sPf,sPa,sPb,sPc]
   refine oneG (i:=16) (by kernel_rfl) rfl (fun K hK=>?_)
   go_simp
   go_at_call 13
   refine(f6.out _ j1.out).mono ?_
   rintro e w12 ⟨rfl,a1⟩
   have d5:=Kh a1
   refine hK.out _ _ ⟨trivial,fun _=>trivial⟩ ?_
   clear hK K a1
   try simp only[Act.put,sPd,sPe,sPf,sPa,sPb,sPc]
   refine takeC (i:=17) (v:=?_) rfl rfl (Or.inl ⟨by first|(simp[Region.wanted,yielded];done)|kernel_rfl,?_⟩) ⟨trivial,fun _=>trivial⟩ ?_
   rotate_left
   ·(rintro wz hz;(try dsimp only at hz);go_simp;(try with_reducible rfl))
   try simp only[Act.put,sPd,sPe,sPf,sPa,sPb,sPc]
   refine oneG (i:=18) (by kernel_rfl) rfl (fun K hK=>?_)
   go_simp
   refine hK.out _ _ ⟨trivial,fun _=>trivial⟩ ?_
   clear hK K
   try simp only[Act.put,sPd,sPe,sPf,sPa,sPb,sPc]
   refine jI (by kernel_rfl) ?_ _
   refine NoPanic.normal ?_
   go_wp2
   go_ret
   exact⟨rfl,zB GW8.out (zD h2.out d5.out) (by simp)⟩
  ·have e1:(F == 3)=false:=by rw[h0];rfl
   have e2:(F == 0)=true:=by rw[h0];rfl
   have j3:=Kh (hc.kept H2.out (by simp))
   have a3:Hid (w9.heap.size<=w10.heap.size):=Kh H2.out.size
   have e3:(ans == ans)=true:=by simp
   have i8:Hid (∀ W:World,w10.grownBy W none->Calls Try.prog 11 #[.agg #[.slice ap n2 cp,.slice ac n3 cc3,.int .i64 rt],.string s] W fun e w'=>e=.returned (.bool ans)/\w10.grownBy w' none):=Kh (fun W hW=>by
    rw[<- hh]
    exact(pT w9.heap.size W _ c s (Nat.le_trans a3.out hW.size) (j3.out.kept hW (by simp)) d3.out (a6.out.kept (zD h2.out hW) (by simp))).mono fun e w' h=>⟨h.1,zD hW h.2⟩)
   have i7:Hid (∀ W:World,w10.grownBy W none->Calls Try.prog 11 #[.agg #[.slice pa np pc,.slice ca nc cc,.int .i64 root],.string s] W fun e w'=>e=.returned (.bool ans)/\w10.grownBy w' none):=Kh (fun W hW=>by
    rw[f7.out,HM.out,<- jJ (g:=⟨ps,cs,root⟩) h8 h7 i5.out b3.out b2.out]
    exact(pT w6.heap.size W _ ⟨ps,cs,root⟩ s (zD h4.out (zD h2.out hW)).size (H5.out.kept (zD h2.out hW) (by simp)) d3.out (a6.out.kept (zD h2.out hW) (by simp))).mono fun e w' h=>⟨h.1,zD hW h.2⟩)
   clear hc hh
   go_region_held3 (fun W=>(W.cell? ⟨G,0,none⟩=some (.slice pa np pc)/\W.cell? ⟨G,1,none⟩=some (.slice ca nc cc)/\W.cell? ⟨G,2,none⟩=some (.int .i64 root))/\(W.cell? ⟨Y,0,none⟩=some (.slice ap n2 cp)/\W.cell? ⟨Y,1,none⟩=some (.slice ac n3 cc3)/\W.cell? ⟨Y,2,none⟩=some (.int .i64 rt)))
    (first|go_keep|exact g3.out _ (by assumption)|fail)
    (first|(go_at_call 13;(with_reducible refine(f6.out _ (by first|assumption|exact zL _ none)).mono ?_);rintro e w7 ⟨rfl,f4⟩)|(go_at_call 11;(first|(with_reducible refine(i8.out _ (by first|assumption|exact zL _ none)).mono ?_)|(with_reducible refine(i7.out _ (by first|assumption|exact zL _ none)).mono ?_));rintro e w7 ⟨rfl,f4⟩)|fail)
   all_goals
    go_wp2
    go_ret
    exact⟨rfl,zB GW8.out (zD h2.out (by assumption)) (by simp)⟩
end Go.Proofs.Ytjfdomfendbhfaa
namespace Go.Proofs.Ytjfdomfendbhfaa
open Go.RowKit
theorem someLen_of_shaped {w:World} (h:w.ShapedOpen Try.prog):SomeLen w:=by
 obtain⟨m,hm⟩:=Go.Proofs.cell_of_shapedOpen_int (P:=Try.prog) (w:=w) (g:=0) (t:=3) (zero:=#[.int .i64 0]) (k:=.i64) h (of_decide_eq_true (by kernel_rfl)) (by kernel_rfl) rfl (by kernel_rfl) (by kernel_rfl) Try.underlying3
 exact⟨World.block_lt_of_cell? w _ hm,m,hm⟩
end Go.Proofs.Ytjfdomfendbhfaa
