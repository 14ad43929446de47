/- Part 50 of the proof: CDfa, RMatch, OfC. -/
import Derived.Test.YtjfdomfendbhfaaQe49
import Derived.Deep.RegionHeld
import Derived.Deep.DeepCutAuto
import Derived.Deep.OwnRows
import Derived.Laws.Concat
set_option linter.unusedVariables false
set_option linter.unusedSimpArgs false
namespace Go.Proofs.Ytjfdomfendbhfaa
open Go.RowKit Go.Maps
theorem diaA_nx {g:DiaV} {k s a:Nat} {L:List (List Nat)} {nxl:List Nat} (h:NxOk (autD g.pats (k:Int)) k L nxl L.length 0) (hs:s < L.length) (ha:a < k):nxl.getD (s * k+a) 0=nx (diaA g k L) s a:=by
 rw[diaA,qBS hs ha,(h.2 s a ha (.inl hs)).1,zF hs]
theorem diaA_reach {g:DiaV} {k:Nat} {L:List (List Nat)} (hL:BfsD (nxtT (autD g.pats (k:Int))) k (st0T (autD g.pats (k:Int))) L) (q:Nat) (hq:q < L.length):∃ w,zX k w/\run (diaA g k L) (st0 (diaA g k L)) w=q:=by
 obtain⟨u,hu,e⟩:=hL.re _ (List.getElem_mem hq)
 refine⟨u,hu,?_⟩
 have h0:0 < L.length:=by omega
 have e0:L[0]=st0T (autD g.pats (k:Int)):=by have:=hL.hd;rw[List.getElem?_eq_getElem h0]at this;exact Oj this
 show run (bfsA _ _ _ L) 0 u=q
 rw[hL.run u h0 hu,e0,e]
 exact hL.nd.idxOf_getElem q hq
def oV (g:DiaV) (k:Nat) (L:List (List Nat)) (i:Nat):List Bool:=(L.take i).map (finD g (autD g.pats (k:Int))) ++ List.replicate (L.length - i) false
theorem lJ {g:DiaV} {k:Nat} {L:List (List Nat)} {i:Nat} (hi:i<=L.length):(oV g k L i).length=L.length:=by
 rw[oV,List.length_append,List.length_map,List.length_take,List.length_replicate];omega
theorem finTo_set {g:DiaV} {k:Nat} {L:List (List Nat)} {i:Nat} (hi:i < L.length):(oV g k L i).set i (finD g (autD g.pats (k:Int)) (L.getD i []))=oV g k L (i+1):=by
 have hl:((L.take i).map (finD g (autD g.pats (k:Int)))).length=i:=by rw[List.length_map,List.length_take];omega
 obtain⟨m,hm⟩:∃ m,L.length - i=m+1:=⟨L.length - i - 1,by omega⟩
 rw[oV,List.set_append_right _ _ (by omega),hl,Nat.sub_self,hm,List.replicate_succ,List.set_cons_zero,oV,List.take_add_one,List.getElem?_eq_getElem hi,zF hi,List.map_append,List.append_assoc,show L.length - (i+1)=m by omega];rfl
theorem finTo_all {g:DiaV} {k:Nat} {L:List (List Nat)}:oV g k L L.length=(diaA g k L).final:=by
 rw[oV,List.take_length,Nat.sub_self,List.replicate_zero,List.append_nil];rfl
set_option maxRecDepth 100000 in
set_option maxHeartbeats 800000 in
theorem dfa1_any (Bd:Nat) (w:World) (P S o k:Nat) (pv:Value) (ds:List DfaV) (L:List (List Nat)) (nxl fr bl:List Nat) (sb sc nb nc fb fc bb bc s i:Nat) (hp:w.cell? ⟨P,0,none⟩=some (.pointer (some ⟨o,0,none⟩))) (hS:w.cell? ⟨S,0,none⟩=some (.int .i64 (s:Int))) (h:ProdV w o k pv L nxl fr bl sb sc nb nc fb fc bb bc) (hd:DsIn Bd w pv ds) (hok:OkT ds k) (hs:s < L.length) (hi:i < ds.length) (hin:InT ds (L.getD s [])) (hl:ds.length<=400) (hL:L.length<=4000) :
  Calls Try.prog 68 #[.int .i64 (i:Int),.pointer (some ⟨P,0,none⟩),.pointer (some ⟨S,0,none⟩)] w fun e w'=>e=.returned (.bool (accT ds (L.getD s []) i))/\w.grownBy w' none:=by
 have HC:=Kh (lA Bd w o k pv ds L nxl fr bl sb sc nb nc fb fc bb bc s i h hd hok hs hi hin hl hL)
 obtain⟨b,hb⟩:∃ b,b=accT ds (L.getD s []) i:=⟨_,rfl⟩
 rw[<- hb]at HC ⊢
 clear h hd hok hs hi hin hl hL hb
 go_enter Try.func68,Try.ntmps68
 go_wp2_with fail
 refine HC.out.mono ?_
 rintro e w' ⟨rfl,hg⟩
 go_wp2
 go_ret
 exact⟨rfl,hg⟩
set_option maxRecDepth 100000 in
set_option maxHeartbeats 1600000 in
theorem cdfa_any (Bd:Nat) (w:World) (v:Value) (g:DiaV) (letters:Int) (hBd:Bd<=w.heap.size) (h:qG Bd w v g) (hp4:g.pats.length<=4096) :
  Calls Try.prog 28 #[v,.int .i64 letters] w (RDiaRet w g letters):=by
 have H:=Kh h
 obtain⟨pv,cv,rfl,hp,j0⟩:=h
 obtain⟨pa,pc,rfl⟩:=hp.shape
 obtain⟨ca,cc,rfl⟩:=j0.shape
 obtain⟨np,d3⟩:∃ n,n=g.pats.length:=⟨_,rfl⟩
 obtain⟨nc1,i1⟩:∃ n,n=g.chos.length:=⟨_,rfl⟩
 rw[<- d3,<- i1]at H ⊢
 rw[<- d3]at hp
 have l7:=Kh hp
 obtain⟨c6,d7,b7,g6⟩:=mC w #[.slice pa np pc,.slice ca nc1 cc,.int .i64 g.root] 25 #[.int .i64 0,.int .i64 0,.slice none 0 0,.slice none 0 0] 42
 obtain⟨wA,e5⟩:∃ wA,wA=(w.alloc (.cells #[.slice pa np pc,.slice ca nc1 cc,.int .i64 g.root] 25)).alloc (.cells #[.int .i64 0,.int .i64 0,.slice none 0 0,.slice none 0 0] 42):=⟨_,rfl⟩
 rw[<- e5]at c6 d7 b7 g6
 obtain⟨P,hP⟩:∃ P,P=w.heap.size:=⟨_,rfl⟩
 obtain⟨Q,hQ⟩:∃ Q,Q=w.heap.size+1:=⟨_,rfl⟩
 have j6:=Kh hP;have d0:Hid (Q=P+1):=Kh (by omega)
 rw[<- hQ]at d7
 rw[<- hP]at c6
 obtain⟨c0,c1,c2⟩:=zJ c6
 have b3:=Kh c6;have h2:=Kh d7;have m8:=Kh b7;have l4:=Kh e5
 have j5:=Kh (gE Bd wA _ g letters (by have:=b7.size;omega) (H.out.kept b7 (by simp)))
 have o1:=Kh d3
 clear c6 d7 b7 e5 hP hQ g6 hp j0 d3 i1
 go_enter Try.func28,Try.ntmps28
 go_upto_region 1 with fail
 rw[<- l4.out,<- j6.out,<- d0.out]
 go_wp2_with fail
 refine j5.out.mono ?_
 rintro e w1 ⟨rfl,b8⟩
 have e0:=Kh (zB m8.out b8 (by simp))
 have m7:=Kh b8
 have b3:=Kh (zA b3.out b8 (by simp));have h2:=Kh (zA h2.out b8 (by simp))
 have d8:Hid (w.heap.size=P):=Kh j6.out.symm
 clear b8 j5 c0 c1 c2
 obtain⟨E,hE⟩:∃ E,E=diaE g letters:=⟨_,rfl⟩
 rw[<- hE]
 have HE:=Kh hE
 clear hE
 by_cases hE0:E=0
 case neg =>
  obtain⟨q0,q1,q2,q3⟩:=zG h2.out
  have f0:=zE h2.out 0
  have f1:=zE h2.out 1
  have f2:=zE h2.out 2
  have f3:=zE h2.out 3
  have a9:=zH h2.out
  have e1:(E != 0)=true:=by rw[bne_iff_ne];exact hE0
  have m3:=Kh hE0
  clear hE0
  go_wp2
  obtain⟨H4,H2⟩:=wG h2.out (.int .i64 0) (.int .i64 0) (.slice none 0 0) (.slice none 0 0)
  obtain⟨wz,H3⟩:∃ wz,wz=(((w1.setCell ⟨Q,0,none⟩ (.int .i64 0)).setCell ⟨Q,1,none⟩ (.int .i64 0)).setCell ⟨Q,2,none⟩ (.slice none 0 0)).setCell ⟨Q,3,none⟩ (.slice none 0 0):=⟨_,rfl⟩
  rw[<- H3]at H4 H2 ⊢
  clear H3
  obtain⟨r0,r1,r2,r3⟩:=zG H4
  clear q0 q1 q2 q3 f0 f1 f2 f3
  refine bodyPost_ret (v:=.tuple #[.agg #[.int .i64 0,.int .i64 0,.slice none 0 0,.slice none 0 0],.int .i64 E]) (by simp[results,Try.results28,go_sem,r0,r1,r2,r3]) rfl ?_
  exact⟨E,gL,⟨_,_,rfl,DfaT.zero _,zB e0.out H2 (fun k e=>by have h7:Q=k:=Oj e;have:=d0.out;have:=d8.out;omega)⟩,Or.inl ⟨by rw[<- HE.out];exact m3.out,HE.out,rfl⟩⟩
 case pos =>
  subst hE0
  obtain⟨c0,c1,c2⟩:=zJ b3.out
  have g4:Hid (Calls Try.prog 56 #[.slice pa np pc,.int .i64 letters] w1 (qCE w1 (wW letters g.pats) (autD g.pats letters))):=Kh (by
   exact lN Bd w1 _ g.pats letters (by have:=e0.out.size;omega) (l7.out.kept e0.out (by simp)) hp4)
  have h9:=diaE_zero4 HE.out.symm
  rw[h9.2.2.2]at g4
  obtain⟨k,hk⟩:∃ k:Nat,letters=k:=⟨letters.toNat,by omega⟩
  subst hk
  have b1:1<=k:=by omega
  have b0:k<=6:=by omega
  have g9:=h9.2.2.2
  have i3:=h9.2.2.1
  clear h9
  go_wp2_with fail
  refine g4.out.mono ?_
  rintro e w2 ⟨sa,n2,sc,rfl,d5,b4⟩
  have j7:=Kh (zB e0.out d5 (by simp))
  have b3:=Kh (zA b3.out d5 (by simp));have h2:=Kh (zA h2.out d5 (by simp))
  clear d5 g4 c0 c1 c2
  obtain⟨d4,lp,i5,g7⟩:n2=(autD g.pats (k:Int)).length/\∃ l,l.map (·.1)=autD g.pats (k:Int)/\DsUp w1.heap.size w2 (.slice sa n2 sc) l:=by
   rcases b4 with h|h
   ·exact absurd rfl h
   ·exact h.2
  have j9:Hid (DsIn w2.heap.size w2 (.slice sa n2 sc) (autD g.pats (k:Int))):=Kh (by have:=g7.in_;rw[i5]at this;exact this)
  have H7:=Kh (qBT g9)
  have i2:n2<=300:=by rw[d4,xG];exact i3
  have l8:=Kh (lD w2.heap.size w2 _ _ k (Nat.le_refl _) j9.out H7.out b1 b0 (by rw[<- d4];omega))
  have m4:Hid (n2=(autD g.pats (k:Int)).length):=Kh d4
  have j4:diaE g (k:Int)=0:=HE.out.symm
  have H0:=Kh j4
  clear j4 g9 b4 d4 i5 g7 i3
  go_wp2_with fail
  refine l8.out.mono ?_
  rintro e w3 k2
  rcases k2 with ⟨hov,rfl,hg3⟩|⟨o,mb,L,nxl,fr,bl,rfl,hps,hbfs,a9,hnx,hfr,hg3⟩
  ·obtain⟨w4,a1⟩:∃ w4,w4=w3.alloc (.cells #[.pointer none] 93):=⟨_,rfl⟩
   have H5:=Ga w3 (.cells #[.pointer none] 93) none
   rw[<- a1]at H5
   have e8:=Kh a1
   have d9:=Kh (zB (zB j7.out hg3 (by simp)) H5 (by simp))
   have h2:=Kh (zA (zA h2.out hg3 (by simp)) H5 (by simp))
   clear a1 H5 hg3
   go_upto_region 8 with fail
   rw[<- e8.out]
   obtain⟨q0,q1,q2,q3⟩:=zG h2.out
   have f0:=zE h2.out 0
   have f1:=zE h2.out 1
   have f2:=zE h2.out 2
   have f3:=zE h2.out 3
   have a9:=zH h2.out
   go_wp2
   obtain⟨H4,H2⟩:=wG h2.out (.int .i64 0) (.int .i64 0) (.slice none 0 0) (.slice none 0 0)
   obtain⟨wz,H3⟩:∃ wz,wz=(((w4.setCell ⟨Q,0,none⟩ (.int .i64 0)).setCell ⟨Q,1,none⟩ (.int .i64 0)).setCell ⟨Q,2,none⟩ (.slice none 0 0)).setCell ⟨Q,3,none⟩ (.slice none 0 0):=⟨_,rfl⟩
   rw[<- H3]at H4 H2 ⊢
   clear H3
   obtain⟨r0,r1,r2,r3⟩:=zG H4
   clear q0 q1 q2 q3 f0 f1 f2 f3
   refine bodyPost_ret (v:=.tuple #[.agg #[.int .i64 0,.int .i64 0,.slice none 0 0,.slice none 0 0],.int .i64 3]) (by simp[results,Try.results28,go_sem,r0,r1,r2,r3]) rfl ?_
   exact⟨3,gL,⟨_,_,rfl,DfaT.zero _,zB d9.out H2 (fun k e=>by have h7:Q=k:=Oj e;have:=d0.out;have:=d8.out;omega)⟩,.inr ⟨H0.out,k,rfl,b1,b0,.inl ⟨hov,rfl,rfl⟩⟩⟩
  ·have e6:0 < L.length:=by have:=hbfs.hd;rcases Nat.eq_zero_or_pos L.length with h|h;(rw[List.eq_nil_of_length_eq_zero h]at this;cases this);exact h
   obtain⟨sb,sc8,nb,nc,fb,fc,bb,bc,a8⟩:=hps.view e6 rfl (by omega)
   obtain⟨LL,j2⟩:∃ n,n=L.length:=⟨_,rfl⟩
   obtain⟨w4,a1⟩:∃ w4,w4=w3.alloc (.cells #[.pointer (some ⟨o,0,none⟩)] 93):=⟨_,rfl⟩
   obtain⟨X,hX⟩:∃ X,X=w3.heap.size:=⟨_,rfl⟩
   have H5:=Ga w3 (.cells #[.pointer (some ⟨o,0,none⟩)] 93) none
   have d6:=heap_alloc_new w3 (.cells #[.pointer (some ⟨o,0,none⟩)] 93)
   rw[<- a1]at H5 d6
   rw[<- hX]at d6
   have e8:=Kh a1;have l2:=Kh hX;have n6:=Kh d6
   have H8:=Kh (zD hg3 H5)
   have d9:=Kh (zB j7.out H8.out (by simp))
   have g3:=Kh (zA b3.out H8.out (by simp))
   have h2:=Kh (zA h2.out H8.out (by simp))
   have f4:=Kh (a8.grow H5)
   have H1:=Kh j2;have d1:=Kh a9;have b2:=Kh hbfs;have l9:=Kh hnx;have o2:=Kh e6
   have c7:LL<=4000:=by omega
   have l1:0 < LL:=by omega
   clear a1 hX H5 hg3 d6 hps a8 j2 a9 hbfs hnx e6 hfr
   go_upto_region 8 with fail
   rw[<- e8.out,<- l2.out]
   have g0:Hid (∀ W:World,w4.grownBy W none->W.cell? ⟨X,0,none⟩=some (.pointer (some ⟨o,0,none⟩))/\W.cell? ⟨o,2,none⟩=some (.slice (some ⟨sb,0,none⟩) LL sc8)/\W.cell? ⟨o,3,none⟩=some (.slice (some ⟨nb,0,none⟩) (LL * k) nc)):=Kh (fun W hW=>by
    have h8:=(f4.out.grow hW).cells
    rw[<- H1.out]at h8
    exact⟨by simpa using zK (zA n6.out hW (by simp)) 0 (by simp),h8.2.2.1,h8.2.2.2.1⟩)
   obtain⟨c0,c1,c2⟩:=g0.out w4 (zN _ _)
   have k4:=fJ LL (by omega)
   have k3:¬ ((LL:Int) < 0):=by omega
   go_upto_region 10 with fail
   go_cut [11] (fun s11 wx=>∃ (M F:Nat),s11=.pointer (some ⟨M,0,none⟩)/\wx.heap[M]?=some (.cells #[.int .i64 (k:Int),.slice (some ⟨nb,0,none⟩) (LL * k) nc,.slice (some ⟨F,0,none⟩) LL LL] 113 (0,0))/\Arr wx F 4 (bls (List.replicate LL false))/\w4.heap.size<=F/\w4.heap.size<=M/\F≠M/\w4.grownBy wx none)
   case first =>
    go_region_held3 (fun w'=>w'.cell? ⟨X,0,none⟩=some (.pointer (some ⟨o,0,none⟩))/\w'.cell? ⟨o,2,none⟩=some (.slice (some ⟨sb,0,none⟩) LL sc8)/\w'.cell? ⟨o,3,none⟩=some (.slice (some ⟨nb,0,none⟩) (LL * k) nc))
     (first|(refine g0.out _ ?_;repeat(first|exact zN _ _|refine gD ?_|refine gA ?_ _))|fail) (fail)
    all_goals
     go_wp2_with fail
     go_meet
     exact⟨_,_,rfl,tO w4 _ _,⟨_,[],tR w4 _ _,by rw[List.append_nil];exact nQ LL⟩,Nat.le_refl _,by omega,by omega,gD (gA (gA (zN _ _) _) _)⟩
   case rest =>
    obtain⟨M,F,rfl,H6,hF,o0,n7,j3,i9⟩:=hcut
    clear c0 c1 c2 k4 k3
    obtain⟨m0,m1,m2⟩:=zJ H6
    have g2:=Kh H6
    have n3:=Kh j3
    have j8:Hid (Arr wc F 4 (bls (oV g k L 0))):=Kh (by
     have e:oV g k L 0=List.replicate LL false:=by rw[oV,H1.out];rfl
     rw[e];exact hF)
    have m9:=Kh i9
    clear H6 hF i9 j3
    go_upto_region 12 with fail
    clear m0 m1 m2
    go_wp2
    go_loopg [12,59] LL (fun gh v12 v59 wr=>∃ i:Nat,gh+i=LL/\v59=.int .i64 i/\w4.grownBy wr none/\wr.heap[M]?=some (.cells #[.int .i64 (k:Int),.slice (some ⟨nb,0,none⟩) (LL * k) nc,.slice (some ⟨F,0,none⟩) LL LL] 113 (0,0))/\Arr wr F 4 (bls (oV g k L i)))
    case atStart=>exact⟨0,rfl,rfl,m9.out,g2.out,j8.out⟩
    case round =>
     clear j8 g2
     obtain⟨i,i6,rfl,hg,H6,hF⟩:=hrel
     have f7:=Kh i6;have HG:=Kh hg;have g2:=Kh H6;have HF:=Kh hF
     clear i6
     by_cases hi:i < LL
     ·have k7:(i:Int) < LL:=by omega
      obtain⟨wS,e3⟩:∃ wS,wS=wr.alloc (.cells #[.int .i64 (i:Int)] 3):=⟨_,rfl⟩
      obtain⟨S,hS⟩:∃ S,S=wr.heap.size:=⟨_,rfl⟩
      have b6:=Ga wr (.cells #[.int .i64 (i:Int)] 3) none
      have c4:=heap_alloc_new wr (.cells #[.int .i64 (i:Int)] 3)
      rw[<- e3]at b6 c4
      rw[<- hS]at c4
      have l3:=Kh e3;have l6:=Kh hS
      have a2:=zD hg b6
      have f6:=Kh a2
      have m5:=Kh (zA H6 b6 (by simp))
      have n1:=Kh (hF.kept b6 (by simp))
      obtain⟨ans,a4⟩:∃ b,b=finD g (autD g.pats (k:Int)) (L.getD i []):=⟨_,rfl⟩
      have n5:Hid (∀ W:World,wS.grownBy W none->Calls Try.prog 40 #[.agg #[.slice pa np pc,.slice ca nc1 cc,.int .i64 g.root],.func (.func 68) #[] #[.pointer (some ⟨X,0,none⟩),.pointer (some ⟨S,0,none⟩)]] W fun e w'=>e=.returned (.bool ans)/\W.grownBy w' none):=Kh (fun W hW=>by
       obtain⟨_,_,_,_,_,l0,k1,k0⟩:=qZ H0.out
       have k8:w.grownBy W none:=zB d9.out (zD f6.out hW) (by simp)
       have h8:=jT Bd W _ g (fun p=>(mtsT (autD g.pats (k:Int)) (autD g.pats (k:Int)).length (L.getD i [])).getD p false) 68 #[.pointer (some ⟨X,0,none⟩),.pointer (some ⟨S,0,none⟩)] (H.out.kept k8 (by simp)) l0 k1 k0 (fun _ _=>rfl) (fun W' p hW' hp=>by
        have i0:p < (autD g.pats (k:Int)).length:=by rw[xG];exact hp
        have a3:=zD f6.out (zD hW hW')
        have e4:i < L.length:=by rw[<- H1.out];exact hi
        obtain⟨u,hu,eu⟩:=b2.out.re _ (List.getElem_mem e4)
        have k5:InT (autD g.pats (k:Int)) (L.getD i []):=by rw[zF e4,<- eu];exact H7.out.walk u H7.out.in0 hu
        have h7:=dfa1_any w2.heap.size W' X S o k (.slice sa n2 sc) (autD g.pats (k:Int)) L nxl fr bl sb sc8 nb nc fb fc bb bc i p (g0.out W' a3).1 (by simpa using zK (zA c4 (zD hW hW') (by simp)) 0 (by simp)) (f4.out.grow a3) (j9.out.kept (zD H8.out a3) (by simp)) H7.out e4 i0 k5 (by rw[<- m4.out];omega) d1.out
        rw[<- nO (np:=(autD g.pats (k:Int)).length) i0]at h7
        exact h7)
       rw[a4]
       exact h8)
      have g5:=Kh a4
      have j1:=zA g3.out a2 (by simp)
      clear e3 hS b6 a2 hg H6 hF a4
      go_upto_region 14 with fail
      rw[<- l3.out,<- l6.out]
      refine cdfa_reg14 (G:=P) (X:=X) (M:=M) (S:=S) (F:=F) (i:=i) (n:=LL) (fs:=oV g k L i) (b:=ans) m5.out c4 j1 n1.out (by rw[H1.out];exact lJ (by rw[<- H1.out];omega)) hi c7 n3.out n5.out ?_
      intro z62 z63 z64 z65 z66 z67 z68 z69 z70 wa wb i8 i7 c5 e7
      have n0:Hid (w4.grownBy wb none):=Kh (zB (zD f6.out i8) i7 (fun j e=>by have e:F=j:=Oj e;omega))
      have g1:=Kh c5
      have n4:Hid (Arr wb F 4 (bls (oV g k L (i+1)))):=Kh (by
       rw[g5.out,finTo_set (by rw[<- H1.out];exact hi)]at e7
       exact e7)
      clear i8 i7 c5 e7 c4 j1
      go_wp2
      go_roundg (LL - (i+1))
      case measure=>have:=f7.out;omega
      case rel=>exact⟨i+1,by have:=f7.out;omega,by go_num,n0.out,g1.out,n4.out⟩
     ·have k7:¬ (i:Int) < LL:=by omega
      have k6:LL=i:=by have:=f7.out;omega
      subst k6
      have m6:Hid (MachAt wr M k LL (diaA g k L) nb 0 nc F 0 LL []):=Kh (by
       have a8:=f4.out.grow hg
       have h7:=a8.caps
       have k9:(diaA g k L).final=oV g k L LL:=by rw[H1.out];exact finTo_all.symm
       refine⟨H6,fun s a hs ha=>?_,fun s hs=>?_,a8.nlt,hF.lt,by rw[<- H1.out]at h7;exact⟨h7.2.2.1,h7.2.2.2.1⟩,⟨Nat.le_refl _,by unfold maxLen;omega⟩⟩
       ·have g8:s < L.length:=by rw[<- H1.out];exact hs
        rw[<- diaA_nx l9.out g8 ha,Nat.zero_add]
        refine a8.nx _ ?_
        have h1:(s+1) * k<=L.length * k:=Nat.mul_le_mul_right _ g8
        rw[Nat.succ_mul]at h1
        omega
       ·rw[k9,Nat.zero_add]
        exact hF.bool s (by rw[H1.out,lJ (Nat.le_refl _),<- H1.out];exact hs))
      have f5:Hid (Calls Try.prog 70 #[.pointer (some ⟨M,0,none⟩)] wr (MmOk wr (diaA g k L) k)):=Kh (by
       refine mminimal_any wr M k LL (diaA g k L) nb 0 nc F 0 LL [] ?_ c7 rfl (fun q hq=>diaA_reach b2.out q (by rw[<- H1.out];exact hq)) m6.out
       rw[H1.out]
       exact bJ b2.out b1 b0 d1.out)
      have d2:=Kh (zB d9.out hg (by simp))
      have e2:=Kh (zA h2.out hg (by simp))
      clear hg H6 hF
      go_wp2_with fail
      refine f5.out.mono ?_
      rintro e x9 ⟨v9,b9,rfl,a0,c3⟩
      rcases c3 with ⟨rfl,hN,f9,nx9,rfl,ht9⟩|⟨rfl,hN,rfl⟩
      ·obtain⟨sa9,n9,c9,sb9,n8,c8,rfl,rfl⟩:=ht9.shapes
       have l5:=Kh ht9;have HN:=Kh hN
       clear ht9 hN
       have h3:=Ga x9 (.cells #[.int .i64 (k:Int),.int .i64 0,.slice sa9 n9 c9,.slice sb9 n8 c8] 42) none
       have h4:=heap_alloc_new x9 (.cells #[.int .i64 (k:Int),.int .i64 0,.slice sa9 n9 c9,.slice sb9 n8 c8] 42)
       obtain⟨x10,h5⟩:∃ x10,x10=x9.alloc (.cells #[.int .i64 (k:Int),.int .i64 0,.slice sa9 n9 c9,.slice sb9 n8 c8] 42):=⟨_,rfl⟩
       obtain⟨o10,h6⟩:∃ o10,o10=x9.heap.size:=⟨_,rfl⟩
       rw[<- h5]at h3 h4
       rw[<- h6]at h4
       have f8:=Kh (zB d2.out a0 (by simp))
       have e9:=Kh (zH e2.out)
       have h0:=Kh (zA (zA e2.out a0 (by simp)) h3 (by simp))
       have a5:=Kh h5;have a6:=Kh h6;have H9:=Kh h3;have a7:=Kh h4
       have b5:Q≠o10:=by have:=a0.size;have:=e9.out;omega
       clear a0 f5 h3 h4 h5 h6
       have f0:=zE h0.out 0
       have f1:=zE h0.out 1
       have f2:=zE h0.out 2
       have f3:=zE h0.out 3
       have a9:=zH h0.out
       go_upto_region 17 with fail
       rw[<- a5.out,<- a6.out]
       obtain⟨q0,q1,q2,q3⟩:=zG h0.out
       obtain⟨t0,t1,t2,t3⟩:=zG a7.out
       go_wp2
       obtain⟨H4,H2⟩:=wG h0.out (.int .i64 (k:Int)) (.int .i64 0) (.slice sa9 n9 c9) (.slice sb9 n8 c8)
       obtain⟨wz,H3⟩:∃ wz,wz=(((x10.setCell ⟨Q,0,none⟩ (.int .i64 (k:Int))).setCell ⟨Q,1,none⟩ (.int .i64 0)).setCell ⟨Q,2,none⟩ (.slice sa9 n9 c9)).setCell ⟨Q,3,none⟩ (.slice sb9 n8 c8):=⟨_,rfl⟩
       rw[<- H3]at H4 H2 ⊢
       clear H3
       obtain⟨r0,r1,r2,r3⟩:=zG H4
       clear q0 q1 q2 q3 f0 f1 f2 f3 t0 t1 t2 t3
       refine bodyPost_ret (v:=.tuple #[.agg #[.int .i64 (k:Int),.int .i64 0,.slice sa9 n9 c9,.slice sb9 n8 c8],.int .i64 0]) (by simp[results,Try.results28,go_sem,r0,r1,r2,r3]) rfl ?_
       have ht:=(l5.out.grow H9.out).kept H2 (fun j e=>by
        have e:Q=j:=Oj e
        subst e
        exact⟨⟨_,_,_,h0.out,by decide⟩,⟨_,_,_,h0.out,by decide⟩,⟨_,_,_,h0.out,by decide⟩⟩)
       have i4:(diaM g k L).letters=(k:Int)/\(diaM g k L).start=0:=⟨(bI b1 b0 ⟨b2.out,d1.out⟩).hk,rfl⟩
       refine⟨0,diaM g k L,⟨_,_,?_,ht,zB (zB f8.out H9.out (by simp)) H2 (fun y e=>by have h7:Q=y:=Oj e;have:=d0.out;have:=d8.out;omega)⟩,.inr ⟨H0.out,k,rfl,b1,b0,.inr ⟨L,⟨b2.out,d1.out⟩,.inr ⟨HN.out,rfl,rfl⟩⟩⟩⟩
       rw[i4.1,i4.2]
      ·have HN:=Kh hN
       clear hN
       have h3:=Ga x9 (.cells #[.int .i64 0,.int .i64 0,.slice none 0 0,.slice none 0 0] 42) none
       have h4:=heap_alloc_new x9 (.cells #[.int .i64 0,.int .i64 0,.slice none 0 0,.slice none 0 0] 42)
       obtain⟨x10,h5⟩:∃ x10,x10=x9.alloc (.cells #[.int .i64 0,.int .i64 0,.slice none 0 0,.slice none 0 0] 42):=⟨_,rfl⟩
       obtain⟨o10,h6⟩:∃ o10,o10=x9.heap.size:=⟨_,rfl⟩
       rw[<- h5]at h3 h4
       rw[<- h6]at h4
       have f8:=Kh (zB d2.out a0 (by simp))
       have e9:=Kh (zH e2.out)
       have h0:=Kh (zA (zA e2.out a0 (by simp)) h3 (by simp))
       have a5:=Kh h5;have a6:=Kh h6;have H9:=Kh h3;have a7:=Kh h4
       have b5:Q≠o10:=by have:=a0.size;have:=e9.out;omega
       clear a0 f5 h3 h4 h5 h6
       have f0:=zE h0.out 0
       have f1:=zE h0.out 1
       have f2:=zE h0.out 2
       have f3:=zE h0.out 3
       have a9:=zH h0.out
       go_upto_region 17 with fail
       rw[<- a5.out,<- a6.out]
       obtain⟨q0,q1,q2,q3⟩:=zG h0.out
       obtain⟨t0,t1,t2,t3⟩:=zG a7.out
       go_wp2
       obtain⟨H4,H2⟩:=wG h0.out (.int .i64 0) (.int .i64 0) (.slice none 0 0) (.slice none 0 0)
       obtain⟨wz,H3⟩:∃ wz,wz=(((x10.setCell ⟨Q,0,none⟩ (.int .i64 0)).setCell ⟨Q,1,none⟩ (.int .i64 0)).setCell ⟨Q,2,none⟩ (.slice none 0 0)).setCell ⟨Q,3,none⟩ (.slice none 0 0):=⟨_,rfl⟩
       rw[<- H3]at H4 H2 ⊢
       clear H3
       obtain⟨r0,r1,r2,r3⟩:=zG H4
       clear q0 q1 q2 q3 f0 f1 f2 f3 t0 t1 t2 t3
       refine bodyPost_ret (v:=.tuple #[.agg #[.int .i64 0,.int .i64 0,.slice none 0 0,.slice none 0 0],.int .i64 3]) (by simp[results,Try.results28,go_sem,r0,r1,r2,r3]) rfl ?_
       exact⟨3,gL,⟨_,_,rfl,DfaT.zero _,zB (zB f8.out H9.out (by simp)) H2 (fun y e=>by have h7:Q=y:=Oj e;have:=d0.out;have:=d8.out;omega)⟩,.inr ⟨H0.out,k,rfl,b1,b0,.inr ⟨L,⟨b2.out,d1.out⟩,.inl ⟨HN.out,rfl,rfl⟩⟩⟩⟩
end Go.Proofs.Ytjfdomfendbhfaa
namespace Go.Proofs.Ytjfdomfendbhfaa
open Go.RowKit
def tl (s:ByteArray):List UInt8:=s.data.toList
end Go.Proofs.Ytjfdomfendbhfaa
namespace Go.Proofs.Ytjfdomfendbhfaa
open Go.RowKit Go.Maps
theorem patW_ne {bs:List ByteArray} {k:Int}:patW bs k≠20:=by
 unfold patW
 split
 ·decide
 split
 ·decide
 split
 ·decide
 split
 ·decide
 split <;> decide
theorem aC {k:Int}:∀ {ps:List (List ByteArray)},wW k ps≠20
 | []=>by rw[wW];decide
 | p :: ps=>by
  rw[wW]
  split
  ·exact aC
  ·exact patW_ne
theorem validD_ne {d:DfaV}:xW d≠20:=by
 unfold xW
 split
 ·decide
 split
 ·decide
 split
 ·decide
 split <;> decide
theorem ofE_ne {d:DfaV} {ps:List (List ByteArray)}:ofE d ps≠20:=by
 unfold ofE
 split
 ·split
  ·decide
  ·exact aC
 ·exact validD_ne
def Refused (d:DfaV) (ps:List (List ByteArray)) (u1 u2:ByteArray) (E:Int):Prop:=E=20/\ofE d ps=0/\∃ u v:List Nat,u1=strOfNums (lets u)/\u2=strOfNums (lets v)/\zX d.letters.toNat u/\zX d.letters.toNat v/\u.length<=4000/\v.length<=4000 /\
 (∀ i,i < ps.length->acc (yM (ps.getD i []) d.letters) (st0 (yM (ps.getD i []) d.letters)) u=acc (yM (ps.getD i []) d.letters) (st0 (yM (ps.getD i []) d.letters)) v)/\acc d (st0 d) u=true/\acc d (st0 d) v=false
theorem of_cases {w':World} {d:DfaV} {ps:List (List ByteArray)} {v:Value} {u1 u2:ByteArray} {E:Int} (h:OfOut w' d ps v u1 u2 E):(∃ (ap:Option Addr) (n cp:Nat) (ac:Option Addr) (m cc:Nat) (r:Int),v=.agg #[.slice ap n cp,.slice ac m cc,.int .i64 r])/\(E≠20\/Refused d ps u1 u2 E):=by
 cases h with
 | bad h=>exact⟨⟨_,_,_,_,_,_,_,rfl⟩,.inl ofE_ne⟩
 | over h ho=>exact⟨⟨_,_,_,_,_,_,_,rfl⟩,.inl (by decide)⟩
 | conf h hu hc u v h1 h2 h3 h4 h5 h6 h7=>exact⟨⟨_,_,_,_,_,_,_,rfl⟩,.inr ⟨rfl,h,u,v,rfl,rfl,h1,h2,h3,h4,h5,h6,h7⟩⟩
 | ok v g l L h hL hl4 hn hg h1 h2 h3 h4 h5 hc h6 =>
  obtain⟨ap,cp,ac,cc,e⟩:=jS hg
  exact⟨⟨_,_,_,_,_,_,_,e⟩,.inl (by decide)⟩
end Go.Proofs.Ytjfdomfendbhfaa
