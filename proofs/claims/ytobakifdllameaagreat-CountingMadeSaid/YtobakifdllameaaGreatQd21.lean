/- Part 21 of the proof. -/
import Derived.Test.YtobakifdllameaaGreatQd20
set_option linter.unusedVariables false
set_option linter.unusedSimpArgs false
set_option maxRecDepth 100000
set_option maxHeartbeats 16000000
namespace Go.Proofs.YtobakifdllameaaGreat
open Go.Maps Go.RowKit
theorem qHR:ElemOk Tryz.prog 79 26 (.slice none 0 0) 24:=⟨Tryz.underlying79,by kernel_rfl,rfl⟩
def bRow (l:List Bool)(m i:Nat):List Bool:=l.take i++List.replicate (m-i) false
theorem qEZ {l:List Bool}{m i:Nat}(hl:l.length=m)(hi:i<=m):(bRow l m i).length=m:=by simp[bRow,hl];omega
theorem qPL {l:List Bool}{m i:Nat}(hl:l.length=m)(hi:i<m):(bRow l m i).set i (l.getD i false)=bRow l m (i+1):=by
 have e:(l.take i).length=i:=by simp[hl];omega
 rw[bRow,List.set_append_right _ _ (by omega),e,Nat.sub_self,show m-i=(m-(i+1))+1 by omega,List.replicate_succ,List.set_cons_zero,bRow,yB (d:=false) (by omega),List.append_assoc];rfl
theorem qPM {l:List Bool}{m:Nat}(hl:l.length=m):bRow l m m=l:=by rw[bRow,Nat.sub_self,List.take_of_length_le (by omega)];simp
theorem qPQ {p:PartV}{el:List (List Nat)}{i:Nat}(hi:i<el.length):(accP p el).getD i false=p.fin.getD ((el.getD i []).getD p.st 0-p.sh) false:=by
 rw[accP,xZ (x:=[]) hi]
section
variable {w6 w:World} {o m k tg wg ig ic pg:Nat} {im:List Nat} {hsT:List Value} {tab:List (List Nat)} {ws:List Value} {ps:List Bool} {lg p:Nat} {hsL:List Value} {dn:List (List Bool)}
theorem LisS.read (h:LisS w6 o m k tg wg ig ic pg im hsT tab ws ps lg p hsL dn [] w)(ht:tab.length=m)(hd:dn.length=p):w.heap[o]?=some (.cells #[.int .i64 (k:Int),.slice (some ⟨tg,0,none⟩) m m,.slice (some ⟨wg,0,none⟩) m m,.slice (some ⟨ig,0,none⟩) k ic,.slice none 0 0,.slice (some ⟨pg,0,none⟩) m m] 39 (0,0))/\mK w.heap.size w (.slice (some ⟨tg,0,none⟩) m m) tab/\RowT w.heap.size 9 w (.slice (some ⟨wg,0,none⟩) m m) ws/\RowT w.heap.size 3 w (.slice (some ⟨ig,0,none⟩) k ic) (nats im)/\RowT w.heap.size 4 w (.slice (some ⟨pg,0,none⟩) m m) (bls ps)/\∃hs,RowT w.heap.size 26 w (.slice (some ⟨lg,0,none⟩) p p) hs/\tP w.heap.size 4 bls w hs dn:=by
 obtain⟨X,hB,hT,hL⟩:=h;have h1:=hB.own (r:=⟨w6.heap.size,22,.slice (some ⟨tg,0,none⟩) m m,m,hsT,1⟩) (by simp);have h2:=hB.own (r:=⟨w6.heap.size,9,.slice (some ⟨wg,0,none⟩) m m,m,ws,1⟩) (by simp);have h3:=hB.own (r:=⟨w6.heap.size,3,.slice (some ⟨ig,0,none⟩) k ic,k,nats im,1⟩) (by simp);have h4:=hB.own (r:=⟨w6.heap.size,4,.slice (some ⟨pg,0,none⟩) m m,m,bls ps,1⟩) (by simp);have h5:=hB.own (r:=⟨w6.heap.size,26,.slice (some ⟨lg,0,none⟩) p p,p,hsL,1⟩) (by simp);rw[List.take_of_length_le (by have:=h1.1;simp only at this;omega)]at hT;rw[List.take_of_length_le (by have:=h5.1;simp only at this;omega)]at hL;exact⟨hB.box,⟨hsT,RowT.of_owns h1,hT.rowsT⟩,RowT.of_owns h2,RowT.of_owns h3,RowT.of_owns h4,hsL,RowT.of_owns h5,hL.rowsT⟩
end
def qTO (gs:List (List Nat))(n:Nat)(ps:List PartV)(w:World)(e:Ending)(w':World):Prop :=
 (e=.returned (.tuple #[.agg #[.int .i64 0,.slice none 0 0,.slice none 0 0,.slice none 0 0,.slice none 0 0,.slice none 0 0],.slice none 0 0,.int .i64 3])/\qDL gs n/\w.grownBy w' none) \/
 ∃(el:List (List Nat)) (pr la:List Int) (ri:List (List Nat)) (tg wg ig ic pg lg:Nat),FinE gs n el pr la ri el.length/\el.length<=400 /\
  e=.returned (.tuple #[.agg #[.int .i64 (gs.length:Int),.slice (some ⟨tg,0,none⟩) el.length el.length,.slice (some ⟨wg,0,none⟩) el.length el.length,.slice (some ⟨ig,0,none⟩) gs.length ic,.slice none 0 0,.slice (some ⟨pg,0,none⟩) el.length el.length],.slice (some ⟨lg,0,none⟩) ps.length ps.length,.int .i64 0]) /\
  mK w'.heap.size w' (.slice (some ⟨tg,0,none⟩) el.length el.length) (tabE pr la ri el.length)/\RowT w'.heap.size 9 w' (.slice (some ⟨wg,0,none⟩) el.length el.length) (sZ (vJ pr la el.length))/\RowT w'.heap.size 3 w' (.slice (some ⟨ig,0,none⟩) gs.length ic) (nats (ri.getD 0 []))/\RowT w'.heap.size 4 w' (.slice (some ⟨pg,0,none⟩) el.length el.length) (bls (pluE el.length (tF ri))) /\
  (∃hs,RowT w'.heap.size 26 w' (.slice (some ⟨lg,0,none⟩) ps.length ps.length) hs/\tP w'.heap.size 4 bls w' hs (ps.map fun p=>accP p el))/\w.grownBy w' none
theorem qEA (w:World)(o5 gb k pb po cp n:Nat)(gs:List (List Nat))(ps:List PartV)(a8:w.heap[o5]?=some (.cells #[.slice (some ⟨gb,0,none⟩) k k,.slice (some ⟨pb,po,none⟩) ps.length cp,.int .i64 (n:Int)] 78 (0,0)))(hT:TMat w.heap.size w (.slice (some ⟨gb,0,none⟩) k k) gs)(a5:∀g∈gs,IsT n g)(h1:1<=n)(b8:n<=32)(hk:gs.length=k)(a6:1<=k)(b7:k<=6)(a0:qAU w.heap.size w pb po ps)(a7:ps.length<=cp/\cp<=maxLen)(b9:ps.length<=4096)(a4:∀p∈ps,p.st<n/\p.sh+p.fin.length<=4096/\∀el pr la ri,FinE gs n el pr la ri el.length->∀f∈el,p.sh<=f.getD p.st 0/\f.getD p.st 0<p.sh+p.fin.length):Calls Tryz.prog 51 #[.pointer (some ⟨o5,0,none⟩)] w (qTO gs n ps w):=by
 obtain⟨P,hP⟩:=Nm w.heap.size;obtain⟨np,l6⟩:=Nm ps.length;obtain⟨w1,j9⟩:=Nm (w.alloc (.cells #[.int .i64 0,.slice none 0 0,.slice none 0 0,.slice none 0 0,.slice none 0 0,.slice none 0 0] 39));have i0:w.grownBy w1 none:=by rw[j9];exact Ga w _ none
 have m9:=heap_alloc_new w (.cells #[.int .i64 0,.slice none 0 0,.slice none 0 0,.slice none 0 0,.slice none 0 0,.slice none 0 0] 39);rw[<-j9,<-hP]at m9;rw[<-l6]at a8 a7 b9;have H0:=zB a8 i0;have x0:=Kh (qHB w.heap.size w1 _ gs n i0.size (hT.kept i0 (by simp)) a5 h1 b8 (by omega) (by omega));obtain⟨k8,y8,l0,t9,HK,x2⟩:=K6 hP j9 i0 a5 hk m9;obtain⟨o1,z8,z6,d9⟩:=K4 H0 a0 a4 l6;have c0:=zH H0 0;simp only[List.getElem_toArray,List.getElem_cons_zero,List.getElem_cons_succ]at c0;have x5:=a7.1;have x4:cp<=9223372036854775807:=by have:=a7.2;unfold maxLen at this;omega
 clear j9 i0 m9 a5 hT a8 H0 a0 a4 hk l6 a7;go_enter Tryz.func51,Tryz.ntmps51;go_upto_region 1 with fail;rw[<-y8.out,<-k8.out];clear hP;go_wp2_with fail;refine x0.out.mono ?_;rintro e w2 (⟨rfl,d6,d5⟩|⟨el,pr,la,ri,m,u,cG,cE,cP,cL,cR,cU,sG,sE,sP,sL,sR,sU,rfl,q7,g6,hl,x7,hE,n1,n3,n0,d5⟩)
 ·have z9:Hid (qDL gs n):=Kh (bE h1 (by rw[HK.out];exact a6) d6)
  clear d6 c0;have i3:=zB x2.out d5;obtain⟨w3,d2⟩:=Nm (w2.alloc (.cells #[.int .i64 0,.bool false,.slice none 0 0,.slice none 0 0,.slice none 0 0,.slice none 0 0,.slice none 0 0,.slice none 0 0,.int .i64 0] 106));have h5:w2.grownBy w3 none:=by rw[d2];exact Ga w2 _ none
  have c7:=zB i3 h5;have H5:=Kh c7;have k9:=Kh (zC (zC l0.out d5) h5);have n5:=Kh d2;obtain⟨p0,p1,p2,p3,p4,p5⟩:=yD c7;have f0:=zA c7 0;have f1:=zA c7 1;have f2:=zA c7 2;have f3:=zA c7 3;have f4:=zA c7 4;have f5:=zA c7 5;clear d5 i3 d2 h5 c7;go_upto_region 2 with fail;rw[<-n5.out];go_wp2;refine bodyPost_ret (v:=.tuple #[.agg #[.int .i64 0,.slice none 0 0,.slice none 0 0,.slice none 0 0,.slice none 0 0,.slice none 0 0],.slice none 0 0,.int .i64 3]) (by simp[results,Tryz.results51,go_sem,p0,p1,p2,p3,p4,p5]) rfl ?_;obtain⟨p7,h7⟩:=uM H5.out (.int .i64 0) (.slice none 0 0) (.slice none 0 0) (.slice none 0 0) (.slice none 0 0) (.slice none 0 0);exact .inl ⟨rfl,z9.out,yG k9.out h7 (by show _<=P;have:=k8.out;omega)⟩
 subst hl;have e6:=qLE t9.out h1 (by rw[HK.out];exact a6) q7 g6;have i3:=zB x2.out d5;rw[HK.out];obtain⟨m,hm⟩:=Nm el.length;rw[<-hm]at x7 hE n1 n3 n0⊢;obtain⟨w3,d2⟩:=Nm (w2.alloc (.cells #[.int .i64 n,.bool true,.slice sG k cG,.slice sE m cE,.slice sP m cP,.slice sL m cL,.slice sR m cR,.slice sU u cU,.int .i64 m] 106));have h5:w2.grownBy w3 none:=by rw[d2];exact Ga w2 _ none
 have k4:=heap_alloc_new w2 (.cells #[.int .i64 n,.bool true,.slice sG k cG,.slice sE m cE,.slice sP m cP,.slice sL m cL,.slice sR m cR,.slice sU u cU,.int .i64 m] 106);rw[<-d2]at k4;obtain⟨b5,m6⟩:=Nm w2.heap.size;rw[<-m6]at k4;have g1:=h5.size;have k3:1<=m:=by rw[hm];exact e6.en.pos
 obtain⟨qb,qo,lb,lo,rb,rf,eb,eo,rfl,rfl,rfl,rfl,n4⟩:=EnuAt.of k4 (el:=el) (pr:=pr) (la:=la) (ri:=ri) ((hE.tmat.kept h5 (by simp)).mono g1) ((n1.row.kept h5 (by simp)).mono g1) ((n3.row.kept h5 (by simp)).mono g1) ((n0.tmat.kept h5 (by simp)).mono g1) hm.symm (by rw[hm];exact e6.en.l2) (by rw[hm];exact e6.en.l3) (by rw[hm];exact e6.rl) (fun i hi=>by rw[(e6.row i (by omega)).2.1,HK.out]) k3 a6;have H5:=Kh (zB i3 h5);have k9:=Kh (zC (zC l0.out d5) h5);have n5:=Kh d2;have A4:=Kh m6;have c9:=Kh (zC d5 h5);have h8:Hid (FinE gs n el pr la ri el.length):=Kh e6;have HM:=Kh hm;have l1:=Kh n4;have c3:=n4.c3;obtain⟨p0,p1,p2,p3,p4,p5⟩:=yD H5.out;have f0:=zA H5.out 0;have f1:=zA H5.out 1;have f2:=zA H5.out 2;have f3:=zA H5.out 3;have f4:=zA H5.out 4;have f5:=zA H5.out 5;clear q7 g6 e6 i3 hE n1 n3 n0 d5 d2 h5 k4 m6 n4 g1 hm c0 x0;go_upto_region 2 with fail;rw[<-n5.out,<-A4.out];by_cases b0:400<m
 ·have l8:(400:Int)<m:=by omega
  go_wp2;refine bodyPost_ret (v:=.tuple #[.agg #[.int .i64 0,.slice none 0 0,.slice none 0 0,.slice none 0 0,.slice none 0 0,.slice none 0 0],.slice none 0 0,.int .i64 3]) (by simp[results,Tryz.results51,go_sem,p0,p1,p2,p3,p4,p5]) rfl ?_;obtain⟨p7,h7⟩:=uM H5.out (.int .i64 0) (.slice none 0 0) (.slice none 0 0) (.slice none 0 0) (.slice none 0 0) (.slice none 0 0);exact .inl ⟨rfl,h8.out.nosyn (by rw[<-HM.out];exact b0) h1 (by rw[HK.out];exact a6),yG k9.out h7 (by show _<=P;have:=k8.out;omega)⟩
 have l8:¬(400:Int)<m:=by omega
 have b0:m<=400:=by omega
 clear p0 p1 p2 p3 p4 p5 f0 f1 f2 f3 f4 f5;go_upto_region 7 with fail;obtain⟨rb0,ro0,rc0,q6,_,g4,_⟩:=l1.out.r 0 (by omega);have s1:(ri.getD 0 []).length=k:=by rw[(h8.out.row 0 (by rw[<-HM.out];omega)).2.1,HK.out]
 have i2:=zB o1.out c9.out;have d0:=zH i2 0;simp only[List.getElem_toArray,List.getElem_cons_zero,List.getElem_cons_succ]at d0;refine qRG (im:=ri.getD 0 []) (r0:=rb0) (ro:=ro0) (rc:=rc0) (gb:=gb) (rb:=rb) (rf:=rf) (cR:=cR) k3 b0 ⟨d0,l1.out.c6,by simpa using q6⟩ l1.out.rc1 (fun W hW=>?_) ?_
 ·have:=iR w3.heap.size W (.slice (some ⟨rb0,ro0,none⟩) k rc0) (ri.getD 0 []) (g4.kept hW (by simp)) (by omega) (by omega)
  rw[s1]at this;exact this.mono fun e w' ⟨g,c,he,_,h2,h3,ho,hg⟩=>⟨g,c,he,h2,h3,ho,hg⟩
 intro z36 z37 z38 z39 z40 z41 z42 z43 z44 z45 z46 z47 z48 z49 z50 z51 z52 w6 w7 o tg wg ig ic pg s8 n2;rw[<-qOJ,<-qMK (pr:=pr) k3 h8.out.zero]at n2;have t7:=Kh n2;have g0:=Kh s8;have j3:Hid (∀W:World,w6.grownBy W none->EnuAt w3.heap.size W b5 m n k el pr la ri qb qo cP lb lo cL rb rf cR eb eo cE):=Kh (fun W hW=>l1.out.kept (zC g0.out hW));have d7:Hid (∀i,i<m->1<=i->∃p a:Nat,pr.getD i 0=(p:Int)/\la.getD i 0=(a:Int)/\p<i/\a<gs.length/\vK pr la i=vK pr la p++[a]/\qDO pr la i=.string (strOfNums (lets (vK pr la p))++strOfNums [97+(a:Int)])/\(vK pr la p).length<=p/\∀x,atW ri x (vK pr la i)=(ri.getD (atW ri x (vK pr la p)) []).getD a 0):=Kh (fun i hi h0=>h8.out.step (by rw[<-HM.out];exact hi) h0);clear q6 g4 s1 i2 d0 n2 s8 c3;go_wp2
 go_loopg [9] (m-1) (fun gh a9 wr=>∃i:Nat,gh+i=m/\a9=.int .i64 i/\1<=i/\MonS w6 o m k tg wg ig ic pg (ri.getD 0 []) (List.replicate m (.slice none 0 0)) [] (wRow pr la m i) (mRow m i) [] wr)
 case atStart=>exact⟨1,by omega,rfl,Nat.le_refl _,t7.out⟩
 clear t7;obtain⟨i,d4,rfl,s4,H1⟩:=hrel;have H4:=Kh d4;have h6:=Kh H1;have E:=j3.out _ H1.g;clear d4 H1;by_cases hi:i<m
 ·have g7:(i:Int)<m:=by omega
  obtain⟨p,a,ep,ea,r7,i6,hw,j7,l5,k5⟩:=d7.out i hi s4;have cq:=E.q i hi;have cl:=E.l i hi;rw[ep]at cq;rw[ea]at cl;rw[HK.out]at i6;go_upto_region 11 with fail;refine qRD h6.out hi r7 (by omega) b0 (sp:=strOfNums (lets (vK pr la p))) (by rw[strOfNums_size,lets,List.length_map];omega) E.c4 cq (qML (by omega) r7) E.c5 cl E.qc1 E.lc1 ?_;intro z58 z59 z60 z61 z62 z63 z64 z65 z66 z67 z68 z69 z70 z71 z72 z73 z74 z75 z76 z77 z78 z79 z80 w9 h9;rw[<-j7,qMJ]at h9;obtain⟨i1,_,_,e8,_,_,s0⟩:=h9.cells;have q5:=zH i1 5;simp only[List.getElem_toArray,List.getElem_cons_zero,List.getElem_cons_succ]at q5;have p9:=e8.bool i (by rw[s0];exact hi);have f9:=e8.frozen i;obtain⟨x9,o6⟩:=Nm ((mRow m i).getD i false);rw[<-o6]at p9;have H6:=h9.putP hi true;rw[qOI s4]at H6;have A7:=Kh H6;clear h9 H6 i1 e8 s0 o6 E cq cl ep ea hw j7 l5 k5;go_wp2;go_roundg (m-(i+1))
  case measure=>have:=H4.out;omega
  exact⟨i+1,by have:=H4.out;omega,by go_num,by omega,A7.out⟩
 have d3:i=m:=by have:=H4.out;omega
 have g7:¬(i:Int)<m:=by omega
 have H8:Hid (MonS w6 o m k tg wg ig ic pg (ri.getD 0 []) (List.replicate m (.slice none 0 0)) ((tabE pr la ri m).take 0) (sZ (vJ pr la m)) (pluE m (tF (ri.take 0))) [] wr):=Kh (by
  have:=h6.out;rw[d3,qMM,qOK k3]at this
  exact this)
 have c6:=E.c6;clear h6 E d3;go_wp2
 go_loopg [10,11,12,88] m (fun gh a10 a11 a12 a88 wr=>∃(i:Nat) (H7:List Value),gh+i=m/\a88=.int .i64 i/\MonS w6 o m k tg wg ig ic pg (ri.getD 0 []) H7 ((tabE pr la ri m).take i) (sZ (vJ pr la m)) (pluE m (tF (ri.take i))) [] wr)
 case atStart=>exact⟨0,_,rfl,rfl,H8.out⟩
 clear H8 c6;obtain⟨i,H7,d4,rfl,H1⟩:=hrel;have H4:=Kh d4;have h6:=Kh H1;have E:=j3.out _ H1.g;clear d4 H1;by_cases hi:i<m
 ·have g7:(i:Int)<m:=by omega
  obtain⟨sb,so,sc,cr,k0,g5,_⟩:=E.r i hi;have n6:=Kh g5;have s9:((tabE pr la ri m).take i).length=i:=by rw[List.length_take,wQ];omega
  have j4:=Kh s9;have m7:=E.rc1;have y6:=m7.1;have y5:cR<=9223372036854775807:=by have:=m7.2;unfold maxLen at this;omega
  clear g5 k0 E s9 m7;go_upto_region 16 with fail;refine qRE h6.out (by omega) b0 (b:=tF (ri.take i)) rfl (r:=ri.getD i []) (n6.out.mono g0.out.size) ?_;intro z93 z94 z95 z96 z97 z98 z99 z100 z101 z102 z103 w9 h9;rw[qNC,<-qDM (by rw[h8.out.rl,<-HM.out];exact hi)]at h9;clear cr;go_upto_region 17 with fail;refine qRF h9 hi j4.out b0 ?_;intro z104 z105 z106 z107 z108 z109 w10 cg H6;have t4:=H6.cells.2.2.2.2.1;obtain⟨f7,t6,_⟩:=H6.cells;have q1:=zH f7 1;simp only[List.getElem_toArray,List.getElem_cons_zero,List.getElem_cons_succ]at q1
  have m0:(H7.set i (.slice (some ⟨cg,0,none⟩) m m))[i]?=some (.slice (some ⟨cg,0,none⟩) m m):=by
   rw[List.length_set]at t4;rw[List.getElem?_set_self (by omega)]
  have q2:=pJ t6 m0;have q3:=H6.arrC.nat 0 (by simp;omega);have f3:=H6.arrC.frozen 0;obtain⟨x3,o8⟩:=Nm ((List.replicate m 0).getD 0 0);rw[<-o8]at q3;have e9:=H6.putC (j:=0) (by omega) (.int .i64 (i:Int));rw[lX,qMT (pr:=pr) (ri:=ri) h8.out.zero]at e9;have l4:=Kh e9;have j1:=Kh m0;clear h9 H6 e9 t4 f7 t6 m0 o8 h6;go_wp2
  go_loopg [12] (m-1) (fun gh a12 wr=>∃j:Nat,gh+j=m/\a12=.int .i64 j/\1<=j/\MonS w6 o m k tg wg ig ic pg (ri.getD 0 []) (H7.set i (.slice (some ⟨cg,0,none⟩) m m)) ((tabE pr la ri m).take i) (sZ (vJ pr la m)) (pluE m (tF (ri.take (i+1)))) (⟨w6.heap.size,3,.slice (some ⟨cg,0,none⟩) m m,m,nats (tRow pr la ri m i j),1⟩::[]) wr)
  case atStart=>exact⟨1,by omega,rfl,Nat.le_refl _,l4.out⟩
  clear l4 q1 q2 q3 f3;obtain⟨j,s5,rfl,y1,H1⟩:=hrel;have n7:=Kh s5;have h6:=Kh H1;have E:=j3.out _ H1.g;clear s5 H1;by_cases hj:j<m
  ·have y2:(j:Int)<m:=by omega
   obtain⟨p,a,ep,ea,x6,i6,hw,j7,l5,k5⟩:=d7.out j hj y1;have cq:=E.q j hj;have cl:=E.l j hj;rw[ep]at cq;rw[ea]at cl;rw[HK.out]at i6
   have hx:atW ri i (vK pr la p)<m:=by
    have:=(h8.out.at t9.out (x:=i) (by rw[<-HM.out];exact hi) (vK pr la p) (oY h8.out.en.words p (by rw[<-HM.out];omega)).1).1;rw[HM.out];exact this
   obtain⟨sb,so,sc,cr,k0,_,p8⟩:=E.r _ hx;have cy:=p8 a i6;rw[<-k5 i]at cy;go_upto_region 22 with fail;refine qSO (x:=atW ri i (vK pr la p)) (y:=atW ri i (vK pr la j)) h6.out hi hj (by omega) hx i6 b0 fW j1.out (qMU (by omega) x6) E.c6 E.c4 cq cr E.c5 cl cy E.qc1 E.lc1 E.rc1 k0 ?_;intro z122 z123 z124 z125 z126 z127 z128 z129 z130 z131 z132 z133 z134 z135 z136 z137 z138 z139 z140 z141 z142 z143 z144 z145 z146 z147 z148 z149 z150 z151 w9 h9;rw[qMS]at h9;have H9:=Kh h9;clear h9 E cq cl cr cy p8 k0 hx k5 l5 j7 hw ea ep h6;go_wp2;go_roundg (m-(j+1))
   case measure=>have:=n7.out;omega
   exact⟨j+1,by have:=n7.out;omega,by go_num,by omega,H9.out⟩
  have s3:j=m:=by have:=n7.out;omega
  have y2:¬(j:Int)<m:=by omega
  have H9:Hid (MonS w6 o m k tg wg ig ic pg (ri.getD 0 []) (H7.set i (.slice (some ⟨cg,0,none⟩) m m)) ((tabE pr la ri m).take (i+1)) (sZ (vJ pr la m)) (pluE m (tF (ri.take (i+1)))) [] wr):=Kh (by
   have:=h6.out;rw[s3,qMV]at this;have:=this.fin j4.out hi j1.out;rw[<-qBF hi]at this
   exact this)
  clear h6 E s3;go_wp2;go_roundg (m-(i+1))
  case measure=>have:=H4.out;omega
  exact⟨i+1,_,by have:=H4.out;omega,by go_num,H9.out⟩
 have d3:i=m:=by have:=H4.out;omega
 have g7:¬(i:Int)<m:=(by omega);have k6:=h6.out;rw[d3,List.take_of_length_le (l:=tabE pr la ri m) (by rw[wQ];exact Nat.le_refl _),List.take_of_length_le (l:=ri) (by rw[h8.out.rl,<-HM.out];exact Nat.le_refl _)]at k6;have m2:w1.grownBy wr none:=zC (zC c9.out g0.out) k6.g;have f7:=zB o1.out m2;have d1:=zH f7 1;simp only[List.getElem_toArray,List.getElem_cons_zero,List.getElem_cons_succ]at d1;obtain⟨A0,j2,A5⟩:=K3 k6 m2 f7;clear k6 m2 f7 h6 E d3;obtain⟨wo,rfl⟩:=Nm (wr:World);go_upto_region 25 with (first|(at_make;refine bJ rfl _ _ _ rfl qHR rfl .i64 .i64 _ _ np rfl rfl rfl rfl ?b1 ?b2 ?_;(case b1=>omega);(case b2=>(unfold maxLen;omega));intro w8 h4 b4 e4)|fail);obtain⟨lg,r9⟩:=Nm wo.heap.size;have H2:=LisS.start A0.out b4 h4;rw[<-r9]at H2⊢;have g8:=zC j2.out b4;have d8:=zH (zB o1.out g8) 1;simp only[List.getElem_toArray,List.getElem_cons_zero,List.getElem_cons_succ]at d8;have H3:=Kh H2;have A1:Hid (((ps.map fun p=>accP p el).take 0)=[]):=Kh rfl;clear h4 b4 e4 r9 H2 g8 d1 j2 A5;go_wp2
 go_loopg [14,15,16,17,164] np (fun gh a14 a15 a16 a17 a164 wr=>∃(kk:Nat) (e2:List Value),gh+kk=np/\a164=.int .i64 kk/\LisS w6 o m k tg wg ig ic pg (ri.getD 0 []) H7 (tabE pr la ri m) (sZ (vJ pr la m)) (pluE m (tF ri)) lg np e2 ((ps.map fun p=>accP p el).take kk) [] wr)
 case atStart=>exact⟨0,_,rfl,rfl,by rw[A1.out];exact H3.out⟩
 clear H3 d8;obtain⟨kk,e2,d4,rfl,H2⟩:=hrel;have H4:=Kh d4;have H3:=Kh H2;have b6:w1.grownBy wr none:=zC (zC c9.out g0.out) H2.g;have A3:=Kh b6;clear d4 H2;by_cases hkk:kk<np
 ·have l9:(kk:Int)<np:=by omega
  obtain⟨vf,a1,a2,a3,f6⟩:=z8.out kk (by rw[<-d9.out];exact hkk);have b3:=zC l0.out b6;have a1:=zK a1 b3;have a2:=zK a2 b3;have a3:=zK a3 b3;obtain⟨pv,k2⟩:=Nm (ps.getD kk default);have q9:pv∈ps:=(by rw[k2];exact uW (by rw[<-d9.out];exact hkk));rw[<-k2]at a1 a3 f6;obtain⟨fA,fC,rfl⟩:=f6.shape;rw[zX]at a2 f6;obtain⟨nf,l7⟩:=Nm pv.fin.length;rw[<-l7]at a2 f6;obtain⟨wo2,rfl⟩:=Nm (wr:World);obtain⟨w9,j8⟩:=Nm (wo2.alloc (.cells #[.int .i64 (pv.st:Int),.slice fA nf fC,.int .i64 (pv.sh:Int)] 128));have m3:wo2.grownBy w9 none:=(by rw[j8];exact Ga wo2 _ none);have c8:=heap_alloc_new wo2 (.cells #[.int .i64 (pv.st:Int),.slice fA nf fC,.int .i64 (pv.sh:Int)] 128);rw[<-j8]at c8;obtain⟨b15,e7⟩:=Nm wo2.heap.size;rw[<-e7]at c8;have t5:=H3.out.grow m3;obtain⟨j0,y7,o0,j5,z5,z7⟩:=K6 t5 j8 e7 c8 k2 q9;have A8:=Kh l7;have y9:Hid (∀W:World,w.grownBy W none->Row w.heap.size W (.slice fA nf fC) (bls pv.fin)):=Kh (fun W hW=>f6.kept hW (by simp));have A9:=Kh m3;have j4:Hid (((ps.map fun p=>accP p el).take kk).length=kk):=Kh (by rw[List.length_take,List.length_map,<-d9.out];omega);clear b6 b3 m3 c8 e7 t5 k2 q9 f6 l7 j8 H3;go_upto_region 28 with fail;rw[<-y7.out,<-o0.out];clear a1 a2 a3;go_upto_region 29 with (first|(at_make;refine bJ rfl _ _ _ rfl wF rfl .i64 .i64 _ _ m rfl rfl rfl rfl ?b1 ?b2 ?_;(case b1=>omega);(case b2=>(unfold maxLen;omega));intro w8 h4 b4 e4;(have i9:=(j0.out.grow b4).arrL);(have q8:=i9.1.cell kk (by rw[i9.2];exact hkk));(have f8:=i9.1.frozen kk);(obtain⟨x8,o7⟩:∃x,x=e2[kk]'(by rw[i9.2];exact hkk):=⟨_,rfl⟩);(rw[<-o7]at q8);clear i9 o7)|fail);obtain⟨bg,t1⟩:=Nm w9.heap.size;rw[show List.replicate m (.bool false)=bls (List.replicate m false) by simp[bls]]at h4;have i7:=j0.out.begin hkk j4.out b4 h4;have y0:=j0.out.arrL.2;rw[<-t1]at i7⊢;obtain⟨w10,e0⟩:=Nm (w8.setCell ⟨lg,kk,none⟩ (.slice (some ⟨bg,0,none⟩) m m));have i8:=(j0.out.grow b4).arrL.1;have m8:=zB j5.out b4
  have r8:lg≠b15:=fun e=>by
   obtain⟨c1,m1,q1,_⟩:=i8;rw[e,m8]at q1;simp at q1
  have s7:w8.grownBy w10 (some lg):=(by rw[e0];exact zF w8 ⟨lg,kk,none⟩ _);have i5:=zB m8 s7 (fun e=>r8 (Oj e));rw[<-e0]at i7⊢;have j1:Hid ((e2.set kk (.slice (some ⟨bg,0,none⟩) m m))[kk]?=some (.slice (some ⟨bg,0,none⟩) m m)):=Kh (by rw[List.getElem?_set_self (by omega)])
  have t8:Hid (LisS w6 o m k tg wg ig ic pg (ri.getD 0 []) H7 (tabE pr la ri m) (sZ (vJ pr la m)) (pluE m (tF ri)) lg np (e2.set kk (.slice (some ⟨bg,0,none⟩) m m)) ((ps.map fun p=>accP p el).take kk) (⟨w6.heap.size,4,.slice (some ⟨bg,0,none⟩) m m,m,bls (bRow (accP pv el) m 0),1⟩::[]) w10):=Kh (by
   have e:bRow (accP pv el) m 0=List.replicate m false:=by simp[bRow]
   rw[e];exact i7)
  have j6:=Kh i5;have c3:=(j3.out _ i7.g).c3;clear h4 b4 e4 q8 f8 i7 y0 i8 m8 r8 s7 i5 e0 t1 j0 j5;go_wp2
  go_loopg [16,17,177] m (fun gh a16 a17 a177 wr=>∃i:Nat,gh+i=m/\a177=.int .i64 i/\LisS w6 o m k tg wg ig ic pg (ri.getD 0 []) H7 (tabE pr la ri m) (sZ (vJ pr la m)) (pluE m (tF ri)) lg np (e2.set kk (.slice (some ⟨bg,0,none⟩) m m)) ((ps.map fun p=>accP p el).take kk) (⟨w6.heap.size,4,.slice (some ⟨bg,0,none⟩) m m,m,bls (bRow (accP pv el) m i),1⟩::[]) wr/\wr.heap[b15]?=some (.cells #[.int .i64 (pv.st:Int),.slice fA nf fC,.int .i64 (pv.sh:Int)] 128 (0,0)))
  case atStart=>exact⟨0,rfl,rfl,t8.out,j6.out⟩
  clear t8 j6 c3;obtain⟨i,s6,rfl,H2,t2⟩:=hrel;obtain⟨n8,H3,A6⟩:=K3 s6 H2 t2;have g9:=H2.g;have n9:=Kh g9;have E:=j3.out _ g9;clear s6 H2 t2;have t3:(accP pv el).length=m:=by rw[accP,List.length_map,<-HM.out]
  have o3:=Kh t3;clear t3;by_cases hi:i<m
  ·have g7:(i:Int)<m:=by omega
   obtain⟨vv,ce,k1⟩:=E.e i hi;obtain⟨vA,vC,rfl⟩:=k1.shape;obtain⟨vn,o9⟩:=Nm ((nats (el.getD i [])).length);rw[<-o9]at ce k1;have m5:=E.ec1;have y4:=m5.1;have y3:cE<=9223372036854775807:=by have:=m5.2;unfold maxLen at this;omega
   have m4:el.getD i []∈el:=uW (by rw[<-HM.out];exact hi);obtain⟨p6,g2,g3⟩:=z6.out pv z7.out;have g3:=g3 el pr la ri h8.out _ m4;have g6:=h8.out.en.it _ m4
   have o4:Hid (∀W:World,wr.grownBy W none->Calls Tryz.prog 81 #[.agg #[.int .i64 (pv.st:Int),.slice fA nf fC,.int .i64 (pv.sh:Int)],.slice vA vn vC] W fun e w'=>e=.returned (.bool ((accP pv el).getD i false))/\W.grownBy w' none):=Kh (fun W hW=>by
    rw[qPQ (by rw[<-HM.out];exact hi)];refine qIF w.heap.size w3.heap.size W _ _ pv.fin (el.getD i []) pv.st pv.sh ?_ (k1.kept hW (by simp)) (by rw[g6.1];exact p6) g3.1 g3.2 g2
    exact y9.out _ (zC l0.out (zC (zC c9.out g0.out) (zC n9.out hW))))
   clear g6 g3 g2 p6 m4 m5 k1 E o9;go_upto_region 32 with fail;refine qSP H3.out A6.out hi b0 hkk (by omega) j1.out (qEZ o3.out (by omega)) o4.out ?_;intro z182 z183 z184 z185 z186 z187 z188 z189 z190 w11 e9 i4;rw[qPL o3.out hi]at e9;have l4:=Kh e9;have o2:=Kh i4;clear e9 i4 ce;go_wp2;go_roundg (m-(i+1))
   case measure=>have:=n8.out;omega
   exact⟨i+1,by have:=n8.out;omega,by go_num,l4.out,o2.out⟩
  have d3:i=m:=by have:=n8.out;omega
  have g7:¬(i:Int)<m:=by omega
  have H9:Hid (LisS w6 o m k tg wg ig ic pg (ri.getD 0 []) H7 (tabE pr la ri m) (sZ (vJ pr la m)) (pluE m (tF ri)) lg np (e2.set kk (.slice (some ⟨bg,0,none⟩) m m)) ((ps.map fun p=>accP p el).take (kk+1)) [] wr):=Kh (by
   have:=H3.out;rw[d3,qPM o3.out]at this;have:=this.fin j4.out hkk j1.out
   have e:(ps.map fun p=>accP p el).take (kk+1)=(ps.map fun p=>accP p el).take kk++[accP pv el]:=by
    rw[yB (d:=accP default el) (by rw[List.length_map,<-d9.out];exact hkk),xZ (x:=default) (by rw[<-d9.out];exact hkk),<-z5.out]
   rw[e];exact this)
  clear H3 E d3;go_wp2;go_roundg (np-(kk+1))
  case measure=>have:=H4.out;omega
  exact⟨kk+1,_,by have:=H4.out;omega,by go_num,H9.out⟩
 have s2:kk=np:=by have:=H4.out;omega
 have l9:¬(kk:Int)<np:=(by omega);have k7:=H3.out;rw[s2,List.take_of_length_le (l:=ps.map fun p=>accP p el) (by rw[List.length_map,<-d9.out];exact Nat.le_refl _)]at k7;obtain⟨t0,r1,r2,r3,r4,r5⟩:=k7.read (wQ _ _ _ _) (by rw[List.length_map,<-d9.out]);have e5:w3.grownBy wr none:=zC g0.out k7.g;have c2:=zB H5.out e5;obtain⟨q0,q1,q2,q3,q4,q5⟩:=yD t0;obtain⟨p0,p1,p2,p3,p4,p5⟩:=yD c2;have f0:=zA c2 0;have f1:=zA c2 1;have f2:=zA c2 2;have f3:=zA c2 3;have f4:=zA c2 4;have f5:=zA c2 5;have x1:=Kh c2;have A2:=Kh (zC k9.out e5);obtain⟨z4,z3,z2,z1,z0⟩:=K5 r1 r2 r3 r4 r5;clear k7 t0 r1 r2 r3 r4 r5 e5 c2 s2 b6 H3;go_wp2;refine bodyPost_ret (v:=.tuple #[.agg #[.int .i64 (k:Int),.slice (some ⟨tg,0,none⟩) m m,.slice (some ⟨wg,0,none⟩) m m,.slice (some ⟨ig,0,none⟩) k ic,.slice none 0 0,.slice (some ⟨pg,0,none⟩) m m],.slice (some ⟨lg,0,none⟩) np np,.int .i64 0]) (by simp[results,Tryz.results51,go_sem,p0,p1,p2,p3,p4,p5]) rfl ?_;obtain⟨p7,h7⟩:=uM x1.out (.int .i64 (k:Int)) (.slice (some ⟨tg,0,none⟩) m m) (.slice (some ⟨wg,0,none⟩) m m) (.slice (some ⟨ig,0,none⟩) k ic) (.slice none 0 0) (.slice (some ⟨pg,0,none⟩) m m)
 have e3:∀e',e'≠39->∀j,(some P:Option Nat)=some j->wr.heap.size<=j\/xG wr e' j:=fun e' he j hj=>by
  have hj:=Oj hj;subst hj;exact .inr ⟨_,_,_,x1.out,fun e1=>he e1.symm⟩
 have hz:=h7.size;obtain⟨hs,r5,r6⟩:=z0.out;refine .inr ⟨el,pr,la,ri,tg,wg,ig,ic,pg,lg,h8.out,by rw[<-HM.out];exact b0,?_⟩;rw[<-HM.out,<-d9.out,HK.out];exact⟨rfl,(z4.out.kept h7 (e3 _ (by decide)) (e3 _ (by decide))).mono hz,(z3.out.kept h7 (e3 _ (by decide))).mono hz,(z2.out.kept h7 (e3 _ (by decide))).mono hz,(z1.out.kept h7 (e3 _ (by decide))).mono hz,⟨hs,(r5.kept h7 (e3 _ (by decide))).mono hz,(r6.kept h7 (e3 _ (by decide))).mono hz⟩,yG A2.out h7 (by show _<=P;have:=k8.out;omega)⟩
def qMA (d:DfaV)(w:World)(e:Ending)(w':World):Prop :=
 (∃c:Int,e=.returned (.tuple #[.agg #[.int .i64 0,.slice none 0 0,.slice none 0 0,.slice none 0 0,.slice none 0 0,.slice none 0 0],.int .i64 c])/\c≠0/\(uJ d≠0->c=uJ d)/\(uJ d=0->c=3/\∀S,¬mD d S)/\w.grownBy w' none) \/
 ∃(S:SynV) (v:Value),e=.returned (.tuple #[v,.int .i64 0])/\mD d S/\gF w'.heap.size w' v S/\w.grownBy w' none
theorem qMC.ret {d:DfaV}{w w':World}{e:Ending}(h:qMC d w e w'):qMA d w e w':=by
 rcases h with ⟨c,h1,h2,h3,h4,h5⟩|⟨S,v,n,k,m,M,h1,h2,h3,h4,h5,h6,h7,h8⟩
 ·exact .inl ⟨c,h1,h2,h3,fun h=>⟨(h4 h).1,(h4 h).2.2⟩,h5⟩
 exact .inr ⟨S,v,h5,⟨n,k,m,M,h1,h2,h3,h4,h6⟩,h7,h8⟩
theorem qIM {d:DfaV}(h:uJ d=0):d.final.length<=512:=by
 unfold uJ at h
 split at h
 ·simp at h
 split at h
 ·simp at h
 split at h
 ·simp at h
 omega
theorem tP.one_ {w:World}{B:Nat}{hs:List Value}{b:List Bool}(h:tP B 4 bls w hs [b]):∃a c,hs=[.slice a b.length c]/\RowT B 4 w (.slice a b.length c) (bls b):=by
 obtain⟨h1,h2⟩:=h
 match hs,h1 with
 | [v],_ =>
  have h3:RowT B 4 w v (bls b):=h2 0 (by simp) (by simp);obtain⟨a,c,rfl⟩:=h3.shape;rw[zX]at h3⊢;exact⟨a,c,rfl,h3⟩
theorem qIS (B:Nat)(w:World)(v:Value)(d:DfaV)(hB:B<=w.heap.size)(h:tR B w v d):Calls Tryz.prog 23 #[v] w (qMA d w):=by
 obtain⟨fv,nv,rfl,hf,hn⟩:=id h;obtain⟨fA,fC,rfl⟩:=hf.shape;obtain⟨nA,nC,rfl⟩:=hn.shape;rw[zX]at h⊢;obtain⟨nf,g3⟩:=Nm d.final.length;obtain⟨nn,g0⟩:=Nm d.next.length;rw[<-g3,<-g0]at h⊢;obtain⟨wA,b8⟩:=Nm ((w.alloc (.cells #[.int .i64 d.letters,.int .i64 d.start,.slice fA nf fC,.slice nA nn nC] 29)).alloc (.cells #[.int .i64 0,.slice none 0 0,.slice none 0 0,.slice none 0 0,.slice none 0 0,.slice none 0 0] 39));have g1:=Ga w (.cells #[.int .i64 d.letters,.int .i64 d.start,.slice fA nf fC,.slice nA nn nC] 29) none;have n1:=heap_alloc_new w (.cells #[.int .i64 d.letters,.int .i64 d.start,.slice fA nf fC,.slice nA nn nC] 29);obtain⟨w1,b2⟩:=Nm (w.alloc (.cells #[.int .i64 d.letters,.int .i64 d.start,.slice fA nf fC,.slice nA nn nC] 29));rw[<-b2]at g1 n1 b8;have g2:=Ga w1 (.cells #[.int .i64 0,.slice none 0 0,.slice none 0 0,.slice none 0 0,.slice none 0 0,.slice none 0 0] 39) none;have n2:=heap_alloc_new w1 (.cells #[.int .i64 0,.slice none 0 0,.slice none 0 0,.slice none 0 0,.slice none 0 0,.slice none 0 0] 39);rw[<-b8]at g2 n2;have c6:w1.heap.size=w.heap.size+1:=by rw[b2];simp
 have e0:=zB n1 g2;obtain⟨P,hP⟩:=Nm w.heap.size;have a2:=Kh hP;rw[c6]at n2;rw[<-hP]at e0 n2;have b4:=zC g1 g2;have d8:=h.kept b4 (by simp);have j8:=Kh (qM B wA _ d (Nat.le_trans hB b4.size) d8);obtain⟨j5,j7,HG,HD,i8,k8⟩:=K6 b8 b2 b4 d8 e0 n2;have l0:=Kh c6;clear hf hn h g3 g0 b8 g1 n1 b2 g2 n2 e0 b4 d8 c6;go_enter Tryz.func23,Tryz.ntmps23;go_upto_region 1 with fail;rw[<-j7.out,<-j5.out,<-a2.out];clear hP;obtain⟨c0,c1,c2,c3⟩:=zL i8.out;go_wp2_with fail;refine j8.out.mono ?_;rintro e w2 ⟨rfl,b5⟩;have c5:=Kh b5;have a0:=zB i8.out b5;have h2:=zB k8.out b5;have e8:=Kh a0;have H4:=Kh h2;obtain⟨d0,d1,d2,d3⟩:=zL a0;obtain⟨p0,p1,p2,p3,p4,p5⟩:=yD h2;have f0:=zA h2 0;have f1:=zA h2 1;have f2:=zA h2 2;have f3:=zA h2 3;have f4:=zA h2 4;have f5:=zA h2 5;obtain⟨vd,c7⟩:=Nm (uJ d);have a3:=Kh c7;rw[<-c7];clear b5 a0 h2 c0 c1 c2 c3 c7;by_cases hv:vd=0
 ·have h7:=qQS (by rw[<-a3.out];exact hv)
  have H1:=qIM (by rw[<-a3.out];exact hv);obtain⟨n,hn⟩:=Nm d.final.length;obtain⟨k,hk⟩:=Nm d.letters.toNat;rw[<-hn,<-hk]at h7;rw[<-hn]at H1;obtain⟨w3,b1⟩:=Nm (w2.alloc (.cells #[.slice none 0 0,.slice none 0 0,.int .i64 0] 78));have a5:w2.grownBy w3 none:=by rw[b1];exact Ga w2 _ none
  have d9:=heap_alloc_new w2 (.cells #[.slice none 0 0,.slice none 0 0,.int .i64 0] 78);obtain⟨o5,d4⟩:=Nm w2.heap.size;rw[<-b1,<-d4]at d9;have e3:=zC c5.out a5;have i1:=HD.out.kept e3 (by simp);have i6:=Kh (qFR B w3 _ d n k (by have:=HG.out.size;have:=e3.size;omega) i1 h7 H1);have b0:=zB e8.out a5;obtain⟨h6,j6,i5,k5⟩:=K4 h7 b1 d4 d9;have k7:=Kh (zB H4.out a5);have k4:=Kh a5;have e6:=Kh H1;clear hn hk i1 h7 d0 d1 d2 d3 p0 p1 p2 p3 p4 p5 f0 f1 f2 f3 f4 f5 b1 a5 d9 d4 e3 H1;subst hv;go_upto_region 5 with fail;rw[<-j6.out,<-i5.out];obtain⟨d0,d1,d2,d3⟩:=zL b0;clear b0;go_wp2_with fail;refine i6.out.mono ?_;rintro e w4 ⟨v4,rfl,H7,d6⟩;have b3:=gO h6.out;have g4:=qKQ h6.out;obtain⟨M,hM⟩:=Nm (minD d k);obtain⟨m,hm⟩:=Nm (minN d k);rw[<-hM,<-hm]at b3;rw[<-hm]at g4;rw[<-hM]at H7;have e9:=Kh (qDY (w0:=w2) (zB k5.out d6) (zC k4.out d6) (by rw[i5.out];exact Nat.le_refl _) H7 b3 (by have:=e6.out;omega));have b9:=Kh hM;have h5:=Kh b3;clear H7 b3 g4 hM hm d6 d0 d1 d2 d3 i6;go_wp2_with fail;refine e9.out.mono ?_;rintro e w5 (⟨H0,rfl,H9⟩|⟨H0,rfl,gb,pb,cp,fA',fC',i2,hT,q0,q1,q2,a7,a6,f8,H9⟩)
  ·have h1:=zB H4.out H9
   have H3:=Kh h1;have c4:=Kh H9;obtain⟨p0,p1,p2,p3,p4,p5⟩:=yD h1;have f0:=zA h1 0;have f1:=zA h1 1;have f2:=zA h1 2;have f3:=zA h1 3;have f4:=zA h1 4;have f5:=zA h1 5;clear H9 h1 e9;go_wp2;refine bodyPost_ret (v:=.tuple #[.agg #[.int .i64 0,.slice none 0 0,.slice none 0 0,.slice none 0 0,.slice none 0 0,.slice none 0 0],.int .i64 3]) (by simp[results,Tryz.results23,go_sem,p0,p1,p2,p3,p4,p5]) rfl ?_;obtain⟨c9,H2⟩:=uM H3.out (.int .i64 0) (.slice none 0 0) (.slice none 0 0) (.slice none 0 0) (.slice none 0 0) (.slice none 0 0);exact .inl ⟨3,rfl,by decide,fun h=>absurd a3.out.symm h,fun _=>⟨rfl,qFT h6.out (by rw[<-b9.out];exact h5.out) (.inl H0)⟩,zC (zC (zC HG.out c5.out) c4.out) H2 (fun j e=>by have e:P+1=j:=Oj e;have:=a2.out;omega)⟩
  have g8:=h5.out.k1;have g7:=h5.out.k6;have c8:st0 M<m:=by have:=h5.out.sn;have:=h5.out.s0;unfold st0;omega
  have H6:=qEA w5 o5 gb k pb 0 cp m (pG M m k) [⟨st0 M,M.final,0⟩] i2 hT.tmat (mW h5.out) h5.out.n1 H0 (uE _ _ _) g8 g7 (fun j hj=>by
   have:j=0:=by simpa using hj
   subst this;exact⟨_,by simpa using q0,by simpa using q1,by simpa using q2,f8.row⟩) ⟨a7,a6⟩ (by simp) (fun p hp=>by
   rw[List.mem_singleton]at hp;subst hp;refine⟨c8,by simp only;rw[h5.out.hn];omega,fun el pr la ri b6 f hf=>?_⟩;have g9:=b6.en.it f hf;refine⟨Nat.zero_le _,?_⟩;simp only;rw[h5.out.hn,Nat.zero_add]
   exact g9.2 _ (uW (by rw[g9.1];exact c8)))
  have e5:=Kh H6;have H3:=Kh (zB H4.out H9);have c4:=Kh (zC (zC HG.out c5.out) H9);clear H6 i2 hT q0 q1 q2 a7 a6 f8 H9 e9 c8 g8 g7;go_wp2_with fail;refine e5.out.mono ?_;rintro e w6 (⟨rfl,f9,H8⟩|⟨el,pr,la,ri,tg,wg,ig,ic,pg,lg,b6,g6,rfl,hT,hW,hI,e2,⟨hs,hL,i4⟩,H8⟩)
  ·have k2:=Kh f9
   have h4:=zB H3.out H8;obtain⟨w7,H5⟩:=Nm (w6.alloc (.cells #[.int .i64 0,.slice none 0 0,.slice none 0 0,.slice none 0 0,.slice none 0 0,.slice none 0 0] 39));have h3:w6.grownBy w7 none:=(by rw[H5];exact Ga w6 _ none);have h0:=zB h4 h3;have a1:=Kh h0;have e7:=Kh (zC (zC c4.out H8) h3);have e4:=Kh H5;obtain⟨p0,p1,p2,p3,p4,p5⟩:=yD h0;have f0:=zA h0 0;have f1:=zA h0 1;have f2:=zA h0 2;have f3:=zA h0 3;have f4:=zA h0 4;have f5:=zA h0 5;clear f9 H8 h4 H5 h3 h0 e5;go_upto_region 9 with fail;rw[<-e4.out];go_wp2;refine bodyPost_ret (v:=.tuple #[.agg #[.int .i64 0,.slice none 0 0,.slice none 0 0,.slice none 0 0,.slice none 0 0,.slice none 0 0],.int .i64 3]) (by simp[results,Tryz.results23,go_sem,p0,p1,p2,p3,p4,p5]) rfl ?_;obtain⟨c9,H2⟩:=uM a1.out (.int .i64 0) (.slice none 0 0) (.slice none 0 0) (.slice none 0 0) (.slice none 0 0) (.slice none 0 0);exact .inl ⟨3,rfl,by decide,fun h=>absurd a3.out.symm h,fun _=>⟨rfl,qFT h6.out (by rw[<-b9.out];exact h5.out) (.inr (by rw[<-b9.out];exact k2.out))⟩,zC e7.out H2 (fun j e=>by have e:P+1=j:=Oj e;have:=a2.out;omega)⟩
  have e1:=synP (st:=st0 M) (fin:=M.final) b6 (mW h5.out) g6;have i0:(pG M m k).length=k:=uE _ _ _;rw[i0]at e1 hI⊢;obtain⟨aA,aC,rfl,hA⟩:=tP.one_ i4;simp only[qPP,jH]at hA hL;simp only[List.length_singleton]at hL⊢;obtain⟨N,hN⟩:=Nm el.length;rw[<-hN]at hT hW e2 hA hL⊢;have h4:=zB H3.out H8;obtain⟨w7,H5⟩:=Nm (w6.alloc (.cells #[.int .i64 (k:Int),.slice (some ⟨tg,0,none⟩) N N,.slice (some ⟨wg,0,none⟩) N N,.slice (some ⟨ig,0,none⟩) k ic,.slice none 0 0,.slice (some ⟨pg,0,none⟩) N N] 39));have h3:w6.grownBy w7 none:=(by rw[H5];exact Ga w6 _ none);have a8:=heap_alloc_new w6 (.cells #[.int .i64 (k:Int),.slice (some ⟨tg,0,none⟩) N N,.slice (some ⟨wg,0,none⟩) N N,.slice (some ⟨ig,0,none⟩) k ic,.slice none 0 0,.slice (some ⟨pg,0,none⟩) N N] 39);obtain⟨b7,d7⟩:=Nm w6.heap.size;rw[<-H5,<-d7]at a8;have h0:=zB h4 h3;have f6:=h3.size;obtain⟨lb,lo,lc,le,_,d5,_,g5⟩:=(hL.kept h3 (by simp)).row.some_ (by simp);simp only[Value.slice.injEq,Option.some.injEq,Addr.mk.injEq,and_true]at le;obtain⟨⟨rfl,rfl⟩,j0,i9⟩:=le;clear j0 i9 d5;have c0:=g5.2 0 (by simp);simp only[List.getElem_cons_zero,Nat.add_zero]at c0;have j9:=Kh e1;have HT:=Kh (hT.kept h3 (by simp) (by simp));have HW:=Kh (hW.kept h3 (by simp));have HI:=Kh (hI.kept h3 (by simp));have k0:=Kh (e2.kept h3 (by simp));have HA:=Kh (hA.kept h3 (by simp));have l1:=Kh a8;have a1:=Kh h0;have e7:=Kh (zC (zC c4.out H8) h3);obtain⟨e4,i7,j4,k3⟩:=K4 H5 d7 f6 hN;obtain⟨q0,q1,q2,q3,q4,q5⟩:=yD a8;have r4:=zA a8 4;have k9:P+1<b7:=(by have:=zR h4;omega);have i3:P+1≠b7:=(by omega);obtain⟨p0,p1,p2,p3,p4,p5⟩:=yD h0;have f0:=zA h0 0;have f1:=zA h0 1;have f2:=zA h0 2;have f3:=zA h0 3;have f4:=zA h0 4;have f5:=zA h0 5;clear b6 g6 hT hW hI e2 hL i4 hA H8 h4 H5 h3 a8 d7 h0 e1 g5 f6 hN e5 i0;go_upto_region 9 with fail;rw[<-e4.out,<-i7.out];go_wp2;refine bodyPost_ret (v:=.tuple #[.agg #[.int .i64 (k:Int),.slice (some ⟨tg,0,none⟩) N N,.slice (some ⟨wg,0,none⟩) N N,.slice (some ⟨ig,0,none⟩) k ic,.slice aA N aC,.slice (some ⟨pg,0,none⟩) N N],.int .i64 0]) (by simp[results,Tryz.results23,go_sem,p0,p1,p2,p3,p4,p5,i3]) rfl ?_;have a4:=zF w7 ⟨b7,4,none⟩ (.slice aA N aC);obtain⟨w8,j1⟩:=Nm (w7.setCell ⟨b7,4,none⟩ (.slice aA N aC));rw[<-j1]at a4⊢;have a9:=zB a1.out a4 (fun e=>i3 (Oj e).symm);obtain⟨c9,H2⟩:=uM a9 (.int .i64 (k:Int)) (.slice (some ⟨tg,0,none⟩) N N) (.slice (some ⟨wg,0,none⟩) N N) (.slice (some ⟨ig,0,none⟩) k ic) (.slice aA N aC) (.slice (some ⟨pg,0,none⟩) N N);have j3:gF w6.heap.size w7 (.agg #[.int .i64 (k:Int),.slice (some ⟨tg,0,none⟩) N N,.slice (some ⟨wg,0,none⟩) N N,.slice (some ⟨ig,0,none⟩) k ic,.slice aA N aC,.slice (some ⟨pg,0,none⟩) N N]) ⟨k,tabE pr la ri N,vJ pr la N,ri.getD 0 [],accE M.final (st0 M) el,pluE N (tF ri)⟩:=⟨_,_,_,_,_,rfl,HT.out,HW.out,HI.out,HA.out,k0.out⟩;have h8:=j3.kept a4 (fun q e=>.inl (by have e:b7=q:=Oj e;have:=i7.out;omega));have h9:=h8.kept H2 (fun q e=>by have e:P+1=q:=Oj e;subst e;exact .inr ⟨_,_,_,a9,by unfold qPT;decide⟩);have j2:mD d ⟨k,tabE pr la ri N,vJ pr la N,ri.getD 0 [],accE M.final (st0 M) el,pluE N (tF ri)⟩:=⟨n,k,m,M,h6.out,b9.out,h5.out,H0,by have:=j9.out;rw[<-k3.out]at this;exact this⟩;exact .inr ⟨_,_,rfl,j2,h9.mono (by have:=a4.size;have:=H2.size;have:=j4.out;omega),zC (yG e7.out a4 (by show _<=b7;have:=a2.out;omega)) H2 (fun j e=>by have e:P+1=j:=Oj e;have:=a2.out;omega)⟩
 have f7:vd≠0:=hv;go_wp2;refine bodyPost_ret (v:=.tuple #[.agg #[.int .i64 0,.slice none 0 0,.slice none 0 0,.slice none 0 0,.slice none 0 0,.slice none 0 0],.int .i64 vd]) (by simp[results,Tryz.results23,go_sem,p0,p1,p2,p3,p4,p5]) rfl ?_;obtain⟨c9,H2⟩:=uM H4.out (.int .i64 0) (.slice none 0 0) (.slice none 0 0) (.slice none 0 0) (.slice none 0 0) (.slice none 0 0);exact .inl ⟨vd,rfl,f7,fun _=>a3.out,fun h=>absurd (a3.out.trans h) f7,zC (zC HG.out c5.out) H2 (fun j e=>by have e:P+1=j:=Oj e;have:=a2.out;omega)⟩
theorem SynE.lens {gs:List (List Nat)}{n st:Nat}{fin:List Bool}{S:SynV}(h:SynE gs n st fin S):S.k=gs.length/\1<=S.tab.length/\S.tab.length<=400/\(∀r∈S.tab,r.length=S.tab.length)/\S.words.length=S.tab.length/\S.images.length=gs.length/\S.accept.length=S.tab.length/\S.plus.length=S.tab.length:=by
 obtain⟨el,pr,la,ri,mm,hf,hl,e1,e2,e3,e4,e5,hG,hC,e6⟩:=h;have ht:S.tab.length=el.length:=by rw[e2,wQ]
 rw[ht];refine⟨e1,hf.en.pos,hl,fun r hr=>?_,by rw[e3,oX],by rw[e4,kW],by rw[e5,jH],by rw[e6,gL]⟩;rw[e2]at hr;obtain⟨x,_,rfl⟩:=List.mem_map.1 hr;exact tZ _ _ _ _ _
def pK (I:SynI):Prop:=tX I=true/\∃S,mD (autI I) S/\S.I=I
def pT (I:SynI)(w:World)(e:Ending)(w':World):Prop:=(∃z:Int,e=.returned (.int .i64 z)/\((z=0/\pK I)\/(z=8/\¬pK I)))/\w.grownBy w' none
theorem pT.no {I:SynI}{w w':World}(h:¬pK I)(hg:w.grownBy w' none):pT I w (.returned (.int .i64 8)) w':=⟨⟨8,rfl,.inr ⟨rfl,h⟩⟩,hg⟩
theorem pT.yes {I:SynI}{w w':World}(h:pK I)(hg:w.grownBy w' none):pT I w (.returned (.int .i64 0)) w':=⟨⟨0,rfl,.inl ⟨rfl,h⟩⟩,hg⟩
theorem mD.valid {d:DfaV}{S:SynV}(h:mD d S)(h5:d.final.length<=512):uJ d=0:=by
 obtain⟨n,k,m,M,hd,_⟩:=h;exact jL hd (by rw[<-hd.hn];exact h5)
theorem mD.lens {I:SynI}{S:SynV}(h:mD (autI I) S):(S.k:Int)=I.k/\1<=S.tab.length/\S.tab.length<=400/\(∀r∈S.tab,r.length=S.tab.length)/\S.words.length=S.tab.length/\1<=S.images.length/\S.accept.length=S.tab.length/\S.plus.length=S.tab.length:=by
 obtain⟨n,k,m,M,hd,e,hM,hm,hS⟩:=h;obtain⟨h1,h2,h3,h4,h5,h6,h7,h8⟩:=hS.lens;rw[uE]at h1 h6;have:=hd.hk;have:=hd.k1;exact⟨by rw[h1];exact(hd.hk).symm,h2,h3,h4,h5,by omega,h7,h8⟩
theorem qMN {I:SynI}{S:SynV}(h:mD (autI I) S)(a9:S.I≠I):¬pK I:=fun⟨_,S',h',e'⟩=>a9 (by rw[h.eq h'];exact e')
theorem Mat.rows_ {B:Nat}{w:World}{v:Value}{t:List (List Int)}{n:Nat}(h:Mat B w v t)(hn:n=t.length)(h1:1<=n):∃b off cap,v=.slice (some ⟨b,off,none⟩) n cap/\n<=cap/\cap<=9223372036854775807/\∀x,x<n->∃a c,w.cell? ⟨b,off+x,none⟩=some (.slice a (t.getD x []).length c)/\Row B w (.slice a (t.getD x []).length c) (ints (t.getD x [])):=by
 obtain⟨b,off,cap,A,C,rfl,h2,h3,h0⟩:=h.some_ (by omega);exact⟨b,off,cap,by rw[hn],by omega,by unfold maxLen at h3;omega,fun x hx=>⟨_,_,h0.hd x (by omega),h0.row x (by omega)⟩⟩
def qUI (s t:List (List Int))(x:Nat):Prop:=∀y,y<x->s.getD y []=t.getD y []
theorem qGN (B:Nat)(w:World)(v:Value)(I:SynI)(a9:B<=w.heap.size)(h:qAT B w v I):Calls Tryz.prog 35 #[v] w (pT I w):=by
 obtain⟨vT,vW,vI,vA,vP,rfl,hT,hW,hI,hA,hP⟩:=id h;obtain⟨tA,tC,rfl⟩:=hT.shape;obtain⟨wA,wC,rfl⟩:=hW.shape;obtain⟨iA,iC,rfl⟩:=hI.shape;obtain⟨aA,aC,rfl⟩:=hA.shape;obtain⟨pA,pC,rfl⟩:=hP.shape;obtain⟨n,hn⟩:=Nm I.tab.length;obtain⟨wn,c9⟩:=Nm ((rK I.words).length);obtain⟨iN,e5⟩:=Nm ((ints I.images).length);obtain⟨an,f6⟩:=Nm ((bls I.accept).length);obtain⟨pn,e4⟩:=Nm ((bls I.plus).length);obtain⟨k,hk⟩:=Nm I.k;rw[<-hn,<-c9,<-e5,<-f6,<-e4,<-hk]at h⊢;rw[<-hn]at hT;rw[<-c9]at hW;rw[<-e5]at hI;rw[<-f6]at hA;rw[<-e4]at hP;obtain⟨w1,b7⟩:=Nm (w.alloc (.cells #[.int .i64 k,.slice tA n tC,.slice wA wn wC,.slice iA iN iC,.slice aA an aC,.slice pA pn pC] 39));have e9:w.grownBy w1 none:=by rw[b7];exact Ga w _ none
 have c0:=heap_alloc_new w (.cells #[.int .i64 k,.slice tA n tC,.slice wA wn wC,.slice iA iN iC,.slice aA an aC,.slice pA pn pC] 39);obtain⟨P,f7⟩:=Nm w.heap.size;rw[<-b7,<-f7]at c0;obtain⟨q0,q1,q2,q3,q4,q5⟩:=yD c0;have f9:=Kh (qGQ B w1 _ I (h.kept e9));have m1:Hid (∀W:World,w.grownBy W none->qAT B W (.agg #[.int .i64 k,.slice tA n tC,.slice wA wn wC,.slice iA iN iC,.slice aA an aC,.slice pA pn pC]) I):=Kh (fun W hW=>h.kept hW);have HT:Hid (∀W:World,w.grownBy W none->Mat B W (.slice tA n tC) I.tab):=Kh (fun W hg=>hT.kept hg (by simp));have HW:Hid (∀W:World,w.grownBy W none->Row B W (.slice wA wn wC) (rK I.words)):=Kh (fun W hg=>hW.kept hg (by simp));have HI:Hid (∀W:World,w.grownBy W none->Row B W (.slice iA iN iC) (ints I.images)):=Kh (fun W hg=>hI.kept hg (by simp));have HA:Hid (∀W:World,w.grownBy W none->Row B W (.slice aA an aC) (bls I.accept)):=Kh (fun W hg=>hA.kept hg (by simp));have HP:Hid (∀W:World,w.grownBy W none->Row B W (.slice pA pn pC) (bls I.plus)):=Kh (fun W hg=>hP.kept hg (by simp));obtain⟨m4,k5,k8,n1,HN,HK⟩:=K6 e9 b7 f7 c0 hn hk;obtain⟨sb,d8⟩:=Nm (tX I);rw[<-d8]at f9;have g0:=Kh d8;clear h hT hW hI hA hP hn c9 e5 f6 e4 e9 c0 b7 f7 hk d8;go_enter Tryz.func35,Tryz.ntmps35;go_upto_region 1 with fail;rw[<-k5.out,<-k8.out];go_wp2_with fail;refine f9.out.mono ?_;rintro e w2 ⟨rfl,e8⟩;have c8:=Kh (zC m4.out e8);have b9:=zB n1.out e8;have n0:=Kh b9;clear e8 q0 q1 q2 q3 q4 q5 f9;cases sb with
 | false =>
  clear b9;go_wp2;go_ret;exact pT.no (fun h=>by have:=g0.out;rw[h.1]at this;exact absurd this (by decide)) c8.out
 | true =>
  have d7:tX I=true:=g0.out.symm;have H5:=Kh (lQ d7);have k1:=Kh (qAS B w2 _ I (Nat.le_trans a9 c8.out.size) (m1.out _ c8.out) d7);obtain⟨q0,q1,q2,q3,q4,q5⟩:=yD b9;clear d7 b9;go_wp2_with fail;refine k1.out.mono ?_;rintro e w3 ⟨v3,rfl,i1,e7⟩;have g1:=Kh (qIS w3.heap.size w3 v3 (autI I) (Nat.le_refl _) i1);have i8:=Kh (zC c8.out e7);have m9:=Kh (zB n0.out e7);clear e7 i1 q0 q1 q2 q3 q4 q5 k1;go_wp2_with fail;refine g1.out.mono ?_;rintro e w4 (⟨c,rfl,i3,k3,i2,a0⟩|⟨S,v4,rfl,c7,i5,a0⟩)
  ·have H4:Hid (¬pK I):=Kh (fun⟨_,S,h1,_⟩=>by
    have hv:=h1.valid (by have:=H5.out.2.1.2.1;have:=H5.out.1.2.2.2;simp only[autI];omega)
    exact(i2 hv).2 S h1)
   have n2:(c != 0)=true:=by rw[bne_iff_ne];exact i3
   have m3:=Kh (zC i8.out a0);clear k3 i2 i3 a0 g1;go_wp2;go_ret;exact pT.no H4.out (zC m3.out (Ga _ _ none))
  obtain⟨l1,l2,l3,l4,l5,l6,l7,l8⟩:=c7.lens;obtain⟨jT,jW,jI,jA,jP,rfl,f8,a8,b1,b2,b0⟩:=i5.toI;obtain⟨J,hJ⟩:=Nm S.I;have j1:J.tab.length=S.tab.length:=by rw[hJ];exact xK _
  have j2:J.words.length=S.tab.length:=by rw[hJ];simp[SynV.I,l5]
  have j3:1<=J.images.length:=by rw[hJ];simpa [SynV.I] using l6
  have j4:J.accept.length=S.tab.length:=by rw[hJ];exact l7
  have j5:J.plus.length=S.tab.length:=by rw[hJ];exact l8
  have j6:J.k=I.k:=by rw[hJ];exact l1
  have j7:∀x,x<S.tab.length->(J.tab.getD x []).length=S.tab.length:=fun x hx=>by
   rw[hJ];show ((tabI S.tab).getD x []).length=_;rw[lM,List.length_map];exact l4 _ (uW hx)
  rw[<-hJ]at f8 a8 b1 b2 b0⊢;obtain⟨N,hN⟩:=Nm S.tab.length;rw[<-hN]at j1 j2 j4 j5 j7 l2 l3;have H4:Hid (J≠I->¬pK I):=Kh (fun hne=>qMN c7 (by rw[<-hJ];exact hne));have HV:Hid (J=I->pK I):=Kh (fun e=>⟨g0.out.symm,S,c7,by rw[<-hJ];exact e⟩);obtain⟨jb,jo,jC,rfl,jc1,jc2,jrow⟩:=f8.rows_ (n:=N) j1.symm l2;obtain⟨uA,uC,rfl⟩:=a8.shape;obtain⟨vA2,vC2,rfl⟩:=b1.shape;obtain⟨xA,xC,rfl⟩:=b2.shape;obtain⟨yA,yC,rfl⟩:=b0.shape;have e1:(rK J.words).length=N:=by simp[rK,j2]
  have e2:(bls J.accept).length=N:=by rw[zX,j4]
  have e3:(bls J.plus).length=N:=by rw[zX,j5]
  rw[e1]at a8⊢;rw[e2]at b2⊢;rw[e3]at b0⊢;obtain⟨ik,g8⟩:=Nm ((ints J.images).length);rw[<-g8]at b1⊢;obtain⟨jk,g7⟩:=Nm J.k;rw[<-g7];obtain⟨w5,b6⟩:=Nm (w4.alloc (.cells #[.int .i64 jk,.slice (some ⟨jb,jo,none⟩) N jC,.slice uA N uC,.slice vA2 ik vC2,.slice xA N xC,.slice yA N yC] 39));have H3:w4.grownBy w5 none:=(by rw[b6];exact Ga w4 _ none);have b8:=heap_alloc_new w4 (.cells #[.int .i64 jk,.slice (some ⟨jb,jo,none⟩) N jC,.slice uA N uC,.slice vA2 ik vC2,.slice xA N xC,.slice yA N yC] 39);obtain⟨b5,f0⟩:=Nm w4.heap.size;rw[<-b6,<-f0]at b8;have g9:=zC (zC i8.out a0) H3;obtain⟨b4,h0,k4,m8⟩:=K4 b8 g9 b6 f0;have a7:=Kh (zB (zB m9.out a0) H3)
  have HR:Hid (∀W:World,w5.grownBy W none->∀x,x<N->∃a c,W.cell? ⟨jb,jo+x,none⟩=some (.slice a (J.tab.getD x []).length c)/\Row w4.heap.size W (.slice a (J.tab.getD x []).length c) (ints (J.tab.getD x []))):=Kh (fun W hW x hx=>by
   obtain⟨a,c,h1,h2⟩:=jrow x hx;have hg:=zC H3 hW
   exact⟨a,c,zK h1 hg,h2.kept hg (by simp)⟩)
  have k9:=Kh (fun W (hW:w5.grownBy W none)=>a8.kept (zC H3 hW) (by simp));have l9:=Kh (fun W (hW:w5.grownBy W none)=>b1.kept (zC H3 hW) (by simp));have m0:=Kh (fun W (hW:w5.grownBy W none)=>b2.kept (zC H3 hW) (by simp));have l0:=Kh (fun W (hW:w5.grownBy W none)=>b0.kept (zC H3 hW) (by simp));obtain⟨J1,J2,J3,J4,J5,J6⟩:=K6 j1 j2 j3 j4 j5 j6;have J7:=Kh j7;obtain⟨d0,d1,d2,d3,d4,d5⟩:=yD b8;obtain⟨q0,q1,q2,q3,q4,q5⟩:=yD a7.out;clear l1 l4 l5 l6 l7 l8 c7 i5 f8 a8 b1 b2 b0 hJ j1 j2 j3 j4 j5 j6 j7 hN jrow e1 e2 e3 g8 g7 b6 H3 b8 f0 g9 a0 g1;go_upto_region 4 with fail;rw[<-k4.out,<-m8.out];by_cases hNn:N=n
  case neg =>
   have e1:((N:Int) != (n:Int))=true:=by rw[bne_iff_ne];omega
   go_wp2;go_ret;exact pT.no (H4.out (fun e=>hNn (by rw[<-J1.out,e,HN.out]))) h0.out
  subst hNn;have hl:=HT.out _ h0.out;obtain⟨tb,tf,tcap,et,t1,t2,_⟩:=hl.rows_ (n:=N) HN.out l2;simp only[Value.slice.injEq,true_and]at et;obtain⟨rfl,rfl⟩:=et
  have k6:Hid (∀W:World,w5.grownBy W none->∀x,x<N->∃a c,W.cell? ⟨tb,tf+x,none⟩=some (.slice a (I.tab.getD x []).length c)/\Row B W (.slice a (I.tab.getD x []).length c) (ints (I.tab.getD x []))):=Kh (fun W hW x hx=>by
   obtain⟨b,o,c,e,_,_,h3⟩:=(HT.out W (zC h0.out hW)).rows_ (n:=N) HN.out l2;simp only[Value.slice.injEq,Option.some.injEq,Addr.mk.injEq,and_true,true_and]at e;obtain⟨⟨rfl,rfl⟩,_⟩:=e
   exact h3 x hx)
  clear hl;go_wp2
  go_loopg [5,6,30] N (fun gh a5 a6 a30 wr=>∃x:Nat,gh+x=N/\a30=.int .i64 x/\qUI J.tab I.tab x/\w5.grownBy wr none)
  case atStart=>exact⟨0,rfl,rfl,fun y hy=>by omega,zU _ _⟩
  clear d0 d1 d2 d3 d4 d5 q0 q1 q2 q3 q4 q5;obtain⟨x,e6,rfl,d6,H1⟩:=hrel;obtain⟨g3,i6,m2⟩:=K3 e6 d6 H1;obtain⟨d0,d1,d2,d3,d4,d5⟩:=yD (zB b4.out H1);obtain⟨q0,q1,q2,q3,q4,q5⟩:=yD (zB a7.out H1);by_cases hx:x<N
  ·have k2:(x:Int)<N:=by omega
   obtain⟨a,c,hc,hr⟩:=HR.out _ H1 x hx;obtain⟨a',c',i4,g6⟩:=k6.out _ H1 x hx;have g4:=Kh (bN w4.heap.size B wr _ _ _ _ hr g6 (by rw[J7.out x hx];exact l2));obtain⟨bq,f2⟩:=Nm (decide (J.tab.getD x []=I.tab.getD x []));obtain⟨r1,e0⟩:=Nm ((J.tab.getD x []).length);obtain⟨r2,d9⟩:=Nm ((I.tab.getD x []).length);rw[<-f2,<-e0,<-d9]at g4;rw[<-e0]at hc;rw[<-d9]at i4;have j8:=Kh f2;clear e6 d6 H1 hr g6 f2 e0 d9 d0 d2 d3 d4 d5 q0 q2 q3 q4 q5;go_wp2_with fail;refine g4.out.mono ?_;rintro e w6 ⟨rfl,i0⟩;have i7:=Kh (zC m2.out i0);clear i0 g4 hc i4 d1 q1;cases bq with
   | false =>
    go_wp2;go_ret
    exact pT.no (H4.out (fun e=>by
     have h1:=j8.out.symm;rw[e]at h1
     exact absurd rfl (of_decide_eq_false h1))) (zC h0.out i7.out)
   | true =>
    go_wp2;go_roundg (N-(x+1))
    case measure=>have:=g3.out;omega
    refine⟨x+1,by have:=g3.out;omega,by go_num,fun y hy=>?_,i7.out⟩;rcases Nat.lt_or_ge y x with h|h
    ·exact i6.out y h
    have:y=x:=by omega
    subst this;exact of_decide_eq_true j8.out.symm
  have g5:x=N:=by have:=g3.out;omega
  have k2:¬(x:Int)<N:=by omega
  have k7:Hid (J.tab=I.tab):=Kh (by
   refine List.ext_getElem (by rw[J1.out,HN.out]) fun i h1 h2=>?_;have:=i6.out i (by rw[g5,<-J1.out];exact h1)
   rwa [zN h1,zN h2]at this)
  have h7:=H5.out.2.1;have i9:=Kh (qHQ w4.heap.size B wr _ _ _ _ (k9.out _ H1) (HW.out _ (zC h0.out H1)) (by rw[J2.out];exact l2));have m6:Hid (∀W:World,w5.grownBy W none->_):=Kh (fun W hW=>bN w4.heap.size B W _ _ _ _ (l9.out _ hW) (HI.out _ (zC h0.out hW)) J3.out);have m7:Hid (∀W:World,w5.grownBy W none->_):=Kh (fun W hW=>eV w4.heap.size B W _ _ _ _ (m0.out _ hW) (HA.out _ (zC h0.out hW)) (by rw[J4.out];exact l2) (by rw[h7.2.1,<-HN.out];exact l2));have m5:Hid (∀W:World,w5.grownBy W none->_):=Kh (fun W hW=>eV w4.heap.size B W _ _ _ _ (l0.out _ hW) (HP.out _ (zC h0.out hW)) (by rw[J5.out];exact l2) (by rw[h7.2.2.1,<-HN.out];exact l2));have g2:=Kh H1;clear e6 d6 H1 g5 h7;have H6:=i9;clear i9;obtain⟨bw,f1⟩:=Nm (decide (J.words=I.words));rw[<-f1]at H6;have j0:=Kh f1;clear f1;go_wp2_with fail;refine H6.out.mono ?_;rintro e w6 ⟨rfl,hg⟩;have H0:=Kh (zC g2.out hg);clear hg H6 d0 d1 d2 d3 d4 d5 q0 q1 q2 q3 q4 q5;obtain⟨d0,d1,d2,d3,d4,d5⟩:=yD (zB b4.out H0.out);obtain⟨q0,q1,q2,q3,q4,q5⟩:=yD (zB a7.out H0.out);cases bw with
  | false =>
   go_wp2;go_ret
   exact pT.no (H4.out (fun e=>by
    have h1:=j0.out.symm;rw[e]at h1
    exact absurd rfl (of_decide_eq_false h1))) (zC h0.out H0.out)
  | true =>
   have H8:=Kh (m6.out _ H0.out);obtain⟨bi,f4⟩:=Nm (decide (J.images=I.images));rw[<-f4]at H8;have j9:=Kh f4;clear f4;go_wp2_with fail;refine H8.out.mono ?_;rintro e w7 ⟨rfl,hg⟩;have h9:=Kh (zC H0.out hg);clear hg H8 d0 d1 d2 d3 d4 d5 q0 q1 q2 q3 q4 q5;obtain⟨d0,d1,d2,d3,d4,d5⟩:=yD (zB b4.out h9.out);obtain⟨q0,q1,q2,q3,q4,q5⟩:=yD (zB a7.out h9.out);cases bi with
   | false =>
    go_wp2;go_ret
    exact pT.no (H4.out (fun e=>by
     have h1:=j9.out.symm;rw[e]at h1
     exact absurd rfl (of_decide_eq_false h1))) (zC h0.out h9.out)
   | true =>
    have H9:=Kh (m7.out _ h9.out);obtain⟨ba,f5⟩:=Nm (decide (J.accept=I.accept));rw[<-f5]at H9;have k0:=Kh f5;clear f5;go_wp2_with fail;refine H9.out.mono ?_;rintro e w8 ⟨rfl,hg⟩;have h8:=Kh (zC h9.out hg);clear hg H9 d0 d1 d2 d3 d4 d5 q0 q1 q2 q3 q4 q5;obtain⟨d0,d1,d2,d3,d4,d5⟩:=yD (zB b4.out h8.out);obtain⟨q0,q1,q2,q3,q4,q5⟩:=yD (zB a7.out h8.out);cases ba with
    | false =>
     go_wp2;go_ret
     exact pT.no (H4.out (fun e=>by
      have h1:=k0.out.symm;rw[e]at h1
      exact absurd rfl (of_decide_eq_false h1))) (zC h0.out h8.out)
    | true =>
     have H7:=Kh (m5.out _ h8.out);obtain⟨bp,f3⟩:=Nm (decide (J.plus=I.plus));rw[<-f3]at H7;have b3:=Kh f3;clear f3;go_wp2_with fail;refine H7.out.mono ?_;rintro e w9 ⟨rfl,hg⟩;have H2:=Kh (zC h8.out hg);clear hg H7 d0 d1 d2 d3 d4 d5 q0 q1 q2 q3 q4 q5;obtain⟨d0,d1,d2,d3,d4,d5⟩:=yD (zB b4.out H2.out);obtain⟨q0,q1,q2,q3,q4,q5⟩:=yD (zB a7.out H2.out);cases bp with
     | false =>
      go_wp2;go_ret
      exact pT.no (H4.out (fun e=>by
       have h1:=b3.out.symm;rw[e]at h1
       exact absurd rfl (of_decide_eq_false h1))) (zC h0.out H2.out)
     | true =>
      go_wp2;go_ret
      exact pT.yes (HV.out (by
       have h1:=k7.out;have h2:=of_decide_eq_true j0.out.symm;have h3:=of_decide_eq_true j9.out.symm;have h4:=of_decide_eq_true k0.out.symm;have h5:=of_decide_eq_true b3.out.symm;have h6:=J6.out;obtain⟨a1,a2,a3,a4,a5,a6⟩:=J;obtain⟨c1,c2,c3,c4,c5,c6⟩:=I;simp only at h1 h2 h3 h4 h5 h6
       rw[h1,h2,h3,h4,h5,h6])) (zC h0.out H2.out)
end Go.Proofs.YtobakifdllameaaGreat
namespace Go.Proofs.YtobakifdllameaaGreat
section
variable {gs:List (List Nat)} {n:Nat} {el:List (List Nat)} {pr la:List Int} {ri:List (List Nat)}
theorem mN:(tabI (tabE pr la ri el.length)).length=el.length:=by rw[xK,wQ]
theorem Enm.entV (h:Enm gs n el pr la ri el.length)(hg:∀g∈gs,IsT n g){x y:Nat}(hx:x<el.length)(hy:y<el.length):entN (tabI (tabE pr la ri el.length)) x y<el.length/\el.getD (entN (tabI (tabE pr la ri el.length)) x y) []=wT (el.getD x []) (el.getD y []):=by
 rw[qIR];exact h.tab hg hx hy
theorem Enm.shapeV (h:Enm gs n el pr la ri el.length)(hg:∀g∈gs,IsT n g)(h4:el.length<=400):rD (tabI (tabE pr la ri el.length))=0:=by
 have hp:=h.en.pos;unfold rD;rw[mN,if_neg (by omega),if_neg (by omega),if_pos];rw[List.all_eq_true];intro r hr;obtain⟨x,hx,rfl⟩:=List.getElem_of_mem hr;have h0:x<el.length:=by rw[mN]at hx;exact hx
 rw[<-zN (d:=[]) hx]
 have hl:((tabI (tabE pr la ri el.length)).getD x []).length=el.length:=by
  rw[lM,List.length_map,zN (by rw[wQ];exact h0)];simp[tabE,tZ]
 refine oH.2 ⟨hl,fun y hy=>?_⟩;rw[hl]at hy;have e:=jN (tabE pr la ri el.length) x y;have h1:=(h.tab hg h0 hy).1;unfold Go.Proofs.YtobakifdllameaaGreat.ent at e;rw[e];omega
theorem Enm.assocV (h:Enm gs n el pr la ri el.length)(hg:∀g∈gs,IsT n g):qMH (tabI (tabE pr la ri el.length)):=by
 intro g h0 x y hx hy;rw[mN]at h0 hx hy;obtain⟨a1,a2⟩:=h.entV hg hx h0;obtain⟨b1,b2⟩:=h.entV hg h0 hy;obtain⟨c1,c2⟩:=h.entV hg hx b1;refine oO (d:=[]) h.en.nodup (h.entV hg a1 hy).1 c1 ?_;rw[(h.entV hg a1 hy).2,c2,b2,a2,eW (h.en.it _ (uW hx)) (h.en.it _ (uW h0))]
end
theorem mD.tab {d:DfaV}{S:SynV}(h:mD d S):Shape (tabI S.tab)/\qA (tabI S.tab)=0:=by
 obtain⟨n,k,m,M,hd,rfl,hM,hm,el,pr,la,ri,mm,hf,hl,e1,e2,_⟩:=h;have hs:=hf.shapeV (mW hM) hl;rw[e2];exact⟨qFM hs,gJ hs (hf.assocV (mW hM))⟩
theorem pK.tab {I:SynI}(h:pK I):Shape I.tab/\qA I.tab=0:=by
 obtain⟨_,S,h1,e⟩:=h;rw[<-e];exact h1.tab
open Go.Maps Go.RowKit
def valC (t:List (List Int))(im Ls:List Nat):Nat->Nat->Nat->Nat
 | 0,_,v=>v
 | a+1,r,v=>valC t im Ls a (r / Ls.getD a 0) (entN t v (powN t (im.getD a 0) (r % Ls.getD a 0)))
def imI (I:SynI):List Nat:=I.images.map Int.toNat
structure PowsR (I:SynI)(Ls js:List Nat)(a:Nat):Prop where
 l1:Ls.length=a
 l2:js.length=a
 pow:∀b,b<a->PowR I.tab ((imI I).getD b 0) (Ls.getD b 0) (js.getD b 0)
def perL (Ls js:List Nat):List Nat:=(List.range Ls.length).map fun b=>Ls.getD b 0-js.getD b 0
def qMG (I:SynI)(c:CntV):Prop:=∃Ls js,PowsR I Ls js I.images.length/\c.idx=uB js/\c.per=uB (perL Ls js)/\vN c.idx c.per I.images.length=some c.acc.length/\c.acc=(List.range c.acc.length).map fun i=>I.accept.getD (valC I.tab (imI I) Ls I.images.length i 0) false
def qSH (I:SynI):Prop:=∃Ls js,PowsR I Ls js I.images.length/\vN (uB js) (uB (perL Ls js)) I.images.length=none
def qQP (I:SynI)(w:World)(e:Ending)(w':World):Prop :=
 ((∃z:Int,e=.returned (.tuple #[.agg #[.slice none 0 0,.slice none 0 0,.slice none 0 0],.int .i64 z])/\((z=8/\¬pK I)\/(z=20/\pK I/\fD I.tab=false)\/(z=3/\pK I/\fD I.tab=true/\qSH I))) \/
 ∃c v,e=.returned (.tuple #[v,.int .i64 0])/\pK I/\fD I.tab=true/\qMG I c/\rV w'.heap.size w' v c)/\w.grownBy w' none
theorem rR (Ls js:List Nat):(perL Ls js).length=Ls.length:=by simp[perL]
theorem sM (l:List Nat):(uB l).length=l.length:=by simp[uB]
theorem kB (l:List Nat):ints (uB l)=nats l:=by simp[ints,uB,nats]
theorem qCG {l:List Nat}{i:Nat}(h:i<l.length):(uB l).getD i 0=((l.getD i 0:Nat):Int):=by
 rw[uB,xZ (x:=0) h]
theorem qNE {Ls js:List Nat}{b:Nat}(h:b<Ls.length):(perL Ls js).getD b 0=Ls.getD b 0-js.getD b 0:=by
 rw[zN (by rw[rR];exact h)];simp[perL]
theorem qJV {Ls js:List Nat}(L j:Nat)(h:js.length=Ls.length):perL (Ls++[L]) (js++[j])=perL Ls js++[L-j]:=by
 refine List.ext_getElem (by simp[perL]) fun i h1 h2=>?_;rw[rR,List.length_append,List.length_singleton]at h1;rcases Nat.lt_or_ge i Ls.length with h3|h3
 ·rw[List.getElem_append_left (by rw[rR];exact h3)]
  simp only[perL,List.getElem_map,List.getElem_range];rw[List.getD_eq_getElem?_getD,List.getD_eq_getElem?_getD,List.getElem?_append_left h3,List.getElem?_append_left (by omega),<-List.getD_eq_getElem?_getD,<-List.getD_eq_getElem?_getD]
 have e:i=Ls.length:=by omega
 subst e;rw[List.getElem_append_right (by rw[rR];exact Nat.le_refl _)];simp[perL,List.getD_eq_getElem?_getD,<-h]
theorem PowsR.add {I:SynI}{Ls js:List Nat}{a L j:Nat}(h:PowsR I Ls js a)(hp:PowR I.tab ((imI I).getD a 0) L j):PowsR I (Ls++[L]) (js++[j]) (a+1) where
 l1:=by simp[h.l1]
 l2:=by simp[h.l2]
 pow:=fun b hb=>by
  rcases Nat.lt_or_ge b a with h1|h1
  ·rw[List.getD_eq_getElem?_getD (l:=Ls++[L]),List.getD_eq_getElem?_getD (l:=js++[j]),List.getElem?_append_left (by rw[h.l1];exact h1),List.getElem?_append_left (by rw[h.l2];exact h1),<-List.getD_eq_getElem?_getD,<-List.getD_eq_getElem?_getD]
   exact h.pow b h1
  ·have e:b=a:=by omega
   subst e
   rw[List.getD_eq_getElem?_getD (l:=Ls++[L]),List.getD_eq_getElem?_getD (l:=js++[j]),List.getElem?_append_right (by rw[h.l1];exact Nat.le_refl _),List.getElem?_append_right (by rw[h.l2];exact Nat.le_refl _),h.l1,h.l2,Nat.sub_self]
   exact hp
theorem PowsR.posC {I:SynI}{Ls js:List Nat}{a:Nat}(h:PowsR I Ls js a):PosC (uB js) (uB (perL Ls js)):=fun b hb=>by
 rw[sM,h.l2]at hb
 have h1:=(h.pow b hb).2.1
 rw[qCG (by rw[h.l2];exact hb),qCG (by rw[rR,h.l1];exact hb),qNE (by rw[h.l1];exact hb)]
 omega
def jV (I:SynI)(Ls:List Nat)(k c i:Nat):List Bool:=((List.range i).map fun j=>I.accept.getD (valC I.tab (imI I) Ls k j 0) false)++List.replicate (c-i) false
theorem qHI (I:SynI)(Ls:List Nat)(k c:Nat):jV I Ls k c 0=List.replicate c false:=by simp[jV]
theorem qKT {I:SynI}{Ls:List Nat}{k c i:Nat}(h:i<c):(jV I Ls k c i).set i (I.accept.getD (valC I.tab (imI I) Ls k i 0) false)=jV I Ls k c (i+1):=by
 unfold jV;rw[List.set_append_right _ _ (by simp),List.range_succ,List.map_append];simp only[List.length_map,List.length_range,Nat.sub_self];rw[show c-i=(c-(i+1))+1 by omega,List.replicate_succ];simp
theorem qKU (I:SynI)(Ls:List Nat)(k c:Nat):jV I Ls k c c=(List.range c).map fun j=>I.accept.getD (valC I.tab (imI I) Ls k j 0) false:=by simp[jV]
def eK (I:SynI)(Ls:List Nat):List (List Nat):=(List.range Ls.length).map fun b=>uH I.tab ((imI I).getD b 0) (Ls.getD b 0)
theorem tI (I:SynI)(Ls:List Nat):(eK I Ls).length=Ls.length:=by simp[eK]
theorem qGY (I:SynI)(Ls:List Nat)(L:Nat):eK I (Ls++[L])=eK I Ls++[uH I.tab ((imI I).getD Ls.length 0) L]:=by
 refine List.ext_getElem (by simp[eK]) fun i h1 h2=>?_;rw[tI,List.length_append,List.length_singleton]at h1;rcases Nat.lt_or_ge i Ls.length with h3|h3
 ·rw[List.getElem_append_left (by rw[tI];exact h3)]
  simp only[eK,List.getElem_map,List.getElem_range];rw[List.getD_eq_getElem?_getD (l:=Ls++[L]),List.getElem?_append_left h3,<-List.getD_eq_getElem?_getD]
 have e:i=Ls.length:=by omega
 subst e;rw[List.getElem_append_right (by rw[tI];exact Nat.le_refl _)];simp[eK,List.getD_eq_getElem?_getD]
theorem qJT {I:SynI}{Ls:List Nat}{b:Nat}(h:b<Ls.length):(eK I Ls).getD b []=uH I.tab ((imI I).getD b 0) (Ls.getD b 0):=by
 rw[zN (by rw[tI];exact h)];simp[eK]
inductive CoS (I:SynI)(w6:World)(o k pg:Nat)(hsP:List Value)(Ls js:List Nat)(sI:Option Addr)(cI:Nat)(sP:Option Addr)(cP:Nat)(va:Value)(tl:List RowS)(w:World):Prop
 | mk (X:Nat->Prop) (hB:BoxS w6.heap.size X o 35 w6 w (⟨w6.heap.size,22,.slice (some ⟨pg,0,none⟩) k k,k,hsP,1⟩::⟨w6.heap.size,3,.slice sI Ls.length cI,Ls.length,nats js,1⟩::⟨w6.heap.size,3,.slice sP Ls.length cP,Ls.length,nats (perL Ls js),1⟩::tl) #[.slice sI Ls.length cI,.slice sP Ls.length cP,va] w)
  (hT:xU X 3 nats w (hsP.take Ls.length) (eK I Ls))
section
variable {I:SynI} {w6 w w':World} {o k pg:Nat} {hsP:List Value} {Ls js:List Nat} {sI:Option Addr} {cI:Nat} {sP:Option Addr} {cP:Nat} {va:Value} {tl:List RowS}
theorem CoS.grow (h:CoS I w6 o k pg hsP Ls js sI cI sP cP va tl w)(hg:w.grownBy w' none):CoS I w6 o k pg hsP Ls js sI cI sP cP va tl w':=by
 obtain⟨X,hB,hT⟩:=h;exact⟨X,(hB.grow hg).rebase,hT.kept (hB.mem.keep hg) hg.size⟩
theorem CoS.g (h:CoS I w6 o k pg hsP Ls js sI cI sP cP va tl w):w6.grownBy w none:=by
 obtain⟨X,hB,hT⟩:=h;exact hB.grown
theorem CoS.cells (h:CoS I w6 o k pg hsP Ls js sI cI sP cP va tl w):w.heap[o]?=some (.cells #[.slice sI Ls.length cI,.slice sP Ls.length cP,va] 35 (0,0))/\Arr w pg 22 hsP/\hsP.length=k/\w.ownsRow w6.heap.size 3 1 (.slice sI Ls.length cI) Ls.length (nats js)/\w.ownsRow w6.heap.size 3 1 (.slice sP Ls.length cP) Ls.length (nats (perL Ls js)):=by
 obtain⟨X,hB,hT⟩:=h;have h1:=hB.own (r:=⟨w6.heap.size,22,.slice (some ⟨pg,0,none⟩) k k,k,hsP,1⟩) (by simp);exact⟨hB.box,Arr.of_owns h1,by have:=h1.1;simpa using this,hB.own (r:=⟨w6.heap.size,3,.slice sI Ls.length cI,Ls.length,nats js,1⟩) (by simp),hB.own (r:=⟨w6.heap.size,3,.slice sP Ls.length cP,Ls.length,nats (perL Ls js),1⟩) (by simp)⟩
theorem CoS.row (h:CoS I w6 o k pg hsP Ls js sI cI sP cP va tl w){b:Nat}(hb:b<Ls.length)(h0:0<Ls.getD b 0)(hk:Ls.length<=k):∃rb ro rc,w.cell? ⟨pg,b,none⟩=some (.slice (some ⟨rb,ro,none⟩) (Ls.getD b 0) rc)/\Ls.getD b 0<=rc/\rc<=maxLen/\∀i,i<Ls.getD b 0->w.cell? ⟨rb,ro+i,none⟩=some (.int .i64 ((powN I.tab ((imI I).getD b 0) i:Nat):Int)):=by
 obtain⟨_,hA,hl,_,_⟩:=h.cells;obtain⟨X,hB,hT⟩:=h;have h1:=hT.1;have h2:b<(hsP.take Ls.length).length:=by rw[List.length_take];omega
 have h3:=(hT.2 b h2 (by rw[tI];exact hb)).1.row;have e:(eK I Ls)[b]'(by rw[tI];exact hb)=uH I.tab ((imI I).getD b 0) (Ls.getD b 0):=by rw[<-zN (d:=[]) (by rw[tI];exact hb),qJT hb]
 rw[e]at h3;have hc:=hA.cell b (by omega);rw[show hsP[b]'(by omega)=(hsP.take Ls.length)[b]'h2 by simp]at hc;obtain⟨rb,ro,rc,ev,_,r1,r2,r3⟩:=h3.some_ (by rw[zT,vY];exact h0);rw[zT,vY]at ev r1;rw[ev]at hc;exact⟨rb,ro,rc,hc,r1,r2,fun i hi=>by rw[<-qBR hi];exact r3.nat i (by rw[vY];exact hi)⟩
end
section
variable {I:SynI} {w6 w:World} {o k pg:Nat} {hsP:List Value} {Ls js:List Nat} {sI:Option Addr} {cI:Nat} {sP:Option Addr} {cP:Nat} {ag c:Nat} {xs:List Bool}
theorem CoS.begin {w':World}(h:CoS I w6 o k pg hsP Ls js sI cI sP cP (.slice none 0 0) [] w)(hg:w.grownBy w' none)(ho:w'.ownsRow w.heap.size 4 1 (.slice (some ⟨ag,0,none⟩) c c) c (bls xs)):CoS I w6 o k pg hsP Ls js sI cI sP cP (.slice (some ⟨ag,0,none⟩) c c) [⟨w6.heap.size,4,.slice (some ⟨ag,0,none⟩) c c,c,bls xs,1⟩] (w'.setCell ⟨o,2,none⟩ (.slice (some ⟨ag,0,none⟩) c c)):=by
 obtain⟨X,hB,hT⟩:=h;have hA:=hB.add hg (e:=4) (sz:=1) (n:=c) (v:=.slice (some ⟨ag,0,none⟩) c c) (xs:=bls xs) ho (by decide);have hS:=hA.set 2 (.slice (some ⟨ag,0,none⟩) c c);exact⟨X,hS.rebase,hT.kept hS.kept hS.wk⟩
theorem CoS.putM (h:CoS I w6 o k pg hsP Ls js sI cI sP cP (.slice (some ⟨ag,0,none⟩) c c) [⟨w6.heap.size,4,.slice (some ⟨ag,0,none⟩) c c,c,bls xs,1⟩] w){i:Nat}(hi:i<c)(u:Bool):CoS I w6 o k pg hsP Ls js sI cI sP cP (.slice (some ⟨ag,0,none⟩) c c) [⟨w6.heap.size,4,.slice (some ⟨ag,0,none⟩) c c,c,bls (xs.set i u),1⟩] (w.setCell ⟨ag,i,none⟩ (.bool u)):=by
 obtain⟨X,hB,hT⟩:=h;have hP:=hB.put (j:=3) rfl hi (.bool u);rw[show (bls xs).set i (.bool u)=bls (xs.set i u) by simp[bls,List.map_set]]at hP;exact⟨X,hP.rebase,hT.kept hP.kept hP.wk⟩
theorem CoS.arrM (h:CoS I w6 o k pg hsP Ls js sI cI sP cP (.slice (some ⟨ag,0,none⟩) c c) [⟨w6.heap.size,4,.slice (some ⟨ag,0,none⟩) c c,c,bls xs,1⟩] w):Arr w ag 4 (bls xs)/\xs.length=c:=by
 obtain⟨X,hB,hT⟩:=h;have h1:=hB.own (r:=⟨w6.heap.size,4,.slice (some ⟨ag,0,none⟩) c c,c,bls xs,1⟩) (by simp);exact⟨Arr.of_owns h1,by have:=h1.1;simpa [bls] using this⟩
theorem CoS.cntT (h:CoS I w6 o k pg hsP Ls js sI cI sP cP (.slice (some ⟨ag,0,none⟩) c c) [⟨w6.heap.size,4,.slice (some ⟨ag,0,none⟩) c c,c,bls xs,1⟩] w):RowT w.heap.size 3 w (.slice sI Ls.length cI) (nats js)/\RowT w.heap.size 3 w (.slice sP Ls.length cP) (nats (perL Ls js))/\RowT w.heap.size 4 w (.slice (some ⟨ag,0,none⟩) c c) (bls xs):=by
 obtain⟨_,_,_,h2,h3⟩:=h.cells;obtain⟨X,hB,hT⟩:=h;have h1:=hB.own (r:=⟨w6.heap.size,4,.slice (some ⟨ag,0,none⟩) c c,c,bls xs,1⟩) (by simp);exact⟨RowT.of_owns h2,RowT.of_owns h3,RowT.of_owns h1⟩
end
theorem gQ (I:SynI)(Ls:List Nat)(k c:Nat):(jV I Ls k c c).length=c:=by simp[jV]
theorem qMG.make {I:SynI}{Ls js:List Nat}{k c:Nat}(hk:k=I.images.length)(h:PowsR I Ls js k)(hc:vN (uB js) (uB (perL Ls js)) k=some c):qMG I ⟨uB js,uB (perL Ls js),jV I Ls k c c⟩:=by
 subst hk;exact⟨Ls,js,h,rfl,rfl,by rw[hc,gQ],by simp only[gQ];exact qKU _ _ _ _⟩
theorem qRU {Q:Exit->Act->World->Prop}{v0 v2 v3 v4 v6 v7 v8 v9 n7 n8 n9 m0 m1 m2 m3 m4 m5 m6 m7 m8 m9 l0 l1 l2 l3 l4 l5 l6 l7 l8 l9 k0 k1 k2 k3 k4 k5 k6 k7 k8 k9 j0 j1 j2 j3 j4 j5 j6 j7 j8 j9 i0 i1 i2 i3 i4 i5 i6 i7 i8 i9 g0 g1 g2 g3 g4 g5 g6 g7 g8 g9 f0 f1 f2 f3 f4 f5 f6 f7 f8 e0 e1 e2 e3 e4 e5 e6 e7 e8 e9 d0 d1 d2 d3 d4 d5 c9 b0 b1 b2 b3 b4 b5 b6 b7 b8 b9 a0 a1 a2 a3 a4 a5 a6 a7 d7 d8 d9 c2 c3 c4 c5 c6 c7 a8 a9:Value}{I:SynI}{w6 w:World}{o k pg:Nat}{n6:List Value}{Ls js:List Nat}{sI:Option Addr}{cI:Nat}{sP:Option Addr}{cP:Nat}{ag c:Nat}{xs:List Bool}{P i v ab ao an aC:Nat}{b:Bool}(h:CoS I w6 o k pg n6 Ls js sI cI sP cP (.slice (some ⟨ag,0,none⟩) c c) [⟨w6.heap.size,4,.slice (some ⟨ag,0,none⟩) c c,c,bls xs,1⟩] w)(hi:i<c)(n5:c<=2000)(hv:v<an)(n4:an<=400)(d6:an<=aC/\aC<=maxLen)(c0:w.cell? ⟨P,4,none⟩=some (.slice (some ⟨ab,ao,none⟩) an aC))(c1:w.cell? ⟨ab,ao+v,none⟩=some (.bool b))(c8:∀(z119 z120 z121 z122 z123 z124 z125 z126 z127:Value) (w':World),CoS I w6 o k pg n6 Ls js sI cI sP cP (.slice (some ⟨ag,0,none⟩) c c) [⟨w6.heap.size,4,.slice (some ⟨ag,0,none⟩) c c,c,bls (xs.set i b),1⟩] w'->Q .normal ⟨(v0::(Value.pointer (some ⟨P,0,none⟩))::v2::v3::v4::(Value.pointer (some ⟨o,0,none⟩))::v6::v7::v8::v9::n7::n8::n9::(Value.int .i64 (i:Int))::m0::(Value.int .i64 (v:Int))::m1::m2::m3::m4::m5::m6::m7::m8::m9::l0::l1::l2::l3::l4::l5::l6::l7::l8::l9::k0::k1::k2::k3::k4::k5::k6::k7::k8::k9::j0::j1::j2::j3::j4::j5::j6::j7::j8::j9::i0::i1::i2::i3::i4::i5::i6::i7::i8::i9::g0::g1::g2::g3::g4::g5::g6::g7::g8::g9::f0::f1::f2::f3::f4::f5::f6::f7::f8::e0::e1::e2::e3::e4::e5::e6::e7::e8::e9::d0::d1::d2::d3::d4::d5::c9::b0::b1::b2::b3::b4::b5::b6::b7::b8::b9::a0::a1::a2::a3::a4::a5::a6::a7::z119::z120::z121::z122::z123::z124::z125::z126::z127::a8::a9::[]).toArray,[]⟩ w'):Code.wp Tryz.prog (reg Tryz.f13 29) Q ⟨(v0::(Value.pointer (some ⟨P,0,none⟩))::v2::v3::v4::(Value.pointer (some ⟨o,0,none⟩))::v6::v7::v8::v9::n7::n8::n9::(Value.int .i64 (i:Int))::m0::(Value.int .i64 (v:Int))::m1::m2::m3::m4::m5::m6::m7::m8::m9::l0::l1::l2::l3::l4::l5::l6::l7::l8::l9::k0::k1::k2::k3::k4::k5::k6::k7::k8::k9::j0::j1::j2::j3::j4::j5::j6::j7::j8::j9::i0::i1::i2::i3::i4::i5::i6::i7::i8::i9::g0::g1::g2::g3::g4::g5::g6::g7::g8::g9::f0::f1::f2::f3::f4::f5::f6::f7::f8::e0::e1::e2::e3::e4::e5::e6::e7::e8::e9::d0::d1::d2::d3::d4::d5::c9::b0::b1::b2::b3::b4::b5::b6::b7::b8::b9::a0::a1::a2::a3::a4::a5::a6::a7::d7::d8::d9::c2::c3::c4::c5::c6::c7::a8::a9::[]).toArray,[]⟩ w:=by
 obtain⟨h8,_,_,_,_⟩:=h.cells;obtain⟨h4,h5⟩:=h.arrM
 have h0:∀W:World,w.grownBy W none->W.cell? ⟨o,2,none⟩=some (.slice (some ⟨ag,0,none⟩) c c)/\W.cell? ⟨P,4,none⟩=some (.slice (some ⟨ab,ao,none⟩) an aC)/\W.cell? ⟨ab,ao+v,none⟩=some (.bool b):=fun W hg=>by
  have q2:=zH (zB h8 hg) 2;simp only[List.getElem_toArray,List.getElem_cons_zero,List.getElem_cons_succ]at q2;exact⟨q2,zK c0 hg,zK c1 hg⟩
 have h1:∀W:World,w.grownBy W none->∃u,W.cell? ⟨ag,i,none⟩=some u:=fun W hg=>⟨_,(h4.kept hg (by simp)).cell i (by rw[zX,h5];exact hi)⟩;have h7:∀W:World,w.grownBy W none->W.frozen? ⟨ag,i,none⟩=false:=fun W hg=>(h4.kept hg (by simp)).frozen i;obtain⟨H,H3,H2⟩:=K3 h h1 h7;have H6:(i:Int)<c:=by omega
 have H5:(v:Int)<an:=by omega
 have H0:=d6.1;have h9:aC<=9223372036854775807:=by have:=d6.2;unfold maxLen at this;omega
 clear h h8 h4 h1 h7 c0 c1 d6 h5;have H4:Hid (∀W:World,w.grownBy W none->W.cell? ⟨o,2,none⟩=some (.slice (some ⟨ag,0,none⟩) c c)/\W.cell? ⟨P,4,none⟩=some (.slice (some ⟨ab,ao,none⟩) an aC)/\W.cell? ⟨ab,ao+v,none⟩=some (.bool b)):=Kh (fun W hg=>h0 W hg);clear h0
 conv=>arg 2;whnf
 obtain⟨w7,h3⟩:=Nm w.drew;have h6:w.grownBy w7 none:=by rw[h3];exact zS w none
 have H1:=Kh h3;have h2:=Kh h6;clear h3 h6;refine wp_region_noPanic ?_;refine yM (G:=wH 9 (fun _=>True) (fun W=>W.cell? ⟨o,2,none⟩=some (.slice (some ⟨ag,0,none⟩) c c)/\W.cell? ⟨P,4,none⟩=some (.slice (some ⟨ab,ao,none⟩) an aC)/\W.cell? ⟨ab,ao+v,none⟩=some (.bool b))) (by kernel_rfl) ?_;rw[<-H1.out];have C:=Kh (H4.out w7 h2.out);refine zO 0 ⟨trivial,fun _=>C.out⟩ ?_;refine yY 1 ⟨trivial,fun _=>C.out⟩ ?_;refine zO 2 ⟨trivial,fun _=>C.out⟩ ?_;refine zO 3 ⟨trivial,fun _=>C.out⟩ ?_;refine yY 4 ⟨trivial,fun _=>C.out⟩ ?_;refine zO 5 ⟨trivial,fun _=>C.out⟩ ?_;refine zO 6 ⟨trivial,fun _=>C.out⟩ ?_;refine yY 7 ⟨trivial,fun _=>C.out⟩ ?_;refine zO 8 ⟨trivial,fun _=>C.out⟩ ?_;obtain⟨u9,q9⟩:=H3.out w7 h2.out;have f9:=H2.out w7 h2.out;refine oneG (i:=9) (by kernel_rfl) rfl (fun K hK=>?_);go_simp;refine hK.out _ _ ⟨trivial,fun h=>by simp at h⟩ ?_;clear hK K q9 f9
 try simp only[Act.put,sPd,sPe,sPf,sPa,sPb,sPc]
 refine tT (by kernel_rfl) ?_ _;refine NoPanic.normal ?_;exact c8 _ _ _ _ _ _ _ _ _  _ ((H.out.grow h2.out).putM hi _)
end Go.Proofs.YtobakifdllameaaGreat
