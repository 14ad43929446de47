/- Part 37 of the proof: MOrd. -/
import Derived.Test.YtdjhoadoiknaoaaDoorZC36
set_option linter.unusedVariables false
set_option linter.unusedSimpArgs false
namespace Go.Proofs.YtdjhoadoiknaoaaDoor
open Go.RowKit
def oR (R:DfaV→Nat→Prop) (B tb:Nat) (w:World) (letters most:Nat) (e:Ending) (w':World):Prop :=
 ∃ (v:Value) (m:DfaV) (n:Nat),e=.returned v∧iT w w' v m∧VD m n letters∧n≤most∧R m n∧xW B w' tb∧w.grownBy w' (some tb)
def OrdTo (t:List (List Int)) (k q a:Nat):Prop:=∀ q' a',a' < k→(q' < q∨(q'=q∧a' < a))→(q':Int)≤ent t q' a'
def OrdD (m:DfaV) (n:Nat):Prop:=m.start=0∧∀ k:Nat,m.letters=k→OrdTo m.next k n 0
theorem nO {t:List (List Int)} {q a q' a':Nat} {x:Int} (hq:q < t.length) (ha:a < (t.getD q []).length):ent (t.set q ((t.getD q []).set a x)) q' a'=if q'=q∧a'=a then x else ent t q' a':=by
 unfold ent
 by_cases h:q'=q
 ·subst h
  rw [xO _ _ _ _ hq]
  by_cases h2:a'=a
  ·subst h2;rw [xO _ _ _ _ ha];simp
  ·rw [getD_set_ne _ _ _ _ _ (Ne.symm h2)];simp [h2]
 ·rw [getD_set_ne _ _ _ _ _ (Ne.symm h)];simp [h]
theorem OrdTo.step {t:List (List Int)} {k q a:Nat} {x:Int} (h:OrdTo t k q a) (hq:q < t.length) (ha:a < (t.getD q []).length) (hx:(q:Int)≤x):OrdTo (t.set q ((t.getD q []).set a x)) k q (a+1):=by
 intro q' a' h1 h2
 rw [nO hq ha]
 split
 ·rename_i h3;rw [h3.1];exact hx
 ·rename_i h3
  refine h q' a' h1 ?_
  rcases h2 with h2|⟨h2,h4⟩
  ·exact .inl h2
  ·exact .inr ⟨h2,by
    rcases Nat.lt_or_ge a' a with h5|h5
    ·exact h5
    ·exact absurd ⟨h2,by omega⟩ h3⟩
theorem qK.ent {t:List (List Int)} {n k q a:Nat} (h:qK t n k) (hq:q < t.length) (ha:a < k):0≤ent t q a∧ent t q a < n:=by
 have h:=h (t.getD q []) (getDm hq)
 have ha2:a < (t.getD q []).length:=by omega
 exact h.2 ((t.getD q []).getD a 0) (getDm ha2)
theorem Half.start {base o:Nat} {W:World} {L S:Int} {fs:List Bool} {t:List (List Int)} {hs:List Value} {sf sn:Option Addr} {cf cn:Nat} (h:Half base W o L S fs t hs sf cf sn cn) (S':Int):Half base (W.setCell ⟨o,1,none⟩ (.int .i64 S')) o L S' fs t hs sf cf sn cn:=by
 have hgr:=zH W ⟨o,1,none⟩ (.int .i64 S')
 have s1:=heap_setCell_same W o 1 _ _ (.int .i64 S') h.box
 refine ⟨by rw [s1];simp,h.ownF.kept hgr (.inr (zS h.ownF h.box (by decide))),h.ownN.kept hgr (.inr (zS h.ownN h.box (by decide))),h.rows.kept hgr (fun k e=>.inr ?_)⟩
 have e:o=k:=Oj e
 subst e
 exact ⟨_,_,_,h.box,by decide⟩
set_option maxRecDepth 100000 in
set_option maxHeartbeats 1000000 in
theorem mord_any (B tb:Nat) (w:World) (letters most:Nat) (h1:1≤letters) (h6:letters≤6) (hm1:1≤most) (hm:most≤500) (hT:xW B w tb) :
  Calls Tryd.prog 12 #[.pointer (some ⟨tb,0,none⟩),.int .i64 (letters:Int),.int .i64 (most:Int)] w (oR OrdD B tb w letters most):=by
 have htb:=hT.lt
 have hBt:=hT.ge
 obtain ⟨P,hP⟩:∃ P,P=w.heap.size:=⟨_,rfl⟩
 have HPE:=Kh hP
 obtain ⟨wA,hWA⟩:∃ wA,wA=w.alloc (.cells #[.int .i64 0,.int .i64 0,.slice none 0 0,.slice none 0 0] 28):=⟨_,rfl⟩
 have hbA:=heap_alloc_new w (.cells #[.int .i64 0,.int .i64 0,.slice none 0 0,.slice none 0 0] 28)
 have hgA:=Ga w (.cells #[.int .i64 0,.int .i64 0,.slice none 0 0,.slice none 0 0] 28) none
 have hzA:=zO w (.cells #[.int .i64 0,.int .i64 0,.slice none 0 0,.slice none 0 0] 28)
 rw [← hWA] at hbA hgA hzA
 rw [← hP] at hbA hzA htb
 have HTA:=Kh (hT.kept hgA (by simp))
 have HBA:=Kh hbA;have HGA:=Kh hgA;have HWA:=Kh hWA
 have HD:=Kh (mdfa_any B tb wA letters most h1 h6 hm1 hm HTA.out)
 clear hbA hgA hWA hT
 go_enter Tryd.func12,Tryd.ntmps12
 go_upto_region 1 with fail
 rw [← HWA.out,← HPE.out]
 clear hP
 go_wp2_with fail
 refine HD.out.mono ?_
 rintro e w1 ⟨v,⟨L,S,fs,t⟩,n,rfl,hown,hvd,hnm,hT1,hg1⟩
 obtain ⟨o,hs,sf,cf,sn,cn,rfl,ho,hH⟩:=hown
 have hL:L=letters:=hvd.hk
 subst hL
 have hfn:fs.length=n:=hvd.hn
 have htn:t.length=n:=hvd.nl
 have hri:qK t n letters:=fun r hr=>by
  obtain ⟨q,hq,rfl⟩:=List.getElem_of_mem hr
  have e:t.getD q []=t[q]:=by simp [List.getD_eq_getElem?_getD,hq]
  have hl:t[q].length=letters:=by rw [← e];exact hvd.row q (by omega)
  refine ⟨hl,fun x hx=>?_⟩
  obtain ⟨a,ha,rfl⟩:=List.getElem_of_mem hx
  have e2:ent t q a=t[q][a]:=by unfold Proofs.YtdjhoadoiknaoaaDoor.ent;rw [e];simp [List.getD_eq_getElem?_getD,ha]
  rw [← e2]
  exact ⟨hvd.lo q a (by omega) (by omega),hvd.hi q a (by omega) (by omega)⟩
 have hn1:=hvd.n1
 have hn5:=hvd.n512
 have HG1:=Kh hg1;have HT1:=Kh hT1;have HH:=Kh hH;have HRI:=Kh hri;have HTN:=Kh htn;have HFN:=Kh hfn
 have HB1:=Kh (zE HBA.out hg1 (by simp;omega))
 have HO:=Kh ho
 have hz1:=hg1.size
 clear hg1 hT1 hH hri hvd ho HD HTA HBA
 go_upto_region 2 with fail
 obtain ⟨Q,hQ⟩:∃ Q,Q=w1.heap.size:=⟨_,rfl⟩
 have hgQ:=Ga w1 (.cells #[.int .i64 letters,.int .i64 S,.slice sf n cf,.slice sn n cn] 28) none
 have hbQ:=heap_alloc_new w1 (.cells #[.int .i64 letters,.int .i64 S,.slice sf n cf,.slice sn n cn] 28)
 obtain ⟨w2,hw2⟩:∃ w2,w2=w1.alloc (.cells #[.int .i64 letters,.int .i64 S,.slice sf n cf,.slice sn n cn] 28):=⟨_,rfl⟩
 rw [← hw2] at hbQ hgQ ⊢
 rw [← hQ] at hbQ ⊢
 have hH2:=(HH.out.grow hgQ).move (L':=letters) (S':=S) (o':=Q) (by rw [HFN.out,HTN.out];exact hbQ)
 have HH2:=Kh hH2
 have HB2:=Kh (zE HB1.out hgQ (by simp))
 have HT2:=Kh (HT1.out.kept hgQ (by simp))
 have HG2:=Kh (zF (zG (zF (zX w (some tb)) HGA.out (by simp)) HG1.out) hgQ (by simp))
 obtain ⟨d0,d1,d2,d3⟩:=zR hbQ
 have hPQ:P < Q:=by omega
 clear hgQ hbQ hw2 hH2 HH HB1 HT1 HG1 d0 d1 d2 htn hfn
 have HQ:=Kh hQ
 clear hQ
 go_wp2
 go_loopg [8,9,10,18] n (fun gh v8 v9 v10 i wr=>∃ (q:Nat) (t:List (List Int)),gh+q=n∧i=.int .i64 q∧t.length=n∧qK t n letters∧OrdTo t letters q 0∧Half wA.heap.size wr Q letters S fs t hs sf cf sn cn∧xW B wr tb∧wr.heap[P]?=some (.cells #[.int .i64 0,.int .i64 0,.slice none 0 0,.slice none 0 0] 28 (0,0))∧w.grownBy wr (some tb))
 case atStart=>exact ⟨0,t,by omega,rfl,HTN.out,HRI.out,fun q' a' _ h=>by omega,HH2.out,HT2.out,HB2.out,HG2.out⟩
 case round =>
  obtain ⟨q,t,hg,rfl,htn,hri,hord,hH,hTr,hbr,hgr⟩:=hrel
  have HG:=Kh hg;have HH:=Kh hH;have HTR:=Kh hTr;have HBR:=Kh hbr;have HGR:=Kh hgr;have HRI2:=Kh hri;have HORD:=Kh hord;have HTN2:=Kh htn
  clear hg hTr hbr hgr HG2 HT2 HB2 HH2 HRI HTN hord
  by_cases hq:q < n
  ·have hq':(q:Int) < n:=by omega
   have hrl:(t.getD q []).length=letters:=(hri _ (getDm (by omega))).1
   obtain ⟨kb,g,c,rfl,e1,e2,e3,e4,e5,e6,e7,e8⟩:=hH.at (q:=q) (by omega) (by omega)
   obtain ⟨d0,d1,d2,d3⟩:=zR hH.box
   rw [hrl] at e3 e4 e5
   rw [htn] at d3 e1
   have E3:=Kh e3;have E2:=Kh e2;have E6:=Kh e6;have E7:=Kh e7
   have hcn:cn≤9223372036854775807:=by unfold maxLen at e2;omega
   have hc:c≤9223372036854775807:=by unfold maxLen at e6;omega
   clear d0 d1 d2 e8 e3 e2 e6 hrl hri htn hH
   go_wp2
   obtain ⟨wo,hwo⟩:∃ wo,wo=wr:=⟨_,rfl⟩
   rw [← hwo] at HH HTR HBR HGR ⊢
   clear d3 e4 hwo wr
   go_loopg [9,10,27] letters (fun gh v9 v10 i wx=>∃ (a:Nat) (t':List (List Int)),gh+a=letters∧i=.int .i64 a∧t'.length=n∧qK t' n letters∧OrdTo t' letters q a∧Half wA.heap.size wx Q letters S fs t' hs sf cf (some ⟨kb,0,none⟩) cn∧xW B wx tb∧wx.heap[P]?=some (.cells #[.int .i64 0,.int .i64 0,.slice none 0 0,.slice none 0 0] 28 (0,0))∧w.grownBy wx (some tb))
   case atStart=>exact ⟨0,t,by omega,rfl,HTN2.out,HRI2.out,HORD.out,HH.out,HTR.out,HBR.out,HGR.out⟩
   case round =>
    obtain ⟨a,t',hg,rfl,htn,hri,hord,hH,hTr,hbr,hgr⟩:=hrel
    have HG3:=Kh hg;have HH3:=Kh hH;have HTR3:=Kh hTr;have HBR3:=Kh hbr;have HGR3:=Kh hgr;have HRI3:=Kh hri;have HORD3:=Kh hord;have HTN3:=Kh htn
    clear hg hTr hbr hgr HGR HTR HBR HH HRI2 HTN2 HORD hord
    by_cases ha:a < letters
    ·have ha':(a:Int) < letters:=by omega
     have hrl:(t'.getD q []).length=letters:=(hri _ (getDm (by omega))).1
     obtain ⟨kb',g',c',e0,e1',e2,e3,e4,e5',e6,e7',e8⟩:=hH.at (q:=q) (by omega) (by omega)
     have e0:kb=kb':=by simpa using e0
     subst e0
     rw [hrl] at e3 e4 e5'
     rw [E3.out] at e3
     simp only [Option.some.injEq,Value.slice.injEq,Addr.mk.injEq,and_true,true_and] at e3
     obtain ⟨rfl,rfl⟩:=e3
     obtain ⟨d0,d1,d2,d3⟩:=zR hH.box
     rw [htn] at d3 e1'
     have hcell:=e8.int a (by omega)
     have hfz:=e8.frozen a
     have hen:=hri.ent (q:=q) (a:=a) (by omega) ha
     have hx:(t'.getD q []).getD a 0=ent t' q a:=rfl
     rw [hx] at hcell
     obtain ⟨x,hxe⟩:∃ x,x=ent t' q a:=⟨_,rfl⟩
     rw [← hxe] at hcell hen
     obtain ⟨x,rfl⟩:∃ y:Nat,x=y:=⟨x.toNat,by omega⟩
     have E8:=Kh e8;have HRL:=Kh hrl
     clear d0 d1 d2 e8 e2 e6 hrl hri htn hH hx hxe
     go_wp2
     go_roundg (letters - (a+1))
     case measure=>have:=HG3.out;omega
     case rel =>
      have hg7:=zH wr ⟨g,a,none⟩ (.int .i64 (max (q:Int) (x:Int)))
      have hgz:P < g:=by omega
      have hgt:w.heap.size≤g:=by have:=HPE.out;omega
      have htbg:tb≠g:=by omega
      refine ⟨a+1,t'.set q ((t'.getD q []).set a (max (q:Int) (x:Int))),by omega,by go_num,by rw [List.length_set];exact HTN3.out,HRI3.out.set (by have:=HTN3.out;omega) (by omega) (by omega),HORD3.out.step (by have:=HTN3.out;omega) (by have:=HRL.out;omega) (by omega),HH3.out.poke E3.out E8.out (by have:=HRL.out;omega) _,HTR3.out.kept hg7 (fun k e=>by have e:g=k:=Oj e;omega),zE HBR3.out hg7 (fun e=>by have e:g=P:=Oj e;omega),zF HGR3.out hg7 (fun k e=>by have e:g=k:=Oj e;omega)⟩
    ·have hal:a=letters:=by have:=HG3.out;omega
     clear hri htn hH
     go_wp2
     go_roundg (n - (q+1))
     case measure=>have:=HG.out;omega
     case rel =>
      refine ⟨q+1,t',by omega,by go_num,HTN3.out,HRI3.out,fun q' a' h1 h2=>HORD3.out q' a' h1 (by omega),HH3.out,HTR3.out,HBR3.out,HGR3.out⟩
  ·have hqn:q=n:=by have:=HG.out;omega
   obtain ⟨d0,d1,d2,d3⟩:=zR hH.box
   obtain ⟨x0,x1,x2,x3⟩:=zR HBR.out
   have f1:=zD hH.box 1
   have y0:=zD HBR.out 0;have y1:=zD HBR.out 1;have y2:=zD HBR.out 2;have y3:=zD HBR.out 3
   clear hri htn hH
   go_wp2
   refine bodyPost_ret (v:=.agg #[.int .i64 letters,.int .i64 0,.slice sf fs.length cf,.slice sn t.length cn]) (by simp [results,Tryd.results12,go_sem,x0,x1,x2,x3,hPQ,Nat.ne_of_lt hPQ,Nat.ne_of_gt hPQ]) rfl ?_
   have hH8:=HH.out.start 0
   have hg8:=zH wr ⟨Q,1,none⟩ (.int .i64 0)
   have hb8:=zE HBR.out hg8 (fun e=>by have e:Q=P:=Oj e;omega)
   obtain ⟨hsR,hgR⟩:=qR hb8 (.int .i64 letters) (.int .i64 0) (.slice sf fs.length cf) (.slice sn t.length cn)
   refine ⟨_,⟨letters,0,fs,t⟩,n,rfl,⟨Q,hs,sf,cf,sn,cn,rfl,by have:=HPE.out;omega,(hH8.base (by have:=HPE.out;omega)).far hgR hb8 (by omega)⟩,HRI2.out.vd h1 h6 hn1 hn5 HFN.out HTN2.out (by omega) (by omega),hnm,⟨rfl,fun k hk=>?_⟩,(HTR.out.kept hg8 (fun k e=>by have e:Q=k:=Oj e;omega)).kept hgR (fun k e=>by have e:P=k:=Oj e;omega),zF (zF HGR.out hg8 (fun k e=>by have e:Q=k:=Oj e;have:=HPE.out;omega)) hgR (fun k e=>by have e:P=k:=Oj e;have:=HPE.out;omega)⟩
   have hk:letters=k:=Int.ofNat.inj hk
   subst hk;subst hqn
   exact HORD.out
end Go.Proofs.YtdjhoadoiknaoaaDoor
