/- Part 40 of the proof: MAny, Letters, Table40, RClos, Derives. -/
import Derived.Test.YtdjhoadoiknaoaaDoorZC39
set_option linter.unusedVariables false
set_option linter.unusedSimpArgs false
namespace Go.Proofs.YtdjhoadoiknaoaaDoor
open Go.RowKit
def AnyD (m:DfaV) (n:Nat):Prop:=OrdD m n∨PermD m n∨DefD m n∨True
theorem oR.weak {R R':DfaV→Nat→Prop} {B tb:Nat} {w:World} {letters most most':Nat} {e:Ending} {w':World} (h:oR R B tb w letters most e w') (hR:∀ m n,R m n→R' m n) (hm:most≤most'):oR R' B tb w letters most' e w':=by
 obtain ⟨v,m,n,h1,h2,h3,h4,h5,h6,h7⟩:=h
 exact ⟨v,m,n,h1,h2,h3,Nat.le_trans h4 hm,hR m n h5,h6,h7⟩
theorem jQ.r {B tb:Nat} {w:World} {letters most:Nat} {e:Ending} {w':World} (h:jQ B tb w letters most e w'):oR (fun _ _=>True) B tb w letters most e w':=by
 obtain ⟨v,m,n,h1,h2,h3,h4,h6,h7⟩:=h
 exact ⟨v,m,n,h1,h2,h3,h4,trivial,h6,h7⟩
set_option maxRecDepth 100000 in
set_option maxHeartbeats 4000000 in
theorem many_any (B tb:Nat) (w:World) (letters most:Nat) (h1:1≤letters) (h2:letters≤2) (hm1:1≤most) (hm:most≤500) (hT:xW B w tb) :
  Calls Tryd.prog 50 #[.pointer (some ⟨tb,0,none⟩),.int .i64 (letters:Int),.int .i64 (most:Int)] w (oR AnyD B tb w letters 500):=by
 have htb:=hT.lt
 have hBt:=hT.ge
 obtain ⟨P,hP⟩:∃ P,P=w.heap.size:=⟨_,rfl⟩
 have HPE:=Kh hP
 obtain ⟨wA,hWA⟩:∃ wA,wA=w.alloc (.cells #[.int .i64 0,.int .i64 0,.slice none 0 0,.slice none 0 0] 28):=⟨_,rfl⟩
 have hbA:=heap_alloc_new w (.cells #[.int .i64 0,.int .i64 0,.slice none 0 0,.slice none 0 0] 28)
 have hgA:=Ga w (.cells #[.int .i64 0,.int .i64 0,.slice none 0 0,.slice none 0 0] 28) none
 have hzA:=zO w (.cells #[.int .i64 0,.int .i64 0,.slice none 0 0,.slice none 0 0] 28)
 rw [← hWA] at hbA hgA hzA
 rw [← hP] at hbA hzA htb
 have HTA:=Kh (hT.kept hgA (by simp))
 have HBA:=Kh hbA;have HGA:=Kh hgA;have HWA:=Kh hWA
 clear hbA hgA hWA hT
 go_enter Tryd.func50,Tryd.ntmps50
 go_upto_region 1 with fail
 rw [← HWA.out,← HPE.out]
 clear hP
 go_wp2_with fail
 refine (uV B tb _ _ (by omega) HTA.out).mono ?_
 rintro e w1 ⟨r,rfl,hr0,hr1,hT1,hg1⟩
 replace hr1:=hr1 (by omega)
 have HB1:=Kh (zE HBA.out hg1 (by simp;omega))
 have HG1:=Kh (zG (zF (zX w (some tb)) HGA.out (by simp)) hg1)
 have HT1:=Kh hT1
 have hz1:=hg1.size
 clear hT1 hg1 HTA HBA
 have fin:∀ (R:DfaV→Nat→Prop) (mo:Nat) (e:Ending) (w2:World),(∀ m n,R m n→AnyD m n)→mo≤500→oR R B tb w1 letters mo e w2→∃ (v:Value) (y0 y1:Int) (y2 y3:Option Addr) (n2 n3 c2 c3:Nat),e=.returned v∧v=.agg #[.int .i64 y0,.int .i64 y1,.slice y2 n2 c2,.slice y3 n3 c3]∧w2.cell? ⟨P,0,none⟩=some (.int .i64 0)∧w2.cell? ⟨P,1,none⟩=some (.int .i64 0)∧w2.cell? ⟨P,2,none⟩=some (.slice none 0 0)∧w2.cell? ⟨P,3,none⟩=some (.slice none 0 0)∧(∀ k,w2.frozen? ⟨P,k,none⟩=false)∧oR AnyD B tb w letters 500 (.returned v) ((((w2.setCell ⟨P,0,none⟩ (.int .i64 y0)).setCell ⟨P,1,none⟩ (.int .i64 y1)).setCell ⟨P,2,none⟩ (.slice y2 n2 c2)).setCell ⟨P,3,none⟩ (.slice y3 n3 c3)):=by
  intro R mo e w2 hR hmo h
  obtain ⟨v,m,n,rfl,⟨o,hs,sf,cf,sn,cn,rfl,ho,hH⟩,hvd,hnm,hr,hT2,hg2⟩:=h
  have hb2:=zE HB1.out hg2 (by simp;omega)
  obtain ⟨d0,d1,d2,d3⟩:=zR hb2
  obtain ⟨hsR,hgR⟩:=qR hb2 (.int .i64 m.letters) (.int .i64 m.start) (.slice sf m.final.length cf) (.slice sn m.next.length cn)
  refine ⟨_,_,_,_,_,_,_,_,_,rfl,rfl,d0,d1,d2,d3,fun k=>zD hb2 k,_,m,n,rfl,⟨o,hs,sf,cf,sn,cn,rfl,by have:=HPE.out;omega,(hH.base (by have:=HPE.out;omega)).far hgR hb2 (by omega)⟩,hvd,by omega,hR m n hr,hT2.kept hgR (fun k e=>by have e:P=k:=Oj e;omega),zF (zG HG1.out hg2) hgR (fun k e=>by have e:P=k:=Oj e;have:=HPE.out;omega)⟩
 have HFIN:=Kh fin
 clear fin
 by_cases e1:r=1
 ·subst e1
  go_wp2_with fail
  refine (mord_any B tb w1 letters most h1 (by omega) hm1 hm HT1.out).mono ?_
  intro e w2 h
  obtain ⟨v,y0,y1,y2,y3,n2,n3,q2,q3,rfl,rfl,c0,c1,c2,c3,fz,hD⟩:=HFIN.out OrdD most e w2 (fun _ _ h=>.inl h) hm h
  have f0:=fz 0;have f1:=fz 1;have f2:=fz 2;have f3:=fz 3
  have HD:=Kh hD
  clear hD fz h
  go_wp2
  refine bodyPost_ret (v:=.agg #[.int .i64 y0,.int .i64 y1,.slice y2 n2 q2,.slice y3 n3 q3]) (by simp [results,Tryd.results50,go_sem,c0,c1,c2,c3]) rfl ?_
  exact HD.out
 by_cases e2:r=2
 ·subst e2
  have hmn:min (most:Int) 4=((min most 4:Nat):Int):=by omega
  obtain ⟨mm,hmm⟩:∃ mm,mm=min most 4:=⟨_,rfl⟩
  rw [← hmm] at hmn
  have hmm1:1≤mm:=by omega
  have hmm4:mm≤4:=by omega
  clear hmm
  go_wp2_with fail
  refine (mperm_any B tb w1 letters mm h1 (by omega) hmm1 (by omega) HT1.out).mono ?_
  intro e w2 h
  obtain ⟨v,y0,y1,y2,y3,n2,n3,q2,q3,rfl,rfl,c0,c1,c2,c3,fz,hD⟩:=HFIN.out PermD mm e w2 (fun _ _ h=>.inr (.inl h)) (by omega) h
  have f0:=fz 0;have f1:=fz 1;have f2:=fz 2;have f3:=fz 3
  have HD:=Kh hD
  clear hD fz h
  go_wp2
  refine bodyPost_ret (v:=.agg #[.int .i64 y0,.int .i64 y1,.slice y2 n2 q2,.slice y3 n3 q3]) (by simp [results,Tryd.results50,go_sem,c0,c1,c2,c3]) rfl ?_
  exact HD.out
 by_cases e3:r=3
 ·subst e3
  go_wp2_with fail
  refine (mdef_any B tb w1 letters h1 h2 HT1.out).mono ?_
  intro e w2 h
  obtain ⟨v,y0,y1,y2,y3,n2,n3,q2,q3,rfl,rfl,c0,c1,c2,c3,fz,hD⟩:=HFIN.out DefD 7 e w2 (fun _ _ h=>.inr (.inr (.inl h))) (by omega) h
  have f0:=fz 0;have f1:=fz 1;have f2:=fz 2;have f3:=fz 3
  have HD:=Kh hD
  clear hD fz h
  go_wp2
  refine bodyPost_ret (v:=.agg #[.int .i64 y0,.int .i64 y1,.slice y2 n2 q2,.slice y3 n3 q3]) (by simp [results,Tryd.results50,go_sem,c0,c1,c2,c3]) rfl ?_
  exact HD.out
 ·go_wp2_with fail
  refine (mdfa_any B tb w1 letters most h1 (by omega) hm1 hm HT1.out).mono ?_
  intro e w2 h
  obtain ⟨v,y0,y1,y2,y3,n2,n3,q2,q3,rfl,rfl,c0,c1,c2,c3,fz,hD⟩:=HFIN.out (fun _ _=>True) most e w2 (fun _ _ _=>.inr (.inr (.inr trivial))) hm h.r
  have f0:=fz 0;have f1:=fz 1;have f2:=fz 2;have f3:=fz 3
  have HD:=Kh hD
  clear hD fz h
  go_wp2
  refine bodyPost_ret (v:=.agg #[.int .i64 y0,.int .i64 y1,.slice y2 n2 q2,.slice y3 n3 q3]) (by simp [results,Tryd.results50,go_sem,c0,c1,c2,c3]) rfl ?_
  exact HD.out
def LettersOk (B tb:Nat) (w:World) (e:Ending) (w':World):Prop:=∃ r:Nat,e=.returned (.int .i64 (r:Int))∧1≤r∧r≤2∧xW B w' tb∧w.grownBy w' (some tb)
set_option maxHeartbeats 400000 in
theorem letters_any (B tb:Nat) (w:World) (hT:xW B w tb) :
  Calls Tryd.prog 13 #[.pointer (some ⟨tb,0,none⟩)] w (LettersOk B tb w):=by
 have HN:=Kh (uV B tb w 8 (by omega) hT)
 clear hT
 go_enter Tryd.func13,Tryd.ntmps13
 go_wp2_with fail
 refine HN.out.mono ?_
 rintro e w1 ⟨r,rfl,hr0,hr1,hT1,hg1⟩
 have hr8:=hr1 (by omega)
 have HT1:=Kh hT1;have HG1:=Kh hg1
 clear hT1 hg1 hr1
 go_wp2
 go_ret
 refine ⟨(2 - r / 7).toNat,?_,by omega,by omega,HT1.out,HG1.out⟩
 show Ending.returned (.int .i64 (2 - r / 7))=_
 exact yD (by omega)
theorem iT.dfa {w w':World} {v:Value} {m:DfaV} {n k:Nat} (h:iT w w' v m) (hd:VD m n k):DfaOk w'.heap.size w' v m:=by
 obtain ⟨o,hs,sf,cf,sn,cn,rfl,_,hh⟩:=h
 exact (hh.built (by rw [hd.hn,hd.nl])).dfa
theorem TMatT.nil (B:Nat) (w:World):TMatT B w (.slice none 0 0) []:=⟨[],.inl ⟨rfl,rfl⟩,RowsT.nil⟩
def iK (S:Option SynV):List (List Nat) × List Nat:=match S with
 | some S=>(S.tab,S.images)
 | none=>([],[])
def Of21E (d:DfaV) (S:Option SynV):Prop:=match S with
 | some S=>∃ (n k m:Nat) (M:DfaV),VD d n k∧M=minD d k∧VD M m k∧m≤32∧SynE (gensD M m k) m (st0 M) M.final S
 | none=>Huge d
def jV (most:Nat) (T:List (List Nat)) (im:List Nat):Prop :=
 (∃ (d:DfaV) (n k:Nat) (S:SynV),VD d n k∧k≤2∧Of21E d (some S)∧S.tab.length≤most∧T=S.tab∧im=S.images) ∨
 ∃ (d:DfaV) (n:Nat) (S:Option SynV),VD d n 1∧n≤4∧PermD d n∧Of21E d S∧T=(iK S).1∧im=(iK S).2
def pS (B tb most:Nat) (w:World) (e:Ending) (w':World):Prop :=
 ∃ (T:List (List Nat)) (im:List Nat) (vT vI:Value),e=.returned (.tuple #[vT,vI])∧TMatT w'.heap.size w' vT T∧RowT w'.heap.size 3 w' vI (nats im)∧jV most T im∧xW B w' tb∧w.grownBy w' (some tb)
theorem pS.drew {B tb most:Nat} {w w':World} {e:Ending} (h:pS B tb most w e w') (m:Nat):pS B tb most w e (w'.drewN m):=by
 obtain ⟨T,im,vT,vI,h1,h2,h3,h4,h5,h6⟩:=h
 have hg:=zJ w' m none
 exact ⟨T,im,vT,vI,h1,(h2.kept hg (by simp) (by simp)).mono hg.size,(h3.kept hg (by simp)).mono hg.size,h4,h5.kept hg (by simp),zF h6 hg (by simp)⟩
set_option maxRecDepth 100000 in
set_option maxHeartbeats 2000000 in
theorem table40_any (B tb most:Nat) (w:World) (hmo:most≤400) (hT:xW B w tb) :
  Calls Tryd.prog 18 #[.pointer (some ⟨tb,0,none⟩),.int .i64 (most:Int)] w (pS B tb most w):=by
 have HLE:=Kh (letters_any B tb w hT)
 have HMOST:=Kh hmo
 clear hT
 go_enter Tryd.func18,Tryd.ntmps18
 go_wp2_with fail
 refine HLE.out.mono ?_
 rintro e w1 ⟨r,rfl,hr1,hr2,hT1,hg1⟩
 have HMA:=Kh (many_any B tb w1 r 3 hr1 hr2 (by omega) (by omega) hT1)
 have HG1:=Kh hg1
 clear hT1 hg1
 go_wp2_with fail
 refine HMA.out.mono ?_
 rintro e w2 ⟨v2,d,n,rfl,hdo,hvd,hn,hR,hT2,hg2⟩
 have HOF:=Kh (iD w2.heap.size w2 v2 d (Nat.le_refl _) (hdo.dfa hvd))
 have HT2:=Kh hT2;have HVD:=Kh hvd;have HG2:=Kh (zG HG1.out hg2)
 clear hdo hvd hR hT2 hg2
 go_wp2_with fail
 refine HOF.out.mono ?_
 have hsec:∀ W:World,xW B W tb→Hid (Calls Tryd.prog 14 #[.pointer (some ⟨tb,0,none⟩),.int .i64 1,.int .i64 4] W (oR PermD B tb W 1 4)):=fun W h=>Kh (mperm_any B tb W 1 4 (by omega) (by omega) (by omega) (by omega) h)
 have HSEC:=Kh hsec
 clear hsec
 rintro e w3 (⟨c,rfl,hc,hc1,hc2,hg3⟩|⟨S,v3,n',k',m,M,hvd',hM,hVM,hm,rfl,hSE,hSA,hg3⟩)
 ·have hT3:=HT2.out.kept hg3 (by simp)
  have hgal:=Ga w3 (.cells #[.int .i64 0,.slice none 0 0,.slice none 0 0,.slice none 0 0,.slice none 0 0,.slice none 0 0] 33) none
  have hb:=heap_alloc_new w3 (.cells #[.int .i64 0,.slice none 0 0,.slice none 0 0,.slice none 0 0,.slice none 0 0,.slice none 0 0] 33)
  obtain ⟨w4,hw4⟩:∃ w4,w4=w3.alloc (.cells #[.int .i64 0,.slice none 0 0,.slice none 0 0,.slice none 0 0,.slice none 0 0,.slice none 0 0] 33):=⟨_,rfl⟩
  rw [← hw4] at hgal hb
  obtain ⟨o,ho⟩:∃ o,o=w3.heap.size:=⟨_,rfl⟩
  rw [← ho] at hb
  have hT4:=hT3.kept hgal (by simp)
  have HPE:=HSEC.out w4 hT4
  have hto:=HT2.out.lt
  have HG4:=Kh (zF (zF HG2.out hg3 (by simp)) hgal (by simp));have HW4:=Kh hw4;have HB:=Kh hb;have HOE:=Kh ho
  have hot:tb < o:=by have:=hg3.size;omega
  have hos:w.heap.size≤o:=by have:=HG2.out.size;have:=hg3.size;omega
  have HT4:=Kh hT4
  clear hT3 hg3 hgal hw4 hb ho hT4 hto hc1 hc2
  go_upto_region 2 with fail
  rw [← HW4.out,← HOE.out]
  go_wp2_with fail
  refine HPE.out.mono ?_
  rintro e w5 ⟨v5,d5,n5,rfl,hdo5,hvd5,hn5,hR5,hT5,hg5⟩
  have HOF5:=Kh (iD w5.heap.size w5 v5 d5 (Nat.le_refl _) (hdo5.dfa hvd5))
  have HT5:=Kh hT5;have HVD5:=Kh hvd5;have HG5:=Kh (zG HG4.out hg5);have HR5:=Kh hR5
  have HB5:=Kh (zE HB.out hg5 (fun e=>by have e:tb=o:=Oj e;omega))
  clear hdo5 hvd5 hR5 hT5 hg5
  go_wp2_with fail
  refine HOF5.out.mono ?_
  rintro e w6 (⟨c6,rfl,hc6,_,hc62,hg6⟩|⟨S6,v6,n6,k6,m6,M6,hvd6,hM6,hVM6,hm6,rfl,hSE6,hSA6,hg6⟩)
  ·have HHU:=Kh (hc62 (validD_of HVD5.out)).2
   clear hc62
   have hb6:=zE HB5.out hg6 (by simp)
   obtain ⟨p0,p1,p2,p3,p4,p5⟩:=yM hb6
   have f0:=zD hb6 0;have f1:=zD hb6 1;have f2:=zD hb6 2;have f3:=zD hb6 3;have f4:=zD hb6 4;have f5:=zD hb6 5
   have HB6:=Kh hb6;have HG6:=Kh (zF HG5.out hg6 (by simp));have HT6:=Kh (HT5.out.kept hg6 (by simp))
   clear hb6 hg6
   go_upto_region 4 with fail
   obtain ⟨hsZ,hgZ⟩:=uX HB6.out (.int .i64 0) (.slice none 0 0) (.slice none 0 0) (.slice none 0 0) (.slice none 0 0) (.slice none 0 0)
   obtain ⟨wZ,hwZ⟩:∃ wZ,wZ=((((((w6.setCell ⟨o,0,none⟩ (.int .i64 0)).setCell ⟨o,1,none⟩ (.slice none 0 0)).setCell ⟨o,2,none⟩ (.slice none 0 0)).setCell ⟨o,3,none⟩ (.slice none 0 0)).setCell ⟨o,4,none⟩ (.slice none 0 0)).setCell ⟨o,5,none⟩ (.slice none 0 0)):=⟨_,rfl⟩
   rw [← hwZ] at hsZ hgZ ⊢
   have HTZ:=Kh (HT6.out.kept hgZ (fun j e=>by have e:o=j:=Oj e;have:=HT6.out.ge;omega))
   have HGZ:=Kh (zF HG6.out hgZ (fun j e=>by have e:o=j:=Oj e;omega))
   have HGO:=Kh hgZ
   obtain ⟨z0,z1,z2,z3,z4,z5⟩:=yM hsZ
   clear hwZ hsZ hgZ p0 p1 p2 p3 p4 p5 f0 f1 f2 f3 f4 f5 z0 z2 z4 z5
   go_quiet (fail)
   go_wp2
   refine bodyPost_ret (v:=.tuple #[.slice none 0 0,.slice none 0 0]) (by simp [results,Tryd.results18,go_sem]) rfl ?_
   refine pS.drew ?_ _
   exact ⟨[],[],_,_,rfl,TMatT.nil _ _,.inl ⟨rfl,rfl⟩,.inr ⟨d5,n5,none,HVD5.out,hn5,HR5.out,HHU.out,rfl,rfl⟩,HTZ.out,HGZ.out⟩
  ·have HSA6:=Kh hSA6
   obtain ⟨vT6,vW6,vI6,vA6,vP6,rfl,hT6,hW6,hI6,hA6,hPl6⟩:=id hSA6
   obtain ⟨tA6,tC6,rfl⟩:=(TMatT.tmat hT6).shape
   obtain ⟨wA6,wC6,rfl⟩:=hW6.shape
   obtain ⟨iA6,iC6,rfl⟩:=hI6.shape
   obtain ⟨aA6,aC6,rfl⟩:=hA6.shape
   obtain ⟨lA6,lC6,rfl⟩:=hPl6.shape
   obtain ⟨tn6,htn6⟩:∃ x,x=S6.tab.length:=⟨_,rfl⟩
   obtain ⟨wn6,hwn6⟩:∃ x,x=(strsL S6.words).length:=⟨_,rfl⟩
   obtain ⟨in6,hin6⟩:∃ x,x=(nats S6.images).length:=⟨_,rfl⟩
   obtain ⟨an6,han6⟩:∃ x,x=(bls S6.accept).length:=⟨_,rfl⟩
   obtain ⟨ln6,hln6⟩:∃ x,x=(bls S6.plus).length:=⟨_,rfl⟩
   rw [← htn6] at hT6;rw [← hin6] at hI6
   rw [← htn6,← hwn6,← hin6,← han6,← hln6]
   have HTT6:=Kh hT6;have HI6:=Kh hI6
   have HE6:Hid (Of21E d5 (some S6)):=Kh ⟨n6,k6,m6,M6,hvd6,hM6,hVM6,hm6,hSE6⟩
   clear hSA6 hT6 hW6 hI6 hA6 hPl6 htn6 hwn6 hin6 han6 hln6 hvd6 hM6 hVM6 hm6 hSE6
   have hb6:=zE HB5.out hg6 (by simp)
   obtain ⟨p0,p1,p2,p3,p4,p5⟩:=yM hb6
   have f0:=zD hb6 0;have f1:=zD hb6 1;have f2:=zD hb6 2;have f3:=zD hb6 3;have f4:=zD hb6 4;have f5:=zD hb6 5
   have HB6:=Kh hb6;have HG6:=Kh (zF HG5.out hg6 (by simp));have HT6:=Kh (HT5.out.kept hg6 (by simp))
   clear hb6 hg6
   go_upto_region 4 with fail
   obtain ⟨hsZ,hgZ⟩:=uX HB6.out (.int .i64 S6.k) (.slice tA6 tn6 tC6) (.slice wA6 wn6 wC6) (.slice iA6 in6 iC6) (.slice aA6 an6 aC6) (.slice lA6 ln6 lC6)
   obtain ⟨wZ,hwZ⟩:∃ wZ,wZ=((((((w6.setCell ⟨o,0,none⟩ (.int .i64 S6.k)).setCell ⟨o,1,none⟩ (.slice tA6 tn6 tC6)).setCell ⟨o,2,none⟩ (.slice wA6 wn6 wC6)).setCell ⟨o,3,none⟩ (.slice iA6 in6 iC6)).setCell ⟨o,4,none⟩ (.slice aA6 an6 aC6)).setCell ⟨o,5,none⟩ (.slice lA6 ln6 lC6)):=⟨_,rfl⟩
   rw [← hwZ] at hsZ hgZ ⊢
   have HTZ:=Kh (HT6.out.kept hgZ (fun j e=>by have e:o=j:=Oj e;have:=HT6.out.ge;omega))
   have HGZ:=Kh (zF HG6.out hgZ (fun j e=>by have e:o=j:=Oj e;omega))
   have HGO:=Kh hgZ
   obtain ⟨z0,z1,z2,z3,z4,z5⟩:=yM hsZ
   clear hwZ hsZ hgZ p0 p1 p2 p3 p4 p5 f0 f1 f2 f3 f4 f5 z0 z2 z4 z5
   go_quiet (fail)
   go_wp2
   refine bodyPost_ret (v:=.tuple #[.slice tA6 tn6 tC6,.slice iA6 in6 iC6]) (by simp [results,Tryd.results18,go_sem]) rfl ?_
   refine pS.drew ?_ _
   exact ⟨S6.tab,S6.images,_,_,rfl,(TMatT.kept HTT6.out HGO.out (fun j e=>.inr (by have e:o=j:=Oj e;subst e;exact ⟨_,_,_,HB6.out,by decide⟩)) (fun j e=>.inr (by have e:o=j:=Oj e;subst e;exact ⟨_,_,_,HB6.out,by decide⟩))).mono HGO.out.size,(HI6.out.kept HGO.out (fun j e=>.inr (by have e:o=j:=Oj e;subst e;exact ⟨_,_,_,HB6.out,by decide⟩))).mono HGO.out.size,.inr ⟨d5,n5,some S6,HVD5.out,hn5,HR5.out,HE6.out,rfl,rfl⟩,HTZ.out,HGZ.out⟩
 ·obtain ⟨vT,vW,vI,vA,vP,rfl,hT,hW,hI,hA,hPl⟩:=id hSA
  obtain ⟨tA,tC,rfl⟩:=(TMatT.tmat hT).shape
  obtain ⟨wA,wC,rfl⟩:=hW.shape
  obtain ⟨iA,iC,rfl⟩:=hI.shape
  obtain ⟨aA,aC,rfl⟩:=hA.shape
  obtain ⟨lA,lC,rfl⟩:=hPl.shape
  obtain ⟨wn,hwn⟩:∃ wn,wn=(strsL S.words).length:=⟨_,rfl⟩
  obtain ⟨iN,hin⟩:∃ iN,iN=(nats S.images).length:=⟨_,rfl⟩
  obtain ⟨aN,han⟩:∃ aN,aN=(bls S.accept).length:=⟨_,rfl⟩
  obtain ⟨lN,hln⟩:∃ lN,lN=(bls S.plus).length:=⟨_,rfl⟩
  rw [← hin] at hI
  rw [← hwn,← hin,← han,← hln]
  have hT3:=HT2.out.kept hg3 (by simp)
  have hgal:=Ga w3 (.cells #[.int .i64 S.k,.slice tA S.tab.length tC,.slice wA wn wC,.slice iA iN iC,.slice aA aN aC,.slice lA lN lC] 33) none
  have hb:=heap_alloc_new w3 (.cells #[.int .i64 S.k,.slice tA S.tab.length tC,.slice wA wn wC,.slice iA iN iC,.slice aA aN aC,.slice lA lN lC] 33)
  obtain ⟨w4,hw4⟩:∃ w4,w4=w3.alloc (.cells #[.int .i64 S.k,.slice tA S.tab.length tC,.slice wA wn wC,.slice iA iN iC,.slice aA aN aC,.slice lA lN lC] 33):=⟨_,rfl⟩
  rw [← hw4] at hgal hb
  obtain ⟨o,ho⟩:∃ o,o=w3.heap.size:=⟨_,rfl⟩
  rw [← ho] at hb
  have hT4:=hT3.kept hgal (by simp)
  have HPE:=HSEC.out w4 hT4
  have hto:=HT2.out.lt
  have HG4:=Kh (zF (zF HG2.out hg3 (by simp)) hgal (by simp));have HW4:=Kh hw4;have HB:=Kh hb;have HOE:=Kh ho
  have hot:tb < o:=by have:=hg3.size;omega
  have hos:w.heap.size≤o:=by have:=HG2.out.size;have:=hg3.size;omega
  have HT4:=Kh hT4
  have HTT:=Kh ((TMatT.kept hT hgal (by simp) (by simp)).mono hgal.size);have HI:=Kh ((hI.kept hgal (by simp)).mono hgal.size)
  have HE1:Hid (Of21E d (some S)):=Kh ⟨n',k',m,M,hvd',hM,hVM,hm,hSE⟩
  have hk2:Hid (r≤2):=Kh hr2
  obtain ⟨c0,c1,c2,c3,c4,c5⟩:=yM hb
  clear hT3 hg3 hgal hw4 hb ho hT4 hto hvd' hM hVM hm hSE hSA hT hW hI hA hPl hwn hin han hln c0 c2 c4 c5
  go_upto_region 2 with fail
  rw [← HW4.out,← HOE.out]
  by_cases hmm:most < S.tab.length
  ·have hmm':(most:Int) < S.tab.length:=by omega
   clear c3 HTT HI
   go_wp2_with fail
   refine HPE.out.mono ?_
   rintro e w5 ⟨v5,d5,n5,rfl,hdo5,hvd5,hn5,hR5,hT5,hg5⟩
   have HOF5:=Kh (iD w5.heap.size w5 v5 d5 (Nat.le_refl _) (hdo5.dfa hvd5))
   have HT5:=Kh hT5;have HVD5:=Kh hvd5;have HG5:=Kh (zG HG4.out hg5);have HR5:=Kh hR5
   have HB5:=Kh (zE HB.out hg5 (fun e=>by have e:tb=o:=Oj e;omega))
   clear hdo5 hvd5 hR5 hT5 hg5
   go_wp2_with fail
   refine HOF5.out.mono ?_
   rintro e w6 (⟨c6,rfl,hc6,_,hc62,hg6⟩|⟨S6,v6,n6,k6,m6,M6,hvd6,hM6,hVM6,hm6,rfl,hSE6,hSA6,hg6⟩)
   ·have HHU:=Kh (hc62 (validD_of HVD5.out)).2
    clear hc62
    have hb6:=zE HB5.out hg6 (by simp)
    obtain ⟨p0,p1,p2,p3,p4,p5⟩:=yM hb6
    have f0:=zD hb6 0;have f1:=zD hb6 1;have f2:=zD hb6 2;have f3:=zD hb6 3;have f4:=zD hb6 4;have f5:=zD hb6 5
    have HB6:=Kh hb6;have HG6:=Kh (zF HG5.out hg6 (by simp));have HT6:=Kh (HT5.out.kept hg6 (by simp))
    clear hb6 hg6
    go_upto_region 4 with fail
    obtain ⟨hsZ,hgZ⟩:=uX HB6.out (.int .i64 0) (.slice none 0 0) (.slice none 0 0) (.slice none 0 0) (.slice none 0 0) (.slice none 0 0)
    obtain ⟨wZ,hwZ⟩:∃ wZ,wZ=((((((w6.setCell ⟨o,0,none⟩ (.int .i64 0)).setCell ⟨o,1,none⟩ (.slice none 0 0)).setCell ⟨o,2,none⟩ (.slice none 0 0)).setCell ⟨o,3,none⟩ (.slice none 0 0)).setCell ⟨o,4,none⟩ (.slice none 0 0)).setCell ⟨o,5,none⟩ (.slice none 0 0)):=⟨_,rfl⟩
    rw [← hwZ] at hsZ hgZ ⊢
    have HTZ:=Kh (HT6.out.kept hgZ (fun j e=>by have e:o=j:=Oj e;have:=HT6.out.ge;omega))
    have HGZ:=Kh (zF HG6.out hgZ (fun j e=>by have e:o=j:=Oj e;omega))
    have HGO:=Kh hgZ
    obtain ⟨z0,z1,z2,z3,z4,z5⟩:=yM hsZ
    clear hwZ hsZ hgZ p0 p1 p2 p3 p4 p5 f0 f1 f2 f3 f4 f5 z0 z2 z4 z5
    go_quiet (fail)
    go_wp2
    refine bodyPost_ret (v:=.tuple #[.slice none 0 0,.slice none 0 0]) (by simp [results,Tryd.results18,go_sem]) rfl ?_
    refine pS.drew ?_ _
    exact ⟨[],[],_,_,rfl,TMatT.nil _ _,.inl ⟨rfl,rfl⟩,.inr ⟨d5,n5,none,HVD5.out,hn5,HR5.out,HHU.out,rfl,rfl⟩,HTZ.out,HGZ.out⟩
   ·have HSA6:=Kh hSA6
    obtain ⟨vT6,vW6,vI6,vA6,vP6,rfl,hT6,hW6,hI6,hA6,hPl6⟩:=id hSA6
    obtain ⟨tA6,tC6,rfl⟩:=(TMatT.tmat hT6).shape
    obtain ⟨wA6,wC6,rfl⟩:=hW6.shape
    obtain ⟨iA6,iC6,rfl⟩:=hI6.shape
    obtain ⟨aA6,aC6,rfl⟩:=hA6.shape
    obtain ⟨lA6,lC6,rfl⟩:=hPl6.shape
    obtain ⟨tn6,htn6⟩:∃ x,x=S6.tab.length:=⟨_,rfl⟩
    obtain ⟨wn6,hwn6⟩:∃ x,x=(strsL S6.words).length:=⟨_,rfl⟩
    obtain ⟨in6,hin6⟩:∃ x,x=(nats S6.images).length:=⟨_,rfl⟩
    obtain ⟨an6,han6⟩:∃ x,x=(bls S6.accept).length:=⟨_,rfl⟩
    obtain ⟨ln6,hln6⟩:∃ x,x=(bls S6.plus).length:=⟨_,rfl⟩
    rw [← htn6] at hT6;rw [← hin6] at hI6
    rw [← htn6,← hwn6,← hin6,← han6,← hln6]
    have HTT6:=Kh hT6;have HI6:=Kh hI6
    have HE6:Hid (Of21E d5 (some S6)):=Kh ⟨n6,k6,m6,M6,hvd6,hM6,hVM6,hm6,hSE6⟩
    clear hSA6 hT6 hW6 hI6 hA6 hPl6 htn6 hwn6 hin6 han6 hln6 hvd6 hM6 hVM6 hm6 hSE6
    have hb6:=zE HB5.out hg6 (by simp)
    obtain ⟨p0,p1,p2,p3,p4,p5⟩:=yM hb6
    have f0:=zD hb6 0;have f1:=zD hb6 1;have f2:=zD hb6 2;have f3:=zD hb6 3;have f4:=zD hb6 4;have f5:=zD hb6 5
    have HB6:=Kh hb6;have HG6:=Kh (zF HG5.out hg6 (by simp));have HT6:=Kh (HT5.out.kept hg6 (by simp))
    clear hb6 hg6
    go_upto_region 4 with fail
    obtain ⟨hsZ,hgZ⟩:=uX HB6.out (.int .i64 S6.k) (.slice tA6 tn6 tC6) (.slice wA6 wn6 wC6) (.slice iA6 in6 iC6) (.slice aA6 an6 aC6) (.slice lA6 ln6 lC6)
    obtain ⟨wZ,hwZ⟩:∃ wZ,wZ=((((((w6.setCell ⟨o,0,none⟩ (.int .i64 S6.k)).setCell ⟨o,1,none⟩ (.slice tA6 tn6 tC6)).setCell ⟨o,2,none⟩ (.slice wA6 wn6 wC6)).setCell ⟨o,3,none⟩ (.slice iA6 in6 iC6)).setCell ⟨o,4,none⟩ (.slice aA6 an6 aC6)).setCell ⟨o,5,none⟩ (.slice lA6 ln6 lC6)):=⟨_,rfl⟩
    rw [← hwZ] at hsZ hgZ ⊢
    have HTZ:=Kh (HT6.out.kept hgZ (fun j e=>by have e:o=j:=Oj e;have:=HT6.out.ge;omega))
    have HGZ:=Kh (zF HG6.out hgZ (fun j e=>by have e:o=j:=Oj e;omega))
    have HGO:=Kh hgZ
    obtain ⟨z0,z1,z2,z3,z4,z5⟩:=yM hsZ
    clear hwZ hsZ hgZ p0 p1 p2 p3 p4 p5 f0 f1 f2 f3 f4 f5 z0 z2 z4 z5
    go_quiet (fail)
    go_wp2
    refine bodyPost_ret (v:=.tuple #[.slice tA6 tn6 tC6,.slice iA6 in6 iC6]) (by simp [results,Tryd.results18,go_sem]) rfl ?_
    refine pS.drew ?_ _
    exact ⟨S6.tab,S6.images,_,_,rfl,(TMatT.kept HTT6.out HGO.out (fun j e=>.inr (by have e:o=j:=Oj e;subst e;exact ⟨_,_,_,HB6.out,by decide⟩)) (fun j e=>.inr (by have e:o=j:=Oj e;subst e;exact ⟨_,_,_,HB6.out,by decide⟩))).mono HGO.out.size,(HI6.out.kept HGO.out (fun j e=>.inr (by have e:o=j:=Oj e;subst e;exact ⟨_,_,_,HB6.out,by decide⟩))).mono HGO.out.size,.inr ⟨d5,n5,some S6,HVD5.out,hn5,HR5.out,HE6.out,rfl,rfl⟩,HTZ.out,HGZ.out⟩
  ·have hmm':¬ (most:Int) < S.tab.length:=by omega
   obtain ⟨tl,htl⟩:∃ tl,tl=S.tab.length:=⟨_,rfl⟩
   rw [← htl] at c1 hmm'
   have HTL:=Kh htl
   rw [← htl]
   clear htl
   go_upto_region 4 with fail
   go_quiet (fail)
   go_wp2
   refine bodyPost_ret (v:=.tuple #[.slice tA tl tC,.slice iA iN iC]) (by simp [results,Tryd.results18,go_sem]) rfl ?_
   refine pS.drew ?_ _
   exact ⟨S.tab,S.images,_,_,rfl,by rw [HTL.out];exact HTT.out,HI.out,.inl ⟨d,n,r,S,HVD.out,hk2.out,HE1.out,by have:=HTL.out;omega,rfl,rfl⟩,HT4.out,HG4.out⟩
def Pos (l:List Nat):Prop:=0 < l.length∧0 ∉ l
theorem max_pos {n:Nat} {l:List Nat} (hl:∀ b∈l,b < 2 ^ n) {a:Nat} (ha:a∈l) (h0:a≠0):Pos (maxOf n l):=by
 obtain ⟨b,hb,hab⟩:=rQ hl _ a (Nat.le_refl _) ha
 refine ⟨List.length_pos_of_mem hb,fun h=>?_⟩
 rcases ((kJ hl).1 h).2 a ha with e|e
 ·exact h0 e.symm
 ·exact e (Nat.zero_and a)
theorem Pos.ex {l:List Nat} (h:Pos l):∃ a∈l,a≠0:=by
 obtain ⟨a,ha⟩:=List.exists_mem_of_length_pos h.1
 exact ⟨a,ha,fun e=>h.2 (e ▸ ha)⟩
theorem start_pos' {t:List (List Int)} {im:List Int} (h:Good t im):Pos (tB t im) :=
 max_pos (qX h) (a:=2 ^ (wK t).toNat) (by simp [genL]) (Nat.ne_of_gt (Nat.two_pow_pos _))
theorem Pos.round {n:Nat} {tb:Nat→Nat→Nat} {l:List Nat} (ht:Tb n tb) (hl:∀ b∈l,b < 2 ^ n) (h:Pos l):Pos (yA n tb l):=by
 obtain ⟨a,ha,h0⟩:=h.ex
 exact max_pos (vH ht hl) (wR.2 (.inl ha)) h0
def intL (l:List Nat):List Int:=l.map fun (x:Nat)=>(x:Int)
theorem intL_length (l:List Nat):(intL l).length=l.length:=by simp [intL]
theorem intL_getD (l:List Nat) (i:Nat):(intL l).getD i 0=(l.getD i 0:Nat):=by
 simp only [intL,List.getD,List.getElem?_map]
 cases l[i]? <;> rfl
theorem natL_intL (l:List Nat):natL (intL l)=l:=by simp [natL,intL,Function.comp_def]
noncomputable def derE (t:List (List Int)) (im:List Int) (s:Int):Int :=
 if yO t im≠0 then yO t im else if s=0∨setB t.length s=false then 1 else if tG (intL (uI t im)) s=true then 0 else 9
theorem derE_check {t:List (List Int)} {im:List Int} {s:Int} (h:yO t im≠0):derE t im s=yO t im:=by rw [derE,if_pos h]
theorem derE_arg {t:List (List Int)} {im:List Int} {s:Int} (h:yO t im=0) (hs:s=0∨setB t.length s=false):derE t im s=1:=by rw [derE,if_neg (by omega),if_pos hs]
theorem derE_in {t:List (List Int)} {im:List Int} {s:Int} (h:yO t im=0) (hs:¬ (s=0∨setB t.length s=false)):derE t im s=if tG (intL (uI t im)) s=true then 0 else 9:=by rw [derE,if_neg (by omega),if_neg hs]
end Go.Proofs.YtdjhoadoiknaoaaDoor
