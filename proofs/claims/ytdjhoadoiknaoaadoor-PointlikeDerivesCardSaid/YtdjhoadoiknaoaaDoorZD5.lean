/- Part 5 of the proof: Valid, Prod, Check, ClosePlain, Gen. -/
import Derived.Test.YtdjhoadoiknaoaaDoorZD4
set_option linter.unusedVariables false
set_option linter.unusedSimpArgs false
namespace Go.Proofs.YtdjhoadoiknaoaaDoor
open Go.RowKit
theorem mH (B:Nat) (w:World) (v:Value) (t:List (List Int)) (hB:B≤w.heap.size) (h:Mat B w v t) :
  Calls Tryd.prog 51 #[v] w fun e w'=>e=.returned (.int .i64 (xM t))∧w.grownBy w' none:=by
 by_cases hE:uZ t=0
 ·have hs:=cN hE
  have HS:=Kh hs;have HE:=Kh hE;have H:=Kh h
  clear hs hE h
  go_enter Tryd.func51,Tryd.ntmps51
  go_wp2_with fail
  refine (bX B w v t H.out).mono ?_
  rintro e w' ⟨rfl,rfl⟩
  rw [HE.out]
  go_wp2_with fail
  refine (spanning_any B w v t hB H.out HS.out).mono ?_
  rintro e w1 ⟨sa,sc,gs,rfl,hrow,hgl,hgen,hg1⟩
  have HR:=Kh hrow;have HGL:=Kh hgl;have HGEN:=Kh hgen
  have HM:=Kh ((H.out.kept hg1 (by simp)).mono (show B≤w1.heap.size by have:=hg1.size;omega))
  clear hrow hgl hgen
  go_wp2_with fail
  refine (associates_any w1.heap.size w1 v _ t gs (Nat.le_refl _) HM.out HS.out HR.out HGL.out).mono ?_
  rintro e w2 ⟨rfl,hg2⟩
  have hg:=zF hg1 hg2
  cases hb:eE t gs
  ·have hv:xM t=5:=jY HE.out (fun ha=>by
    rw [eD (fun g hg=>ha g (HGL.out g hg))] at hb;cases hb)
   have HV:=Kh hv
   clear hb hv
   go_wp2
   go_ret
   exact ⟨yH HV.out.symm,hg⟩
  ·have hv:xM t=0:=rR HE.out (assoc_of_light HS.out HGEN.out (fun g hg=>⟨HGL.out g hg,by
    have:fF t gs:=by simpa [eE] using hb
    exact this g hg⟩))
   have HV:=Kh hv
   clear hb hv
   go_wp2
   go_ret
   exact ⟨yH HV.out.symm,hg⟩
 ·have hb:(uZ t != 0)=true:=by rw [bne_iff_ne];exact hE
  have HE:=Kh hE;clear hE
  go_enter Tryd.func51,Tryd.ntmps51
  go_wp2_with fail
  refine (bX B w v t h).mono ?_
  rintro e w' ⟨rfl,rfl⟩
  go_wp2
  go_ret
  exact ⟨yH (mI HE.out).symm,zW _ _⟩
theorem bS (B:Nat) (w:World) (v:Value) (t:List (List Int)) (hB:B≤w.heap.size) (h:Mat B w v t) :
  Calls Tryd.prog 96 #[v] w fun e w'=>e=.returned (.bool (xM t == 0))∧w.grownBy w' none:=by
 go_enter Tryd.func96,Tryd.ntmps96
 go_wp2_with fail
 refine (mH B w v t hB h).mono ?_
 rintro e w1 ⟨rfl,hg⟩
 go_wp2
 go_ret
 exact ⟨rfl,hg⟩
theorem range_step (n k:Nat) (hk:k < n):(List.range k ++ List.replicate (n - k) 0).set k k=List.range (k+1) ++ List.replicate (n - (k+1)) 0:=by
 rw [List.set_append_right _ _ (by simp),List.length_range,Nat.sub_self,List.range_succ,List.append_assoc]
 congr 1
 rw [show n - k=n - (k+1)+1 by omega,List.replicate_succ,List.set_cons_zero]
 rfl
set_option maxHeartbeats 400000 in
theorem elements_any (w:World) (a:Option Addr) (n cap:Nat) (hn:n≤400) :
  Calls Tryd.prog 98 #[.slice a n cap] w fun e w'=>e=.returned (.slice (some ⟨w.heap.size,0,none⟩) n n)∧Arr w' w.heap.size 3 (nats (List.range n))∧w.grownBy w' none:=by
 go_enter Tryd.func98,Tryd.ntmps98
 go_wp2_with (at_make;refine kB rfl _ _ _ rfl yC rfl _ _ _ _ n rfl rfl rfl rfl ?b1 ?b2 ?_;(case b1=>omega);(case b2=>(unfold maxLen;omega));intro w1 ha1 hg1 hz1)
 rw [← wG] at ha1
 have HA:=Kh ha1;clear ha1
 go_loopg [10] n (fun g i wr=>∃ k:Nat,g+k=n∧i=.int .i64 k∧Arr wr w.heap.size 3 (nats (List.range k ++ List.replicate (n - k) 0))∧w.grownBy wr none)
 case atStart=>exact ⟨0,rfl,rfl,by simpa using HA.out,hg1⟩
 case round =>
  clear HA hg1 hz1
  obtain ⟨k,hg,rfl,harr,hgr⟩:=hrel
  have HG:=Kh hg;clear hg
  by_cases hk:k < n
  ·have hk':(k:Int) < n:=by omega
   have hlen:(List.range k ++ List.replicate (n - k) 0).length=n:=by simp;omega
   have ck:=harr.nat k (by rw [hlen];exact hk)
   have fk:=harr.frozen k
   have hst:=harr.nat_set k (by rw [hlen];exact hk) k
   rw [range_step n k hk] at hst
   have HST:=Kh hst
   clear hst hlen harr
   go_wp2
   go_roundg (n - (k+1))
   case measure=>have:=HG.out;omega
   case rel=>exact ⟨k+1,by omega,by go_num,HST.out,zG hgr (zH _ _ _) (by simp)⟩
  ·have hk2:k=n:=by have:=HG.out;omega
   have HK2:=Kh hk2
   have HARR:=Kh harr
   clear harr hk2
   go_wp2
   go_ret
   refine ⟨rfl,?_,hgr⟩
   have:=HARR.out
   rw [HK2.out,Nat.sub_self,List.replicate_zero,List.append_nil] at this
   exact this
theorem qBQ {t:List (List Int)} {e x:Nat} (hx:x < t.length) (h:idAt t e x=false):isId t e=false:=by
 rw [← Bool.not_eq_true,isId,List.all_eq_true]
 intro ha
 rw [ha x (List.mem_range.2 hx)] at h;cases h
def IdTo (t:List (List Int)) (e k:Nat):Prop:=∀ x,x < k→idAt t e x=true
theorem isId_good {t:List (List Int)} {e:Nat} (h:IdTo t e t.length):isId t e=true:=by
 rw [isId,List.all_eq_true];intro x hx;exact h x (List.mem_range.1 hx)
set_option maxRecDepth 100000 in
set_option maxHeartbeats 800000 in
theorem isid_any (B:Nat) (w:World) (pb b off cap:Nat) (RB RO RC:Nat→Nat) (t:List (List Int)) (e:Nat) (hq:Sq B w t b off RB RO RC) (hmx:cap≤9223372036854775807) (hc:t.length≤cap) (he:e < t.length)
  (hp:w.cell? ⟨pb,0,none⟩=some (.slice (some ⟨b,off,none⟩) t.length cap)) :
  Calls Tryd.prog 99 #[.int .i64 (e:Int),.pointer (some ⟨pb,0,none⟩)] w fun r w'=>r=.returned (.bool (isId t e))∧∃ m,w'=w.drewN m:=by
 have HQ:=Kh hq;clear hq
 have he':(e:Int) < t.length:=by omega
 have ce:=HQ.out.hd e he
 go_enter Tryd.func99,Tryd.ntmps99
 go_wp2
 go_loopg [7] t.length (fun g i wr=>∃ k m:Nat,g+k=t.length∧i=.int .i64 k∧IdTo t e k∧wr=w.drewN m)
 case atStart=>exact ⟨0,0,rfl,rfl,fun x hx=>absurd hx (by omega),rfl⟩
 case round =>
  obtain ⟨x,m,hg,rfl,hok,rfl⟩:=hrel
  have HG:=Kh hg;have OK:=Kh hok;clear hg hok
  by_cases hx:x < t.length
  ·have hx':(x:Int) < t.length:=by omega
   have cx:=HQ.out.hd x hx
   have cex:=HQ.out.el e x he hx
   have cxe:=HQ.out.el x e hx he
   obtain ⟨p,hp1⟩:∃ p,p=entN t e x:=⟨_,rfl⟩
   obtain ⟨q,hq1⟩:∃ q,q=entN t x e:=⟨_,rfl⟩
   rw [← hp1] at cex
   rw [← hq1] at cxe
   have HI:Hid (idAt t e x=(p == x && q == x)):=by rw [hp1,hq1];exact Kh rfl
   clear hp1 hq1
   by_cases h1:p=x
   ·have e1:((p:Int) != (x:Int))=false:=by rw [h1];simp
    by_cases h2:q=x
    ·have e2:((q:Int) != (x:Int))=false:=by rw [h2];simp
     have H1:=Kh h1;have H2:=Kh h2;clear h1 h2
     go_wp2
     first|(go_quiet (fail);go_wp2)|skip
     go_roundg (t.length - (x+1))
     case measure=>have:=HG.out;omega
     case rel =>
      refine ⟨x+1,_,by omega,by go_num,fun y hy=>?_,rfl⟩
      rcases Nat.lt_succ_iff_lt_or_eq.1 hy with hy|rfl
      ·exact OK.out y hy
      ·rw [HI.out,H1.out,H2.out];simp
    ·have e2:((q:Int) != (x:Int))=true:=by rw [bne_iff_ne];omega
     have H1:=Kh h1;have H2:=Kh h2;clear h1 h2
     go_wp2
     first|(go_quiet (fail);go_wp2)|skip
     go_ret
     exact ⟨zZ (qBQ hx (by rw [HI.out];simp [H2.out])).symm,_,rfl⟩
   ·have e1:((p:Int) != (x:Int))=true:=by rw [bne_iff_ne];omega
    have H1:=Kh h1;clear h1
    go_wp2
    first|(go_quiet (fail);go_wp2)|skip
    go_ret
    exact ⟨zZ (qBQ hx (by rw [HI.out];simp [H1.out])).symm,_,rfl⟩
  ·have hk2:x=t.length:=by have:=HG.out;omega
   have HK2:=Kh hk2;clear hk2
   go_wp2
   go_ret
   exact ⟨zZ (isId_good (by rw [← HK2.out];exact OK.out)).symm,_,rfl⟩
set_option maxRecDepth 100000 in
theorem indexFunc_any (B:Nat) (w:World) (pb g b off cap:Nat) (RB RO RC:Nat→Nat) (t:List (List Int)) (hq:Sq B w t b off RB RO RC) (hmx:cap≤9223372036854775807) (hc:t.length≤cap) (hp:w.cell? ⟨pb,0,none⟩=some (.slice (some ⟨b,off,none⟩) t.length cap))
  (ha:Arr w g 3 (nats (List.range t.length))) :
  Calls Tryd.prog 97 #[.slice (some ⟨g,0,none⟩) t.length t.length,.func (.func 99) #[] #[.pointer (some ⟨pb,0,none⟩)]] w fun e w'=>e=.returned (.int .i64 (vC t))∧∃ m,w'=w.drewN m:=by
 have HQ:=Kh hq;have HA:=Kh ha;clear hq ha
 go_enter Tryd.func97,Tryd.ntmps97
 go_wp2
 go_loopg [8] t.length (fun g i wr=>∃ k m:Nat,g+k=t.length∧i=.int .i64 k∧NoId t k∧wr=w.drewN m)
 case atStart=>exact ⟨0,0,rfl,rfl,fun x hx=>absurd hx (by omega),rfl⟩
 case round =>
  obtain ⟨x,m,hg,rfl,hok,rfl⟩:=hrel
  have HG:=Kh hg;have OK:=Kh hok;clear hg hok
  by_cases hx:x < t.length
  ·have hx':(x:Int) < t.length:=by omega
   have cx:=HA.out.nat x (by simpa using hx)
   rw [show (List.range t.length).getD x 0=x by simp [List.getD,hx]] at cx
   go_wp2_with fail
   refine (isid_any B (w.drewN m) pb b off cap RB RO RC t x (HQ.out.kept (zJ _ _ none) (by simp)) hmx hc hx hp).mono ?_
   rintro e w2 ⟨rfl,m2,rfl⟩
   cases hI:isId t x
   ·have HI:=Kh hI;clear hI
    go_wp2
    go_roundg (t.length - (x+1))
    case measure=>have:=HG.out;omega
    case rel =>
     refine ⟨x+1,m+m2,by omega,by go_num,fun y hy=>?_,rfl⟩
     rcases Nat.lt_succ_iff_lt_or_eq.1 hy with hy|rfl
     ·exact OK.out y hy
     ·exact HI.out
   ·have HI:=Kh hI;clear hI
    go_wp2
    go_ret
    exact ⟨yH (kP hx HI.out OK.out).symm,m+m2,rfl⟩
  ·go_wp2
   go_ret
   exact ⟨yH (eG (fun x' hx'=>OK.out x' (by omega))).symm,m,rfl⟩
noncomputable def aT (t:List (List Int)):Int:=if xM t=0 then vC t else -1
theorem pU {t:List (List Int)} (h:xM t=0):aT t=vC t:=by rw [aT,if_pos h]
theorem identE_not {t:List (List Int)} (h:¬ xM t=0):aT t = -1:=by rw [aT,if_neg h]
set_option maxRecDepth 100000 in
theorem mU (B:Nat) (w:World) (v:Value) (t:List (List Int)) (hB:B≤w.heap.size) (h:Mat B w v t) :
  Calls Tryd.prog 71 #[v] w fun e w'=>e=.returned (.int .i64 (aT t))∧w.grownBy w' none:=by
 have g0:=Ga w (.cells #[v] 26) none
 have h0:=h.kept g0 (by simp)
 have hbox:=heap_alloc_new w (.cells #[v] 26)
 have HB:=Kh hbox;have H0:=Kh h0
 clear hbox h0
 have hB0:B≤(w.alloc (.cells #[v] 26)).heap.size:=by rw [zO];omega
 by_cases hv:xM t=0
 ·have hb:(xM t == 0)=true:=by simp [hv]
  have HV:=Kh hv;clear hv
  obtain ⟨b,off,cap,RB,RO,RC,rfl,hc1,hc2,hq⟩:=h.sq (uY HV.out).1
  have hmx:cap≤9223372036854775807:=by unfold maxLen at hc2;omega
  have hpos:=(uY HV.out).1.pos
  have hle:=(uY HV.out).1.le
  have HQ:=Kh hq;clear hq h hc2
  go_enter Tryd.func71,Tryd.ntmps71
  go_wp2_with fail
  refine (bS B _ _ t hB0 H0.out).mono ?_
  rintro e w1 ⟨rfl,hg1⟩
  have c1:=zI (zE HB.out hg1 (by simp)) 0 (by simp)
  simp only [List.getElem_toArray,List.getElem_cons_zero] at c1
  have gw1:=zF g0 hg1
  go_wp2_with fail
  refine (elements_any w1 _ _ _ hle).mono ?_
  rintro e w2 ⟨rfl,ha2,hg2⟩
  have c2:=zI (zE (zE HB.out hg1 (by simp)) hg2 (by simp)) 0 (by simp)
  simp only [List.getElem_toArray,List.getElem_cons_zero] at c2
  have gw2:=zF gw1 hg2
  have HQ2:=Kh (HQ.out.kept gw2 (by simp))
  have HA2:=Kh ha2
  clear ha2 hg1 hg2 c1
  go_wp2_with fail
  refine (indexFunc_any B w2 w.heap.size w1.heap.size b off cap RB RO RC t HQ2.out hmx hc1 c2 HA2.out).mono ?_
  rintro e w3 ⟨rfl,m,rfl⟩
  go_wp2
  go_ret
  exact ⟨yH (pU HV.out).symm,zF gw2 (zJ _ _ _)⟩
 ·have hb:(xM t == 0)=false:=by rw [beq_eq_false_iff_ne];exact hv
  have HV:=Kh hv;clear hv
  obtain ⟨sa,sc,rfl⟩:=h.shape
  clear h
  go_enter Tryd.func71,Tryd.ntmps71
  go_wp2_with fail
  refine (bS B _ _ t hB0 H0.out).mono ?_
  rintro e w1 ⟨rfl,hg1⟩
  go_wp2
  go_ret
  exact ⟨yH (identE_not HV.out).symm,zF g0 hg1⟩
noncomputable def mayB (t:List (List Int)) (zs:List Int):Bool:=(xM t == 0) && decide (t.length≤12) && zs.all (setB t.length)
noncomputable def fV (t:List (List Int)) (a:Int):Int:=if mayB t [a]=true then (yM t.length (entN t) a.toNat:Nat) else 0
theorem gV {t:List (List Int)} {a:Int}:mayB t [a]=true ↔ xM t=0∧t.length≤12∧setB t.length a=true:=by
 simp [mayB,and_assoc]
theorem setB_true {n:Nat} {s:Int} (h:setB n s=true):∃ a:Nat,s=a∧a < 2 ^ n:=by
 simp only [setB,decide_eq_true_eq] at h
 exact ⟨s.toNat,by omega,by omega⟩
theorem fU {t:List (List Int)} {a:Int} (h:¬ mayB t [a]=true):fV t a=0:=by rw [fV,if_neg h]
theorem omegaP_yes {t:List (List Int)} {a:Nat} (h:mayB t [(a:Int)]=true):fV t a=(yM t.length (entN t) a:Nat):=by rw [fV,if_pos h];rfl
theorem oY (w:World) (a:Option Addr) (n cap:Nat) (s:Int) (hn:n≤12) :
  Calls Tryd.prog 52 #[.slice a n cap,.int .i64 s] w fun e w'=>e=.returned (.bool (setB n s))∧w=w':=validSet_any w a n cap s hn
set_option maxHeartbeats 400000 in
theorem pomega_any (B:Nat) (w:World) (v:Value) (t:List (List Int)) (a:Int) (hB:B≤w.heap.size) (h:Mat B w v t) (hT:TabOk w) :
  Calls Tryd.prog 22 #[v,.int .i64 a] w fun e w'=>e=.returned (.int .i64 (fV t a))∧w.grownBy w' none:=by
 have hlm:=h.len_le
 unfold maxLen at hlm
 have H:=Kh h
 have hv:=mH B w v t hB h
 have HV:=Kh hv
 obtain ⟨sa,sc,rfl⟩:=h.shape
 clear h hv
 by_cases h1:xM t=0
 ·rw [h1] at HV
  have H1:=Kh h1;clear h1
  by_cases h2:t.length≤12
  ·cases h3:setB t.length a
   ·have HN:=Kh (fU (t:=t) (a:=a) (fun hm=>by have:=(gV.1 hm).2.2;rw [h3] at this;cases this))
    have H3:=Kh h3;clear h3
    go_enter Tryd.func22,Tryd.ntmps22
    go_wp2_with fail
    refine HV.out.mono ?_
    rintro e w1 ⟨rfl,hg1⟩
    go_wp2_with fail
    refine (oY w1 sa t.length sc a h2).mono ?_
    rintro e w2 ⟨rfl,rfl⟩
    rw [H3.out]
    go_wp2
    go_ret
    exact ⟨yH HN.out.symm,hg1⟩
   ·have hm:mayB t [a]=true:=gV.2 ⟨H1.out,h2,h3⟩
    obtain ⟨a',rfl,ha⟩:=setB_true h3
    have HY:=Kh (omegaP_yes hm)
    have H3:=Kh h3;clear h3 hm
    go_enter Tryd.func22,Tryd.ntmps22
    go_wp2_with fail
    refine HV.out.mono ?_
    rintro e w1 ⟨rfl,hg1⟩
    have HG1:=Kh hg1
    clear hg1
    go_wp2_with fail
    refine (oY w1 sa t.length sc a' h2).mono ?_
    rintro e w2 ⟨rfl,rfl⟩
    rw [H3.out]
    go_wp2_with fail
    refine (qZ B w1 _ t (by have:=HG1.out.size;omega) (H.out.kept HG1.out (by simp)) H1.out h2 (hT.kept HG1.out (by simp))).mono ?_
    rintro e w2 ⟨p,go,rfl,hs,hg2⟩
    have hT2:=hT.kept (zF HG1.out hg2) (by simp)
    have HS:=Kh hs;have HG2:=Kh hg2
    clear hs hg2
    go_wp2_with fail
    refine (jI _ _ w2 p go t.length (entN t) a' HS.out (oK H1.out) h2 ha hT2).mono ?_
    rintro e w3 ⟨rfl,hs3,hg3⟩
    have hlt:=HS.out.go_lt'
    go_wp2
    go_ret
    exact ⟨yH HY.out.symm,zG (zF HG1.out HG2.out) hg3 (fun q e=>by have:go=q:=Oj e;have:=HG1.out.size;omega)⟩
  ·have HN:=Kh (fU (t:=t) (a:=a) (fun hm=>h2 (gV.1 hm).2.1))
   go_enter Tryd.func22,Tryd.ntmps22
   go_wp2_with fail
   refine HV.out.mono ?_
   rintro e w1 ⟨rfl,hg1⟩
   go_wp2
   go_ret
   exact ⟨yH HN.out.symm,hg1⟩
 ·have hb:(xM t != 0)=true:=by rw [bne_iff_ne];exact h1
  have HN:=Kh (fU (t:=t) (a:=a) (fun hm=>h1 (gV.1 hm).1))
  clear h1
  go_enter Tryd.func22,Tryd.ntmps22
  go_wp2_with fail
  refine HV.out.mono ?_
  rintro e w1 ⟨rfl,hg1⟩
  go_wp2
  go_ret
  exact ⟨yH HN.out.symm,hg1⟩
theorem qCQ (w:World) (zs:List Int) (cs:Array Value) (hcs:cs.toList=ints zs) (n:Nat) (hn:zs.length=n) (hm:n≤maxLen):Row (w.heap.size+1) (w.alloc (.cells cs 3)) (.slice (some ⟨w.heap.size,0,none⟩) n n) (ints zs):=by
 have ha:=Arr.new w 3 cs
 rw [hcs] at ha
 exact .inr ⟨w.heap.size,0,n,by rw [zM,hn],by omega,by rw [zM];omega,hm,ha.row⟩
noncomputable def yS (t:List (List Int)) (im:List Int):Int :=
 if xM t≠0 then xM t else if vC t = -1 then 9 else if 12 < t.length then 3 else if im.length=0∨6 < im.length then 1 else if inB t.length im then 0 else 1
theorem mV (t:List (List Int)):vC t = -1∨∃ e:Nat,vC t=e∧e < t.length∧isId t e=true:=by
 unfold vC
 cases h:(List.range t.length).find? (isId t) with
 | none=>exact .inl rfl
 | some e =>
  refine .inr ⟨e,rfl,?_,List.find?_some h⟩
  have:=List.mem_of_find?_eq_some h
  simpa using this
structure Good (t:List (List Int)) (im:List Int):Prop where
 valid:xM t=0
 ident:∃ e:Nat,vC t=e∧e < t.length∧isId t e=true
 le:t.length≤12
 im0:0 < im.length
 im6:im.length≤6
 inb:inB t.length im=true
theorem uP {t:List (List Int)} {im:List Int}:yS t im=0 ↔ Good t im:=by
 unfold yS
 constructor
 ·intro h
  split at h
  ·rename_i hv;exact absurd h hv
  rename_i hv
  split at h
  ·omega
  rename_i hi
  split at h
  ·omega
  split at h
  ·omega
  split at h
  ·exact ⟨by omega,(mV t).resolve_left hi,by omega,by omega,by omega,by assumption⟩
  ·omega
 ·intro h
  obtain ⟨e,he,_⟩:=h.ident
  rw [if_neg (by rw [h.valid];simp),if_neg (by omega),if_neg (by have:=h.le;omega),if_neg (by have:=h.im0;have:=h.im6;omega),if_pos h.inb]
theorem qDH {t:List (List Int)} {im:List Int} (h:xM t≠0):yS t im=xM t:=by rw [yS,if_pos h]
theorem qDI {t:List (List Int)} {im:List Int} (h:xM t=0) (hi:vC t = -1):yS t im=9:=by rw [yS,if_neg (by omega),if_pos hi]
theorem c_big {t:List (List Int)} {im:List Int} (h:xM t=0) (hi:¬ vC t = -1) (hn:12 < t.length):yS t im=3:=by rw [yS,if_neg (by omega),if_neg hi,if_pos hn]
theorem c_len {t:List (List Int)} {im:List Int} (h:xM t=0) (hi:¬ vC t = -1) (hn:¬ 12 < t.length) (hl:im.length=0∨6 < im.length):yS t im=1:=by rw [yS,if_neg (by omega),if_neg hi,if_neg hn,if_pos hl]
theorem c_in {t:List (List Int)} {im:List Int} (h:xM t=0) (hi:¬ vC t = -1) (hn:¬ 12 < t.length) (hl:¬ (im.length=0∨6 < im.length)):yS t im=if inB t.length im then 0 else 1:=by
 rw [yS,if_neg (by omega),if_neg hi,if_neg hn,if_neg hl]
set_option maxRecDepth 100000 in
set_option maxHeartbeats 800000 in
theorem eT (B:Nat) (w:World) (v iv:Value) (t:List (List Int)) (im:List Int) (hB:B≤w.heap.size) (h:Mat B w v t) (hi:Row B w iv (ints im)) :
  Calls Tryd.prog 58 #[v,iv] w fun e w'=>e=.returned (.int .i64 (yS t im))∧w.grownBy w' none:=by
 have hlm:=h.len_le
 unfold maxLen at hlm
 have him:=hi.len_le
 rw [zM] at him
 unfold maxLen at him
 have H:=Kh h;have HI:=Kh hi
 have hv:=mH B w v t hB h
 have HV:=Kh hv
 obtain ⟨sa,sc,rfl⟩:=h.shape
 obtain ⟨ia,ic,rfl⟩:=hi.shape
 rw [zM]
 clear h hv hi
 by_cases h1:xM t=0
 ·rw [h1] at HV
  have H1:=Kh h1
  have HID:∀ W,w.grownBy W none→Hid (Calls Tryd.prog 71 #[.slice sa t.length sc] W fun e w'=>e=.returned (.int .i64 (vC t))∧W.grownBy w' none):=fun W hW=>by
   have:=mU B W _ t (by have:=hW.size;omega) (H.out.kept hW (by simp))
   rw [pU h1] at this
   exact Kh this
  clear h1
  rcases mV t with h2|⟨e0,h2,he0,hei⟩
  ·have HC:=Kh (qDI (im:=im) H1.out h2)
   rw [h2] at HID
   clear h2
   go_enter Tryd.func58,Tryd.ntmps58
   go_wp2_with fail
   refine HV.out.mono ?_
   rintro e w1 ⟨rfl,hg1⟩
   go_wp2_with fail
   refine (HID w1 hg1).out.mono ?_
   rintro e w2 ⟨rfl,hg2⟩
   go_wp2
   go_ret
   exact ⟨yH HC.out.symm,zF hg1 hg2⟩
  ·have h2':¬ vC t = -1:=by omega
   have H2:=Kh h2'
   rw [h2] at HID
   clear h2 h2' hei
   by_cases h3:12 < t.length
   ·have HC:=Kh (c_big (im:=im) H1.out H2.out h3)
    go_enter Tryd.func58,Tryd.ntmps58
    go_wp2_with fail
    refine HV.out.mono ?_
    rintro e w1 ⟨rfl,hg1⟩
    go_wp2_with fail
    refine (HID w1 hg1).out.mono ?_
    rintro e w2 ⟨rfl,hg2⟩
    go_wp2
    go_ret
    exact ⟨yH HC.out.symm,zF hg1 hg2⟩
   ·by_cases h4:im.length=0∨6 < im.length
    ·have HC:=Kh (c_len (im:=im) H1.out H2.out h3 h4)
     rcases h4 with h4|h4
     ·have e4:((im.length:Int) == 0)=true:=by rw [h4];rfl
      have H4:=Kh h4;clear h4
      go_enter Tryd.func58,Tryd.ntmps58
      go_wp2_with fail
      refine HV.out.mono ?_
      rintro e w1 ⟨rfl,hg1⟩
      go_wp2_with fail
      refine (HID w1 hg1).out.mono ?_
      rintro e w2 ⟨rfl,hg2⟩
      go_wp2
      go_ret
      exact ⟨yH HC.out.symm,zF hg1 hg2⟩
     ·have e4:((im.length:Int) == 0)=false:=by rw [beq_eq_false_iff_ne];omega
      go_enter Tryd.func58,Tryd.ntmps58
      go_wp2_with fail
      refine HV.out.mono ?_
      rintro e w1 ⟨rfl,hg1⟩
      go_wp2_with fail
      refine (HID w1 hg1).out.mono ?_
      rintro e w2 ⟨rfl,hg2⟩
      go_wp2
      go_ret
      exact ⟨yH HC.out.symm,zF hg1 hg2⟩
    ·have HC:=Kh (c_in (im:=im) H1.out H2.out h3 h4)
     have e4:((im.length:Int) == 0)=false:=by rw [beq_eq_false_iff_ne];omega
     have h5:im.length≤6:=by omega
     have h6:0 < im.length:=by omega
     clear h4
     go_enter Tryd.func58,Tryd.ntmps58
     go_wp2_with fail
     refine HV.out.mono ?_
     rintro e w1 ⟨rfl,hg1⟩
     go_wp2_with fail
     refine (HID w1 hg1).out.mono ?_
     rintro e w2 ⟨rfl,hg2⟩
     have hgw:=zF hg1 hg2
     obtain ⟨ib,io,icc,e,_,_,_,hra⟩:=(HI.out.kept hgw (by simp)).some_ (by rw [zM];exact h6)
     simp only [Value.slice.injEq] at e
     obtain ⟨rfl,-,-⟩:=e
     have RA:=Kh hra
     clear hra hg1 hg2
     go_wp2
     go_loopg [29] im.length (fun g i wr=>∃ k:Nat,g+k=im.length∧i=.int .i64 k∧qAF t.length im k∧w2=wr)
     case atStart=>exact ⟨0,rfl,rfl,fun x hx=>absurd hx (by omega),rfl⟩
     case round =>
      obtain ⟨y,hg,rfl,hok,rfl⟩:=hrel
      have OKY:=Kh hok;have HG2:=Kh hg;clear hok hg
      by_cases hy:y < im.length
      ·have hcy:=RA.out.int y hy
       obtain ⟨z,hz⟩:∃ z,z=im.getD y 0:=⟨_,rfl⟩
       rw [← hz] at hcy
       have HZ:=Kh hz;clear hz
       by_cases hb1:z < 0
       ·have HN:Hid (inB t.length im=false):=Kh (bD hy (by rw [← HZ.out];exact .inl hb1))
        go_wp2
        go_ret
        exact ⟨yH (by rw [HC.out,HN.out];rfl),hgw⟩
       ·by_cases hb2:(t.length:Int)≤z
        ·have HN:Hid (inB t.length im=false):=Kh (bD hy (by rw [← HZ.out];exact .inr hb2))
         go_wp2
         go_ret
         exact ⟨yH (by rw [HC.out,HN.out];rfl),hgw⟩
        ·go_wp2
         go_roundg (im.length - (y+1))
         case measure=>have:=HG2.out;omega
         case rel =>
          refine ⟨y+1,by omega,by go_num,fun x hx=>?_,rfl⟩
          rcases Nat.lt_succ_iff_lt_or_eq.1 hx with hx|rfl
          ·exact OKY.out x hx
          ·rw [← HZ.out];omega
      ·have HY:Hid (inB t.length im=true):=Kh (qB.2 (fun x hx=>OKY.out x (by omega)))
       go_wp2
       go_ret
       exact ⟨yH (by rw [HC.out,HY.out];rfl),hgw⟩
 ·have hb:(xM t != 0)=true:=by rw [bne_iff_ne];exact h1
  have HC:=Kh (qDH (im:=im) h1)
  clear h1
  go_enter Tryd.func58,Tryd.ntmps58
  go_wp2_with fail
  refine HV.out.mono ?_
  rintro e w1 ⟨rfl,hg1⟩
  go_wp2
  go_ret
  exact ⟨yH HC.out.symm,hg1⟩
theorem xD (w:World) (n:Int) :
  Calls Tryd.prog 80 #[.int .i64 n] w fun e w'=>e=.returned (.bool (decide (1≤n∧n≤6)))∧w=w':=by
 by_cases h:1≤n
 ·go_enter Tryd.func80,Tryd.ntmps80
  go_wp2
  go_ret
  exact ⟨zZ (by simp [h]),rfl⟩
 ·go_enter Tryd.func80,Tryd.ntmps80
  go_wp2
  go_ret
  exact ⟨zZ (by simp;omega),rfl⟩
set_option maxHeartbeats 800000 in
theorem bB (B:Nat) (w:World) (v iv:Value) (t:List (List Int)) (im:List Int) (h:Mat B w v t) (hi:Row B w iv (ints im)) :
  Calls Tryd.prog 61 #[v,iv] w fun e w'=>e=.returned (.int .i64 (yS t im))∧∃ m,w'=w.drewN m:=by
 have hlm:=h.len_le
 unfold maxLen at hlm
 have him:=hi.len_le
 rw [zM] at him
 unfold maxLen at him
 have H:=Kh h;have HI:=Kh hi
 have hv:=validate14_any B w v t h
 have HV:=Kh hv
 obtain ⟨sa,sc,rfl⟩:=h.shape
 obtain ⟨ia,ic,rfl⟩:=hi.shape
 rw [zM]
 clear h hv hi
 by_cases h1:xM t=0
 ·rw [h1] at HV
  have H1:=Kh h1
  have HID:∀ m,Hid (Calls Tryd.prog 33 #[.slice sa t.length sc] (w.drewN m) fun e w'=>e=.returned (.int .i64 (vC t))∧w.drewN m=w'):=fun m =>
   Kh (oD B _ _ t (H.out.of_heap rfl) (uY H1.out).1)
  clear h1
  rcases mV t with h2|⟨e0,h2,he0,hei⟩
  ·have HC:=Kh (qDI (im:=im) H1.out h2)
   rw [h2] at HID
   clear h2
   go_enter Tryd.func61,Tryd.ntmps61
   go_wp2_with fail
   refine HV.out.mono ?_
   rintro e w1 ⟨rfl,m,rfl⟩
   go_wp2_with fail
   refine (HID m).out.mono ?_
   rintro e w2 ⟨rfl,rfl⟩
   go_wp2
   go_ret
   exact ⟨yH HC.out.symm,m,rfl⟩
  ·have h2':¬ vC t = -1:=by omega
   have H2:=Kh h2'
   rw [h2] at HID
   have hne:((e0:Int) == -1)=false:=by rw [beq_eq_false_iff_ne];omega
   clear h2 h2' hei
   by_cases h3:12 < t.length
   ·have HC:=Kh (c_big (im:=im) H1.out H2.out h3)
    go_enter Tryd.func61,Tryd.ntmps61
    go_wp2_with fail
    refine HV.out.mono ?_
    rintro e w1 ⟨rfl,m,rfl⟩
    go_wp2_with fail
    refine (HID m).out.mono ?_
    rintro e w2 ⟨rfl,rfl⟩
    go_wp2
    go_ret
    exact ⟨yH HC.out.symm,m,rfl⟩
   ·by_cases h4:im.length=0∨6 < im.length
    ·have HC:=Kh (c_len (im:=im) H1.out H2.out h3 h4)
     have hml:decide (1≤(im.length:Int)∧(im.length:Int)≤6)=false:=by rw [decide_eq_false_iff_not];omega
     have HML:∀ m,Hid (Calls Tryd.prog 80 #[.int .i64 im.length] (w.drewN m) fun e w'=>e=.returned (.bool false)∧w.drewN m=w'):=fun m=>by
      have:=xD (w.drewN m) im.length
      rw [hml] at this
      exact Kh this
     clear hml h4
     go_enter Tryd.func61,Tryd.ntmps61
     go_wp2_with fail
     refine HV.out.mono ?_
     rintro e w1 ⟨rfl,m,rfl⟩
     go_wp2_with fail
     refine (HID m).out.mono ?_
     rintro e w2 ⟨rfl,rfl⟩
     go_wp2_with fail
     refine (HML m).out.mono ?_
     rintro e w2 ⟨rfl,rfl⟩
     go_wp2
     go_ret
     exact ⟨yH HC.out.symm,m,rfl⟩
    ·have HC:=Kh (c_in (im:=im) H1.out H2.out h3 h4)
     have hml:decide (1≤(im.length:Int)∧(im.length:Int)≤6)=true:=by rw [decide_eq_true_eq];omega
     have HML:∀ m,Hid (Calls Tryd.prog 80 #[.int .i64 im.length] (w.drewN m) fun e w'=>e=.returned (.bool true)∧w.drewN m=w'):=fun m=>by
      have:=xD (w.drewN m) im.length
      rw [hml] at this
      exact Kh this
     have HIN:∀ m,Hid (Calls Tryd.prog 69 #[.slice sa t.length sc,.slice ia im.length ic] (w.drewN m) fun e w'=>e=.returned (.bool (inB t.length im))∧w.drewN m=w'):=fun m=>by
      have h1:=HI.out.of_heap (w':=w.drewN m) rfl
      rw [zM] at h1
      exact Kh (in14_any B _ sa t.length sc _ im hlm h1)
     clear hml h4
     cases hb:inB t.length im
     ·rw [hb] at HC HIN
      clear hb
      go_enter Tryd.func61,Tryd.ntmps61
      go_wp2_with fail
      refine HV.out.mono ?_
      rintro e w1 ⟨rfl,m,rfl⟩
      go_wp2_with fail
      refine (HID m).out.mono ?_
      rintro e w2 ⟨rfl,rfl⟩
      go_wp2_with fail
      refine (HML m).out.mono ?_
      rintro e w2 ⟨rfl,rfl⟩
      go_wp2_with fail
      refine (HIN m).out.mono ?_
      rintro e w2 ⟨rfl,rfl⟩
      go_wp2
      go_ret
      exact ⟨yH (by rw [HC.out];rfl),m,rfl⟩
     ·rw [hb] at HC HIN
      clear hb
      go_enter Tryd.func61,Tryd.ntmps61
      go_wp2_with fail
      refine HV.out.mono ?_
      rintro e w1 ⟨rfl,m,rfl⟩
      go_wp2_with fail
      refine (HID m).out.mono ?_
      rintro e w2 ⟨rfl,rfl⟩
      go_wp2_with fail
      refine (HML m).out.mono ?_
      rintro e w2 ⟨rfl,rfl⟩
      go_wp2_with fail
      refine (HIN m).out.mono ?_
      rintro e w2 ⟨rfl,rfl⟩
      go_wp2
      go_ret
      exact ⟨yH (by rw [HC.out];rfl),m,rfl⟩
 ·have hb:(xM t != 0)=true:=by rw [bne_iff_ne];exact h1
  have HC:=Kh (qDH (im:=im) h1)
  clear h1
  go_enter Tryd.func61,Tryd.ntmps61
  go_wp2_with fail
  refine HV.out.mono ?_
  rintro e w1 ⟨rfl,m,rfl⟩
  go_wp2
  go_ret
  exact ⟨yH HC.out.symm,m,rfl⟩
end Go.Proofs.YtdjhoadoiknaoaaDoor
namespace Go.Proofs.YtdjhoadoiknaoaaDoor
theorem aW {α:Type} {p q:α→Bool}:∀ (l:List α),(∀ a∈l,p a=true→q a=true)→(l.filter p).length≤(l.filter q).length
 | [],_=>Nat.le_refl _
 | a :: l,h=>by
  have ih:=aW l (fun b hb=>h b (List.mem_cons_of_mem _ hb))
  have ha:=h a (by simp)
  simp only [List.filter_cons]
  split <;> split <;> simp_all <;> omega
theorem aV {α:Type} {p q:α→Bool}:∀ (l:List α),(∀ a∈l,p a=true→q a=true)→(∃ a∈l,p a=false∧q a=true)→(l.filter p).length < (l.filter q).length
 | [],_,⟨a,ha,_⟩=>by simp at ha
 | a :: l,h,⟨b,hb,hp,hq⟩=>by
  have hl:=aW l (fun b hb=>h b (List.mem_cons_of_mem _ hb))
  have ha:=h a (by simp)
  rcases List.mem_cons.1 hb with rfl|hb
  ·simp only [List.filter_cons,hp,hq]
   simp;omega
  ·have ih:=aV l (fun b hb=>h b (List.mem_cons_of_mem _ hb)) ⟨b,hb,hp,hq⟩
   simp only [List.filter_cons]
   split <;> split <;> simp_all <;> omega
def gap (n:Nat) (l:List Nat):Nat:=((List.range (2 ^ n)).filter fun s=>!xV l s).length
theorem gap_le (n:Nat) (l:List Nat):gap n l≤2 ^ n:=by
 have:=List.length_filter_le (fun s=>!xV l s) (List.range (2 ^ n))
 rw [List.length_range] at this
 exact this
section
variable {n:Nat} {tb:Nat→Nat→Nat} {l:List Nat}
theorem kG (ht:Tb n tb) (hl:∀ b∈l,b < 2 ^ n) {s:Nat} (h:xV l s=true):xV (zV n tb l) s=true:=by
 rw [zV,sS (vJ ht hl)]
 obtain ⟨b,hb,hs⟩:=yX.1 h
 exact yX.2 ⟨b,vK.2 (.inl hb),hs⟩
theorem qBE {s:Nat} (h:s∈zV n tb l):s < 2 ^ n:=qBO h
theorem round_max (ht:Tb n tb) (hl:∀ b∈l,b < 2 ^ n):wT n (zV n tb l)=zV n tb l:=aO (vJ ht hl)
theorem aU (ht:Tb n tb) (hl:∀ b∈l,b < 2 ^ n) (hm:wT n l=l) (hne:zV n tb l≠l):gap n (zV n tb l) < gap n l:=by
 unfold gap
 apply aV
 ·intro s _ h
  cases hu:xV l s with
  | false=>rfl
  | true=>rw [kG ht hl hu] at h;exact h
 ·apply Classical.byContradiction
  intro hno
  apply hne
  have he:∀ s,xV (wV n tb l) s=xV l s:=by
   intro s
   rw [← sS (vJ ht hl)]
   show xV (zV n tb l) s=_
   cases hu:xV l s with
   | true=>exact kG ht hl hu
   | false =>
    cases hr:xV (zV n tb l) s with
    | false=>rfl
    | true=>exact absurd ⟨s,List.mem_range.2 (under_lt (fun b hb=>qBE hb) hr),by rw [hr];rfl,by rw [hu];rfl⟩ hno
  have:wT n (wV n tb l)=wT n l:=by
   unfold wT topB
   congr 1
   funext s
   rw [he]
   congr 1
   congr 1
   funext x
   rw [he]
  exact this.trans hm
def yZ (n:Nat) (tb:Nat→Nat→Nat):Nat→List Nat × Bool→List Nat × Bool
 | 0,f=>f
 | k+1,f=>if f.2 then f else yZ n tb k (zV n tb f.1,decide (zV n tb f.1=f.1))
def uU (n:Nat) (tb:Nat→Nat→Nat) (l:List Nat):List Nat:=(yZ n tb (2 ^ n+1) (l,false)).1
theorem uM (k:Nat) (l:List Nat):yZ n tb k (l,true)=(l,true):=by
 cases k <;> simp [yZ]
theorem uL (k:Nat) (l:List Nat):yZ n tb (k+1) (l,false)=yZ n tb k (zV n tb l,decide (zV n tb l=l)):=by simp [yZ]
theorem pQ (i j:Nat) (f:List Nat × Bool):yZ n tb (i+j) f=yZ n tb j (yZ n tb i f):=by
 induction i generalizing f with
 | zero=>simp [yZ]
 | succ i ih =>
  rw [Nat.succ_add]
  obtain ⟨l,d⟩:=f
  cases d with
  | true=>rw [uM,uM,uM]
  | false=>rw [uL,uL,ih]
def kD (n:Nat) (f:List Nat × Bool):Prop:=(∀ b∈f.1,b < 2 ^ n)∧wT n f.1=f.1
theorem nV (ht:Tb n tb) {l:List Nat} {d e:Bool} (h:kD n (l,d)):kD n (zV n tb l,e):=⟨fun _ hb=>qBE hb,round_max ht h.1⟩
theorem mN (ht:Tb n tb):∀ (k:Nat) (l:List Nat),kD n (l,false)→gap n l < k→(yZ n tb k (l,false)).2=true
 | 0,l,_,h=>by omega
 | k+1,l,hf,h=>by
  rw [uL]
  by_cases e:zV n tb l=l
  ·rw [e,decide_eq_true rfl,uM]
  ·rw [decide_eq_false e]
   exact mN ht k _ (nV ht hf) (by have:gap n (zV n tb l) < gap n l:=aU ht hf.1 hf.2 e;omega)
theorem jF {k:Nat} {f:List Nat × Bool} (h:(yZ n tb k f).2=true) (j:Nat):yZ n tb (k+j) f=yZ n tb k f:=by
 rw [pQ]
 generalize yZ n tb k f=g at h
 obtain ⟨l,d⟩:=g
 simp only at h
 subst h
 exact uM _ _
theorem roundsGo_stop (ht:Tb n tb) {l:List Nat} (hf:kD n (l,false)) {k:Nat} (h:(yZ n tb k (l,false)).2=true):(yZ n tb k (l,false)).1=uU n tb l:=by
 have h1:=mN ht (2 ^ n+1) l hf (by have:=gap_le n l;omega)
 unfold uU
 rcases Nat.le_total k (2 ^ n+1) with hk|hk
 ·obtain ⟨j,e⟩:∃ j,2 ^ n+1=k+j:=⟨2 ^ n+1 - k,by omega⟩
  rw [e,jF h]
 ·obtain ⟨j,rfl⟩:∃ j,k=2 ^ n+1+j:=⟨k - (2 ^ n+1),by omega⟩
  rw [jF h1]
end
end Go.Proofs.YtdjhoadoiknaoaaDoor
namespace Go.Proofs.YtdjhoadoiknaoaaDoor
open Go.RowKit
def genL (t:List (List Int)) (im:List Int):List Nat:=2 ^ (vC t).toNat :: im.map fun x=>2 ^ x.toNat
theorem kT (t:List (List Int)) (im:List Int):(genL t im).length=im.length+1:=by simp [genL]
theorem nT {t:List (List Int)} {im:List Int} (h:Good t im):∀ b∈genL t im,b < 2 ^ t.length:=by
 intro b hb
 obtain ⟨e,he,hel,_⟩:=h.ident
 rcases List.mem_cons.1 hb with rfl|hb
 ·rw [he];exact Nat.pow_lt_pow_right (by omega) hel
 ·obtain ⟨x,hx,rfl⟩:=List.mem_map.1 hb
  obtain ⟨i,hi,rfl⟩:=List.getElem_of_mem hx
  have:=qB.1 h.inb i hi
  simp only [List.getD,List.getElem?_eq_getElem hi,Option.getD_some] at this
  exact Nat.pow_lt_pow_right (by omega) (by omega)
def nS (t:List (List Int)) (im:List Int) (k:Nat):List Nat:=2 ^ (vC t).toNat :: (im.take k).map fun x=>2 ^ x.toNat
theorem dX {t:List (List Int)} {im:List Int} {k:Nat} (hk:k < im.length):nS t im (k+1)=nS t im k ++ [2 ^ (im.getD k 0).toNat]:=by
 simp only [nS,yG (d:=0) hk,List.map_append,List.map_cons,List.map_nil,List.cons_append]
theorem dY {t:List (List Int)} {im:List Int}:nS t im im.length=genL t im:=by simp [nS,genL]
def Gens (w:World) (t:List (List Int)) (im:List Int) (e:Ending) (w':World):Prop :=
 ∃ (sa:Option Addr) (sc:Nat),e=.returned (.slice sa (genL t im).length sc)∧w'.ownsRow w.heap.size 3 1 (.slice sa (genL t im).length sc) (genL t im).length (nats (genL t im))∧w.grownBy w' none
set_option maxHeartbeats 800000 in
theorem oE (B:Nat) (w:World) (v iv:Value) (t:List (List Int)) (im:List Int) (hB:B≤w.heap.size) (h:Mat B w v t) (hi:Row B w iv (ints im)) (hg:Good t im) :
  Calls Tryd.prog 60 #[v,iv] w (Gens w t im):=by
 have HI:=Kh hi;have HGD:=Kh hg
 obtain ⟨e0,he,hel,_⟩:=hg.ident
 have hle:=hg.le
 have h0:=hg.im0
 have h6:=hg.im6
 have hid:=mU B w v t hB h
 rw [pU hg.valid] at hid
 rw [he] at hid
 have HID:=Kh hid
 have hsh:=qE (m:=e0) (by omega)
 have hsh':=nG (m:=e0) (by omega)
 obtain ⟨M,hM⟩:∃ M,M=2 ^ e0:=⟨_,rfl⟩
 rw [← hM] at hsh hsh'
 have hg0:Hid (nS t im 0=[M]):=Kh (by simp [nS,he,hM])
 have hM4:M≤4096:=by rw [hM];have:=uR (show e0≤12 by omega);omega
 obtain ⟨ib,io,ic,rfl,_,_,_,_⟩:=hi.some_ (by rw [zM];exact h0)
 rw [zM]
 clear h hi hg he hid hM
 go_enter Tryd.func60,Tryd.ntmps60
 go_wp2_with fail
 refine HID.out.mono ?_
 rintro e w1 ⟨rfl,hg1⟩
 have hown0:(w1.alloc (.cells #[.int .i64 (M:Int)] 3)).ownsRow w.heap.size 3 1 (.slice (some ⟨w1.heap.size,0,none⟩) 1 1) 1 (nats [M]) :=
  yJ (World.ownsRow_lit w1 #[.int .i64 (M:Int)] 1 (Nat.le_refl _) (by unfold maxLen;omega) (by simp)) hg1.size
 have HOWN0:=Kh hown0
 have hgA:=Kh (yA hg1 (.cells #[.int .i64 (M:Int)] 3))
 clear hown0
 go_wp2
 go_loopg [5,14] im.length (fun g ov i wr=>∃ (k:Nat) (sa:Option Addr) (sc:Nat),g+k=im.length∧i=.int .i64 k∧ov=.slice sa (k+1) sc∧wr.ownsRow w.heap.size 3 1 (.slice sa (k+1) sc) (k+1) (nats (nS t im k))∧w.grownBy wr none)
 case atStart=>exact ⟨0,some ⟨w1.heap.size,0,none⟩,1,rfl,rfl,rfl,by rw [hg0.out];exact HOWN0.out,hgA.out⟩
 case round =>
  clear HOWN0 hgA
  obtain ⟨k,sa,sc,hg,rfl,rfl,hown,hgr⟩:=hrel
  have HG:=Kh hg;have HOWN:=Kh hown;clear hg hown
  by_cases hk:k < im.length
  ·have hk':(k:Int) < im.length:=by omega
   obtain ⟨ib',io',ic',e,_,_,_,hra⟩:=(HI.out.kept hgr (by simp)).some_ (by rw [zM];exact h0)
   simp only [Value.slice.injEq,Option.some.injEq,Addr.mk.injEq,and_true] at e
   obtain ⟨⟨rfl,rfl⟩,-,-⟩:=e
   have ck:=hra.int k hk
   have hin:=qB.1 HGD.out.inb k hk
   obtain ⟨x,hx⟩:∃ x:Nat,(x:Int)=im.getD k 0:=⟨(im.getD k 0).toNat,by omega⟩
   rw [← hx] at ck hin
   have hxl:x < t.length:=by omega
   have hsx:=qE (m:=x) (by omega)
   have hsx':=nG (m:=x) (by omega)
   obtain ⟨X,hX⟩:∃ X,X=2 ^ x:=⟨_,rfl⟩
   rw [← hX] at hsx hsx'
   have hgt:Hid (nS t im (k+1)=nS t im k ++ [X]):=Kh (by rw [dX hk,← hx,hX];rfl)
   clear hra hx hX hin
   go_wp2_with (at_builtin;refine app1 rfl _ _ _ rfl yC w.heap.size _ (k+1) (nats (nS t im k)) rfl HOWN.out _ rfl rfl ?c1 ?c2 ?c3 ?_)
   case c1=>unfold maxLen;omega
   case c2=>omega
   case c3=>exact hgr.size
   intro sa' sc' w3 hown3 hg3 hlt3
   have HO3:=Kh hown3;have HG3:=Kh hg3
   clear hown3 hg3
   go_wp2
   go_roundg (im.length - (k+1))
   case measure=>have:=HG.out;omega
   case rel =>
    refine ⟨k+1,sa',sc',by omega,by go_num,rfl,?_,zG hgr HG3.out (fun q e=>(HOWN.out.lt q e).1)⟩
    rw [hgt.out,wE]
    first|exact HO3.out|(have h1:=HO3.out;rw [hsx] at h1;exact h1)|(have h1:=HO3.out;rw [hsx'] at h1;exact h1)
  ·have hkn:k=im.length:=by have:=HG.out;omega
   have hgf:Hid (nS t im k=genL t im∧(genL t im).length=k+1):=Kh ⟨by rw [hkn,dY],by rw [kT,hkn]⟩
   clear hkn
   go_wp2
   go_ret
   refine ⟨sa,sc,by rw [hgf.out.2];rfl,?_,hgr⟩
   rw [hgf.out.2,← hgf.out.1]
   exact HOWN.out
set_option maxHeartbeats 800000 in
theorem begin40_any (B:Nat) (w:World) (v iv:Value) (t:List (List Int)) (im:List Int) (hB:B≤w.heap.size) (h:Mat B w v t) (hi:Row B w iv (ints im)) (hg:Good t im) :
  Calls Tryd.prog 63 #[v,iv] w (Gens w t im):=by
 have HI:=Kh hi;have HGD:=Kh hg
 obtain ⟨e0,he,hel,_⟩:=hg.ident
 have hle:=hg.le
 have h0:=hg.im0
 have h6:=hg.im6
 have hid:=oD B w v t h (uY hg.valid).1
 rw [he] at hid
 have HID:=Kh hid
 have hsh:=qE (m:=e0) (by omega)
 have hsh':=nG (m:=e0) (by omega)
 obtain ⟨M,hM⟩:∃ M,M=2 ^ e0:=⟨_,rfl⟩
 rw [← hM] at hsh hsh'
 have hg0:Hid (nS t im 0=[M]):=Kh (by simp [nS,he,hM])
 have hM4:M≤4096:=by rw [hM];have:=uR (show e0≤12 by omega);omega
 obtain ⟨ib,io,ic,rfl,_,_,_,_⟩:=hi.some_ (by rw [zM];exact h0)
 rw [zM]
 clear h hi hg he hid hM
 go_enter Tryd.func63,Tryd.ntmps63
 go_wp2_with fail
 refine HID.out.mono ?_
 rintro e w ⟨rfl,rfl⟩
 have hg1:=zW w none
 have hown0:(w.alloc (.cells #[.int .i64 (M:Int)] 3)).ownsRow w.heap.size 3 1 (.slice (some ⟨w.heap.size,0,none⟩) 1 1) 1 (nats [M]) :=
  yJ (World.ownsRow_lit w #[.int .i64 (M:Int)] 1 (Nat.le_refl _) (by unfold maxLen;omega) (by simp)) hg1.size
 have HOWN0:=Kh hown0
 have hgA:=Kh (yA hg1 (.cells #[.int .i64 (M:Int)] 3))
 clear hown0
 go_wp2
 go_loopg [5,15] im.length (fun g ov i wr=>∃ (k:Nat) (sa:Option Addr) (sc:Nat),g+k=im.length∧i=.int .i64 k∧ov=.slice sa (k+1) sc∧wr.ownsRow w.heap.size 3 1 (.slice sa (k+1) sc) (k+1) (nats (nS t im k))∧w.grownBy wr none)
 case atStart=>exact ⟨0,some ⟨w.heap.size,0,none⟩,1,rfl,rfl,rfl,by rw [hg0.out];exact HOWN0.out,hgA.out⟩
 case round =>
  clear HOWN0 hgA
  obtain ⟨k,sa,sc,hg,rfl,rfl,hown,hgr⟩:=hrel
  have HG:=Kh hg;have HOWN:=Kh hown;clear hg hown
  by_cases hk:k < im.length
  ·have hk':(k:Int) < im.length:=by omega
   obtain ⟨ib',io',ic',e,_,_,_,hra⟩:=(HI.out.kept hgr (by simp)).some_ (by rw [zM];exact h0)
   simp only [Value.slice.injEq,Option.some.injEq,Addr.mk.injEq,and_true] at e
   obtain ⟨⟨rfl,rfl⟩,-,-⟩:=e
   have ck:=hra.int k hk
   have hin:=qB.1 HGD.out.inb k hk
   obtain ⟨x,hx⟩:∃ x:Nat,(x:Int)=im.getD k 0:=⟨(im.getD k 0).toNat,by omega⟩
   rw [← hx] at ck hin
   have hxl:x < t.length:=by omega
   have hsx:=qE (m:=x) (by omega)
   have hsx':=nG (m:=x) (by omega)
   obtain ⟨X,hX⟩:∃ X,X=2 ^ x:=⟨_,rfl⟩
   rw [← hX] at hsx hsx'
   have hgt:Hid (nS t im (k+1)=nS t im k ++ [X]):=Kh (by rw [dX hk,← hx,hX];rfl)
   clear hra hx hX hin
   go_wp2_with (at_builtin;refine app1 rfl _ _ _ rfl yC w.heap.size _ (k+1) (nats (nS t im k)) rfl HOWN.out _ rfl rfl ?c1 ?c2 ?c3 ?_)
   case c1=>unfold maxLen;omega
   case c2=>omega
   case c3=>exact hgr.size
   intro sa' sc' w3 hown3 hg3 hlt3
   have HO3:=Kh hown3;have HG3:=Kh hg3
   clear hown3 hg3
   go_wp2
   go_roundg (im.length - (k+1))
   case measure=>have:=HG.out;omega
   case rel =>
    refine ⟨k+1,sa',sc',by omega,by go_num,rfl,?_,zG hgr HG3.out (fun q e=>(HOWN.out.lt q e).1)⟩
    rw [hgt.out,wE]
    first|exact HO3.out|(have h1:=HO3.out;rw [hsx] at h1;exact h1)|(have h1:=HO3.out;rw [hsx'] at h1;exact h1)
  ·have hkn:k=im.length:=by have:=HG.out;omega
   have hgf:Hid (nS t im k=genL t im∧(genL t im).length=k+1):=Kh ⟨by rw [hkn,dY],by rw [kT,hkn]⟩
   clear hkn
   go_wp2
   go_ret
   refine ⟨sa,sc,by rw [hgf.out.2];rfl,?_,hgr⟩
   rw [hgf.out.2,← hgf.out.1]
   exact HOWN.out
end Go.Proofs.YtdjhoadoiknaoaaDoor
