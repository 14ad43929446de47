/- Part 45 of the proof: DerRound, DerBegin. -/
import Derived.Test.YtdjhoadoiknaoaaDoorZC44
set_option linter.unusedVariables false
set_option linter.unusedSimpArgs false
namespace Go.Proofs.YtdjhoadoiknaoaaDoor
open Go.RowKit
theorem Arr.but {w w':World} {F:Nat→Prop} {k e:Nat} {xs:List Value} (h:Arr w k e xs) (hg:GrownBut w w' F) (hn:¬ F k):Arr w' k e xs:=by
 obtain ⟨cur,rest,h1,h2⟩:=h
 exact ⟨cur,rest,hg.heap h1 hn,h2⟩
structure FamRow (w:World) (dp g go kb:Nat) (l:List Nat):Prop where
 arr:Arr w kb 3 (nats l)
 nd:kb≠dp
 ng:kb≠g
 no:kb≠go
theorem FamRow.but {C dp g go kb : Nat} {w w' : World} {l : List Nat} (h : FamRow w dp g go kb l) (hg : GrownBut w w' (DerF C dp g go w)) : FamRow w' dp g go kb l :=
 ⟨h.arr.but hg (fun hf => by
  rcases hf with e | e | e | ⟨_, c, m, e⟩
  ·exact h.nd e
  ·exact h.ng e
  ·exact h.no e
  ·obtain ⟨cur, rest, h1, _⟩ := h.arr
   rw [h1] at e
   simp only [Option.some.injEq, Obj.cells.injEq] at e
   exact absurd e.2.1 (by decide)), h.nd, h.ng, h.no⟩
structure DState (F C:Nat) (w0 w:World) (p go dp g:Nat) (t:List (List Int)) (im:List Int) (ix0:List Nat) (ss:List StepV) (ix:List Nat):Prop where
 sets:wH F C w p go t.length (entN t)
 der:DerAt C w dp p g t.length ss ix
 ok:DerS t im ss ix
 le:IxLe ix0 ix
 but:GrownBut w0 w (DerF C dp g go w0)
 tab:TabOk w
 sz:C≤w.heap.size
section
variable {F C p go dp g:Nat} {w0 w w':World} {t:List (List Int)} {im:List Int} {ix0 ix:List Nat} {ss:List StepV}
theorem DState.quiet (h:DState F C w0 w p go dp g t im ix0 ss ix) (hg:w.grownBy w' none):DState F C w0 w' p go dp g t im ix0 ss ix where
 sets:=h.sets.kept hg (by simp)
 der:=h.der.grown hg (by simp)
 ok:=h.ok
 le:=h.le
 but:=h.but.step hg (by simp)
 tab:=h.tab.kept hg (by simp)
 sz:=Nat.le_trans h.sz hg.size
theorem DState.goes (h:DState F C w0 w p go dp g t im ix0 ss ix) (hs:wH F C w' p go t.length (entN t)) (hg:w.grownBy w' (some go)) (htF:1 < F):DState F C w0 w' p go dp g t im ix0 ss ix where
 sets:=hs
 der:=h.der.grown hg (fun k e=>by have e:go=k:=Oj e;have:=h.sets.go_lt';omega)
 ok:=h.ok
 le:=h.le
 but:=h.but.step hg (fun k e=>.inl (.inr (.inr (.inl (Oj e).symm))))
 tab:=h.tab.kept hg (fun e=>by have e:go=1:=Oj e;have:=h.sets.go_lt';omega)
 sz:=Nat.le_trans h.sz hg.size
theorem DState.add {st:StepV} {x:Nat} {e:Ending} (h:DState F C w0 w p go dp g t im ix0 ss ix) (ha:DAddOk C w dp p g t.length ss ix st x e w') (hd:DerS t im (addS ss ix st x).1 (addS ss ix st x).2) (hx:x < 2 ^ t.length) (hFC:F≤C) (htF:1 < F):DState F C w0 w' p go dp g t im ix0 (addS ss ix st x).1 (addS ss ix st x).2:=by
 obtain ⟨_,h1,h2⟩:=ha
 have hb:=derF_below h2 h.der.lo.1 h.der.lo.2 h.sz
 exact ⟨h.sets.below hb (Nat.le_refl _),h1,hd,h.le.trans (kT h.ok.i hx).1,lE h.but (h2.weak fun k=>derF_go),h.tab.below hb (by omega),Nat.le_trans h.sz h2.size⟩
end
def lI (t:List (List Int)) (l:List Nat) (ix:List Nat) (k:Nat):Prop:=∀ i,i < k→(∀ j,j < l.length→ix.getD (zP t.length (entN t) (l.getD i 0) (l.getD j 0)) 0≠0)∧ix.getD (yC t.length (entN t) (l.getD i 0)) 0≠0
def RowIn (t:List (List Int)) (l:List Nat) (ix:List Nat) (i m:Nat):Prop:=∀ j,j < m→ix.getD (zP t.length (entN t) (l.getD i 0) (l.getD j 0)) 0≠0
theorem lI.le {t:List (List Int)} {l ix ix':List Nat} {k:Nat} (h:lI t l ix k) (hl:IxLe ix ix'):lI t l ix' k:=fun i hi=>⟨fun j hj=>hl.ne ((h i hi).1 j hj),hl.ne (h i hi).2⟩
theorem RowIn.le {t:List (List Int)} {l ix ix':List Nat} {i m:Nat} (h:RowIn t l ix i m) (hl:IxLe ix ix'):RowIn t l ix' i m:=fun j hj=>hl.ne (h j hj)
def DRoundOk (F C:Nat) (w:World) (p go dp g:Nat) (t:List (List Int)) (im:List Int) (ix:List Nat) (l:List Nat) (e:Ending) (w':World):Prop :=
 e=.returned (.tuple #[])∧∃ ss' ix',DState F C w w' p go dp g t im ix ss' ix'∧lI t l ix' l.length
set_option maxRecDepth 100000 in
set_option maxHeartbeats 1000000 in
theorem dround_any (F C:Nat) (w:World) (p go dp g kb cap:Nat) (t:List (List Int)) (im:List Int) (ss:List StepV) (ix l:List Nat) (hst:DState F C w w p go dp g t im ix ss ix) (hgd:Good t im) (hfr:FamRow w dp g go kb l) (hl:∀ a∈l,a < 2 ^ t.length∧ix.getD a 0≠0) (hll:l.length≤4096) (hFC:F≤C) (htF:1 < F) :
  Calls Tryd.prog 78 #[.pointer (some ⟨dp,0,none⟩),.slice (some ⟨kb,0,none⟩) l.length cap] w (DRoundOk F C w p go dp g t im ix l):=by
 have hn:=hgd.le
 have HGD:=Kh hgd;have HL:=Kh hl;have HST:=Kh hst;have HFR:=Kh hfr;have HTB:=Kh (tb_of hgd.valid)
 obtain ⟨N,hN⟩:∃ N,N=2 ^ t.length:=⟨_,rfl⟩
 have HN:=Kh hN
 have hN4:N≤4096:=by have:=uG hn;omega
 clear hgd hl hst hfr hN
 go_enter Tryd.func78,Tryd.ntmps78
 go_wp2
 go_loopg [11] l.length (fun gh i wr=>∃ (k:Nat) (ss:List StepV) (ix':List Nat),gh+k=l.length∧i=.int .i64 k∧Hid (DState F C w wr p go dp g t im ix ss ix')∧Hid (lI t l ix' k))
 case atStart=>exact ⟨0,ss,ix,rfl,rfl,HST,Kh (fun i hi=>absurd hi (by omega))⟩
 case round =>
  clear HST
  obtain ⟨k,ss,ix',hgh,rfl,HS,HP⟩:=hrel
  have HGH:=Kh hgh
  clear hgh
  by_cases hk:¬ k < l.length
  ·have hk':¬ (k:Int) < l.length:=by omega
   have HE:Hid (k=l.length):=Kh (by have:=HGH.out;omega)
   go_wp2
   go_end0
   exact ⟨rfl,ss,ix',HS.out,by rw [← HE.out];exact HP.out⟩
  replace hk:k < l.length:=by omega
  have hk':(k:Int) < l.length:=by omega
  have hfr:=HFR.out.but HS.out.but
  have ck:=hfr.arr.nat k hk
  obtain ⟨a,ha⟩:∃ a,a=l.getD k 0:=⟨_,rfl⟩
  obtain ⟨haN,ha0⟩:=HL.out a (by rw [ha];exact wY hk)
  rw [← ha] at ck
  rw [← HN.out] at haN
  have haX:=HS.out.le a ha0
  have haN':(a:Int) < N:=by omega
  obtain ⟨sa,sc,hbx,how⟩:=HS.out.der.box
  rw [← HN.out] at hbx
  obtain ⟨d0,d1,d2⟩:=vJ hbx
  have cx:=HS.out.der.arr.nat a (by rw [HS.out.der.len,← HN.out];exact haN)
  obtain ⟨A,hA⟩:∃ A,A=ix'.getD a 0:=⟨_,rfl⟩
  rw [← hA] at cx
  have hAS:=HS.out.ok.at_set (x:=a) (by rw [← HN.out];exact haN) (by rw [haX];exact ha0)
  have hle:=HS.out.ok.i.le
  rw [← HN.out] at hle
  have hA1:1≤A:=by rw [hA,haX];omega
  have hA2:A≤4096:=by rw [hA];omega
  have HA:=Kh hA;have HAK:=Kh ha;have HA0:=Kh ha0
  have HA1:Hid (((A - 1:Nat):Int)=(A:Int) - 1):=Kh (by omega)
  clear hfr ha ha0 haX hbx how hA hAS hle
  go_wp2
  clear ck cx d0 d1 d2
  obtain ⟨wk,hwk⟩:∃ wk:World,wk=wr:=⟨_,rfl⟩
  have HWK:=Kh hwk
  clear hwk
  go_loopg [25] l.length (fun gj i wr=>∃ (j:Nat) (ss:List StepV) (ix':List Nat),gj+j=l.length∧i=.int .i64 j∧Hid (DState F C w wr p go dp g t im ix ss ix')∧Hid (lI t l ix' k)∧Hid (RowIn t l ix' k j)∧Hid (ix'.getD a 0=A))
  case atStart=>exact ⟨0,ss,ix',rfl,rfl,HS,HP,Kh (fun j hj=>absurd hj (by omega)),Kh HA.out.symm⟩
  case round =>
   clear HS HP HA HWK
   obtain ⟨j,ss,ix',hgj,rfl,HS,HP,HR,HA⟩:=hrel
   have HGJ:=Kh hgj
   clear hgj
   obtain ⟨sa,sc,hbx,how⟩:=HS.out.der.box
   rw [← HN.out] at hbx
   obtain ⟨d0,d1,d2⟩:=vJ hbx
   have HBX:=Kh hbx
   by_cases hj:j < l.length
   ·have hj':(j:Int) < l.length:=by omega
    have hfr:=HFR.out.but HS.out.but
    have cj:=hfr.arr.nat j hj
    obtain ⟨b,hb⟩:∃ b,b=l.getD j 0:=⟨_,rfl⟩
    obtain ⟨hbN,hb0⟩:=HL.out b (by rw [hb];exact wY hj)
    rw [← hb] at cj
    rw [← HN.out] at hbN
    have hbX:=HS.out.le b hb0
    have hbN':(b:Int) < N:=by omega
    have cx:=HS.out.der.arr.nat b (by rw [HS.out.der.len,← HN.out];exact hbN)
    obtain ⟨X,hX⟩:∃ X,X=ix'.getD b 0:=⟨_,rfl⟩
    rw [← hX] at cx
    have hXS:=HS.out.ok.at_set (x:=b) (by rw [← HN.out];exact hbN) (by rw [hbX];exact hb0)
    have hle:=HS.out.ok.i.le
    rw [← HN.out] at hle
    have hX1:1≤X:=by rw [hX,hbX];omega
    have hX2:X≤4096:=by rw [hX];omega
    have HX:=Kh hX;have HBJ:=Kh hb;have HB0:=Kh hb0;have HLE:=Kh hle
    obtain ⟨X1,hX1e⟩:∃ X1,X1=X - 1:=⟨_,rfl⟩
    have hwX:IntKind.i64.wrap ((X:Int) - 1)=(X1:Int):=by rw [IntWalk.i64_in _ (by omega)];omega
    have HX1:=Kh hX1e
    clear hX1e
    obtain ⟨P,hP⟩:∃ P,P=zP t.length (entN t) a b:=⟨_,rfl⟩
    have HP_:=Kh hP
    have hPN:P < N:=by rw [hP,HN.out];exact xU HTB.out.lt _ _
    have HCP:Hid (∀ W:World,wr.grownBy W none→Calls Tryd.prog 53 #[.pointer (some ⟨p,0,none⟩),.int .i64 (a:Int),.int .i64 (b:Int)] W fun e w'=>e=.returned (.int .i64 (P:Int))∧wr.grownBy w' none):=Kh (fun W hW=>by
     have h1:=HS.out.quiet hW
     refine (tW F C W p go t.length (entN t) a b h1.sets HTB.out.lt hn (by rw [← HN.out];exact haN) (by rw [← HN.out];exact hbN) h1.tab).mono ?_
     rintro e w' ⟨rfl,m,rfl⟩
     exact ⟨by rw [hP],zF hW (zJ W m none) (by simp)⟩)
    have HCA:Hid (∀ W:World,wr.grownBy W none→Calls Tryd.prog 100 #[.pointer (some ⟨dp,0,none⟩),.agg #[.int .i64 2,.int .i64 ((A:Int) - 1),.int .i64 (X1:Int),.string ⟨#[]⟩,.int .i64 (P:Int)]] W fun e w'=>e=.returned (.tuple #[])∧∃ ss2 ix2,DState F C w w' p go dp g t im ix ss2 ix2∧IxLe ix' ix2∧ix2.getD P 0≠0):=Kh (fun W hW=>by
     have h1:=HS.out.quiet hW
     refine (lX C W dp p g t.length ss ix' ⟨2,((A:Int) - 1),(X1:Int),⟨#[]⟩,(P:Int)⟩ P h1.der (by omega) (by rw [← HN.out];exact hPN) rfl hn h1.sz).mono ?_
     intro e w' h2
     have h3:=h1.ok.product HGD.out (a:=a) (b:=b) (by rw [← HN.out];exact haN) (by rw [← HN.out];exact hbN) (by rw [HA.out];omega) (by rw [← HX.out];omega)
     rw [← HP_.out,HA.out,← HX.out,HA1.out,← HX1.out] at h3
     have h4:=kT (st:=⟨2,((A:Int) - 1),(X1:Int),⟨#[]⟩,(P:Int)⟩) h1.ok.i (x:=P) (by rw [← HN.out];exact hPN)
     exact ⟨h2.1,_,_,h1.add h2 h3 (by rw [← HN.out];exact hPN) hFC htF,h4.1,h4.2⟩)
    have GA:wr.grownBy wr.drew none:=zU _ _
    have HCB:Hid (∀ W ss2 ix2,DState F C w W p go dp g t im ix ss2 ix2→IxLe ix' ix2→W.cell? ⟨dp,0,none⟩=some (.pointer (some ⟨p,0,none⟩))∧W.cell? ⟨dp,2,none⟩=some (.slice (some ⟨g,0,none⟩) N N)∧W.cell? ⟨g,b,none⟩=some (.int .i64 (X:Int))):=Kh (fun W ss2 ix2 h1 h2=>by
     obtain ⟨sa2,sc2,hb2,_⟩:=h1.der.box
     rw [← HN.out] at hb2
     obtain ⟨e0,_,e2⟩:=vJ hb2
     have e3:=h1.der.arr.nat b (by rw [h1.der.len,← HN.out];exact hbN)
     rw [h2 b (by rw [← HX.out];omega),← HX.out] at e3
     exact ⟨e0,e2,e3⟩)
    clear hfr hb hb0 hbX hX hXS hle hP hbx how
    go_wp2
    go_region_held3 (fun W=>W.cell? ⟨dp,0,none⟩=some (.pointer (some ⟨p,0,none⟩))∧W.cell? ⟨dp,2,none⟩=some (.slice (some ⟨g,0,none⟩) N N)∧W.cell? ⟨g,b,none⟩=some (.int .i64 (X:Int)))
     (first|go_keep|exact HCB.out _ _ _ (HS.out.quiet hG7) (IxLe.refl _)|exact HCB.out _ _ _ hD8 hL8|fail)
     (first|(go_at_call 53;(with_reducible refine (HCP.out _ GA).mono ?_);rintro e w7 ⟨rfl,hG7⟩)|(go_at_call 100;(with_reducible refine (HCA.out _ hG7).mono ?_);rintro e w8 ⟨rfl,ss2,ix2,hD8,hL8,hP8⟩)|fail)
    have HD8:=Kh hD8
    have HP8:Hid (lI t l ix2 k):=Kh (HP.out.le hL8)
    have HR8:Hid (RowIn t l ix2 k (j+1)):=Kh (fun i hi=>by
     rcases Nat.lt_succ_iff_lt_or_eq.1 hi with hi|rfl
     ·exact hL8.ne (HR.out i hi)
     ·rw [← HAK.out,← HBJ.out,← HP_.out];exact hP8)
    have HA8:Hid (ix2.getD a 0=A):=Kh (by rw [hL8 a (by rw [HA.out];omega)];exact HA.out)
    clear hD8 hL8 hP8 hG7 GA cj cx d0 d1 d2 hwX
    go_wp2
    go_roundg (l.length - (j+1))
    case measure=>have:=HGJ.out;omega
    case rel=>exact ⟨j+1,ss2,ix2,by have:=HGJ.out;omega,by go_num,HD8,HP8,HR8,HA8⟩
   ·have hj':¬ (j:Int) < l.length:=by omega
    have HE:Hid (j=l.length):=Kh (by have:=HGJ.out;omega)
    obtain ⟨P,hP⟩:∃ P,P=yC t.length (entN t) a:=⟨_,rfl⟩
    have HP_:=Kh hP
    have hPN:P < N:=by rw [hP,HN.out];exact vO HTB.out (by rw [← HN.out];exact haN)
    have hle:=HS.out.ok.i.le
    rw [← HN.out] at hle
    clear hbx how hP
    go_wp2_with fail
    refine (oD F C wr p go t.length (entN t) a HS.out.sets HTB.out hn (by rw [← HN.out];exact haN) HS.out.tab).mono ?_
    rintro e w4 ⟨rfl,hs4,hg4⟩
    rw [← HP_.out]
    have HD4:=Kh (HS.out.goes hs4 hg4 htF)
    clear hs4 hg4 d0 d1 d2
    go_wp2_with fail
    refine (lX C w4 dp p g t.length ss ix' ⟨3,((A:Int) - 1),0,⟨#[]⟩,(P:Int)⟩ P HD4.out.der (by omega) (by rw [← HN.out];exact hPN) rfl hn HD4.out.sz).mono ?_
    intro e w5 h2
    obtain rfl:=h2.1
    have h3:=HD4.out.ok.omega HGD.out (a:=a) (by rw [← HN.out];exact haN) (by rw [HA.out];omega)
    rw [← HP_.out,HA.out,HA1.out] at h3
    have h4:=kT (st:=⟨3,((A:Int) - 1),0,⟨#[]⟩,(P:Int)⟩) HD4.out.ok.i (x:=P) (by rw [← HN.out];exact hPN)
    have HD5:=Kh (HD4.out.add h2 h3 (by rw [← HN.out];exact hPN) hFC htF)
    have HP5:Hid (lI t l (addS ss ix' ⟨3,((A:Int) - 1),0,⟨#[]⟩,(P:Int)⟩ P).2 (k+1)):=Kh (fun i hi=>by
     rcases Nat.lt_succ_iff_lt_or_eq.1 hi with hi|rfl
     ·exact (HP.out.le h4.1) i hi
     ·refine ⟨fun j hj=>h4.1.ne (HR.out j (by rw [HE.out];exact hj)),?_⟩
      rw [← HAK.out,← HP_.out];exact h4.2)
    clear h2 h3 h4
    go_wp2
    go_roundg (l.length - (k+1))
    case measure=>have:=HGH.out;omega
    case rel=>exact ⟨k+1,_,_,by have:=HGH.out;omega,by go_num,HD5,HP5⟩
theorem letter_word {t:List (List Int)} {im:List Int} (hg:Good t im) {j:Nat} (hj:j < im.length):yH (strOfNums [97+(j:Int)]) im.length=true∧walkV t im (oneN t) (strOfNums [97+(j:Int)]).data.toList=(im.getD j 0).toNat:=by
 have h0:=hg.im0
 have h6:=hg.im6
 have hd:(strOfNums [97+(j:Int)]).data.toList=[UInt8.ofNat (97+j)]:=by
  rw [strOfNums_data]
  simp only [List.map_cons,List.map_nil,List.cons.injEq,and_true]
  congr 1
 have hb:(UInt8.ofNat (97+j)).toNat=97+j:=by
  simp;omega
 refine ⟨?_,?_⟩
 ·unfold yH
  rw [hd,strOfNums_size]
  simp only [List.all_cons,List.all_nil,Bool.and_true,Bool.and_eq_true,decide_eq_true_eq,sV,hb,List.length_cons,List.length_nil]
  omega
 ·rw [hd]
  show entN t (oneN t) (im.getD ((UInt8.ofNat (97+j)).toNat - 97) 0).toNat=_
  rw [hb,Nat.add_sub_cancel_left]
  have hin:=rE.1 hg.inb j hj
  obtain ⟨e,he,hel,hid⟩:=hg.ident
  have e1:oneN t=e:=by unfold oneN;rw [he];rfl
  rw [e1]
  have:=List.all_eq_true.1 hid (im.getD j 0).toNat (List.mem_range.2 (by omega))
  simp [idAt] at this
  exact this.1
theorem word_nil {t:List (List Int)} {im:List Int} (hg:Good t im):yH ⟨#[]⟩ im.length=true∧walkV t im (oneN t) (⟨#[]⟩:ByteArray).data.toList=oneN t:=by
 have h0:=hg.im0
 have h6:=hg.im6
 refine ⟨?_,rfl⟩
 unfold yH
 simp [ByteArray.size]
 omega
def DBeginOk (F C:Nat) (w:World) (p go dp g:Nat) (t:List (List Int)) (im:List Int) (ix:List Nat) (e:Ending) (w':World):Prop :=
 e=.returned (.tuple #[])∧∃ ss' ix',DState F C w w' p go dp g t im ix ss' ix'∧∀ j,j < (genL t im).length→ix'.getD ((genL t im).getD j 0) 0≠0
theorem genL_get {t:List (List Int)} {im:List Int} {j:Nat} (hj:j < im.length):(genL t im).getD (j+1) 0=2 ^ (im.getD j 0).toNat:=by
 unfold genL
 rw [List.getD_cons_succ,vC (x:=0) hj]
set_option maxRecDepth 100000 in
set_option maxHeartbeats 1000000 in
theorem dbegin_any (F C B:Nat) (w:World) (p go dp g:Nat) (v iv:Value) (t:List (List Int)) (im:List Int) (ss:List StepV) (ix:List Nat) (hst:DState F C w w p go dp g t im ix ss ix) (hgd:Good t im) (hB:B≤w.heap.size) (hm:Mat B w v t) (hi:Row B w iv (ints im)) (hgo:go < w.heap.size) (hFC:F≤C) (htF:1 < F) :
  Calls Tryd.prog 75 #[.pointer (some ⟨dp,0,none⟩),v,iv] w (DBeginOk F C w p go dp g t im ix):=by
 have hn:=hgd.le
 have h6:=hgd.im6
 have HGN:=Kh (sJ B w v iv t im hB hm hi hgd)
 have HGD:=Kh hgd;have HST:=Kh hst
 obtain ⟨N,hN⟩:∃ N,N=2 ^ t.length:=⟨_,rfl⟩
 have HN:=Kh hN
 have hN4:N≤4096:=by have:=uG hn;omega
 obtain ⟨ma,mc,rfl⟩:=hm.shape
 obtain ⟨ia,ic,rfl⟩:=hi.shape
 rw [zM] at HGN ⊢
 have hdl:dp < w.heap.size:=by obtain ⟨sa,sc,hb,_⟩:=hst.der.box;exact zQ hb
 have hgl:=hst.der.arr.lt
 clear hgd hm hi hst hN
 go_enter Tryd.func75,Tryd.ntmps75
 go_wp2_with fail
 refine HGN.out.mono ?_
 rintro e w1 ⟨sa0,sc0,rfl,hown,hg1⟩
 obtain ⟨l,hl⟩:∃ l,l=genL t im:=⟨_,rfl⟩
 have hlen:l.length=im.length+1:=by rw [hl,qE]
 have hll:l.length≤7:=by omega
 have hl1:1≤l.length:=by omega
 have HLT:Hid (∀ b∈l,b < 2 ^ t.length):=Kh (by rw [hl];exact qX HGD.out)
 rw [← hl] at hown ⊢
 obtain ⟨kb,rfl,hk1,hk2,harr⟩:=yQ hown hl1
 have hkl:=(hown.lt kb rfl).1
 have HFR:Hid (FamRow w1 dp g go kb l):=Kh ⟨harr,by omega,by omega,by omega⟩
 have HD1:=Kh (HST.out.quiet hg1)
 have HD0:Hid (DState F C w1 w1 p go dp g t im ix ss ix):=Kh ⟨HD1.out.sets,HD1.out.der,HD1.out.ok,IxLe.refl _,GrownBut.refl _ _,HD1.out.tab,HD1.out.sz⟩
 have HG1:=Kh hg1;have HL:=Kh hl;have HLEN:=Kh hlen
 clear hown harr hg1 hl hlen hk1 hk2 HGN HD1
 go_wp2
 go_loopg [13] l.length (fun gh i wr=>∃ (k:Nat) (ss:List StepV) (ix':List Nat),gh+k=l.length∧i=.int .i64 k∧Hid (DState F C w1 wr p go dp g t im ix ss ix')∧Hid (∀ j,j < k→ix'.getD (l.getD j 0) 0≠0))
 case atStart=>exact ⟨0,ss,ix,rfl,rfl,HD0,Kh (fun i hi=>absurd hi (by omega))⟩
 case round =>
  clear HD0
  obtain ⟨k,ss,ix',hgh,rfl,HS,HP⟩:=hrel
  have HGH:=Kh hgh
  clear hgh
  by_cases hk:¬ k < l.length
  ·have hk':¬ (k:Int) < l.length:=by omega
   have HE:Hid (k=l.length):=Kh (by have:=HGH.out;omega)
   go_wp2
   go_end0
   refine ⟨rfl,ss,ix',⟨HS.out.sets,HS.out.der,HS.out.ok,HS.out.le,lE (derF_of HG1.out (by simp)) HS.out.but,HS.out.tab,HS.out.sz⟩,?_⟩
   rw [← HL.out,← HE.out];exact HP.out
  replace hk:k < l.length:=by omega
  have hk':(k:Int) < l.length:=by omega
  have hfr:=HFR.out.but HS.out.but
  have ck:=hfr.arr.nat k hk
  obtain ⟨a,ha⟩:∃ a,a=l.getD k 0:=⟨_,rfl⟩
  have haN:a < N:=by rw [ha,HN.out];exact HLT.out _ (wY hk)
  rw [← ha] at ck
  have hle:=HS.out.ok.i.le
  rw [← HN.out] at hle
  have HAK:=Kh ha
  clear hfr ha
  rcases Nat.eq_zero_or_pos k with hk0|hk0
  ·have hk0':¬ (0:Int) < k:=by omega
   have HK0:=Kh hk0
   clear hk0
   obtain ⟨wb,hwb⟩:∃ W,W=wr.alloc (.cells #[.int .i64 1,.int .i64 0,.int .i64 0,.string ⟨#[]⟩,.int .i64 (a:Int)] 60):=⟨_,rfl⟩
   have hgb:wr.grownBy wb none:=by rw [hwb];exact Ga wr _ none
   have hbb:=heap_alloc_new wr (.cells #[.int .i64 1,.int .i64 0,.int .i64 0,.string ⟨#[]⟩,.int .i64 (a:Int)] 60)
   rw [← hwb] at hbb
   obtain ⟨o,ho⟩:∃ o,o=wr.heap.size:=⟨_,rfl⟩
   rw [← ho] at hbb
   have HWB:=Kh hwb;have HO:=Kh ho
   have HSB:=Kh (HS.out.quiet hgb)
   obtain ⟨b0,b1,b2,b3,b4⟩:=wG hbb
   clear hwb hgb hbb ho
   go_upto_region 4 with fail
   rw [← HWB.out,← HO.out]
   go_wp2_with fail
   refine (lX C wb dp p g t.length ss ix' ⟨1,0,0,⟨#[]⟩,(a:Int)⟩ a HSB.out.der (by omega) (by rw [← HN.out];exact haN) rfl hn HSB.out.sz).mono ?_
   intro e w5 h2
   obtain rfl:=h2.1
   have hwn:=word_nil HGD.out
   have h3:=HSB.out.ok.word HGD.out hwn.1 (x:=a) (by rw [hwn.2,HAK.out,HL.out,HK0.out];rfl)
   have h4:=kT (st:=⟨1,0,0,⟨#[]⟩,(a:Int)⟩) HSB.out.ok.i (x:=a) (by rw [← HN.out];exact haN)
   have HD5:=Kh (HSB.out.add h2 h3 (by rw [← HN.out];exact haN) hFC htF)
   have HP5:Hid (∀ j,j < k+1→(addS ss ix' ⟨1,0,0,⟨#[]⟩,(a:Int)⟩ a).2.getD (l.getD j 0) 0≠0):=Kh (fun j hj=>by
    rcases Nat.lt_succ_iff_lt_or_eq.1 hj with hj|rfl
    ·exact h4.1.ne (HP.out j hj)
    ·rw [← HAK.out];exact h4.2)
   clear h2 h3 h4 hwn b0 b1 b2 b3 b4 ck
   go_wp2
   go_roundg (l.length - (k+1))
   case measure=>have:=HGH.out;omega
   case rel=>exact ⟨k+1,_,_,by have:=HGH.out;omega,by go_num,HD5,HP5⟩
  ·obtain ⟨j,hj⟩:∃ j,k=j+1:=⟨k - 1,by omega⟩
   have hk0':(0:Int) < k:=by omega
   have hj7:j≤6:=by omega
   have HJ:=Kh hj
   have hu8:IntKind.u8.wrap ((k:Int) - 1)=(k:Int) - 1:=IntWalk.u8_in _ (by omega)
   have hby:IntKind.u8.wrap (97+((k:Int) - 1))=97+((k:Int) - 1):=IntWalk.u8_in _ (by omega)
   obtain ⟨X,hX⟩:∃ X,X=strOfNums [97+((k:Int) - 1)]:=⟨_,rfl⟩
   have hcv:∀ (W:World) (g:Nat),W.cell? ⟨g,0,none⟩=some (.int .u8 (97+((k:Int) - 1)))→(convert 89 9 (.slice (some ⟨g,0,none⟩) 1 1)).run Tryd.prog W=.ok (.string X) W:=fun W g h=>by rw [hX];exact pY 89 5 Tryd.underlying89 Tryd.underlying5 9 Tryd.underlying9 h
   have HX:Hid (X=strOfNums [97+(j:Int)]):=Kh (by rw [hX,show (k:Int) - 1=(j:Int) by omega])
   obtain ⟨wb,hwb⟩:∃ W,W=wr.alloc (.cells #[.int .i64 1,.int .i64 0,.int .i64 0,.string ⟨#[]⟩,.int .i64 (a:Int)] 60):=⟨_,rfl⟩
   have hgb:wr.grownBy wb none:=by rw [hwb];exact Ga wr _ none
   have hbb:=heap_alloc_new wr (.cells #[.int .i64 1,.int .i64 0,.int .i64 0,.string ⟨#[]⟩,.int .i64 (a:Int)] 60)
   rw [← hwb] at hbb
   obtain ⟨o,ho⟩:∃ o,o=wr.heap.size:=⟨_,rfl⟩
   rw [← ho] at hbb
   obtain ⟨wc,hwc⟩:∃ W,W=wb.alloc (.cells #[.int .u8 (97+((k:Int) - 1))] 5):=⟨_,rfl⟩
   have hgc:wb.grownBy wc none:=by rw [hwc];exact Ga wb _ none
   have hbc:=zE hbb hgc (by simp)
   have hgs:=zH wc ⟨o,3,none⟩ (.string X)
   have hbs:=heap_setCell_same wc o 3 _ _ (.string X) hbc
   obtain ⟨wd,hwd⟩:∃ W,W=wc.setCell ⟨o,3,none⟩ (.string X):=⟨_,rfl⟩
   rw [← hwd] at hgs hbs
   have hbs':wd.heap[o]?=some (.cells #[.int .i64 1,.int .i64 0,.int .i64 0,.string X,.int .i64 (a:Int)] 60 (0,0)):=by rw [hbs];simp
   have HWB:=Kh hwb;have HO:=Kh ho;have HWC:=Kh hwc;have HWD:=Kh hwd
   have HSC:=HS.out.quiet (zF hgb hgc (by simp))
   have hok:C≤o:=by have:=HS.out.sz;omega
   have HSD:Hid (DState F C w1 wd p go dp g t im ix ss ix'):=Kh (by
    obtain ⟨sa,sc,hb,how⟩:=HSC.der.box
    have hod:dp≠o:=fun e=>by rw [e,hbc] at hb;simp at hb
    have hog:g≠o:=fun e=>(HSC.der.arr.type_ne hbc (by decide)) e
    have hoo:o < wc.heap.size:=zQ hbc
    have hor:wr.heap.size≤o:=Nat.le_of_eq ho.symm
    obtain ⟨sa2,sc2,hb2,how2⟩:=HS.out.der.box
    refine ⟨HSC.sets.kept hgs (fun q e=>by have e:o=q:=Oj e;omega),?_,HSC.ok,HSC.le,HSC.but.step hgs (fun q e=>.inr (by have e:o=q:=Oj e;have:=HS.out.but.size;omega)),HSC.tab.kept hgs (fun e=>by have e:o=1:=Oj e;omega),Nat.le_trans HSC.sz hgs.size⟩
    have hbw:=zE (zE hb2 hgb (by simp)) hgc (by simp)
    have how3:=yZ (yZ how2 hgb) hgc
    refine ⟨⟨sa2,sc2,zE hbw hgs (fun e=>hod (Oj e).symm),how3.kept hgs ?_⟩,HSC.der.arr.kept hgs (fun e=>hog (Oj e).symm),HSC.der.len,HSC.der.lo⟩
    rcases hv:(Value.slice sa2 ss.length sc2).ownBlock with _|q
    ·exact .inl rfl
    ·exact .inr (fun e=>by have e:q=o:=Oj e;have:=(how2.lt q hv).2;omega))
   obtain ⟨b0,b1,b2,b3,b4⟩:=wG hbb
   have c3:(wb.alloc (.cells #[.int .u8 (97+((k:Int) - 1))] 5)).cell? ⟨o,3,none⟩=some (.string ⟨#[]⟩):=by rw [← hwc];exact (wG hbc).2.2.2.1
   obtain ⟨d0,d1,d2,d3,d4⟩:=wG hbs'
   have f3:(wb.alloc (.cells #[.int .u8 (97+((k:Int) - 1))] 5)).frozen? ⟨o,3,none⟩=false:=by rw [← hwc];exact zD hbc 3
   clear hwb hgb hbb ho hwc hgc hbc hgs hbs hbs' hwd HSC hX hj
   go_upto_region 5 with fail
   rw [← HWB.out,← HO.out]
   go_upto_region 6 with fail
   rw [← HWC.out,← HWD.out]
   clear b0 b1 b2 b3 b4 c3 f3 hcv hu8 hby ck
   go_wp2_with fail
   refine (lX C wd dp p g t.length ss ix' ⟨1,0,0,X,(a:Int)⟩ a HSD.out.der (by omega) (by rw [← HN.out];exact haN) rfl hn HSD.out.sz).mono ?_
   intro e w5 h2
   obtain rfl:=h2.1
   have hwn:=letter_word HGD.out (j:=j) (by have:=HLEN.out;have:=HJ.out;omega)
   rw [← HX.out] at hwn
   have h3:=HSD.out.ok.word HGD.out hwn.1 (x:=a) (by rw [hwn.2,HAK.out,HL.out,HJ.out,genL_get (by have:=HLEN.out;have:=HJ.out;omega)])
   have h4:=kT (st:=⟨1,0,0,X,(a:Int)⟩) HSD.out.ok.i (x:=a) (by rw [← HN.out];exact haN)
   have HD5:=Kh (HSD.out.add h2 h3 (by rw [← HN.out];exact haN) hFC htF)
   have HP5:Hid (∀ j,j < k+1→(addS ss ix' ⟨1,0,0,X,(a:Int)⟩ a).2.getD (l.getD j 0) 0≠0):=Kh (fun j hj=>by
    rcases Nat.lt_succ_iff_lt_or_eq.1 hj with hj|rfl
    ·exact h4.1.ne (HP.out j hj)
    ·rw [← HAK.out];exact h4.2)
   clear h2 h3 h4 hwn d0 d1 d2 d3 d4
   go_wp2
   go_roundg (l.length - (k+1))
   case measure=>have:=HGH.out;omega
   case rel=>exact ⟨k+1,_,_,by have:=HGH.out;omega,by go_num,HD5,HP5⟩
end Go.Proofs.YtdjhoadoiknaoaaDoor
