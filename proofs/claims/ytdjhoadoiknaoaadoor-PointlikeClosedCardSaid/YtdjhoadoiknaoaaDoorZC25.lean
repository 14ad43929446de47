/- Part 25 of the proof: MWords. -/
import Derived.Test.YtdjhoadoiknaoaaDoorZC24
set_option linter.unusedVariables false
set_option linter.unusedSimpArgs false
namespace Go.Proofs.YtdjhoadoiknaoaaDoor
open Go.RowKit
def wAt (letters most:Nat):Nat→List (List Nat)
 | 0=>[[]]
 | i+1=>if i < (wAt letters most i).length∧((wAt letters most i).getD i []).length < most then wAt letters most i ++ (List.range letters).map (fun c=>(wAt letters most i).getD i [] ++ [c]) else wAt letters most i
def wIn (letters most i a:Nat):List (List Nat):=wAt letters most i ++ (List.range a).map (fun c=>(wAt letters most i).getD i [] ++ [c])
def tR (letters most:Nat):List (List Nat):=wAt letters most 7
def strsL (l:List (List Nat)):List Value:=l.map fun u=>.string (strOfNums (lets u))
theorem strsL_length (l:List (List Nat)):(strsL l).length=l.length:=by simp [strsL]
theorem small2 {P:Nat→Nat→Prop} {x y:Nat} (h1:1≤x) (h2:x≤2) (h3:1≤y) (h4:y≤2) (h:P 1 1∧P 1 2∧P 2 1∧P 2 2):P x y:=by
 rcases (by omega:x=1∨x=2) with rfl|rfl <;> rcases (by omega:y=1∨y=2) with rfl|rfl
 ·exact h.1
 ·exact h.2.1
 ·exact h.2.2.1
 ·exact h.2.2.2
theorem w_facts {letters most:Nat} (h1:1≤letters) (h2:letters≤2) (h3:1≤most) (h4:most≤2):∀ i,i≤7→(i < (wAt letters most i).length→i < 7)∧(¬ i < (wAt letters most i).length→wAt letters most i=tR letters most)∧(wAt letters most i).length≤7∧(∀ u∈wAt letters most i,u.length≤2) :=
 small2 (P:=fun letters most=>∀ i,i≤7→(i < (wAt letters most i).length→i < 7)∧(¬ i < (wAt letters most i).length→wAt letters most i=tR letters most)∧(wAt letters most i).length≤7∧(∀ u∈wAt letters most i,u.length≤2)) h1 h2 h3 h4
  ⟨by decide +kernel,by decide +kernel,by decide +kernel,by decide +kernel⟩
theorem kW (letters most i:Nat):wIn letters most i 0=wAt letters most i:=by simp [wIn]
theorem wIn_succ (letters most i a:Nat):wIn letters most i (a+1)=wIn letters most i a ++ [(wAt letters most i).getD i [] ++ [a]]:=by simp [wIn,List.range_succ]
theorem wIn_length (letters most i a:Nat):(wIn letters most i a).length=(wAt letters most i).length+a:=by simp [wIn]
theorem wAt_step {letters most i:Nat} (hi:i < (wAt letters most i).length) (h:((wAt letters most i).getD i []).length < most):wAt letters most (i+1)=wIn letters most i letters:=by rw [wAt,if_pos ⟨hi,h⟩];rfl
theorem wAt_stay {letters most i:Nat} (h:¬ ((wAt letters most i).getD i []).length < most):wAt letters most (i+1)=wAt letters most i:=by rw [wAt,if_neg (fun h'=>h h'.2)]
theorem wIn_get {letters most i a:Nat} (h:i < (wAt letters most i).length):(wIn letters most i a).getD i []=(wAt letters most i).getD i []:=by
 simp [wIn,List.getD_eq_getElem?_getD,List.getElem?_append_left h]
theorem Arr.strL {w:World} {g:Nat} {e:TypeId} {l:List (List Nat)} (h:Arr w g e (strsL l)) (i:Nat) (hi:i < l.length):w.cell? ⟨g,i,none⟩=some (.string (strOfNums (lets (l.getD i [])))):=by
 rw [h.cell i (by rw [strsL_length];exact hi)]
 simp [strsL,List.getD_eq_getElem?_getD,hi]
theorem lP {W:World} {e base g:Nat} {xs:List Value} {k:Nat} (h:W.heap[g]?=some (.cells xs.toArray e (0,0))) (hb:base≤g) (hk:xs.length=k) (hm:k≤maxLen):W.ownsRow base e 1 (.slice (some ⟨g,0,none⟩) k k) k xs :=
 ⟨by omega,.inr ⟨g,k,xs.toArray,rfl,hb,h,Nat.le_refl _,hm,by simp [hk],by simp [← hk]⟩⟩
set_option maxRecDepth 100000 in
set_option maxHeartbeats 1000000 in
theorem words_any (w:World) (letters most:Nat) (h1:1≤letters) (h2:letters≤2) (h3:1≤most) (h4:most≤2) :
  Calls Tryd.prog 111 #[.int .i64 (letters:Int),.int .i64 (most:Int)] w fun e w' =>
   ∃ sa sc,e=.returned (.slice sa (tR letters most).length sc)∧w'.ownsRow w.heap.size 9 1 (.slice sa (tR letters most).length sc) (tR letters most).length (strsL (tR letters most))∧w.grownBy w' none:=by
 have hF:=w_facts h1 h2 h3 h4
 have HF:=Kh hF
 clear hF
 obtain ⟨P,hP⟩:∃ P,P=w.heap.size:=⟨_,rfl⟩
 have HPE:=Kh hP
 go_enter Tryd.func111,Tryd.ntmps111
 go_upto_region 2 with fail
 have hb:=heap_alloc_new w (.cells #[.string ⟨#[]⟩] 9)
 have hg:=Ga w (.cells #[.string ⟨#[]⟩] 9) none
 have ho:(w.alloc (.cells #[.string ⟨#[]⟩] 9)).ownsRow w.heap.size 9 1 (.slice (some ⟨w.heap.size,0,none⟩) 1 1) 1 (strsL [[]]):=lP hb (Nat.le_refl _) rfl (by unfold maxLen;omega)
 have hsz:=zO w (.cells #[.string ⟨#[]⟩] 9)
 rw [← hP] at ho hb hsz ⊢
 have HO:=Kh ho;have HG:=Kh hg;have HW1:=Kh (kW letters most 0)
 clear ho hb hg hsz hP
 obtain ⟨w1,hw1⟩:∃ w1,w1=w.alloc (.cells #[.string ⟨#[]⟩] 9):=⟨_,rfl⟩
 rw [← hw1] at HO HG ⊢
 clear hw1
 go_wp2
 go_loopg [5,6,7] 7 (fun gh lv i av wr=>∃ (q:Nat) (sa:Option Addr) (sc:Nat),gh+q=7∧i=.int .i64 q∧lv=.slice sa (wAt letters most q).length sc∧wr.ownsRow P 9 1 (.slice sa (wAt letters most q).length sc) (wAt letters most q).length (strsL (wAt letters most q))∧w.grownBy wr none)
 case atStart=>exact ⟨0,some ⟨P,0,none⟩,1,rfl,rfl,rfl,HO.out,HG.out⟩
 case round =>
  obtain ⟨q,sa,sc,hg,rfl,rfl,hown,hgr⟩:=hrel
  obtain ⟨f1,f2,f3,f4⟩:=HF.out q (by omega)
  obtain ⟨m,hm⟩:∃ m,m=(wAt letters most q).length:=⟨_,rfl⟩
  have HM:=Kh hm
  rw [← hm] at hown f1 f2 f3 ⊢
  have HG2:=Kh hg;have HOW:=Kh hown;have HGR:=Kh hgr
  clear hg hown hgr hm HO HG HW1
  by_cases hq:q < m
  ·have hq':(q:Int) < m:=by omega
   have hq7:=f1 hq
   have hu2:((wAt letters most q).getD q []).length≤2:=f4 _ (getDm (by have:=HM.out;omega))
   obtain ⟨U,hU⟩:∃ U,U=(wAt letters most q).getD q []:=⟨_,rfl⟩
   rw [← hU] at hu2
   have HU:=Kh hU
   clear f1 f2 f4 hU
   obtain ⟨X,hX⟩:∃ X,X=strOfNums (lets U):=⟨_,rfl⟩
   have hxl:X.size=U.length:=by rw [hX,strOfNums_size];simp [lets]
   have HX:=Kh hX;have HXL:=Kh hxl
   obtain ⟨wo,hwo⟩:∃ wo,wo=wr:=⟨_,rfl⟩
   rw [← hwo] at HOW HGR ⊢
   clear hwo wr
   go_wp2
   go_loopg [5,7] letters (fun gh lv av wr=>∃ (a:Nat) (sb:Option Addr) (sd:Nat),gh+a=letters∧av=.int .i64 a∧lv=.slice sb (m+a) sd∧wr.ownsRow P 9 1 (.slice sb (m+a) sd) (m+a) (strsL (wIn letters most q a))∧w.grownBy wr none∧(most≤U.length→a=0))
   case atStart=>exact ⟨0,sa,sc,rfl,rfl,rfl,by rw [kW];exact HOW.out,HGR.out,fun _=>rfl⟩
   case round =>
    obtain ⟨a,sb,sd,hg,rfl,rfl,hown,hgr,hz⟩:=hrel
    obtain ⟨kb,rfl,hc1,hc2,harr⟩:=yQ hown (by omega)
    have hcell:=harr.strL q (by rw [wIn_length];have:=HM.out;omega)
    rw [wIn_get (by have:=HM.out;omega),← HU.out,← HX.out] at hcell
    have hmd:(q:Int) < (m:Int)+(a:Int):=by omega
    have hmd2:q < m+a:=by omega
    have HG3:=Kh hg;have HOW3:=Kh hown;have HGR3:=Kh hgr;have HZ:=Kh hz
    have hc2':sd≤9223372036854775807:=by unfold maxLen at hc2;omega
    clear hg hown hgr hz harr hc2 hX hxl
    by_cases ha:a < letters
    ·have ha':(a:Int) < letters:=by omega
     by_cases hu:X.size < most
     ·have hu':(X.size:Int) < most:=by omega
      have h97:IntKind.i64.wrap (97+(a:Int))=97+(a:Int):=IntWalk.i64_in _ (by omega)
      have hby:IntKind.u8.wrap (97+(a:Int))=97+(a:Int):=IntWalk.u8_in _ (by omega)
      obtain ⟨Y,hY⟩:∃ Y,Y=strOfNums [97+(a:Int)]:=⟨_,rfl⟩
      have hcv:∀ (W:World) (g:Nat),W.cell? ⟨g,0,none⟩=some (.int .u8 (97+(a:Int)))→(convert 89 9 (.slice (some ⟨g,0,none⟩) 1 1)).run Tryd.prog W=.ok (.string Y) W:=fun W g h=>by rw [hY];exact pY 89 5 Tryd.underlying89 Tryd.underlying5 9 Tryd.underlying9 h
      have hcc:∀ W:World,(Op.stringOp .add X Y).run Tryd.prog W=.ok (.string (X ++ Y)) W:=fun W=>run_string_add_sum W X Y (by
       rw [hY,strOfNums_size];simp;omega)
      have HXY:Hid (X ++ Y=strOfNums (lets (U ++ [a]))):=Kh (by rw [HX.out,hY,kZ];simp [lets])
      clear hY
      obtain ⟨w5,hw5⟩:∃ w5,w5=wr.drew:=⟨_,rfl⟩
      have hg5:wr.grownBy w5 none:=by rw [hw5];exact zU wr none
      have HW5:=Kh hw5
      have HO5:=Kh (yB HOW3.out hg5 (by simp));have HG5:=Kh (zF HGR3.out hg5 (by simp))
      have C:=Kh (zZ hcell hg5)
      clear hw5 hg5 HOW3 HGR3
      go_upto_region 8 with fail
      clear hcell
      refine wp_region_noPanic ?_
      refine yT (G:=Until 10 (fun _=>True) (fun W=>W.cell? ⟨kb,q,none⟩=some (.string X))) (by kernel_rfl) ?_
      rw [← HW5.out]
      refine takeC (i:=0) (v:=?_) rfl rfl (Or.inl ⟨by rfl,?_⟩) ⟨trivial,fun _=>C.out⟩ ?_
      rotate_left
      ·(intro wz hz;(try dsimp only at hz);go_simp;(try with_reducible rfl))
      try simp only [Act.put,sPa,sPb,sPc]
      refine takeC (i:=1) (v:=?_) rfl rfl (Or.inl ⟨by rfl,?_⟩) ⟨trivial,fun _=>C.out⟩ ?_
      rotate_left
      ·(intro wz hz;(try dsimp only at hz);go_simp;(try with_reducible rfl))
      try simp only [Act.put,sPa,sPb,sPc]
      refine takeC (i:=2) (v:=?_) rfl rfl (Or.inl ⟨by rfl,?_⟩) ⟨trivial,fun _=>C.out⟩ ?_
      rotate_left
      ·(intro wz hz;(try dsimp only at hz);go_simp;(try with_reducible rfl))
      try simp only [Act.put,sPa,sPb,sPc]
      refine takeC (i:=3) (v:=?_) rfl rfl (Or.inl ⟨by rfl,?_⟩) ⟨trivial,fun _=>C.out⟩ ?_
      rotate_left
      ·(intro wz hz;(try dsimp only at hz);go_simp;(try with_reducible rfl))
      try simp only [Act.put,sPa,sPb,sPc]
      refine takeD (i:=4) (v:=?_) rfl rfl (Or.inl ⟨by rfl,?_⟩) ⟨trivial,fun _=>C.out⟩ ?_
      rotate_left
      ·(rintro wz ⟨-,hz⟩;(try dsimp only at hz);go_simp;(try with_reducible rfl))
      try simp only [Act.put,sPa,sPb,sPc]
      refine takeC (i:=5) (v:=?_) rfl rfl (Or.inl ⟨by rfl,?_⟩) ⟨trivial,fun _=>C.out⟩ ?_
      rotate_left
      ·(intro wz hz;(try dsimp only at hz);go_simp;(try with_reducible rfl))
      try simp only [Act.put,sPa,sPb,sPc]
      refine takeC (i:=6) (v:=?_) rfl rfl (Or.inl ⟨by rfl,?_⟩) ⟨trivial,fun _=>C.out⟩ ?_
      rotate_left
      ·(intro wz hz;(try dsimp only at hz);go_simp;(try with_reducible rfl))
      try simp only [Act.put,sPa,sPb,sPc]
      refine takeC (i:=7) (v:=?_) rfl rfl (Or.inl ⟨by rfl,?_⟩) ⟨trivial,fun _=>C.out⟩ ?_
      rotate_left
      ·(intro wz hz;(try dsimp only at hz);go_simp;(try with_reducible rfl))
      try simp only [Act.put,sPa,sPb,sPc]
      refine oneG (i:=8) (by kernel_rfl) rfl (fun K hK=>?_)
      go_simp
      have hgn:=heap_alloc_new w5 (.cells #[.int .u8 (97+(a:Int))] 5)
      have hg6:=Ga w5 (.cells #[.int .u8 (97+(a:Int))] 5) none
      obtain ⟨g6,hg6e⟩:∃ g6,g6=w5.heap.size:=⟨_,rfl⟩
      obtain ⟨w6,hw6⟩:∃ w6,w6=w5.alloc (.cells #[.int .u8 (97+(a:Int))] 5):=⟨_,rfl⟩
      rw [← hg6e] at hgn ⊢
      rw [← hw6] at hgn hg6 ⊢
      have hb6:=zI hgn 0 (by simp)
      simp only [List.getElem_toArray,List.getElem_cons_zero] at hb6
      have HO6:=Kh (yB HO5.out hg6 (by simp));have HG6:=Kh (zF HG5.out hg6 (by simp))
      have C6:=Kh (zZ C.out hg6)
      refine hK.out _ _ ⟨trivial,fun _=>C6.out⟩ ?_
      clear hK K hgn hg6 hg6e hw6 HO5 HG5 C
      try simp only [Act.put,sPa,sPb,sPc]
      refine oneG (i:=9) (by kernel_rfl) rfl (fun K hK=>?_)
      go_simp
      refine hK.out _ _ ⟨trivial,fun _=>C6.out⟩ ?_
      clear hK K
      try simp only [Act.put,sPa,sPb,sPc]
      refine oneG (i:=10) (by kernel_rfl) rfl (fun K hK=>?_)
      go_simp
      refine hK.out _ _ ⟨trivial,fun h=>by simp at h⟩ ?_
      clear hK K
      try simp only [Act.put,sPa,sPb,sPc]
      refine oneG (i:=11) (by kernel_rfl) rfl (fun K hK=>?_)
      go_simp
      have hgn:=heap_alloc_new w6 (.cells #[.string (X ++ Y)] 9)
      have hg7:=Ga w6 (.cells #[.string (X ++ Y)] 9) none
      have ho7:=yB HO6.out hg7 (by simp)
      refine hK.out _ _ ⟨trivial,fun h=>by simp at h⟩ ?_
      clear hK K
      try simp only [Act.put,sPa,sPb,sPc]
      have hsz7:P≤w6.heap.size:=by have:=HG6.out.size;have:=HPE.out;omega
      refine oneG (i:=12) (by kernel_rfl) rfl (fun K hK=>?_)
      refine kB rfl (.tmp 29) (.tmp 40) 31 rfl qH P _ _ _ rfl ho7 _ _ _ rfl hgn rfl ?g1 ?g2 ?g3 ?_
      case g1=>unfold maxLen;omega
      case g2=>omega
      case g3=>rw [zO];omega
      intro sa' sc' w8 hown8 hg8
      refine hK.out _ _ ⟨trivial,fun h=>by simp at h⟩ ?_
      clear hK K
      try simp only [Act.put,sPa,sPb,sPc]
      refine oneG (i:=13) (by kernel_rfl) rfl (fun K hK=>?_)
      go_simp
      refine hK.out _ _ ⟨trivial,fun h=>by simp at h⟩ ?_
      clear hK K
      try simp only [Act.put,sPa,sPb,sPc]
      refine doneG (by kernel_rfl) ?_ _
      refine NoPanic.normal ?_
      have HO8:=Kh hown8
      have HG8:=Kh (zF (zF HG6.out hg7 (by simp)) hg8 (fun k e=>by have:=(ho7.lt k e).1;have:=HPE.out;omega))
      clear hown8 hg8 hg7 ho7 hgn
      go_wp2
      go_roundg (letters - (a+1))
      case measure=>have:=HG3.out;omega
      case rel =>
       refine ⟨a+1,sa',sc',by omega,by go_num,by rw [Nat.add_assoc],?_,HG8.out,by have:=HXL.out;omega⟩
       rw [wIn_succ,← HU.out,show strsL (wIn letters most q a ++ [U ++ [a]])=strsL (wIn letters most q a) ++ [.string (X ++ Y)] by rw [HXY.out];simp [strsL],← Nat.add_assoc]
       exact HO8.out
     ·have hu':¬ (X.size:Int) < most:=by omega
      have ha0:a=0:=HZ.out (by have:=HXL.out;omega)
      subst ha0
      have hst:=wAt_stay (letters:=letters) (most:=most) (i:=q) (by rw [← HU.out];have:=HXL.out;omega)
      have HST:=Kh hst
      clear hst
      go_wp2
      go_roundg (7 - (q+1))
      case measure=>have:=HG2.out;omega
      case rel =>
       refine ⟨q+1,some ⟨kb,0,none⟩,sd,by omega,by go_num,?_,?_,HGR3.out⟩
       ·rw [HST.out,← HM.out]
       ·have:=HOW3.out
        rw [kW] at this
        rw [HST.out,← HM.out];exact this
    ·have hal:a=letters:=by have:=HG3.out;omega
     subst hal
     have hlt:U.length < most:=by
      rcases Nat.lt_or_ge U.length most with h|h
      ·exact h
      ·have:=HZ.out h;omega
     have HST:=Kh (wAt_step (letters:=a) (most:=most) (i:=q) (by have:=HM.out;omega) (by rw [← HU.out];exact hlt))
     go_wp2
     go_roundg (7 - (q+1))
     case measure=>have:=HG2.out;omega
     case rel =>
      have hl2:(wAt a most (q+1)).length=m+a:=by rw [HST.out,wIn_length,← HM.out]
      refine ⟨q+1,some ⟨kb,0,none⟩,sd,by omega,by go_num,by rw [hl2],?_,HGR3.out⟩
      rw [hl2,HST.out];exact HOW3.out
  ·have hq':¬ (q:Int) < m:=by omega
   have HF2:=Kh (f2 hq)
   clear f1 f2 f3 f4
   go_wp2
   go_ret
   refine ⟨sa,sc,?_,?_,HGR.out⟩
   ·rw [← HF2.out,← HM.out];rfl
   ·rw [← HF2.out,← HM.out,← HPE.out];exact HOW.out
end Go.Proofs.YtdjhoadoiknaoaaDoor
