/- Part 32 of the proof: EProcPlain, Tab12, EnumLaw. -/
import Derived.Test.YtdjhoadoiknaoaaDoorZC31
set_option linter.unusedVariables false
set_option linter.unusedSimpArgs false
namespace Go.Proofs.YtdjhoadoiknaoaaDoor
open Go.RowKit
theorem xV {α:Type} {l:List α} {x d:α} {i:Nat} (h:i < l.length):(l ++ [x]).getD i d=l.getD i d:=by
 rw [List.getD_eq_getElem?_getD,List.getElem?_append_left h,← List.getD_eq_getElem?_getD]
theorem wS {α:Type} {l:List α} {x d:α} {i:Nat} (h:i=l.length):(l ++ [x]).getD i d=x:=by
 subst h
 rw [List.getD_eq_getElem?_getD,List.getElem?_append_right (Nat.le_refl _)];simp
theorem wordsOk_snoc {pre las:List Int} {m k p a:Nat} (h:sD pre las m k) (hp:pre.length=m) (hl:las.length=m) (h1:p < m) (h2:a < k):sD (pre ++ [(p:Int)]) (las ++ [(a:Int)]) (m+1) k:=by
 intro i hi
 rcases Nat.lt_or_ge i m with h3|h3
 ·rw [xV (by omega),xV (by omega)]
  exact h i h3
 ·rw [wS (by omega),wS (by omega)]
  exact .inr ⟨by omega,by omega,by omega,by omega⟩
def atW (right:List (List Nat)) (x:Nat) (w:List Nat):Nat:=w.foldl (fun q a=>(right.getD q []).getD a 0) x
def rowE (pre las:List Int) (right:List (List Nat)) (n x:Nat):List Nat:=(List.range n).map fun y=>atW right x (wordI pre las y)
def tabE (pre las:List Int) (right:List (List Nat)) (n:Nat):List (List Nat):=(List.range n).map fun x=>rowE pre las right n x
theorem rY (pre las:List Int) (right:List (List Nat)) (n x:Nat):(rowE pre las right n x).length=n:=by simp [rowE]
theorem wI (pre las:List Int) (right:List (List Nat)) (n:Nat):(tabE pre las right n).length=n:=by simp [tabE]
theorem rowE_take {pre las:List Int} {right:List (List Nat)} {n x y:Nat} (hy:y < n):(rowE pre las right n x).take (y+1)=(rowE pre las right n x).take y ++ [atW right x (wordI pre las y)]:=by
 rw [yF (d:=0) (by rw [rY];exact hy),zV (by rw [rY];exact hy)];simp [rowE]
theorem tabE_take {pre las:List Int} {right:List (List Nat)} {n x:Nat} (hx:x < n):(tabE pre las right n).take (x+1)=(tabE pre las right n).take x ++ [rowE pre las right n x]:=by
 rw [yF (d:=[]) (by rw [wI];exact hx),zV (by rw [wI];exact hx)];simp [tabE]
def iL (right:List (List Nat)) (n k:Nat):Prop:=right.length=n∧∀ q,q < n→(right.getD q []).length=k∧∀ a,a < k→(right.getD q []).getD a 0 < n
theorem atW_snoc (right:List (List Nat)) (x:Nat) (w:List Nat) (a:Nat):atW right x (w ++ [a])=(right.getD (atW right x w) []).getD a 0:=by simp [atW,List.foldl_append]
theorem byte_at {w:List Nat} {j:Nat} {s:ByteArray} (hs:s=strOfNums (lets w)) (hw:∀ a∈w,a < 26) (hj:j < w.length) (h:j < s.size):(s[j].toNat:Int)=97+(w.getD j 0:Nat):=by
 subst hs
 have e:(strOfNums (lets w))[j]=(strOfNums (lets w)).data.toList[j]'(by simpa using h):=rfl
 have hm:=hw _ (List.getElem_mem hj)
 rw [e]
 simp only [strOfNums_data,lets,List.getElem_map]
 rw [zV hj]
 simp
 omega
set_option maxRecDepth 100000 in
set_option maxHeartbeats 1000000 in
theorem table12_any (B C D:Nat) (w:World) (x0 x1 x2 x7 x8:Value) (sa3:Option Addr) (c3:Nat) (v4 v5 v6:Value) (pre las:List Int) (right:List (List Nat)) (n k:Nat) (hB:B≤w.heap.size) (hC:C≤w.heap.size) (hD:D≤w.heap.size)
  (h4:Row B w v4 (ints pre)) (h5:Row C w v5 (ints las)) (h6:TMat D w v6 right) (hpl:pre.length=n) (hll:las.length=n) (hok:sD pre las n k) (hrt:iL right n k) (hk:k≤6) (hn:n≤2000) :
  Calls Tryd.prog 84 #[.agg #[x0,x1,x2,.slice sa3 n c3,v4,v5,v6,x7,x8]] w (kV w (tabE pre las right n)):=by
 obtain ⟨ta,tc,rfl⟩:=h6.shape
 rw [hrt.1] at h6 ⊢
 obtain ⟨wA,hWA⟩:∃ wA,wA=w.alloc (.cells #[x0,x1,x2,.slice sa3 n c3,v4,v5,.slice ta n tc,x7,x8] 106):=⟨_,rfl⟩
 have hbox:wA.heap[w.heap.size]?=some (.cells #[x0,x1,x2,.slice sa3 n c3,v4,v5,.slice ta n tc,x7,x8] 106 (0,0)):=by rw [hWA];exact heap_alloc_new w _
 have hgA:w.grownBy wA none:=by rw [hWA];exact Ga w _ none
 have hzA:wA.heap.size=w.heap.size+1:=by rw [hWA,zO]
 obtain ⟨P,hP⟩:∃ P,P=w.heap.size:=⟨_,rfl⟩
 have HPE:=Kh hP
 rw [← hP] at hbox hB hC hD hzA
 have HBX:=Kh hbox;have HGA:=Kh hgA;have HWA:=Kh hWA;have H4:=Kh (h4.kept hgA (by simp));have H5:=Kh (h5.kept hgA (by simp));have H6:=Kh (h6.kept hgA (by simp));have HOK:=Kh hok;have HRT:=Kh hrt
 have HPL:=Kh hpl;have HLL:=Kh hll
 clear hbox hgA hWA h4 h5 h6 hok hrt hpl hll
 go_enter Tryd.func84,Tryd.ntmps84
 go_upto_region 1 with fail
 rw [← HWA.out,← HPE.out]
 clear hP
 obtain ⟨e0,e1,e2,e3,e4,e5,e6,e7,e8⟩:=zW HBX.out
 clear e0 e1 e2 e4 e5 e6 e7 e8
 go_wp2
 go_loopg [3,13] n (fun gh v3 i wr=>∃ (a:Nat) (sa:Option Addr) (sc:Nat),gh+a=n∧i=.int .i64 a∧v3=.slice sa a sc∧OwnT (P+1) wr (.slice sa a sc) a ((tabE pre las right n).take a)∧wA.grownBy wr none)
 case atStart=>exact ⟨0,none,0,rfl,rfl,rfl,by simpa using OwnT.nil _ _,zX _ _⟩
 case round =>
  obtain ⟨a,sa,sc,hg,rfl,rfl,hown,hgr⟩:=hrel
  have HG:=Kh hg;have HOWN:=Kh hown;have HGR:=Kh hgr
  clear e3
  obtain ⟨e0,e1,e2,e3,e4,e5,e6,e7,e8⟩:=zW (zE HBX.out hgr (by simp))
  clear hg hown e0 e1 e2 e4 e5 e6 e7 e8
  by_cases ha:a < n
  ·have ha':(a:Int) < n:=by omega
   obtain ⟨wo,rfl⟩:∃ wo:World,wo=wr:=⟨_,rfl⟩
   clear hgr
   go_wp2
   go_loopg [5,6,7,8,9,19] n (fun gh ov v6 v7 v8 v9 i wr=>∃ (q:Nat) (sr:Option Addr) (cr:Nat),gh+q=n∧i=.int .i64 q∧ov=.slice sr q cr∧wr.ownsRow wo.heap.size 3 1 (.slice sr q cr) q (nats ((rowE pre las right n a).take q))∧wo.grownBy wr none)
   case atStart=>exact ⟨0,none,0,rfl,rfl,rfl,by simpa [nats] using World.ownsRow_nil _ _ _ _,zX _ _⟩
   case round =>
    obtain ⟨q,sr,cr,hg,rfl,rfl,hown,hgr⟩:=hrel
    have HGQ:=Kh hg;have HOWR:=Kh hown;have HGRQ:=Kh hgr
    clear hg hown e3
    have hgAr:=zG HGR.out hgr
    have cagg:=zE HBX.out hgAr (by simp)
    obtain ⟨e0,e1,e2,e3,e4,e5,e6,e7,e8⟩:=zW cagg
    by_cases hq:q < n
    ·have hq':(q:Int) < n:=by omega
     have HW:=Kh (oT B C wr x0 x1 x2 (.slice sa3 n c3) v4 v5 (.slice ta n tc) x7 x8 pre las n k q (by have:=hgAr.size;omega) (by have:=hgAr.size;omega) (H4.out.kept hgAr (by simp)) (H5.out.kept hgAr (by simp)) HPL.out HLL.out HOK.out hk hn hq)
     clear hgr cagg
     go_wp2_with fail
     refine HW.out.mono ?_
     rintro e w2 ⟨rfl,hg2⟩
     have HWD:=Kh (mC HOK.out q hq)
     obtain ⟨W,hWE⟩:∃ W,W=wordI pre las q:=⟨_,rfl⟩
     have HRE:Hid ((rowE pre las right n a).take (q+1)=(rowE pre las right n a).take q ++ [atW right a W]):=Kh (by rw [hWE];exact rowE_take hq)
     rw [← hWE] at HWD ⊢
     obtain ⟨S,hS⟩:∃ S,S=strOfNums (lets W):=⟨_,rfl⟩
     have HS:=Kh hS
     have hSz:S.size=W.length:=by rw [hS,strOfNums_size];simp [lets]
     have hWl:=HWD.out.2
     rw [← hS]
     have HG2:=Kh (zG HGRQ.out hg2)
     have HO2:=Kh (yB HOWR.out hg2 (by simp))
     clear HW hg2 hWE hS e0 e1 e2 e3 e4 e5 e6 e7 e8
     obtain ⟨wb,rfl⟩:∃ wb:World,wb=w2:=⟨_,rfl⟩
     go_wp2
     go_loopg [8,9] W.length (fun gh v8 v9 wr=>∃ (j p:Nat),gh+j=W.length∧v9=.int .i64 j∧v8=.int .i64 p∧p < n∧p=atW right a (W.take j)∧∃ m,wr=wb.drewN m)
     case atStart=>exact ⟨0,a,by omega,rfl,rfl,ha,rfl,0,rfl⟩
     case round =>
      obtain ⟨j,p,hg,rfl,rfl,hp,hpe,m,rfl⟩:=hrel
      have HGJ:=Kh hg;have HPEJ:=Kh hpe
      clear hg hpe
      by_cases hj:j < W.length
      ·have hjs:j < S.size:=by omega
       have hby:=byte_at HS.out (fun x hx=>by have:=HWD.out.1 x hx;omega) hj hjs
       have hlk:=HWD.out.1 (W.getD j 0) (by rw [zV hj];exact List.getElem_mem hj)
       obtain ⟨l,hl⟩:∃ l,l=W.getD j 0:=⟨_,rfl⟩
       rw [← hl] at hby hlk
       have HL:=Kh hl
       have hgAm:=zG HGR.out (zG HG2.out (zJ wb m none))
       obtain ⟨e0,e1,e2,e3,e4,e5,e6,e7,e8⟩:=zW (zE HBX.out hgAm (by simp))
       obtain ⟨rb,ro,rc,e,hrc1,hrc2,_,_,hall⟩:=(H6.out.kept hgAm (by simp)).head (by rw [HRT.out.1];omega)
       rw [HRT.out.1] at hrc1 hall e
       simp only [Value.slice.injEq] at e
       obtain ⟨rfl,-,rfl⟩:=e
       obtain ⟨ra,rc2,ch,hrow⟩:=hall p hp
       have hrl:=(HRT.out.2 p hp).1
       have hrlt:=(HRT.out.2 p hp).2 l hlk
       rw [hrl] at ch
       obtain ⟨qb,qo,qc,e,_,hd1,hd2,hra⟩:=hrow.row.some_ (by rw [zN,hrl];omega)
       rw [hrl] at e
       simp only [Value.slice.injEq] at e
       obtain ⟨rfl,-,rfl⟩:=e
       have ce:=hra.nat l (by rw [hrl];exact hlk)
       have HT:Hid (atW right a (W.take (j+1))=(right.getD p []).getD l 0):=Kh (by rw [yF (d:=0) hj,atW_snoc,← HPEJ.out,← HL.out])
       obtain ⟨z,hz⟩:∃ z,z=(right.getD p []).getD l 0:=⟨_,rfl⟩
       rw [← hz] at ce hrlt HT
       clear hz hl hall hrow hra hrl hgAm e0 e1 e2 e3 e4 e5 e7 e8
       have hjS:(j:Int) < S.size:=by omega
       have hjW:(j:Int) < W.length:=by omega
       have hp':(p:Int) < n:=by omega
       have hl':(l:Int) < k:=by omega
       have hcw:∀ (x:Addr),(wb.drewN m).cell? x=wb.cell? x:=fun x=>rfl
       rw [hcw] at e6 ch ce
       clear hcw
       go_wp2
       go_region
       go_wp2
       go_roundg (W.length - (j+1))
       case measure=>have:=HGJ.out;omega
       case rel=>exact ⟨j+1,z,by omega,by go_num,rfl,hrlt,HT.out.symm,m+1,rfl⟩
      ·have hjw:W.take j=W:=List.take_of_length_le (by omega)
       rw [hjw] at HPEJ
       have hjS:¬ (j:Int) < S.size:=by omega
       have hot:=HG2.out.size
       have HO3:=Kh (yB HO2.out (zJ wb m none) (by simp))
       have HG3:=Kh (zG HG2.out (zJ wb m none))
       clear hjw HO2 HG2
       obtain ⟨w3,hw3⟩:∃ w3,w3=wb.drewN m:=⟨_,rfl⟩
       have hz3:wb.heap.size=w3.heap.size:=by rw [hw3];rfl
       rw [← hw3] at HO3 HG3 ⊢
       clear hw3
       go_wp2_with (first|(at_builtin;refine app1 rfl _ _ _ rfl yG wo.heap.size _ q (nats ((rowE pre las right n a).take q)) rfl HO3.out _ rfl rfl ?c1 ?c2 ?c3 ?_)|fail)
       case c1=>unfold maxLen;omega
       case c2=>omega
       case c3=>omega
       intro sa' sc' w6 hown6 hg6 hlt6
       have HO6:=Kh hown6;have HG6:=Kh hg6
       clear hown6 hg6
       go_wp2
       go_roundg (n - (q+1))
       case measure=>have:=HGQ.out;omega
       case rel =>
        refine ⟨q+1,sa',sc',by omega,by go_num,rfl,?_,zF HG3.out HG6.out (fun q e=>(HO3.out.lt q e).1)⟩
        rw [HRE.out,uP,← HPEJ.out]
        exact HO6.out
    ·have hqn:q=n:=by have:=HGQ.out;omega
     have hct:(rowE pre las right n a).take q=rowE pre las right n a:=by have h9:=rY pre las right n a;rw [hqn];exact List.take_of_length_le (by omega)
     rw [hct] at HOWR
     have hot:=HOWN.out.grow hgr
     obtain ⟨hs,ho1,ho2,ho3⟩:=hot
     have hrow:=RowT.of_owns HOWR.out
     have HR:=Kh hrow;have HO1:=Kh ho1;have HO2:=Kh ho2;have HO3:=Kh ho3
     have hzz:=hgr.size
     have hPw:P+1≤wr.heap.size:=by have:=HGR.out.size;omega
     clear hqn hct hgr hrow ho1 ho2 ho3 e0 e1 e2 e3 e4 e5 e6 e7 e8 cagg hgAr
     go_wp2_with (first|(at_builtin;refine app1 rfl _ _ _ rfl wT (P+1) _ a hs rfl HO1.out _ rfl rfl ?c1 ?c2 ?c3 ?_)|fail)
     case c1=>unfold maxLen;omega
     case c2=>omega
     case c3=>exact hPw
     intro sa' sc' w6 hown6 hg6 hlt6
     have HO6:Hid (OwnT (P+1) w6 (.slice sa' (a+1) sc') (a+1) ((tabE pre las right n).take (a+1))):=Kh (by
      rw [tabE_take ha]
      exact OwnT.push HO1.out HO2.out HO3.out HR.out hown6 hg6)
     have HG6:Hid (wA.grownBy w6 none):=Kh (zF (zG HGR.out HGRQ.out) hg6 (fun x e=>by have:=(HO1.out.lt x e).1;omega))
     clear hown6 hg6
     go_wp2
     go_roundg (n - (a+1))
     case measure=>have:=HG.out;omega
     case rel=>exact ⟨a+1,sa',sc',by omega,by go_num,rfl,HO6.out,HG6.out⟩
  ·have hak:a=n:=by have:=HG.out;omega
   have hgl:=wI pre las right n
   have HE:Hid ((tabE pre las right n).take a=tabE pre las right n∧(tabE pre las right n).length=a):=Kh ⟨List.take_of_length_le (by omega),by rw [hgl,hak]⟩
   clear hak hgr hgl
   go_wp2
   go_ret
   rw [HE.out.1] at HOWN
   refine ⟨sa,sc,by rw [HE.out.2];rfl,?_,zG HGA.out HGR.out⟩
   rw [HE.out.2]
   exact HOWN.out.base (by have:=HPE.out;omega)
end Go.Proofs.YtdjhoadoiknaoaaDoor
namespace Go.Proofs.YtdjhoadoiknaoaaDoor
theorem jN {n:Nat} {g:List Nat} (hg:IsT n g):compT (List.range n) g=g:=by
 refine List.ext_getElem (by rw [sX,List.length_range,hg.1]) fun i h1 h2=>?_
 have hi:i < n:=by rw [← hg.1];exact h2
 simp only [compT,List.getElem_map,List.getElem_range]
 rw [zV h2]
theorem isT_range (n:Nat):IsT n (List.range n):=⟨List.length_range,fun x hx=>List.mem_range.1 hx⟩
theorem compT_id' {n:Nat} {f:List Nat} (hf:IsT n f):compT f (List.range n)=f:=by
 refine List.ext_getElem (by rw [sX]) fun i h1 h2=>?_
 simp only [compT,List.getElem_map]
 have:=hf.2 _ (List.getElem_mem h2)
 rw [zV (by simpa using this)];simp
theorem compT_assoc {n:Nat} {f g h:List Nat} (hf:IsT n f) (hg:IsT n g):compT (compT f g) h=compT f (compT g h):=by
 refine List.ext_getElem (by simp [sX]) fun i h1 h2=>?_
 simp only [compT,List.getElem_map]
 have hi:i < f.length:=by simpa [compT] using h1
 have:=hf.2 _ (List.getElem_mem hi)
 rw [vC (x:=0) (by rw [hg.1];exact this)]
theorem lV {α:Type} {a b:List α} (h:a <+: b) {i:Nat} (hi:i < a.length) (d:α):b.getD i d=a.getD i d:=by
 obtain ⟨c,rfl⟩:=h
 rw [List.getD_eq_getElem?_getD,List.getElem?_append_left hi,← List.getD_eq_getElem?_getD]
theorem mY {α:Type} [BEq α] [LawfulBEq α] {l:List α} {x d:α} (h:x∈l):l.getD (l.idxOf x) d=x:=by
 rw [zV (List.idxOf_lt_length_of_mem h),List.getElem_idxOf]
theorem nodup_getD {α:Type} {l:List α} (h:l.Nodup) {i j:Nat} {d:α} (hi:i < l.length) (hj:j < l.length) (e:l.getD i d=l.getD j d):i=j:=by
 rw [zV hi,zV hj] at e
 exact (List.getElem_inj h).1 e
structure EnI (gs:List (List Nat)) (n:Nat) (el:List (List Nat)) (pr la:List Int):Prop where
 l2:pr.length=el.length
 l3:la.length=el.length
 it:∀ f∈el,IsT n f
 words:sD pr la el.length gs.length
 nodup:el.Nodup
 pos:0 < el.length
 one:el.getD 0 []=List.range n
 val:∀ i,i < el.length→(la.getD i 0 < 0∧i=0)∨(¬ la.getD i 0 < 0∧el.getD i []=compT (el.getD (pr.getD i 0).toNat []) (gs.getD (la.getD i 0).toNat []))
theorem EnI.add {gs:List (List Nat)} {n d x:Nat} {el:List (List Nat)} {pr la:List Int} (h:EnI gs n el pr la) (hg:∀ g∈gs,IsT n g) (hd:d < el.length) (hx:x < gs.length) (hno:compT (el.getD d []) (gs.getD x []) ∉ el) :
  EnI gs n (el ++ [compT (el.getD d []) (gs.getD x [])]) (pr ++ [(d:Int)]) (la ++ [(x:Int)]) where
 l2:=by simp [h.l2]
 l3:=by simp [h.l3]
 it:=fun f hf=>by
  rcases List.mem_append.1 hf with hf|hf
  ·exact h.it f hf
  ·rw [List.mem_singleton] at hf;subst hf
   exact kQ (h.it _ (getDm hd)) (hg _ (getDm hx))
 words:=by
  have:=wordsOk_snoc h.words h.l2 h.l3 hd hx
  simpa using this
 nodup:=by
  rw [List.nodup_append]
  exact ⟨h.nodup,by simp,fun a ha b hb=>by rw [List.mem_singleton] at hb;subst hb;exact fun e=>hno (e ▸ ha)⟩
 pos:=by simp
 one:=by rw [xV h.pos];exact h.one
 val:=fun i hi=>by
  rcases Nat.lt_or_ge i el.length with h1|h1
  ·rw [xV (l:=la) (by rw [h.l3];exact h1),xV (l:=el) (i:=i) h1,xV (l:=pr) (by rw [h.l2];exact h1)]
   rcases h.val i h1 with h2|⟨h2,h3⟩
   ·exact .inl h2
   ·refine .inr ⟨h2,?_⟩
    rcases h.words i h1 with h4|⟨_,_,h5,h6⟩
    ·exact absurd h4 h2
    ·rw [xV (show (pr.getD i 0).toNat < el.length by omega)];exact h3
  ·have e:i=el.length:=by simp at hi;omega
   rw [wS (l:=la) (by rw [h.l3];exact e),wS (l:=el) (i:=i) e,wS (l:=pr) (by rw [h.l2];exact e)]
   refine .inr ⟨by omega,?_⟩
   rw [Int.toNat_natCast,Int.toNat_natCast,xV (l:=el) hd]
theorem mL {gs:List (List Nat)} {n:Nat} (hg:∀ g∈gs,IsT n g):∀ x,x≤gs.length→EnI gs n (yJ gs n x).1 (yJ gs n x).2.1 (yJ gs n x).2.2
 | 0,_=>by
  refine ⟨rfl,rfl,fun f hf=>?_,fun i hi=>?_,by simp [yJ],by simp [yJ],rfl,fun i hi=>?_⟩
  ·simp only [yJ,List.mem_singleton] at hf;subst hf;exact isT_range n
  ·have hi:i=0:=by simp [yJ] at hi;omega
   subst hi;exact .inl (by simp [yJ])
  ·have hi:i=0:=by simp [yJ] at hi;omega
   subst hi;exact .inl ⟨by simp [yJ],rfl⟩
 | x+1,hx=>by
  have ih:=mL hg x (by omega)
  rw [yJ]
  by_cases h:gs.getD x []∈(yJ gs n x).1
  ·rw [if_pos h];exact ih
  ·rw [if_neg h]
   have e:compT ((yJ gs n x).1.getD 0 []) (gs.getD x [])=gs.getD x []:=by
    rw [ih.one];exact jN (hg _ (getDm (show x < gs.length by omega)))
   have:=ih.add (d:=0) (x:=x) hg ih.pos (by omega) (by rw [e];exact h)
   rw [e] at this
   exact this
structure RowI (gs:List (List Nat)) (n d:Nat) (s0:List (List Nat)) (x:Nat) (t:List (List Nat) × List Int × List Int × List Nat):Prop where
 en:EnI gs n t.1 t.2.1 t.2.2.1
 pre:s0 <+: t.1
 len:t.2.2.2.length=x
 ent:∀ a,a < x→t.2.2.2.getD a 0 < t.1.length∧t.1.getD (t.2.2.2.getD a 0) []=compT (s0.getD d []) (gs.getD a [])
theorem iB {gs:List (List Nat)} {n d:Nat} {s:List (List Nat) × List Int × List Int} (hg:∀ g∈gs,IsT n g) (h:EnI gs n s.1 s.2.1 s.2.2) (hd:d < s.1.length):∀ x,x≤gs.length→RowI gs n d s.1 x (rowTo gs d s x)
 | 0,_=>⟨h,List.prefix_refl _,rfl,fun a ha=>by omega⟩
 | x+1,hx=>by
  have ih:=iB hg h hd x (by omega)
  rw [rowTo]
  obtain ⟨⟨el,pr,la,ro⟩,ht⟩:∃ t,t=rowTo gs d s x:=⟨_,rfl⟩
  rw [← ht] at ih ⊢
  obtain ⟨he,hp,hl,hn⟩:=ih
  simp only at he hp hl hn
  have hdl:d < el.length:=Nat.lt_of_lt_of_le hd hp.length_le
  have hed:el.getD d []=s.1.getD d []:=lV hp hd _
  unfold stepX
  simp only
  rw [hed]
  by_cases hin:compT (s.1.getD d []) (gs.getD x [])∈el
  ·rw [if_pos hin]
   refine ⟨he,hp,by simp [hl],fun a ha=>?_⟩
   rcases Nat.lt_or_ge a x with h1|h1
   ·simp only;rw [xV (by rw [hl];exact h1)];exact hn a h1
   ·have:a=x:=by omega
    subst this
    simp only;rw [wS hl.symm]
    exact ⟨List.idxOf_lt_length_of_mem hin,mY hin⟩
  ·rw [if_neg hin]
   refine ⟨?_,hp.trans (List.prefix_append _ _),by simp [hl],fun a ha=>?_⟩
   ·have:=he.add (d:=d) (x:=x) hg hdl (by omega) (by rw [hed];exact hin)
    rw [hed] at this;exact this
   ·simp only
    rcases Nat.lt_or_ge a x with h1|h1
    ·rw [xV (by rw [hl];exact h1)]
     have:=hn a h1
     rw [xV this.1]
     exact ⟨by rw [List.length_append];exact Nat.lt_of_lt_of_le this.1 (Nat.le_add_right _ _),this.2⟩
    ·have:a=x:=by omega
     subst this
     rw [wS hl.symm,wS rfl]
     exact ⟨by simp,rfl⟩
theorem jZ (gs:List (List Nat)) (d:Nat) (s:List (List Nat) × List Int × List Int):∀ x,s.1 <+: (rowTo gs d s x).1
 | 0=>List.prefix_refl _
 | x+1=>by
  have ih:=jZ gs d s x
  rw [rowTo]
  unfold stepX
  split
  ·exact ih
  ·exact ih.trans (List.prefix_append _ _)
theorem row_mem (gs:List (List Nat)) (d:Nat) (s:List (List Nat) × List Int × List Int) (hd:s.1.length≤d) (hk:1≤gs.length):∀ x,1≤x→([]:List Nat)∈(rowTo gs d s x).1
 | 1,_=>by
  rw [rowTo,rowTo]
  unfold stepX
  have e:s.1.getD d []=[]:=by rw [List.getD_eq_getElem?_getD,List.getElem?_eq_none hd];rfl
  simp only [e,compT,List.map_nil]
  split
  ·assumption
  ·simp
 | x+2,_=>by
  have ih:=row_mem gs d s hd hk (x+1) (by omega)
  rw [rowTo]
  unfold stepX
  split
  ·exact ih
  ·exact List.mem_append_left _ ih
theorem proc_pre (gs:List (List Nat)) (s:List (List Nat) × List Int × List Int) (d:Nat):∀ e,(wJ gs s d).1.1 <+: (wJ gs s (d+e)).1.1
 | 0=>List.prefix_refl _
 | e+1=>(proc_pre gs s d e).trans (by rw [Nat.add_succ,wJ];exact jZ gs (d+e) (wJ gs s (d+e)).1 gs.length)
theorem proc_go {gs:List (List Nat)} {n d:Nat} {s:List (List Nat) × List Int × List Int} (h1:1≤n) (hk:1≤gs.length) (hit:∀ f∈(wJ gs s d).1.1,IsT n f) (d':Nat) (hd:d' < d):d' < (wJ gs s d').1.1.length:=by
 rcases Nat.lt_or_ge d' (wJ gs s d').1.1.length with h|h
 ·exact h
 ·exfalso
  have hm:=row_mem gs d' (wJ gs s d').1 h hk gs.length hk
  have hp:=proc_pre gs s (d'+1) (d - (d'+1))
  rw [show d'+1+(d - (d'+1))=d by omega,wJ] at hp
  have:=hit [] (hp.subset hm)
  have:=this.1
  simp at this;omega
structure Enm (gs:List (List Nat)) (n:Nat) (el:List (List Nat)) (pr la:List Int) (ri:List (List Nat)) (d:Nat):Prop where
 en:EnI gs n el pr la
 rl:ri.length=d
 row:∀ q,q < d→q < el.length∧(ri.getD q []).length=gs.length∧∀ a,a < gs.length→(ri.getD q []).getD a 0 < el.length∧el.getD ((ri.getD q []).getD a 0) []=compT (el.getD q []) (gs.getD a [])
theorem jE {gs:List (List Nat)} {n:Nat} {s:List (List Nat) × List Int × List Int} (hg:∀ g∈gs,IsT n g) (h:EnI gs n s.1 s.2.1 s.2.2):∀ d,(∀ d',d' < d→d' < (wJ gs s d').1.1.length)→Enm gs n (wJ gs s d).1.1 (wJ gs s d).1.2.1 (wJ gs s d).1.2.2 (wJ gs s d).2 d
 | 0,_=>⟨h,rfl,fun q hq=>by omega⟩
 | d+1,hlt=>by
  have ih:=jE hg h d (fun d' hd=>hlt d' (by omega))
  have hr:=iB hg (s:=(wJ gs s d).1) ih.en (hlt d (by omega)) gs.length (Nat.le_refl _)
  rw [wJ]
  refine ⟨hr.en,by simp [ih.rl],fun q hq=>?_⟩
  simp only
  rcases Nat.lt_or_ge q d with h1|h1
  ·rw [xV (by rw [ih.rl];exact h1)]
   obtain ⟨h2,h3,h4⟩:=ih.row q h1
   refine ⟨Nat.lt_of_lt_of_le h2 hr.pre.length_le,h3,fun a ha=>?_⟩
   obtain ⟨h5,h6⟩:=h4 a ha
   exact ⟨Nat.lt_of_lt_of_le h5 hr.pre.length_le,by rw [lV hr.pre h5,lV hr.pre h2];exact h6⟩
  ·have:q=d:=by omega
   subst this
   rw [wS ih.rl.symm]
   refine ⟨Nat.lt_of_lt_of_le (hlt q (by omega)) hr.pre.length_le,hr.len,fun a ha=>?_⟩
   obtain ⟨h5,h6⟩:=hr.ent a ha
   exact ⟨h5,by rw [lV hr.pre (hlt q (by omega))];exact h6⟩
theorem enm_of {gs:List (List Nat)} {n d:Nat} {el:List (List Nat)} {pr la:List Int} {ri:List (List Nat)} (hg:∀ g∈gs,IsT n g) (h1:1≤n) (hk:1≤gs.length) (hp:wJ gs (yJ gs n gs.length) d=((el,pr,la),ri)) (hit:∀ f∈el,IsT n f):Enm gs n el pr la ri d:=by
 have:=jE hg (mL hg gs.length (Nat.le_refl _)) d (proc_go h1 hk (by rw [hp];exact hit))
 rw [hp] at this
 exact this
def valW (gs:List (List Nat)) (n:Nat) (w:List Nat):List Nat:=w.foldl (fun f a=>compT f (gs.getD a [])) (List.range n)
theorem kA (gs:List (List Nat)) (n:Nat) (w:List Nat) (a:Nat):valW gs n (w ++ [a])=compT (valW gs n w) (gs.getD a []):=by simp [valW,List.foldl_append]
theorem valW_isT {gs:List (List Nat)} {n:Nat} (hg:∀ g∈gs,IsT n g) (w:List Nat) (hw:∀ a∈w,a < gs.length):IsT n (valW gs n w):=by
 suffices h:∀ (v:List Nat) (f:List Nat),IsT n f→(∀ a∈v,a < gs.length)→IsT n (v.foldl (fun f a=>compT f (gs.getD a [])) f) from h w _ (isT_range n) hw
 intro v
 induction v with
 | nil=>intro f hf _;exact hf
 | cons a v ih=>intro f hf hv;exact ih _ (kQ hf (hg _ (getDm (hv a (by simp))))) (fun b hb=>hv b (by simp [hb]))
section
variable {gs:List (List Nat)} {n:Nat} {el:List (List Nat)} {pr la:List Int} {ri:List (List Nat)}
theorem EnI.word (h:EnI gs n el pr la):∀ i,i < el.length→el.getD i []=valW gs n (wordI pr la i):=by
 intro i
 induction i using Nat.strongRecOn with
 | ind i ih =>
  intro hi
  rcases h.val i hi with ⟨h1,h2⟩|⟨h1,h2⟩
  ·subst h2;rw [mN h1,h.one];rfl
  ·rcases h.words i hi with h3|⟨_,_,h4,h5⟩
   ·exact absurd h3 h1
   ·rw [mO h.words hi h1,kA,h2,ih (pr.getD i 0).toNat (by omega) (by omega)]
theorem Enm.right (h:Enm gs n el pr la ri el.length):iL ri el.length gs.length:=⟨h.rl,fun q hq=>⟨(h.row q hq).2.1,fun a ha=>((h.row q hq).2.2 a ha).1⟩⟩
theorem Enm.at (h:Enm gs n el pr la ri el.length) (hg:∀ g∈gs,IsT n g) {x:Nat} (hx:x < el.length) (w:List Nat) (hw:∀ a∈w,a < gs.length):atW ri x w < el.length∧el.getD (atW ri x w) []=compT (el.getD x []) (valW gs n w):=by
 suffices hs:∀ (m:Nat) (w:List Nat),w.length=m→(∀ a∈w,a < gs.length)→atW ri x w < el.length∧el.getD (atW ri x w) []=compT (el.getD x []) (valW gs n w) from hs _ w rfl hw
 intro m
 induction m with
 | zero =>
  intro w hl _
  have:w=[]:=List.eq_nil_of_length_eq_zero hl
  subst this
  exact ⟨hx,(compT_id' (h.en.it _ (getDm hx))).symm⟩
 | succ m ih =>
  intro w hl hw
  obtain ⟨v,a,rfl⟩:∃ v a,w=v ++ [a]:=⟨w.dropLast,w.getLast (by intro e;rw [e] at hl;simp at hl),(List.dropLast_concat_getLast _).symm⟩
  have hv:∀ b∈v,b < gs.length:=fun b hb=>hw b (by simp [hb])
  have ha:=hw a (by simp)
  obtain ⟨h1,h2⟩:=ih v (by simpa using hl) hv
  rw [atW_snoc,kA]
  obtain ⟨h3,h4⟩:=(h.row _ h1).2.2 a ha
  refine ⟨h3,?_⟩
  rw [h4,h2,compT_assoc (h.en.it _ (getDm hx)) (valW_isT hg v hv)]
theorem Enm.tab (h:Enm gs n el pr la ri el.length) (hg:∀ g∈gs,IsT n g) {x y:Nat} (hx:x < el.length) (hy:y < el.length):((tabE pr la ri el.length).getD x []).getD y 0 < el.length∧el.getD (((tabE pr la ri el.length).getD x []).getD y 0) []=compT (el.getD x []) (el.getD y []):=by
 have e:((tabE pr la ri el.length).getD x []).getD y 0=atW ri x (wordI pr la y):=by
  rw [zV (l:=tabE pr la ri el.length) (by rw [wI];exact hx)]
  simp only [tabE,List.getElem_map,List.getElem_range]
  rw [zV (by rw [rY];exact hy)]
  simp only [rowE,List.getElem_map,List.getElem_range]
 rw [e,h.en.word y hy]
 exact h.at hg hx _ (mC h.en.words y hy).1
theorem Enm.image (h:Enm gs n el pr la ri el.length) (hg:∀ g∈gs,IsT n g) {a:Nat} (ha:a < gs.length):gs.getD a []∈el:=by
 obtain ⟨h1,h2⟩:=(h.row 0 h.en.pos).2.2 a ha
 rw [h.en.one,jN (hg _ (getDm ha))] at h2
 rw [← h2];exact getDm h1
end
end Go.Proofs.YtdjhoadoiknaoaaDoor
