/- Part 19 of the proof: EProcPlain, Tab12, EnumLaw, Build12, BoxS, Gener. -/
import Derived.Test.YtdjhoadoiknaoaaDoorZD18
set_option linter.unusedVariables false
set_option linter.unusedSimpArgs false
namespace Go.Proofs.YtdjhoadoiknaoaaDoor
open Go.RowKit
theorem xZ {α:Type} {l:List α} {x d:α} {i:Nat} (h:i < l.length):(l ++ [x]).getD i d=l.getD i d:=by
 rw [List.getD_eq_getElem?_getD,List.getElem?_append_left h,← List.getD_eq_getElem?_getD]
theorem vM {α:Type} {l:List α} {x d:α} {i:Nat} (h:i=l.length):(l ++ [x]).getD i d=x:=by
 subst h
 rw [List.getD_eq_getElem?_getD,List.getElem?_append_right (Nat.le_refl _)];simp
theorem wordsOk_snoc {pre las:List Int} {m k p a:Nat} (h:rJ pre las m k) (hp:pre.length=m) (hl:las.length=m) (h1:p < m) (h2:a < k):rJ (pre ++ [(p:Int)]) (las ++ [(a:Int)]) (m+1) k:=by
 intro i hi
 rcases Nat.lt_or_ge i m with h3|h3
 ·rw [xZ (by omega),xZ (by omega)]
  exact h i h3
 ·rw [vM (by omega),vM (by omega)]
  exact .inr ⟨by omega,by omega,by omega,by omega⟩
def atW (right:List (List Nat)) (x:Nat) (w:List Nat):Nat:=w.foldl (fun q a=>(right.getD q []).getD a 0) x
def rowE (pre las:List Int) (right:List (List Nat)) (n x:Nat):List Nat:=(List.range n).map fun y=>atW right x (rQ pre las y)
def tabE (pre las:List Int) (right:List (List Nat)) (n:Nat):List (List Nat):=(List.range n).map fun x=>rowE pre las right n x
theorem qT (pre las:List Int) (right:List (List Nat)) (n x:Nat):(rowE pre las right n x).length=n:=by simp [rowE]
theorem wU (pre las:List Int) (right:List (List Nat)) (n:Nat):(tabE pre las right n).length=n:=by simp [tabE]
theorem rowE_take {pre las:List Int} {right:List (List Nat)} {n x y:Nat} (hy:y < n):(rowE pre las right n x).take (y+1)=(rowE pre las right n x).take y ++ [atW right x (rQ pre las y)]:=by
 rw [yG (d:=0) (by rw [qT];exact hy),zY (by rw [qT];exact hy)];simp [rowE]
theorem tabE_take {pre las:List Int} {right:List (List Nat)} {n x:Nat} (hx:x < n):(tabE pre las right n).take (x+1)=(tabE pre las right n).take x ++ [rowE pre las right n x]:=by
 rw [yG (d:=[]) (by rw [wU];exact hx),zY (by rw [wU];exact hx)];simp [tabE]
def qAT (right:List (List Nat)) (n k:Nat):Prop:=right.length=n∧∀ q,q < n→(right.getD q []).length=k∧∀ a,a < k→(right.getD q []).getD a 0 < n
theorem qCA (right:List (List Nat)) (x:Nat) (w:List Nat) (a:Nat):atW right x (w ++ [a])=(right.getD (atW right x w) []).getD a 0:=by simp [atW,List.foldl_append]
theorem byte_at {w:List Nat} {j:Nat} {s:ByteArray} (hs:s=strOfNums (lets w)) (hw:∀ a∈w,a < 26) (hj:j < w.length) (h:j < s.size):(s[j].toNat:Int)=97+(w.getD j 0:Nat):=by
 subst hs
 have e:(strOfNums (lets w))[j]=(strOfNums (lets w)).data.toList[j]'(by simpa using h):=rfl
 have hm:=hw _ (List.getElem_mem hj)
 rw [e]
 simp only [strOfNums_data,lets,List.getElem_map]
 rw [zY hj]
 simp
 omega
set_option maxRecDepth 100000 in
set_option maxHeartbeats 1000000 in
theorem table12_any (B C D:Nat) (w:World) (x0 x1 x2 x7 x8:Value) (sa3:Option Addr) (c3:Nat) (v4 v5 v6:Value) (pre las:List Int) (right:List (List Nat)) (n k:Nat) (hB:B≤w.heap.size) (hC:C≤w.heap.size) (hD:D≤w.heap.size)
  (h4:Row B w v4 (ints pre)) (h5:Row C w v5 (ints las)) (h6:TMat D w v6 right) (hpl:pre.length=n) (hll:las.length=n) (hok:rJ pre las n k) (hrt:qAT right n k) (hk:k≤6) (hn:n≤2000) :
  Calls Tryd.prog 84 #[.agg #[x0,x1,x2,.slice sa3 n c3,v4,v5,v6,x7,x8]] w (eZ w (tabE pre las right n)):=by
 obtain ⟨ta,tc,rfl⟩:=h6.shape
 rw [hrt.1] at h6 ⊢
 obtain ⟨wA,hWA⟩:∃ wA,wA=w.alloc (.cells #[x0,x1,x2,.slice sa3 n c3,v4,v5,.slice ta n tc,x7,x8] 106):=⟨_,rfl⟩
 have hbox:wA.heap[w.heap.size]?=some (.cells #[x0,x1,x2,.slice sa3 n c3,v4,v5,.slice ta n tc,x7,x8] 106 (0,0)):=by rw [hWA];exact heap_alloc_new w _
 have hgA:w.grownBy wA none:=by rw [hWA];exact Ga w _ none
 have hzA:wA.heap.size=w.heap.size+1:=by rw [hWA,zO]
 obtain ⟨P,hP⟩:∃ P,P=w.heap.size:=⟨_,rfl⟩
 have HPE:=Kh hP
 rw [← hP] at hbox hB hC hD hzA
 have HBX:=Kh hbox;have HGA:=Kh hgA;have HWA:=Kh hWA;have H4:=Kh (h4.kept hgA (by simp));have H5:=Kh (h5.kept hgA (by simp));have H6:=Kh (h6.kept hgA (by simp));have HOK:=Kh hok;have HRT:=Kh hrt
 have HPL:=Kh hpl;have HLL:=Kh hll
 clear hbox hgA hWA h4 h5 h6 hok hrt hpl hll
 go_enter Tryd.func84,Tryd.ntmps84
 go_upto_region 1 with fail
 rw [← HWA.out,← HPE.out]
 clear hP
 obtain ⟨e0,e1,e2,e3,e4,e5,e6,e7,e8⟩:=zX HBX.out
 clear e0 e1 e2 e4 e5 e6 e7 e8
 go_wp2
 go_loopg [3,13] n (fun gh v3 i wr=>∃ (a:Nat) (sa:Option Addr) (sc:Nat),gh+a=n∧i=.int .i64 a∧v3=.slice sa a sc∧OwnT (P+1) wr (.slice sa a sc) a ((tabE pre las right n).take a)∧wA.grownBy wr none)
 case atStart=>exact ⟨0,none,0,rfl,rfl,rfl,by simpa using OwnT.nil _ _,zW _ _⟩
 case round =>
  obtain ⟨a,sa,sc,hg,rfl,rfl,hown,hgr⟩:=hrel
  have HG:=Kh hg;have HOWN:=Kh hown;have HGR:=Kh hgr
  clear e3
  obtain ⟨e0,e1,e2,e3,e4,e5,e6,e7,e8⟩:=zX (zE HBX.out hgr (by simp))
  clear hg hown e0 e1 e2 e4 e5 e6 e7 e8
  by_cases ha:a < n
  ·have ha':(a:Int) < n:=by omega
   obtain ⟨wo,rfl⟩:∃ wo:World,wo=wr:=⟨_,rfl⟩
   clear hgr
   go_wp2
   go_loopg [5,6,7,8,9,19] n (fun gh ov v6 v7 v8 v9 i wr=>∃ (q:Nat) (sr:Option Addr) (cr:Nat),gh+q=n∧i=.int .i64 q∧ov=.slice sr q cr∧wr.ownsRow wo.heap.size 3 1 (.slice sr q cr) q (nats ((rowE pre las right n a).take q))∧wo.grownBy wr none)
   case atStart=>exact ⟨0,none,0,rfl,rfl,rfl,by simpa [nats] using World.ownsRow_nil _ _ _ _,zW _ _⟩
   case round =>
    obtain ⟨q,sr,cr,hg,rfl,rfl,hown,hgr⟩:=hrel
    have HGQ:=Kh hg;have HOWR:=Kh hown;have HGRQ:=Kh hgr
    clear hg hown e3
    have hgAr:=zF HGR.out hgr
    have cagg:=zE HBX.out hgAr (by simp)
    obtain ⟨e0,e1,e2,e3,e4,e5,e6,e7,e8⟩:=zX cagg
    by_cases hq:q < n
    ·have hq':(q:Int) < n:=by omega
     have HW:=Kh (lH B C wr x0 x1 x2 (.slice sa3 n c3) v4 v5 (.slice ta n tc) x7 x8 pre las n k q (by have:=hgAr.size;omega) (by have:=hgAr.size;omega) (H4.out.kept hgAr (by simp)) (H5.out.kept hgAr (by simp)) HPL.out HLL.out HOK.out hk hn hq)
     clear hgr cagg
     go_wp2_with fail
     refine HW.out.mono ?_
     rintro e w2 ⟨rfl,hg2⟩
     have HWD:=Kh (kZ HOK.out q hq)
     obtain ⟨W,hWE⟩:∃ W,W=rQ pre las q:=⟨_,rfl⟩
     have HRE:Hid ((rowE pre las right n a).take (q+1)=(rowE pre las right n a).take q ++ [atW right a W]):=Kh (by rw [hWE];exact rowE_take hq)
     rw [← hWE] at HWD ⊢
     obtain ⟨S,hS⟩:∃ S,S=strOfNums (lets W):=⟨_,rfl⟩
     have HS:=Kh hS
     have hSz:S.size=W.length:=by rw [hS,strOfNums_size];simp [lets]
     have hWl:=HWD.out.2
     rw [← hS]
     have HG2:=Kh (zF HGRQ.out hg2)
     have HO2:=Kh (yF HOWR.out hg2 (by simp))
     clear HW hg2 hWE hS e0 e1 e2 e3 e4 e5 e6 e7 e8
     obtain ⟨wb,rfl⟩:∃ wb:World,wb=w2:=⟨_,rfl⟩
     go_wp2
     go_loopg [8,9] W.length (fun gh v8 v9 wr=>∃ (j p:Nat),gh+j=W.length∧v9=.int .i64 j∧v8=.int .i64 p∧p < n∧p=atW right a (W.take j)∧∃ m,wr=wb.drewN m)
     case atStart=>exact ⟨0,a,by omega,rfl,rfl,ha,rfl,0,rfl⟩
     case round =>
      obtain ⟨j,p,hg,rfl,rfl,hp,hpe,m,rfl⟩:=hrel
      have HGJ:=Kh hg;have HPEJ:=Kh hpe
      clear hg hpe
      by_cases hj:j < W.length
      ·have hjs:j < S.size:=by omega
       have hby:=byte_at HS.out (fun x hx=>by have:=HWD.out.1 x hx;omega) hj hjs
       have hlk:=HWD.out.1 (W.getD j 0) (by rw [zY hj];exact List.getElem_mem hj)
       obtain ⟨l,hl⟩:∃ l,l=W.getD j 0:=⟨_,rfl⟩
       rw [← hl] at hby hlk
       have HL:=Kh hl
       have hgAm:=zF HGR.out (zF HG2.out (zJ wb m none))
       obtain ⟨e0,e1,e2,e3,e4,e5,e6,e7,e8⟩:=zX (zE HBX.out hgAm (by simp))
       obtain ⟨rb,ro,rc,e,hrc1,hrc2,_,_,hall⟩:=(H6.out.kept hgAm (by simp)).head (by rw [HRT.out.1];omega)
       rw [HRT.out.1] at hrc1 hall e
       simp only [Value.slice.injEq] at e
       obtain ⟨rfl,-,rfl⟩:=e
       obtain ⟨ra,rc2,ch,hrow⟩:=hall p hp
       have hrl:=(HRT.out.2 p hp).1
       have hrlt:=(HRT.out.2 p hp).2 l hlk
       rw [hrl] at ch
       obtain ⟨qb,qo,qc,e,_,hd1,hd2,hra⟩:=hrow.row.some_ (by rw [zN,hrl];omega)
       rw [hrl] at e
       simp only [Value.slice.injEq] at e
       obtain ⟨rfl,-,rfl⟩:=e
       have ce:=hra.nat l (by rw [hrl];exact hlk)
       have HT:Hid (atW right a (W.take (j+1))=(right.getD p []).getD l 0):=Kh (by rw [yG (d:=0) hj,qCA,← HPEJ.out,← HL.out])
       obtain ⟨z,hz⟩:∃ z,z=(right.getD p []).getD l 0:=⟨_,rfl⟩
       rw [← hz] at ce hrlt HT
       clear hz hl hall hrow hra hrl hgAm e0 e1 e2 e3 e4 e5 e7 e8
       have hjS:(j:Int) < S.size:=by omega
       have hjW:(j:Int) < W.length:=by omega
       have hp':(p:Int) < n:=by omega
       have hl':(l:Int) < k:=by omega
       have hcw:∀ (x:Addr),(wb.drewN m).cell? x=wb.cell? x:=fun x=>rfl
       rw [hcw] at e6 ch ce
       clear hcw
       go_wp2
       go_region
       go_wp2
       go_roundg (W.length - (j+1))
       case measure=>have:=HGJ.out;omega
       case rel=>exact ⟨j+1,z,by omega,by go_num,rfl,hrlt,HT.out.symm,m+1,rfl⟩
      ·have hjw:W.take j=W:=List.take_of_length_le (by omega)
       rw [hjw] at HPEJ
       have hjS:¬ (j:Int) < S.size:=by omega
       have hot:=HG2.out.size
       have HO3:=Kh (yF HO2.out (zJ wb m none) (by simp))
       have HG3:=Kh (zF HG2.out (zJ wb m none))
       clear hjw HO2 HG2
       obtain ⟨w3,hw3⟩:∃ w3,w3=wb.drewN m:=⟨_,rfl⟩
       have hz3:wb.heap.size=w3.heap.size:=by rw [hw3];rfl
       rw [← hw3] at HO3 HG3 ⊢
       clear hw3
       go_wp2_with (first|(at_builtin;refine app1 rfl _ _ _ rfl yC wo.heap.size _ q (nats ((rowE pre las right n a).take q)) rfl HO3.out _ rfl rfl ?c1 ?c2 ?c3 ?_)|fail)
       case c1=>unfold maxLen;omega
       case c2=>omega
       case c3=>omega
       intro sa' sc' w6 hown6 hg6 hlt6
       have HO6:=Kh hown6;have HG6:=Kh hg6
       clear hown6 hg6
       go_wp2
       go_roundg (n - (q+1))
       case measure=>have:=HGQ.out;omega
       case rel =>
        refine ⟨q+1,sa',sc',by omega,by go_num,rfl,?_,zG HG3.out HG6.out (fun q e=>(HO3.out.lt q e).1)⟩
        rw [HRE.out,wE,← HPEJ.out]
        exact HO6.out
    ·have hqn:q=n:=by have:=HGQ.out;omega
     have hct:(rowE pre las right n a).take q=rowE pre las right n a:=by have h9:=qT pre las right n a;rw [hqn];exact List.take_of_length_le (by omega)
     rw [hct] at HOWR
     have hot:=HOWN.out.grow hgr
     obtain ⟨hs,ho1,ho2,ho3⟩:=hot
     have hrow:=RowT.of_owns HOWR.out
     have HR:=Kh hrow;have HO1:=Kh ho1;have HO2:=Kh ho2;have HO3:=Kh ho3
     have hzz:=hgr.size
     have hPw:P+1≤wr.heap.size:=by have:=HGR.out.size;omega
     clear hqn hct hgr hrow ho1 ho2 ho3 e0 e1 e2 e3 e4 e5 e6 e7 e8 cagg hgAr
     go_wp2_with (first|(at_builtin;refine app1 rfl _ _ _ rfl vO (P+1) _ a hs rfl HO1.out _ rfl rfl ?c1 ?c2 ?c3 ?_)|fail)
     case c1=>unfold maxLen;omega
     case c2=>omega
     case c3=>exact hPw
     intro sa' sc' w6 hown6 hg6 hlt6
     have HO6:Hid (OwnT (P+1) w6 (.slice sa' (a+1) sc') (a+1) ((tabE pre las right n).take (a+1))):=Kh (by
      rw [tabE_take ha]
      exact OwnT.push HO1.out HO2.out HO3.out HR.out hown6 hg6)
     have HG6:Hid (wA.grownBy w6 none):=Kh (zG (zF HGR.out HGRQ.out) hg6 (fun x e=>by have:=(HO1.out.lt x e).1;omega))
     clear hown6 hg6
     go_wp2
     go_roundg (n - (a+1))
     case measure=>have:=HG.out;omega
     case rel=>exact ⟨a+1,sa',sc',by omega,by go_num,rfl,HO6.out,HG6.out⟩
  ·have hak:a=n:=by have:=HG.out;omega
   have hgl:=wU pre las right n
   have HE:Hid ((tabE pre las right n).take a=tabE pre las right n∧(tabE pre las right n).length=a):=Kh ⟨List.take_of_length_le (by omega),by rw [hgl,hak]⟩
   clear hak hgr hgl
   go_wp2
   go_ret
   rw [HE.out.1] at HOWN
   refine ⟨sa,sc,by rw [HE.out.2];rfl,?_,zF HGA.out HGR.out⟩
   rw [HE.out.2]
   exact HOWN.out.base (by have:=HPE.out;omega)
end Go.Proofs.YtdjhoadoiknaoaaDoor
namespace Go.Proofs.YtdjhoadoiknaoaaDoor
theorem bH {n:Nat} {g:List Nat} (hg:IsT n g):vQ (List.range n) g=g:=by
 refine List.ext_getElem (by rw [rU,List.length_range,hg.1]) fun i h1 h2=>?_
 have hi:i < n:=by rw [← hg.1];exact h2
 simp only [vQ,List.getElem_map,List.getElem_range]
 rw [zY h2]
theorem aQ (n:Nat):IsT n (List.range n):=⟨List.length_range,fun x hx=>List.mem_range.1 hx⟩
theorem aY {n:Nat} {f:List Nat} (hf:IsT n f):vQ f (List.range n)=f:=by
 refine List.ext_getElem (by rw [rU]) fun i h1 h2=>?_
 simp only [vQ,List.getElem_map]
 have:=hf.2 _ (List.getElem_mem h2)
 rw [zY (by simpa using this)];simp
theorem eQ {n:Nat} {f g h:List Nat} (hf:IsT n f) (hg:IsT n g):vQ (vQ f g) h=vQ f (vQ g h):=by
 refine List.ext_getElem (by simp [rU]) fun i h1 h2=>?_
 simp only [vQ,List.getElem_map]
 have hi:i < f.length:=by simpa [vQ] using h1
 have:=hf.2 _ (List.getElem_mem hi)
 rw [uF (x:=0) (by rw [hg.1];exact this)]
theorem gZ {α:Type} {a b:List α} (h:a <+: b) {i:Nat} (hi:i < a.length) (d:α):b.getD i d=a.getD i d:=by
 obtain ⟨c,rfl⟩:=h
 rw [List.getD_eq_getElem?_getD,List.getElem?_append_left hi,← List.getD_eq_getElem?_getD]
theorem iL {α:Type} [BEq α] [LawfulBEq α] {l:List α} {x d:α} (h:x∈l):l.getD (l.idxOf x) d=x:=by
 rw [zY (List.idxOf_lt_length_of_mem h),List.getElem_idxOf]
theorem nodup_getD {α:Type} {l:List α} (h:l.Nodup) {i j:Nat} {d:α} (hi:i < l.length) (hj:j < l.length) (e:l.getD i d=l.getD j d):i=j:=by
 rw [zY hi,zY hj] at e
 exact (List.getElem_inj h).1 e
structure EnI (gs:List (List Nat)) (n:Nat) (el:List (List Nat)) (pr la:List Int):Prop where
 l2:pr.length=el.length
 l3:la.length=el.length
 it:∀ f∈el,IsT n f
 words:rJ pr la el.length gs.length
 nodup:el.Nodup
 pos:0 < el.length
 one:el.getD 0 []=List.range n
 val:∀ i,i < el.length→(la.getD i 0 < 0∧i=0)∨(¬ la.getD i 0 < 0∧el.getD i []=vQ (el.getD (pr.getD i 0).toNat []) (gs.getD (la.getD i 0).toNat []))
theorem EnI.add {gs:List (List Nat)} {n d x:Nat} {el:List (List Nat)} {pr la:List Int} (h:EnI gs n el pr la) (hg:∀ g∈gs,IsT n g) (hd:d < el.length) (hx:x < gs.length) (hno:vQ (el.getD d []) (gs.getD x []) ∉ el) :
  EnI gs n (el ++ [vQ (el.getD d []) (gs.getD x [])]) (pr ++ [(d:Int)]) (la ++ [(x:Int)]) where
 l2:=by simp [h.l2]
 l3:=by simp [h.l3]
 it:=fun f hf=>by
  rcases List.mem_append.1 hf with hf|hf
  ·exact h.it f hf
  ·rw [List.mem_singleton] at hf;subst hf
   exact eP (h.it _ (tH hd)) (hg _ (tH hx))
 words:=by
  have:=wordsOk_snoc h.words h.l2 h.l3 hd hx
  simpa using this
 nodup:=by
  rw [List.nodup_append]
  exact ⟨h.nodup,by simp,fun a ha b hb=>by rw [List.mem_singleton] at hb;subst hb;exact fun e=>hno (e ▸ ha)⟩
 pos:=by simp
 one:=by rw [xZ h.pos];exact h.one
 val:=fun i hi=>by
  rcases Nat.lt_or_ge i el.length with h1|h1
  ·rw [xZ (l:=la) (by rw [h.l3];exact h1),xZ (l:=el) (i:=i) h1,xZ (l:=pr) (by rw [h.l2];exact h1)]
   rcases h.val i h1 with h2|⟨h2,h3⟩
   ·exact .inl h2
   ·refine .inr ⟨h2,?_⟩
    rcases h.words i h1 with h4|⟨_,_,h5,h6⟩
    ·exact absurd h4 h2
    ·rw [xZ (show (pr.getD i 0).toNat < el.length by omega)];exact h3
  ·have e:i=el.length:=by simp at hi;omega
   rw [vM (l:=la) (by rw [h.l3];exact e),vM (l:=el) (i:=i) e,vM (l:=pr) (by rw [h.l2];exact e)]
   refine .inr ⟨by omega,?_⟩
   rw [Int.toNat_natCast,Int.toNat_natCast,xZ (l:=el) hd]
theorem jT {gs:List (List Nat)} {n:Nat} (hg:∀ g∈gs,IsT n g):∀ x,x≤gs.length→EnI gs n (yO gs n x).1 (yO gs n x).2.1 (yO gs n x).2.2
 | 0,_=>by
  refine ⟨rfl,rfl,fun f hf=>?_,fun i hi=>?_,by simp [yO],by simp [yO],rfl,fun i hi=>?_⟩
  ·simp only [yO,List.mem_singleton] at hf;subst hf;exact aQ n
  ·have hi:i=0:=by simp [yO] at hi;omega
   subst hi;exact .inl (by simp [yO])
  ·have hi:i=0:=by simp [yO] at hi;omega
   subst hi;exact .inl ⟨by simp [yO],rfl⟩
 | x+1,hx=>by
  have ih:=jT hg x (by omega)
  rw [yO]
  by_cases h:gs.getD x []∈(yO gs n x).1
  ·rw [if_pos h];exact ih
  ·rw [if_neg h]
   have e:vQ ((yO gs n x).1.getD 0 []) (gs.getD x [])=gs.getD x []:=by
    rw [ih.one];exact bH (hg _ (tH (show x < gs.length by omega)))
   have:=ih.add (d:=0) (x:=x) hg ih.pos (by omega) (by rw [e];exact h)
   rw [e] at this
   exact this
structure RowI (gs:List (List Nat)) (n d:Nat) (s0:List (List Nat)) (x:Nat) (t:List (List Nat) × List Int × List Int × List Nat):Prop where
 en:EnI gs n t.1 t.2.1 t.2.2.1
 pre:s0 <+: t.1
 len:t.2.2.2.length=x
 ent:∀ a,a < x→t.2.2.2.getD a 0 < t.1.length∧t.1.getD (t.2.2.2.getD a 0) []=vQ (s0.getD d []) (gs.getD a [])
theorem qAK {gs:List (List Nat)} {n d:Nat} {s:List (List Nat) × List Int × List Int} (hg:∀ g∈gs,IsT n g) (h:EnI gs n s.1 s.2.1 s.2.2) (hd:d < s.1.length):∀ x,x≤gs.length→RowI gs n d s.1 x (oB gs d s x)
 | 0,_=>⟨h,List.prefix_refl _,rfl,fun a ha=>by omega⟩
 | x+1,hx=>by
  have ih:=qAK hg h hd x (by omega)
  rw [oB]
  obtain ⟨⟨el,pr,la,ro⟩,ht⟩:∃ t,t=oB gs d s x:=⟨_,rfl⟩
  rw [← ht] at ih ⊢
  obtain ⟨he,hp,hl,hn⟩:=ih
  simp only at he hp hl hn
  have hdl:d < el.length:=Nat.lt_of_lt_of_le hd hp.length_le
  have hed:el.getD d []=s.1.getD d []:=gZ hp hd _
  unfold qAI
  simp only
  rw [hed]
  by_cases hin:vQ (s.1.getD d []) (gs.getD x [])∈el
  ·rw [if_pos hin]
   refine ⟨he,hp,by simp [hl],fun a ha=>?_⟩
   rcases Nat.lt_or_ge a x with h1|h1
   ·simp only;rw [xZ (by rw [hl];exact h1)];exact hn a h1
   ·have:a=x:=by omega
    subst this
    simp only;rw [vM hl.symm]
    exact ⟨List.idxOf_lt_length_of_mem hin,iL hin⟩
  ·rw [if_neg hin]
   refine ⟨?_,hp.trans (List.prefix_append _ _),by simp [hl],fun a ha=>?_⟩
   ·have:=he.add (d:=d) (x:=x) hg hdl (by omega) (by rw [hed];exact hin)
    rw [hed] at this;exact this
   ·simp only
    rcases Nat.lt_or_ge a x with h1|h1
    ·rw [xZ (by rw [hl];exact h1)]
     have:=hn a h1
     rw [xZ this.1]
     exact ⟨by rw [List.length_append];exact Nat.lt_of_lt_of_le this.1 (Nat.le_add_right _ _),this.2⟩
    ·have:a=x:=by omega
     subst this
     rw [vM hl.symm,vM rfl]
     exact ⟨by simp,rfl⟩
theorem qAJ (gs:List (List Nat)) (d:Nat) (s:List (List Nat) × List Int × List Int):∀ x,s.1 <+: (oB gs d s x).1
 | 0=>List.prefix_refl _
 | x+1=>by
  have ih:=qAJ gs d s x
  rw [oB]
  unfold qAI
  split
  ·exact ih
  ·exact ih.trans (List.prefix_append _ _)
theorem qCP (gs:List (List Nat)) (d:Nat) (s:List (List Nat) × List Int × List Int) (hd:s.1.length≤d) (hk:1≤gs.length):∀ x,1≤x→([]:List Nat)∈(oB gs d s x).1
 | 1,_=>by
  rw [oB,oB]
  unfold qAI
  have e:s.1.getD d []=[]:=by rw [List.getD_eq_getElem?_getD,List.getElem?_eq_none hd];rfl
  simp only [e,vQ,List.map_nil]
  split
  ·assumption
  ·simp
 | x+2,_=>by
  have ih:=qCP gs d s hd hk (x+1) (by omega)
  rw [oB]
  unfold qAI
  split
  ·exact ih
  ·exact List.mem_append_left _ ih
theorem qBI (gs:List (List Nat)) (s:List (List Nat) × List Int × List Int) (d:Nat):∀ e,(wW gs s d).1.1 <+: (wW gs s (d+e)).1.1
 | 0=>List.prefix_refl _
 | e+1=>(qBI gs s d e).trans (by rw [Nat.add_succ,wW];exact qAJ gs (d+e) (wW gs s (d+e)).1 gs.length)
theorem qCT {gs:List (List Nat)} {n d:Nat} {s:List (List Nat) × List Int × List Int} (h1:1≤n) (hk:1≤gs.length) (hit:∀ f∈(wW gs s d).1.1,IsT n f) (d':Nat) (hd:d' < d):d' < (wW gs s d').1.1.length:=by
 rcases Nat.lt_or_ge d' (wW gs s d').1.1.length with h|h
 ·exact h
 ·exfalso
  have hm:=qCP gs d' (wW gs s d').1 h hk gs.length hk
  have hp:=qBI gs s (d'+1) (d - (d'+1))
  rw [show d'+1+(d - (d'+1))=d by omega,wW] at hp
  have:=hit [] (hp.subset hm)
  have:=this.1
  simp at this;omega
structure Enm (gs:List (List Nat)) (n:Nat) (el:List (List Nat)) (pr la:List Int) (ri:List (List Nat)) (d:Nat):Prop where
 en:EnI gs n el pr la
 rl:ri.length=d
 row:∀ q,q < d→q < el.length∧(ri.getD q []).length=gs.length∧∀ a,a < gs.length→(ri.getD q []).getD a 0 < el.length∧el.getD ((ri.getD q []).getD a 0) []=vQ (el.getD q []) (gs.getD a [])
theorem cV {gs:List (List Nat)} {n:Nat} {s:List (List Nat) × List Int × List Int} (hg:∀ g∈gs,IsT n g) (h:EnI gs n s.1 s.2.1 s.2.2):∀ d,(∀ d',d' < d→d' < (wW gs s d').1.1.length)→Enm gs n (wW gs s d).1.1 (wW gs s d).1.2.1 (wW gs s d).1.2.2 (wW gs s d).2 d
 | 0,_=>⟨h,rfl,fun q hq=>by omega⟩
 | d+1,hlt=>by
  have ih:=cV hg h d (fun d' hd=>hlt d' (by omega))
  have hr:=qAK hg (s:=(wW gs s d).1) ih.en (hlt d (by omega)) gs.length (Nat.le_refl _)
  rw [wW]
  refine ⟨hr.en,by simp [ih.rl],fun q hq=>?_⟩
  simp only
  rcases Nat.lt_or_ge q d with h1|h1
  ·rw [xZ (by rw [ih.rl];exact h1)]
   obtain ⟨h2,h3,h4⟩:=ih.row q h1
   refine ⟨Nat.lt_of_lt_of_le h2 hr.pre.length_le,h3,fun a ha=>?_⟩
   obtain ⟨h5,h6⟩:=h4 a ha
   exact ⟨Nat.lt_of_lt_of_le h5 hr.pre.length_le,by rw [gZ hr.pre h5,gZ hr.pre h2];exact h6⟩
  ·have:q=d:=by omega
   subst this
   rw [vM ih.rl.symm]
   refine ⟨Nat.lt_of_lt_of_le (hlt q (by omega)) hr.pre.length_le,hr.len,fun a ha=>?_⟩
   obtain ⟨h5,h6⟩:=hr.ent a ha
   exact ⟨h5,by rw [gZ hr.pre (hlt q (by omega))];exact h6⟩
theorem enm_of {gs:List (List Nat)} {n d:Nat} {el:List (List Nat)} {pr la:List Int} {ri:List (List Nat)} (hg:∀ g∈gs,IsT n g) (h1:1≤n) (hk:1≤gs.length) (hp:wW gs (yO gs n gs.length) d=((el,pr,la),ri)) (hit:∀ f∈el,IsT n f):Enm gs n el pr la ri d:=by
 have:=cV hg (jT hg gs.length (Nat.le_refl _)) d (qCT h1 hk (by rw [hp];exact hit))
 rw [hp] at this
 exact this
def valW (gs:List (List Nat)) (n:Nat) (w:List Nat):List Nat:=w.foldl (fun f a=>vQ f (gs.getD a [])) (List.range n)
theorem fG (gs:List (List Nat)) (n:Nat) (w:List Nat) (a:Nat):valW gs n (w ++ [a])=vQ (valW gs n w) (gs.getD a []):=by simp [valW,List.foldl_append]
theorem valW_isT {gs:List (List Nat)} {n:Nat} (hg:∀ g∈gs,IsT n g) (w:List Nat) (hw:∀ a∈w,a < gs.length):IsT n (valW gs n w):=by
 suffices h:∀ (v:List Nat) (f:List Nat),IsT n f→(∀ a∈v,a < gs.length)→IsT n (v.foldl (fun f a=>vQ f (gs.getD a [])) f) from h w _ (aQ n) hw
 intro v
 induction v with
 | nil=>intro f hf _;exact hf
 | cons a v ih=>intro f hf hv;exact ih _ (eP hf (hg _ (tH (hv a (by simp))))) (fun b hb=>hv b (by simp [hb]))
section
variable {gs:List (List Nat)} {n:Nat} {el:List (List Nat)} {pr la:List Int} {ri:List (List Nat)}
theorem EnI.word (h:EnI gs n el pr la):∀ i,i < el.length→el.getD i []=valW gs n (rQ pr la i):=by
 intro i
 induction i using Nat.strongRecOn with
 | ind i ih =>
  intro hi
  rcases h.val i hi with ⟨h1,h2⟩|⟨h1,h2⟩
  ·subst h2;rw [jW h1,h.one];rfl
  ·rcases h.words i hi with h3|⟨_,_,h4,h5⟩
   ·exact absurd h3 h1
   ·rw [jX h.words hi h1,fG,h2,ih (pr.getD i 0).toNat (by omega) (by omega)]
theorem Enm.right (h:Enm gs n el pr la ri el.length):qAT ri el.length gs.length:=⟨h.rl,fun q hq=>⟨(h.row q hq).2.1,fun a ha=>((h.row q hq).2.2 a ha).1⟩⟩
theorem Enm.at (h:Enm gs n el pr la ri el.length) (hg:∀ g∈gs,IsT n g) {x:Nat} (hx:x < el.length) (w:List Nat) (hw:∀ a∈w,a < gs.length):atW ri x w < el.length∧el.getD (atW ri x w) []=vQ (el.getD x []) (valW gs n w):=by
 suffices hs:∀ (m:Nat) (w:List Nat),w.length=m→(∀ a∈w,a < gs.length)→atW ri x w < el.length∧el.getD (atW ri x w) []=vQ (el.getD x []) (valW gs n w) from hs _ w rfl hw
 intro m
 induction m with
 | zero =>
  intro w hl _
  have:w=[]:=List.eq_nil_of_length_eq_zero hl
  subst this
  exact ⟨hx,(aY (h.en.it _ (tH hx))).symm⟩
 | succ m ih =>
  intro w hl hw
  obtain ⟨v,a,rfl⟩:∃ v a,w=v ++ [a]:=⟨w.dropLast,w.getLast (by intro e;rw [e] at hl;simp at hl),(List.dropLast_concat_getLast _).symm⟩
  have hv:∀ b∈v,b < gs.length:=fun b hb=>hw b (by simp [hb])
  have ha:=hw a (by simp)
  obtain ⟨h1,h2⟩:=ih v (by simpa using hl) hv
  rw [qCA,fG]
  obtain ⟨h3,h4⟩:=(h.row _ h1).2.2 a ha
  refine ⟨h3,?_⟩
  rw [h4,h2,eQ (h.en.it _ (tH hx)) (valW_isT hg v hv)]
theorem Enm.tab (h:Enm gs n el pr la ri el.length) (hg:∀ g∈gs,IsT n g) {x y:Nat} (hx:x < el.length) (hy:y < el.length):((tabE pr la ri el.length).getD x []).getD y 0 < el.length∧el.getD (((tabE pr la ri el.length).getD x []).getD y 0) []=vQ (el.getD x []) (el.getD y []):=by
 have e:((tabE pr la ri el.length).getD x []).getD y 0=atW ri x (rQ pr la y):=by
  rw [zY (l:=tabE pr la ri el.length) (by rw [wU];exact hx)]
  simp only [tabE,List.getElem_map,List.getElem_range]
  rw [zY (by rw [qT];exact hy)]
  simp only [rowE,List.getElem_map,List.getElem_range]
 rw [e,h.en.word y hy]
 exact h.at hg hx _ (kZ h.en.words y hy).1
theorem Enm.image (h:Enm gs n el pr la ri el.length) (hg:∀ g∈gs,IsT n g) {a:Nat} (ha:a < gs.length):gs.getD a []∈el:=by
 obtain ⟨h1,h2⟩:=(h.row 0 h.en.pos).2.2 a ha
 rw [h.en.one,bH (hg _ (tH ha))] at h2
 rw [← h2];exact tH h1
end
end Go.Proofs.YtdjhoadoiknaoaaDoor
namespace Go.Proofs.YtdjhoadoiknaoaaDoor
open Go.RowKit
theorem dK (gs:List (List Nat)) (n:Nat):∀ x,(yO gs n x).1.length≤x+1
 | 0=>by simp [yO]
 | x+1=>by
  have:=dK gs n x
  rw [yO]
  split
  ·omega
  ·simp only [List.length_append,List.length_singleton];omega
theorem RowX.one {X:Nat→Prop} {e:TypeId} {w:World} {v:Value} {xs:List Value} (h:RowX X e w v xs):v.oneCell'=true:=by
 obtain ⟨a,c,rfl⟩:=h.1.shape
 rfl
theorem tY.one {α:Type} {X:Nat→Prop} {e:TypeId} {f:α→List Value} {w:World} {hs:List Value} {ts:List α} (h:tY X e f w hs ts):∀ v∈hs,v.oneCell'=true:=by
 intro v hv
 obtain ⟨i,hi,rfl⟩:=List.getElem_of_mem hv
 exact (h.2 i hi (by rw [← h.1];exact hi)).one
def Big (n:Nat):Prop:=∃ el:List (List Nat),el.Nodup∧400 < el.length∧∀ f∈el,IsT n f
theorem big_of_full {gs:List (List Nat)} {n:Nat} (hg:∀ g∈gs,IsT n g) (h1:1≤n) (hk:1≤gs.length) (h:bM gs (yO gs n gs.length) n):Big n:=by
 obtain ⟨d,x,hd,hx,hl,hit⟩:=h
 have hE:=cV hg (jT hg gs.length (Nat.le_refl _)) d (qCT h1 hk (fun f hf=>hit f ((qAJ gs d _ x).subset hf)))
 have hr:=qAK hg hE.en hd x hx
 exact ⟨_,hr.en.nodup,by rw [hl];decide,hit⟩
def BuildOk (gs:List (List Nat)) (n:Nat) (w:World) (e:Ending) (w':World):Prop :=
 (e=.returned (.tuple #[.agg #[.int .i64 0,.bool false,.slice none 0 0,.slice none 0 0,.slice none 0 0,.slice none 0 0,.slice none 0 0,.slice none 0 0,.int .i64 0],.int .i64 3])∧Big n∧w.grownBy w' none) ∨
 ∃ (el:List (List Nat)) (pr la:List Int) (ri:List (List Nat)) (m gN uN:Nat) (gA uA:Option Addr) (gC uC:Nat) (vP vL vR:Value) (sE:Option Addr) (cE:Nat),
  e=.returned (.tuple #[.agg #[.int .i64 n,.bool true,.slice gA gN gC,.slice sE m cE,vP,vL,vR,.slice uA uN uC,.int .i64 m],.int .i64 0])∧Enm gs n el pr la ri m∧el.length=m∧m≤2000 ∧
  TMat w'.heap.size w' (.slice sE m cE) el∧Row w'.heap.size w' vP (ints pr)∧Row w'.heap.size w' vL (ints la)∧TMat w'.heap.size w' vR ri∧w.grownBy w' none
set_option maxRecDepth 100000 in
set_option maxHeartbeats 2000000 in
theorem build12_any (B:Nat) (w:World) (v0:Value) (gs:List (List Nat)) (n:Nat) (hB:B≤w.heap.size) (h:TMat B w v0 gs) (hgs:∀ g∈gs,IsT n g) (h1:1≤n) (h32:n≤32) (hk1:1≤gs.length) (hk6:gs.length≤6) :
  Calls Tryd.prog 83 #[v0,.bool true] w (BuildOk gs n w):=by
 obtain ⟨w1,hw1⟩:∃ w1,w1=w.alloc (.cells #[.int .i64 0,.bool false,.slice none 0 0,.slice none 0 0,.slice none 0 0,.slice none 0 0,.slice none 0 0,.slice none 0 0,.int .i64 0] 106):=⟨_,rfl⟩
 have hg1:w.grownBy w1 none:=by rw [hw1];exact Ga w _ none
 have hb1:=heap_alloc_new w (.cells #[.int .i64 0,.bool false,.slice none 0 0,.slice none 0 0,.slice none 0 0,.slice none 0 0,.slice none 0 0,.slice none 0 0,.int .i64 0] 106)
 rw [← hw1] at hb1
 have HST:=Kh (start12_any B w1 v0 gs n (Nat.le_trans hB hg1.size) (h.kept hg1 (by simp)) hgs h1 h32 hk1 hk6)
 obtain ⟨P,hP⟩:∃ P,P=w.heap.size:=⟨_,rfl⟩
 have HPE:=Kh hP;have HW1:=Kh hw1;have HG1:=Kh hg1;have HGS:=Kh hgs
 rw [← hP] at hb1
 have HB1:=Kh hb1
 clear hw1 hg1 hb1 hgs h
 go_enter Tryd.func83,Tryd.ntmps83
 go_upto_region 1 with fail
 rw [← HW1.out,← HPE.out]
 clear hP
 go_wp2_with fail
 refine HST.out.mono ?_
 rintro e w2 ⟨X,els,pre,las,m,u,us,hsE,gv,sE,cE,sP,cP,sL,cL,sU,cU,rfl,hst,hl,hpl,hll,hu,hus,hM,hE,hG,hg2⟩
 have hok:=iD (gs:=gs) (n:=n) gs.length (Nat.le_refl _)
 have hle:=dK gs n gs.length
 rw [hst] at hok hle
 simp only at hok hle
 obtain ⟨gA,gC,rfl⟩:=hG.tmat.shape
 have hb2:=zE HB1.out hg2 (by simp)
 have hit:=(jT HGS.out gs.length (Nat.le_refl _)).it
 rw [hst] at hit
 simp only at hit
 obtain ⟨w4,hw4⟩:∃ w4,w4=w2.alloc (.cells #[.int .i64 n,.bool true,.slice gA gs.length gC,.slice sE m cE,.slice sP m cP,.slice sL m cL,.slice none 0 0,.slice sU u cU,.int .i64 0] 106):=⟨_,rfl⟩
 have hg4:w2.grownBy w4 none:=by rw [hw4];exact Ga w2 _ none
 have hb4:=heap_alloc_new w2 (.cells #[.int .i64 n,.bool true,.slice gA gs.length gC,.slice sE m cE,.slice sP m cP,.slice sL m cL,.slice none 0 0,.slice sU u cU,.int .i64 0] 106)
 rw [← hw4] at hb4
 have k4:=hM.keep hg4
 have hpr:Calls Tryd.prog 105 #[.agg #[.int .i64 n,.bool true,.slice gA gs.length gC,.slice sE m cE,.slice sP m cP,.slice sL m cL,.slice none 0 0,.slice sU u cU,.int .i64 0],.int .i64 2001] w4 (ProcOk gs els pre las n 2001 (.slice gA gs.length gC) w4) :=
  process12_any w4 w1.heap.size X gs els pre las n m u us hsE gA gs.length gC sE cE sP cP sL cL sU cU 2001 (hM.grow hg4) (hE.kept k4 hg4.size) (hG.kept k4 hg4.size) hE.one hus hl hpl hll hit HGS.out rfl h32 (by rw [hl] at hok;exact hok.1) hk6 (by omega) (by omega) (by omega)
 have HPR:=Kh hpr
 obtain ⟨q0,q1,q2,q3,q4,q5,q6,q7,q8⟩:=zX hb4
 have hb5:=zE hb2 hg4 (by simp)
 have HB5:=Kh hb5;have HGW:=Kh (zG (zG HG1.out hg2 (by simp)) hg4 (by simp));have HW4:=Kh hw4;have HSTT:=Kh hst
 clear hok hle hl hpl hll hu hus hM hE hG hg2 hb2 hit hg4 hb4 k4 hpr hb5 hw4 hst
 go_upto_region 2 with fail
 rw [← HW4.out]
 go_wp2_with fail
 refine HPR.out.mono ?_
 rintro e w5 (⟨rfl,hfu,hg5⟩|⟨X2,el,pr,la,ri,m2,d,u2,us2,hsE2,hsR,sE2,cE2,sP2,cP2,sL2,cL2,sR2,cR2,sU2,cU2,rfl,hpt,hor,hm2,hdm,hl,hpl,hll,hrl,hit,hM,hE,hR,hG,hg5⟩)
 ·have HBIG:Hid (Big n):=Kh (big_of_full HGS.out h1 hk1 (by rw [HSTT.out];exact hfu))
  clear hfu
  have hb6:=zE HB5.out hg5 (by simp)
  have HB6:=Kh hb6;have HG5:=Kh (zG HGW.out hg5 (by simp))
  obtain ⟨p0,p1,p2,p3,p4,p5,p6,p7,p8⟩:=zX hb6
  have f0:=zD hb6 0;have f1:=zD hb6 1;have f2:=zD hb6 2;have f3:=zD hb6 3;have f4:=zD hb6 4;have f5:=zD hb6 5;have f6:=zD hb6 6;have f7:=zD hb6 7;have f8:=zD hb6 8
  clear hg5 hb6 q0 q1 q2 q3 q4 q5 q6 q7 q8
  go_wp2
  refine bodyPost_ret (v:=.tuple #[.agg #[.int .i64 0,.bool false,.slice none 0 0,.slice none 0 0,.slice none 0 0,.slice none 0 0,.slice none 0 0,.slice none 0 0,.int .i64 0],.int .i64 3]) (by simp [results,Tryd.results83,go_sem,p0,p1,p2,p3,p4,p5,p6,p7,p8]) rfl ?_
  obtain ⟨hsZ,hgZ⟩:=pY HB6.out (.int .i64 0) (.bool false) (.slice none 0 0) (.slice none 0 0) (.slice none 0 0) (.slice none 0 0) (.slice none 0 0) (.slice none 0 0) (.int .i64 0)
  exact .inl ⟨rfl,HBIG.out,zG HG5.out hgZ (fun j e=>by have e:P=j:=Oj e;have:=HPE.out;omega)⟩
 ·have hdm2:d=m2:=by rcases hor with h|h <;> omega
  subst hdm2
  have hen:=enm_of HGS.out h1 hk1 (by rw [HSTT.out];exact hpt) hit
  have hb6:=zE HB5.out hg5 (by simp)
  have HB6:=Kh hb6;have HG5:=Kh (zG HGW.out hg5 (by simp));have HEN:=Kh hen;have HM:=Kh hM;have HE:=Kh hE;have HR:=Kh hR
  have HL:=Kh hl
  obtain ⟨p0,p1,p2,p3,p4,p5,p6,p7,p8⟩:=zX hb6
  have f0:=zD hb6 0;have f1:=zD hb6 1;have f2:=zD hb6 2;have f3:=zD hb6 3;have f4:=zD hb6 4;have f5:=zD hb6 5;have f6:=zD hb6 6;have f7:=zD hb6 7;have f8:=zD hb6 8
  have hOE:OwnT w4.heap.size w5 (.slice sE2 d cE2) d el:=⟨hsE2,hM.own ⟨w4.heap.size,22,.slice sE2 d cE2,d,hsE2,1⟩ (by simp),hE.rowsT,hl⟩
  have hOR:OwnT w4.heap.size w5 (.slice sR2 d cR2) d ri:=⟨hsR,hM.own ⟨w4.heap.size,22,.slice sR2 d cR2,d,hsR,1⟩ (by simp),hR.rowsT,hrl⟩
  have HOE:=Kh hOE;have HOR:=Kh hOR
  clear hpt hor hdm hl hpl hll hrl hit hM hE hR hG hOE hOR hen hg5 hb6 q0 q1 q2 q3 q4 q5 q6 q7 q8
  go_wp2
  refine bodyPost_ret (v:=.tuple #[.agg #[.int .i64 n,.bool true,.slice gA gs.length gC,.slice sE2 d cE2,.slice sP2 d cP2,.slice sL2 d cL2,.slice sR2 d cR2,.slice sU2 u2 cU2,.int .i64 d],.int .i64 0]) (by simp [results,Tryd.results83,go_sem,p0,p1,p2,p3,p4,p5,p6,p7,p8]) rfl ?_
  obtain ⟨hsZ,hgZ⟩:=pY HB6.out (.int .i64 n) (.bool true) (.slice gA gs.length gC) (.slice sE2 d cE2) (.slice sP2 d cP2) (.slice sL2 d cL2) (.slice sR2 d cR2) (.slice sU2 u2 cU2) (.int .i64 d)
  have hoP:w5.ownsRow w4.heap.size 3 1 (.slice sP2 d cP2) d (ints pr):=HM.out.own ⟨w4.heap.size,3,.slice sP2 d cP2,d,ints pr,1⟩ (by simp)
  have hoL:w5.ownsRow w4.heap.size 3 1 (.slice sL2 d cL2) d (ints la):=HM.out.own ⟨w4.heap.size,3,.slice sL2 d cL2,d,ints la,1⟩ (by simp)
  exact .inr ⟨el,pr,la,ri,d,_,_,_,_,_,_,_,_,_,sE2,cE2,rfl,HEN.out,HL.out,hm2,(HOE.out.other hgZ HB6.out (by decide) (by decide)).tmat,Row.of_owns (hoP.kept hgZ (.inr (zS hoP HB6.out (by decide)))),Row.of_owns (hoL.kept hgZ (.inr (zS hoL HB6.out (by decide)))),(HOR.out.other hgZ HB6.out (by decide) (by decide)).tmat,zG HG5.out hgZ (fun j e=>by have e:P=j:=Oj e;have:=HPE.out;omega)⟩
theorem cM {W:World} {g e:Nat} {u:Value} {m:Nat × Nat} (h:W.heap[g]?=some (.cells #[u] e m)):tD W 1 (.slice (some ⟨g,0,none⟩) 1 1) 1 [u]:=by
 have c0:=zI h 0 (by simp)
 simp only [List.getElem_toArray,List.getElem_cons_zero] at c0
 refine .inr ⟨g,0,1,rfl,rfl,by unfold maxLen;omega,fun j u' hj=>?_⟩
 match j,hj with
 | 0,hj=>simp at hj;subst hj;simpa using c0
theorem yT {w:World} {p e:Nat} {x0 x1 x2 x3 x4 x5:Value} (h:w.heap[p]?=some (.cells #[x0,x1,x2,x3,x4,x5] e (0,0))) :
  w.cell? ⟨p,0,none⟩=some x0∧w.cell? ⟨p,1,none⟩=some x1∧w.cell? ⟨p,2,none⟩=some x2∧w.cell? ⟨p,3,none⟩=some x3∧w.cell? ⟨p,4,none⟩=some x4∧w.cell? ⟨p,5,none⟩=some x5:=by
 have c0:=zI h 0 (by simp)
 have c1:=zI h 1 (by simp)
 have c2:=zI h 2 (by simp)
 have c3:=zI h 3 (by simp)
 have c4:=zI h 4 (by simp)
 have c5:=zI h 5 (by simp)
 exact ⟨by simpa using c0,by simpa using c1,by simpa using c2,by simpa using c3,by simpa using c4,by simpa using c5⟩
theorem tP {w:World} {p e:Nat} {z0 z1 z2 z3 z4 z5:Value} (h:w.heap[p]?=some (.cells #[z0,z1,z2,z3,z4,z5] e (0,0))) (x0 x1 x2 x3 x4 x5:Value) :
  ((((((w.setCell ⟨p,0,none⟩ x0).setCell ⟨p,1,none⟩ x1).setCell ⟨p,2,none⟩ x2).setCell ⟨p,3,none⟩ x3).setCell ⟨p,4,none⟩ x4).setCell ⟨p,5,none⟩ x5).heap[p]?=some (.cells #[x0,x1,x2,x3,x4,x5] e (0,0)) ∧
  w.grownBy ((((((w.setCell ⟨p,0,none⟩ x0).setCell ⟨p,1,none⟩ x1).setCell ⟨p,2,none⟩ x2).setCell ⟨p,3,none⟩ x3).setCell ⟨p,4,none⟩ x4).setCell ⟨p,5,none⟩ x5) (some p):=by
 have s0:=heap_setCell_same w p 0 _ _ x0 h
 have s1:=heap_setCell_same _ p 1 _ _ x1 s0
 have s2:=heap_setCell_same _ p 2 _ _ x2 s1
 have s3:=heap_setCell_same _ p 3 _ _ x3 s2
 have s4:=heap_setCell_same _ p 4 _ _ x4 s3
 have s5:=heap_setCell_same _ p 5 _ _ x5 s4
 refine ⟨by rw [s5];simp,?_⟩
 have t:=fun (W:World) (i:Nat) (u:Value)=>zH W ⟨p,i,none⟩ u
 exact zF (zF (zF (zF (zF (t _ 0 _) (t _ 1 _)) (t _ 2 _)) (t _ 3 _)) (t _ 4 _)) (t _ 5 _)
structure BoxS (B:Nat) (X:Nat→Prop) (o ty:Nat) (w0 wk:World) (rs:List RowS) (c:Array Value) (w:World):Prop where
 mem:EMem X w rs
 typ:∀ r∈rs,r.base=B∧r.e≠ty
 box:w.heap[o]?=some (.cells c ty (0,0))
 off:¬ X o
 size:w0.heap.size≤B
 old:w0.heap.size≤o
 base:B≤wk.heap.size
 grown:w0.grownBy w none
 kept:wY X wk w
 wk:wk.heap.size≤w.heap.size
section
variable {B:Nat} {X:Nat→Prop} {o ty:Nat} {w0 wk w:World} {rs:List RowS} {c:Array Value}
theorem BoxS.grow (h:BoxS B X o ty w0 wk rs c w) {w':World} (hg:w.grownBy w' none):BoxS B X o ty w0 wk rs c w' :=
 ⟨h.mem.grow hg,h.typ,zE h.box hg (by simp),h.off,h.size,h.old,h.base,zG h.grown hg (by simp),h.kept.trans (h.mem.keep hg),Nat.le_trans h.wk hg.size⟩
theorem BoxS.set (h:BoxS B X o ty w0 wk rs c w) (f:Nat) (u:Value):BoxS B X o ty w0 wk rs (c.setIfInBounds f u) (w.setCell ⟨o,f,none⟩ u):=by
 have hs:=heap_setCell_same w o f _ _ u h.box
 have hg:=zH w ⟨o,f,none⟩ u
 exact ⟨h.mem.far hg (fun r hr=>zS (h.mem.own r hr) h.box (h.typ r hr).2),h.typ,hs,h.off,h.size,h.old,h.base,zG h.grown hg (fun j e=>by have e:o=j:=Oj e;have:=h.old;omega),h.kept.trans (wY.of_grown h.mem.lt hg (fun j e hx=>by have e:o=j:=Oj e;subst e;exact h.off hx)),Nat.le_trans h.wk hg.size⟩
theorem BoxS.own (h:BoxS B X o ty w0 wk rs c w) {r:RowS} (hr:r∈rs):w.ownsRow r.base r.e r.sz r.v r.n r.xs:=h.mem.own r hr
theorem BoxS.nil (h : BoxS B X o ty w0 wk rs c w) {e sz : Nat} (he : e ≠ ty) : BoxS B X o ty w0 wk (rs ++ [⟨B, e, .slice none 0 0, 0, [], sz⟩]) c w :=
 ⟨h.mem.add (zW _ none) (World.ownsRow_nil _ _ _ _) (fun j e => by simp [Value.ownBlock] at e), fun r hr => by
  rcases List.mem_append.1 hr with hr | hr
  ·exact h.typ r hr
  ·rw [List.mem_singleton] at hr; subst hr; exact ⟨rfl, he⟩, h.box, h.off, h.size, h.old, h.base, h.grown, h.kept, h.wk⟩
theorem BoxS.add (h : BoxS B X o ty w0 wk rs c w) {w' : World} (hg : w.grownBy w' none) {e sz n : Nat} {v : Value} {xs : List Value} (ho : w'.ownsRow w.heap.size e sz v n xs) (he : e ≠ ty) : BoxS B X o ty w0 wk (rs ++ [⟨B, e, v, n, xs, sz⟩]) c w' :=
 ⟨h.mem.add hg (yJ ho (Nat.le_trans h.base h.wk)) (fun k hk => (ho.lt k hk).1), fun r hr => by
  rcases List.mem_append.1 hr with hr | hr
  ·exact h.typ r hr
  ·rw [List.mem_singleton] at hr; subst hr; exact ⟨rfl, he⟩, zE h.box hg (by simp), h.off, h.size, h.old, h.base, zG h.grown hg (by simp), h.kept.trans (h.mem.keep hg), Nat.le_trans h.wk hg.size⟩
theorem BoxS.push (h:BoxS B X o ty w0 wk rs c w):Many w (rS rs) w rs [] []∧B≤w.heap.size∧∀ (wM:World) (j:Nat) (r:RowS) (v':Value) (n':Nat) (us:List Value),rs[j]?=some r→Many w (rS rs) wM (rs.set j ⟨r.base,r.e,v',n',r.xs ++ us,r.sz⟩) [] []→BoxS B X o ty w0 wk (rs.set j ⟨r.base,r.e,v',n',r.xs ++ us,r.sz⟩) c wM:=by
 refine ⟨h.mem.many _ (fun _ h=>h),Nat.le_trans h.base h.wk,fun wM j r v' n' us hr hMM=>?_⟩
 have hf:∀ k,rS rs k→B≤k∧k≠o∧¬ X k:=fun k hk=>by
  obtain ⟨r,hr,hk⟩:=hk
  have hown:=h.mem.own r hr
  refine ⟨by have:=(hown.lt k hk).1;rw [(h.typ r hr).1] at this;exact this,fun e=>?_,h.mem.offX r hr k hk⟩
  subst e;exact zS hown h.box (h.typ r hr).2 hk
 refine ⟨h.mem.after hMM (fun k hk=>(hf k hk).2.2),fun s hs=>?_,hMM.but.heap h.box (fun hj=>(hf o hj).2.1 rfl),h.off,h.size,h.old,h.base,hMM.but.grown h.grown (fun k hk=>.inr (Nat.le_trans h.size (hf k hk).1)),h.kept.trans (h.mem.keepMany hMM (fun k hk=>(hf k hk).2.2)),Nat.le_trans h.wk hMM.but.size⟩
 rcases List.mem_or_eq_of_mem_set hs with hs|rfl
 ·exact h.typ s hs
 ·exact h.typ r (List.mem_of_getElem? hr)
theorem owns_set {w:World} {b e n g cap i:Nat} {xs:List Value} (h:w.ownsRow b e 1 (.slice (some ⟨g,0,none⟩) n cap) n xs) (hi:i < n) (u:Value):(w.setCell ⟨g,i,none⟩ u).ownsRow b e 1 (.slice (some ⟨g,0,none⟩) n cap) n (xs.set i u):=by
 refine ⟨by rw [List.length_set];exact h.1,?_⟩
 rcases h.2 with ⟨hv,_⟩|⟨g',cap',cur,hv,hb,hg,hnc,hcm,hcs,htake⟩
 ·simp at hv
 ·simp only [Value.slice.injEq,Option.some.injEq,Addr.mk.injEq] at hv
  obtain ⟨⟨rfl,_⟩,_,rfl⟩:=hv
  have hs:=heap_setCell_same w g i _ _ u hg
  refine .inr ⟨g,cap,_,rfl,hb,hs,hnc,hcm,by simpa using hcs,?_⟩
  rw [← htake]
  simp [List.take_set]
theorem BoxS.put (h:BoxS B X o ty w0 wk rs c w) {j g n cap b e i:Nat} {xs:List Value} (hr:rs[j]?=some ⟨b,e,.slice (some ⟨g,0,none⟩) n cap,n,xs,1⟩) (hi:i < n) (u:Value):BoxS B X o ty w0 wk (rs.set j ⟨b,e,.slice (some ⟨g,0,none⟩) n cap,n,xs.set i u,1⟩) c (w.setCell ⟨g,i,none⟩ u):=by
 have hmem:=List.mem_of_getElem? hr
 have ho:=h.mem.own _ hmem
 have ht:=h.typ _ hmem
 simp only at ho ht
 have hg:=zH w ⟨g,i,none⟩ u
 have hgo:g≠o:=fun e1=>by subst e1;exact zS ho h.box ht.2 rfl
 obtain ⟨hjl,hje⟩:=List.getElem?_eq_some_iff.1 hr
 have hap:=List.pairwise_iff_getElem.1 h.mem.apart
 refine ⟨⟨fun r hr'=>?_,?_,fun r hr' k hk=>?_,fun k hk=>Nat.lt_of_lt_of_le (h.mem.lt k hk) hg.size⟩,fun r hr'=>?_,zE h.box hg (fun e1=>hgo (Oj e1)),h.off,h.size,h.old,h.base,zG h.grown hg (fun k e1=>?_),h.kept.trans (wY.of_grown h.mem.lt hg (fun k e1 hx=>?_)),Nat.le_trans h.wk hg.size⟩
 ·obtain ⟨q,hq,rfl⟩:=List.getElem_of_mem hr'
  rw [List.getElem_set]
  have hq2:q < rs.length:=by simpa using hq
  split
  ·exact owns_set ho hi u
  ·rename_i hne
   refine (h.mem.own _ (List.getElem_mem hq2)).kept hg (.inr (fun e1=>?_))
   rcases Nat.lt_or_gt_of_ne hne with hlt|hlt
   ·exact hap j q hjl hq2 hlt g (by rw [hje];rfl) e1
   ·exact hap q j hq2 hjl hlt g e1 (by rw [hje];rfl)
 ·rw [List.pairwise_iff_getElem]
  intro p q hp hq hpq
  have hp2:p < rs.length:=by simpa using hp
  have hq2:q < rs.length:=by simpa using hq
  have:=hap p q hp2 hq2 hpq
  rw [List.getElem_set,List.getElem_set]
  split <;> split
  ·omega
  ·rename_i e1 e2;subst e1;rw [hje] at this;exact this
  ·rename_i e1 e2;subst e2;rw [hje] at this;exact this
  ·exact this
 ·rcases List.mem_or_eq_of_mem_set hr' with hr'|rfl
  ·exact h.mem.offX r hr' k hk
  ·exact h.mem.offX _ hmem k hk
 ·rcases List.mem_or_eq_of_mem_set hr' with hr'|rfl
  ·exact h.typ r hr'
  ·exact ht
 ·have e1:g=k:=Oj e1
  have:=(ho.lt g rfl).1
  have:=h.size
  omega
 ·have e1:g=k:=Oj e1
  subst e1
  exact h.mem.offX _ hmem g rfl hx
end
def tabI (ts:List (List Nat)):List (List Int):=ts.map fun r=>r.map fun (x:Nat)=>(x:Int)
theorem xC (ts:List (List Nat)):(tabI ts).length=ts.length:=by simp [tabI]
theorem aJ (l:List Nat):nats l=ints (l.map fun (x:Nat)=>(x:Int)):=by simp [nats,ints]
theorem jB (ts:List (List Nat)) (x:Nat):(tabI ts).getD x []=(ts.getD x []).map fun (y:Nat)=>(y:Int):=by
 rcases Nat.lt_or_ge x ts.length with h|h
 ·rw [zY (by rw [xC];exact h),zY h];simp [tabI]
 ·rw [List.getD_eq_getElem?_getD,List.getD_eq_getElem?_getD,List.getElem?_eq_none (by rw [xC];exact h),List.getElem?_eq_none h];rfl
theorem gK (ts:List (List Nat)) (x y:Nat):ent (tabI ts) x y=((ts.getD x []).getD y 0:Nat):=by
 rw [ent,jB]
 obtain ⟨r,hr⟩:∃ r,r=ts.getD x []:=⟨_,rfl⟩
 rw [← hr]
 rcases Nat.lt_or_ge y r.length with h|h
 ·rw [zY (by simpa using h),zY h];simp
 ·rw [List.getD_eq_getElem?_getD,List.getD_eq_getElem?_getD,List.getElem?_eq_none (by simpa using h),List.getElem?_eq_none h];rfl
theorem tabI_entN (ts:List (List Nat)) (x y:Nat):entN (tabI ts) x y=(ts.getD x []).getD y 0:=by rw [entN,gK];rfl
theorem TMat.mat {B:Nat} {w:World} {v:Value} {ts:List (List Nat)} (h:TMat B w v ts):Mat B w v (tabI ts):=by
 by_cases h0:0 < ts.length
 ·obtain ⟨b,off,cap,rfl,hc,hm,hb,hbw,hhd⟩:=h.head h0
  have hsh:∀ x,∃ a c,x < ts.length→w.cell? ⟨b,off+x,none⟩=some (.slice a (ts.getD x []).length c)∧RowT B 3 w (.slice a (ts.getD x []).length c) (nats (ts.getD x [])):=by
   intro x
   by_cases hx:x < ts.length
   ·obtain ⟨a,c,h1⟩:=hhd x hx
    exact ⟨a,c,fun _=>h1⟩
   ·exact ⟨none,0,fun h=>absurd h hx⟩
  obtain ⟨A,hA⟩:=Classical.axiomOfChoice hsh
  obtain ⟨C,hC⟩:=Classical.axiomOfChoice hA
  refine .inr ⟨b,off,cap,A,C,by rw [xC],by rw [xC];exact hc,hm,hb,hbw,fun x hx=>?_,fun x hx=>?_⟩
  ·rw [xC] at hx
   rw [jB,List.length_map];exact (hC x hx).1
  ·rw [xC] at hx
   have h1:=(hC x hx).2.row
   rw [jB,List.length_map]
   rw [aJ] at h1;exact h1
 ·have:ts=[]:=List.eq_nil_of_length_eq_zero (by omega)
  subst this
  obtain ⟨a,c,rfl⟩:=h.shape
  exact .inl ⟨a,c,rfl,rfl⟩
theorem metL_snoc_old {n:Nat} {l:List Nat} {q:Nat} (h:q∈l∨n≤q):metL n (l ++ [q])=metL n l:=by
 refine List.ext_getElem (by simp [metL]) fun i h1 h2=>?_
 simp only [metL,List.getElem_map,List.getElem_range,List.mem_append,List.mem_singleton]
 congr 1
 refine propext ⟨?_,.inl⟩
 rintro (h3|rfl)
 ·exact h3
 ·rcases h with h|h
  ·exact h
  ·simp [metL] at h1;omega
set_option maxHeartbeats 800000 in
theorem set03_any (B:Nat) (w:World) (v:Value) (l:List Nat) (n:Nat) (h:Row B w v (nats l)) (hB:B≤w.heap.size) (hn:n≤100000) :
  Calls Tryd.prog 107 #[v,.int .i64 (n:Int)] w fun e w'=>e=.returned (.slice (some ⟨w.heap.size,0,none⟩) n n)∧Arr w' w.heap.size 4 (bls (metL n l))∧w.grownBy w' none:=by
 have hll:=h.len_le
 rw [zN] at hll
 unfold maxLen at hll
 obtain ⟨va,vc,rfl⟩:=h.shape
 rw [zN] at h ⊢
 have H:=Kh h
 clear h
 go_enter Tryd.func107,Tryd.ntmps107
 go_wp2_with (first|(at_make;refine kB rfl _ _ _ rfl wJ rfl .i64 .i64 _ _ n rfl rfl rfl rfl ?b1 ?b2 ?_;(case b1=>omega);(case b2=>(unfold maxLen;omega));intro w2 harr hg2 hlt2)|fail)
 have HA2:=Kh harr;have HG2:=Kh hg2
 clear harr hg2
 go_loopg [7,12] l.length (fun gh a7 i wr=>∃ k:Nat,gh+k=l.length∧i=.int .i64 k∧Arr wr w.heap.size 4 (bls (metL n (l.take k)))∧w.grownBy wr none)
 case atStart=>exact ⟨0,rfl,rfl,by rw [List.take_zero,qBL,vS];exact HA2.out,HG2.out⟩
 case round =>
  clear HA2 HG2
  obtain ⟨k,hg,rfl,harr,hgr⟩:=hrel
  have HG:=Kh hg;have HA:=Kh harr;have HGR:=Kh hgr
  clear hg
  by_cases hk:k < l.length
  ·have hk':(k:Int) < l.length:=by omega
   obtain ⟨ib,io,ic,e,_,hc1,hc2,hra⟩:=(H.out.kept hgr (by simp)).some_ (by rw [zN];omega)
   simp only [Value.slice.injEq] at e
   obtain ⟨rfl,-,rfl⟩:=e
   have ck:=hra.nat k hk
   have hst:l.take (k+1)=l.take k ++ [l.getD k 0]:=yG hk
   obtain ⟨x,hx⟩:∃ x,x=l.getD k 0:=⟨_,rfl⟩
   rw [← hx] at ck hst
   by_cases hxn:x < n
   ·have hx':(x:Int) < n:=by omega
    have cg:=harr.bool x (by rw [xT];exact hxn)
    have fg:=harr.frozen x
    have HS:Hid ((metL n (l.take k)).set x true=metL n (l.take (k+1))):=Kh (by rw [gT,hst])
    clear harr hgr hra hx hst
    go_wp2
    go_roundg (l.length - (k+1))
    case measure=>have:=HG.out;omega
    case rel =>
     refine ⟨k+1,by omega,by go_num,?_,zG HGR.out (zH wr ⟨w.heap.size,x,none⟩ _) (fun q e=>by have h7:w.heap.size=q:=Oj e;omega)⟩
     rw [← HS.out]
     exact HA.out.bool_set x (by rw [xT];exact hxn) true
   ·have hx':(n:Int)≤x:=by omega
    have HS:Hid (metL n (l.take (k+1))=metL n (l.take k)):=Kh (by rw [hst,metL_snoc_old (.inr (by omega))])
    clear harr hgr hra hx hst
    go_wp2
    go_roundg (l.length - (k+1))
    case measure=>have:=HG.out;omega
    case rel=>exact ⟨k+1,by omega,by go_num,by rw [HS.out];exact HA.out,HGR.out⟩
  ·have HE:Hid (l.take k=l):=Kh (List.take_of_length_le (by omega))
   rw [HE.out] at HA
   clear harr hgr
   go_wp2
   go_ret
   exact ⟨rfl,HA.out,HGR.out⟩
def kK (bs:List Bool):List Nat:=(List.range bs.length).filter fun i=>bs.getD i false
def pT (bs:List Bool) (k:Nat):List Nat:=(List.range k).filter fun i=>bs.getD i false
theorem membTo_succ {bs:List Bool} {k:Nat}:pT bs (k+1)=pT bs k ++ if bs.getD k false then [k] else []:=by
 unfold pT
 rw [List.range_succ,List.filter_append,List.filter_cons,List.filter_nil]
theorem membTo_le (bs:List Bool) (k:Nat):(pT bs k).length≤k:=by
 have:=List.length_filter_le (fun i=>bs.getD i false) (List.range k)
 rw [List.length_range] at this
 exact this
set_option maxHeartbeats 800000 in
theorem members_any (w:World) (g:Nat) (bs:List Bool) (h:uD w g 0 (bls bs)) (hn:bs.length≤100000) :
  Calls Tryd.prog 108 #[.slice (some ⟨g,0,none⟩) bs.length bs.length] w fun e w'=>(∃ (sa:Option Addr) (sc:Nat),e=.returned (.slice sa (kK bs).length sc)∧w'.ownsRow w.heap.size 3 1 (.slice sa (kK bs).length sc) (kK bs).length (nats (kK bs)))∧w.grownBy w' none:=by
 have H:=Kh h
 have hlt:=h.1
 clear h
 go_enter Tryd.func108,Tryd.ntmps108
 go_wp2
 go_loopg [3,4,5,8] bs.length (fun gh v3 a4 a5 i wr=>∃ (k:Nat) (sa:Option Addr) (sc:Nat),gh+k=bs.length∧i=.int .i64 k∧v3=.slice sa (pT bs k).length sc∧wr.ownsRow w.heap.size 3 1 (.slice sa (pT bs k).length sc) (pT bs k).length (nats (pT bs k))∧w.grownBy wr none)
 case atStart=>exact ⟨0,none,0,rfl,rfl,rfl,World.ownsRow_nil _ _ _ _,zW _ _⟩
 case round =>
  obtain ⟨k,sa,sc,hg,rfl,rfl,hown,hgr⟩:=hrel
  have HG:=Kh hg;have HO:=Kh hown;have HGR:=Kh hgr
  have hml:=membTo_le bs k
  clear hg hown
  by_cases hk:k < bs.length
  ·have hk':(k:Int) < bs.length:=by omega
   have ck:=uD.map (H.out.kept hgr (by simp)) k hk
   rw [← zY (d:=false) hk,Nat.zero_add] at ck
   have hgs:=hgr.size
   have hsu:=membTo_succ (bs:=bs) (k:=k)
   clear hgr
   cases hb:bs.getD k false with
   | true =>
    rw [hb] at ck hsu
    have HS:Hid (pT bs (k+1)=pT bs k ++ [k]):=Kh (by rw [hsu];rfl)
    obtain ⟨A,hA⟩:∃ A,A=pT bs k:=⟨_,rfl⟩
    rw [← hA] at HO HS hml ⊢
    clear hb hsu hA
    go_wp2_with (first|(at_builtin;refine app1 rfl _ _ _ rfl yC w.heap.size _ A.length (nats A) rfl HO.out _ rfl rfl ?c1 ?c2 ?c3 ?_)|fail)
    case c1=>unfold maxLen;omega
    case c2=>omega
    case c3=>exact hgs
    intro sa' sc' w6 hown6 hg6 hlt6
    have HO6:=Kh hown6;have HG6:=Kh hg6
    clear hown6 hg6
    go_wp2
    go_roundg (bs.length - (k+1))
    case measure=>have:=HG.out;omega
    case rel =>
     refine ⟨k+1,sa',sc',by omega,by go_num,by rw [HS.out];simp,?_,zG HGR.out HG6.out (fun q e=>(HO.out.lt q e).1)⟩
     rw [HS.out,wE,List.length_append]
     exact HO6.out
   | false =>
    rw [hb] at ck hsu
    have HS:Hid (pT bs (k+1)=pT bs k):=Kh (by rw [hsu];simp)
    clear hb hsu
    go_wp2
    go_roundg (bs.length - (k+1))
    case measure=>have:=HG.out;omega
    case rel=>exact ⟨k+1,sa,sc,by omega,by go_num,by rw [HS.out],by rw [HS.out];exact HO.out,HGR.out⟩
  ·have hkn:k=bs.length:=by have:=HG.out;omega
   have HE:Hid (pT bs k=kK bs):=Kh (by rw [hkn];rfl)
   rw [HE.out] at HO ⊢
   obtain ⟨A,hA⟩:∃ A,A=kK bs:=⟨_,rfl⟩
   have HAE:=Kh hA
   rw [← hA] at HO ⊢
   clear hkn hgr hA
   go_wp2
   go_ret
   exact ⟨⟨sa,sc,by rw [← HAE.out];rfl,by rw [← HAE.out];exact HO.out⟩,HGR.out⟩
def bP (t:List (List Int)) (m:List Nat):Prop:=∀ x∈m,∀ y∈m,entN t x y∈m
def SeenL (t:List (List Int)) (m:List Nat) (k j:Nat):Prop:=∀ x∈m,∀ y∈m,(x < k∨(x=k∧y < j))→entN t x y∈m
structure GenI (t:List (List Int)) (gs m:List Nat):Prop where
 nd:m.Nodup
 lt:∀ x∈m,x < t.length
 base:∀ x∈gs,x∈m
 gen:∀ x∈m,Gen t gs x
theorem GenI.add {t:List (List Int)} (hs:Shape t) {gs m:List Nat} (h:GenI t gs m) {x y:Nat} (hx:x∈m) (hy:y∈m) (hz:entN t x y ∉ m):GenI t gs (m ++ [entN t x y]) where
 nd:=by
  rw [List.nodup_append]
  exact ⟨h.nd,by simp,fun a ha b hb=>by rw [List.mem_singleton] at hb;subst hb;rintro rfl;exact hz ha⟩
 lt:=fun z hz=>by
  rcases List.mem_append.1 hz with hz|hz
  ·exact h.lt z hz
  ·rw [List.mem_singleton] at hz;subst hz;exact uX hs (h.lt x hx) (h.lt y hy)
 base:=fun z hz=>List.mem_append_left _ (h.base z hz)
 gen:=fun z hz=>by
  rcases List.mem_append.1 hz with hz|hz
  ·exact h.gen z hz
  ·rw [List.mem_singleton] at hz;subst hz;exact .mul x y (h.gen x hx) (h.gen y hy)
def GenOk (w:World) (t:List (List Int)) (gs:List Nat) (e:Ending) (w':World):Prop :=
 ∃ m:List Nat,GenI t gs m∧bP t m∧(∃ (sa:Option Addr) (sc:Nat),e=.returned (.slice sa (kK (metL t.length m)).length sc)∧w'.ownsRow w.heap.size 3 1 (.slice sa (kK (metL t.length m)).length sc) (kK (metL t.length m)).length (nats (kK (metL t.length m))))∧w.grownBy w' none
set_option maxRecDepth 100000 in
set_option maxHeartbeats 2000000 in
theorem generated_any (B C:Nat) (w:World) (v gv:Value) (t:List (List Int)) (gs:List Nat) (hB:B≤w.heap.size) (hC:C≤w.heap.size) (h:Mat B w v t) (hs:Shape t) (hg:Row C w gv (nats gs)) (hgl:∀ g∈gs,g < t.length) :
  Calls Tryd.prog 87 #[v,gv] w (GenOk w t gs):=by
 obtain ⟨tb,off,cap,RB,RO,RC,rfl,hc1,hc2,hq⟩:=h.sq hs
 have hmx:cap≤9223372036854775807:=by unfold maxLen at hc2;omega
 obtain ⟨n,hn⟩:∃ n,n=t.length:=⟨_,rfl⟩
 have hn4:=hs.le
 have hn1:=hs.pos
 have HS0:=Kh (set03_any C w gv gs n hg hC (by omega))
 have HQ:=Kh hq;have HS:=Kh hs;have HNE:=Kh hn;have HGL:=Kh hgl
 rw [← hn] at hc1 hn4 hn1 ⊢
 clear h hs hg hq hgl hc2 hn
 go_enter Tryd.func87,Tryd.ntmps87
 go_wp2_with fail
 refine HS0.out.mono ?_
 rintro e w1 ⟨rfl,ha1,hg1⟩
 have hmet:metL n gs=metL n (yV gs):=by
  refine List.ext_getElem (by simp [metL]) fun i h1 h2=>?_
  simp only [metL,List.getElem_map,List.getElem_range,vG]
 rw [hmet] at ha1
 have HI0:Hid (GenI t gs (yV gs)):=Kh ⟨pW _,fun x hx=>HGL.out x (vG.1 hx),fun x hx=>vG.2 hx,fun x hx=>.base x (vG.1 hx)⟩
 obtain ⟨G,hG⟩:∃ G,G=w.heap.size:=⟨_,rfl⟩
 have HGE:=Kh hG
 rw [← hG] at ha1 ⊢
 have HA1:=Kh ha1;have HG1:=Kh hg1
 clear ha1 hg1 hmet hG HS0
 go_wp2
 go_loopg [6] (2 * n+1) (fun gh v6 wr=>∃ (m:List Nat) (b:Bool),v6=.bool b∧2 * (n - m.length)+(if b then 1 else 0)≤gh∧GenI t gs m∧(b=false→bP t m)∧Arr wr G 4 (bls (metL n m))∧w.grownBy wr none)
 case atStart=>exact ⟨yV gs,true,rfl,by simp;omega,HI0.out,(fun h=>by cases h),HA1.out,HG1.out⟩
 case round =>
  clear HA1 HG1 HI0
  obtain ⟨m,b,rfl,hgh,hgi,hcl,harr,hgr⟩:=hrel
  have HGH:=Kh hgh;have HGI:=Kh hgi;have HCL:=Kh hcl;have HA:=Kh harr;have HGR:=Kh hgr
  have hml:m.length≤n:=pS hgi.nd (fun q hq=>by rw [HNE.out];exact hgi.lt q hq)
  clear hgh hgi hcl harr hgr
  cases b with
  | false =>
   have hclo:=HCL.out rfl
   have HM:=Kh (fun W hW=>members_any W G (metL n m) hW (by rw [xT];omega))
   have hmt:=xT n m
   obtain ⟨bs,hbs⟩:∃ bs,bs=metL n m:=⟨_,rfl⟩
   have hra:=HA.out.row
   have HM2:=Kh (HM.out wr hra)
   rw [hmt] at HM2
   have HCL2:=Kh hclo
   clear hra hmt hbs hclo HM
   go_wp2_with fail
   refine HM2.out.mono ?_
   rintro e w5 ⟨⟨sa,sc,rfl,ho⟩,hg5⟩
   have HO:=Kh ho;have HG5:=Kh hg5
   obtain ⟨A,hA⟩:∃ A,A=kK (metL n m):=⟨_,rfl⟩
   have HAE:=Kh hA
   rw [← hA] at HO ⊢
   clear ho hg5 hA
   go_wp2
   go_ret
   refine ⟨m,HGI.out,HCL2.out,⟨sa,sc,?_,?_⟩,zF HGR.out HG5.out⟩
   ·rw [← HNE.out,← HAE.out];rfl
   ·rw [← HNE.out,← HAE.out];exact yJ HO.out HGR.out.size
  | true =>
   go_wp2
   go_loopg [6,7,16] n (fun gx v6 a7 i wr=>∃ (k:Nat) (m':List Nat) (c:Bool),gx+k=n∧i=.int .i64 k∧v6=.bool c∧m.length≤m'.length∧(c=true→m.length < m'.length)∧(c=false→SeenL t m' k 0)∧GenI t gs m'∧Arr wr G 4 (bls (metL n m'))∧w.grownBy wr none)
   case atStart=>exact ⟨0,m,false,rfl,rfl,rfl,Nat.le_refl _,(fun h=>by cases h),(fun _ x hx y hy h=>by omega),HGI.out,HA.out,HGR.out⟩
   case round =>
    clear HA HGR
    obtain ⟨k,m',c,hgx,rfl,rfl,hle,hc,hsn,hgi',harr,hgr⟩:=hrel
    have HGX:=Kh hgx;have HC:=Kh hc;have HSN:=Kh hsn;have HGI':=Kh hgi';have HA:=Kh harr;have HGR:=Kh hgr;have HLE:=Kh hle
    clear hgx hc hsn hgi' harr hgr hle
    by_cases hk:k < n
    ·have hk':(k:Int) < n:=by omega
     go_wp2
     go_loopg [6,8,21] n (fun gy v6 a8 i wr=>∃ (j:Nat) (m':List Nat) (c:Bool),gy+j=n∧i=.int .i64 j∧v6=.bool c∧m.length≤m'.length∧(c=true→m.length < m'.length)∧(c=false→SeenL t m' k j)∧GenI t gs m'∧Arr wr G 4 (bls (metL n m'))∧w.grownBy wr none)
     case atStart=>exact ⟨0,m',c,rfl,rfl,rfl,HLE.out,HC.out,HSN.out,HGI'.out,HA.out,HGR.out⟩
     case round =>
      clear HA HGR HC HSN HGI' HLE
      obtain ⟨j,m',c,hgy,rfl,rfl,hle,hc,hsn,hgi',harr,hgr⟩:=hrel
      have HGY:=Kh hgy;have HC:=Kh hc;have HSN:=Kh hsn;have HGI':=Kh hgi';have HA:=Kh harr;have HGR:=Kh hgr;have HLE:=Kh hle
      clear hgy hc hsn hgi' hle
      by_cases hj:j < n
      ·have hj':(j:Int) < n:=by omega
       have hq:=HQ.out.kept hgr (fun x e=>by cases e)
       have ch:=hq.hd k (by rw [← HNE.out];exact hk)
       have ce:=hq.el k j (by rw [← HNE.out];exact hk) (by rw [← HNE.out];exact hj)
       have hrc:=(hq.cap k (by rw [← HNE.out];exact hk)).1
       rw [← HNE.out] at ch hrc
       have hz:=uX HS.out (show k < t.length by rw [← HNE.out];exact hk) (show j < t.length by rw [← HNE.out];exact hj)
       rw [← HNE.out] at hz
       have cx:=harr.bool k (by rw [xT];exact hk)
       have cy:=harr.bool j (by rw [xT];exact hj)
       rw [gU hk] at cx
       rw [gU hj] at cy
       obtain ⟨z,hze⟩:∃ z,z=entN t k j:=⟨_,rfl⟩
       rw [← hze] at ce hz
       have cz:=harr.bool z (by rw [xT];exact hz)
       rw [gU hz] at cz
       have fz:=harr.frozen z
       have hz':(z:Int) < n:=by omega
       have HZE:=Kh hze
       clear hze hq harr hgr
       have skip:(k∈m'→j∈m'→z∈m')→Hid (c=false→SeenL t m' k (j+1)):=fun h=>Kh (fun hcf x hx y hy hxy=>by
        rcases hxy with hxy|⟨rfl,hy1⟩
        ·exact HSN.out hcf x hx y hy (.inl hxy)
        ·rcases Nat.lt_succ_iff_lt_or_eq.1 hy1 with hy1|rfl
         ·exact HSN.out hcf x hx y hy (.inr ⟨rfl,hy1⟩)
         ·rw [← HZE.out];exact h hx hy)
       have HSK:=Kh skip
       clear skip
       by_cases hkm:k∈m'
       ·rw [decide_eq_true hkm] at cx
        by_cases hjm:j∈m'
        ·rw [decide_eq_true hjm] at cy
         by_cases hzm:z∈m'
         ·rw [decide_eq_true hzm] at cz
          have HS2:=HSK.out (fun _ _=>hzm)
          clear hkm hjm hzm
          go_wp2
          go_roundg (n - (j+1))
          case measure=>have:=HGY.out;omega
          case rel=>exact ⟨j+1,m',c,by omega,by go_num,rfl,HLE.out,HC.out,HS2.out,HGI'.out,HA.out,HGR.out⟩
         ·rw [decide_eq_false hzm] at cz
          have HI2:Hid (GenI t gs (m' ++ [z])):=Kh (by have:=HGI'.out.add HS.out hkm hjm (by rw [← HZE.out];exact hzm);rwa [← HZE.out] at this)
          clear hkm hjm hzm
          go_wp2
          go_roundg (n - (j+1))
          case measure=>have:=HGY.out;omega
          case rel =>
           refine ⟨j+1,m' ++ [z],true,by omega,by go_num,rfl,by have:=HLE.out;simp;omega,fun _=>by have:=HLE.out;simp;omega,(fun h=>by cases h),HI2.out,?_,zG HGR.out (zH wr ⟨G,z,none⟩ _) (fun q e=>by have h7:G=q:=Oj e;have:=HGE.out;omega)⟩
           have h1:=HA.out.bool_set z (by rw [xT];exact hz) true
           rw [gT] at h1
           exact h1
        ·rw [decide_eq_false hjm] at cy
         have HS2:=HSK.out (fun _ h=>absurd h hjm)
         clear hkm hjm cz
         go_wp2
         go_roundg (n - (j+1))
         case measure=>have:=HGY.out;omega
         case rel=>exact ⟨j+1,m',c,by omega,by go_num,rfl,HLE.out,HC.out,HS2.out,HGI'.out,HA.out,HGR.out⟩
       ·rw [decide_eq_false hkm] at cx
        have HS2:=HSK.out (fun h=>absurd h hkm)
        clear hkm cz
        go_wp2
        go_roundg (n - (j+1))
        case measure=>have:=HGY.out;omega
        case rel=>exact ⟨j+1,m',c,by omega,by go_num,rfl,HLE.out,HC.out,HS2.out,HGI'.out,HA.out,HGR.out⟩
      ·have HS2:Hid (c=false→SeenL t m' (k+1) 0):=Kh (fun hcf x hx y hy hxy=>by
        have hyn:=HGI'.out.lt y hy
        have:=HNE.out
        refine HSN.out hcf x hx y hy ?_
        omega)
       clear harr hgr
       go_wp2
       go_roundg (n - (k+1))
       case measure=>have:=HGX.out;omega
       case rel=>exact ⟨k+1,m',c,by omega,by go_num,rfl,HLE.out,HC.out,HS2.out,HGI'.out,HA.out,HGR.out⟩
    ·have HCL3:Hid (c=false→bP t m'):=Kh (fun hcf x hx y hy=>HSN.out hcf x hx y hy (.inl (by have:=HGI'.out.lt x hx;have:=HNE.out;omega)))
     have hml':m'.length≤n:=pS HGI'.out.nd (fun q hq=>by rw [HNE.out];exact HGI'.out.lt q hq)
     cases c with
     | true =>
      have hlt:=HC.out rfl
      go_wp2
      go_roundg (2 * (n - m'.length)+1)
      case measure=>have:=HGH.out;simp at this;omega
      case rel=>exact ⟨m',true,rfl,by simp,HGI'.out,(fun h=>by cases h),HA.out,HGR.out⟩
     | false =>
      have hle:=HLE.out
      go_wp2
      go_roundg (2 * (n - m'.length))
      case measure=>have:=HGH.out;simp at this;omega
      case rel=>exact ⟨m',false,rfl,by simp,HGI'.out,(fun _=>HCL3.out trivial),HA.out,HGR.out⟩
end Go.Proofs.YtdjhoadoiknaoaaDoor
