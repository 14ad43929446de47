/- Part 22 of the proof: Trans, Trans2, Trans3. -/
import Derived.Test.YtdjhoadoiknaoaaDoorZC21
set_option linter.unusedVariables false
set_option linter.unusedSimpArgs false
namespace Go.Proofs.YtdjhoadoiknaoaaDoor
open Go.RowKit
def TMat (B:Nat) (w:World) (v:Value) (ts:List (List Nat)):Prop:=∃ hs,Row B w v hs∧RowsT B 3 nats w hs ts
theorem TMat.kept {B:Nat} {w w':World} {v:Value} {ts:List (List Nat)} {row:Option Nat} (h:TMat B w v ts) (hg:w.grownBy w' row) (hr:∀ k,row=some k→B≤k):TMat B w' v ts:=by
 obtain ⟨hs,h1,h2⟩:=h
 exact ⟨hs,h1.kept hg hr,h2.kept hg (fun k e=>.inl (hr k e))⟩
theorem TMat.mono {B B':Nat} {w:World} {v:Value} {ts:List (List Nat)} (h:TMat B w v ts) (hB:B≤B'):TMat B' w v ts:=by
 obtain ⟨hs,h1,h2⟩:=h
 exact ⟨hs,h1.mono hB,h2.mono hB⟩
theorem TMat.head {B:Nat} {w:World} {v:Value} {ts:List (List Nat)} (h:TMat B w v ts) (h0:0 < ts.length):∃ b off cap,v=.slice (some ⟨b,off,none⟩) ts.length cap∧ts.length≤cap∧cap≤maxLen∧b < B∧b < w.heap.size ∧
  ∀ i,i < ts.length→∃ a c,w.cell? ⟨b,off+i,none⟩=some (.slice a (ts.getD i []).length c)∧RowT B 3 w (.slice a (ts.getD i []).length c) (nats (ts.getD i [])):=by
 obtain ⟨hs,h1,h2⟩:=h
 have hl:=h2.1
 obtain ⟨b,off,cap,rfl,hb,hc,hm,hra⟩:=h1.some_ (by omega)
 refine ⟨b,off,cap,by rw [hl],by omega,hm,hb,hra.1,fun i hi=>?_⟩
 have h3:=h2.2 i (by omega) hi
 obtain ⟨a,c,e⟩:=h3.shape
 rw [zN] at e
 refine ⟨a,c,?_,?_⟩
 ·rw [hra.2 i (by omega),e,zV hi]
 ·rw [zV hi,← e];exact h3
theorem TMat.shape {B:Nat} {w:World} {v:Value} {ts:List (List Nat)} (h:TMat B w v ts):∃ a c,v=.slice a ts.length c:=by
 obtain ⟨hs,h1,h2⟩:=h
 obtain ⟨a,c,rfl⟩:=h1.shape
 exact ⟨a,c,by rw [h2.1]⟩
def OwnT (base:Nat) (w:World) (v:Value) (n:Nat) (ts:List (List Nat)):Prop:=∃ hs,w.ownsRow base 22 1 v n hs∧RowsT w.heap.size 3 nats w hs ts∧ts.length=n
theorem OwnT.grow {base n:Nat} {w w':World} {v:Value} {ts:List (List Nat)} (h:OwnT base w v n ts) (hg:w.grownBy w' none):OwnT base w' v n ts:=by
 obtain ⟨hs,h1,h2,h3⟩:=h
 exact ⟨hs,yB h1 hg (by simp),(h2.kept hg (by simp)).mono hg.size,h3⟩
theorem OwnT.tmat {base n:Nat} {w:World} {v:Value} {ts:List (List Nat)} (h:OwnT base w v n ts):TMat w.heap.size w v ts:=by
 obtain ⟨hs,h1,h2,h3⟩:=h
 exact ⟨hs,Row.of_owns h1,h2⟩
theorem OwnT.base {base base' n:Nat} {w:World} {v:Value} {ts:List (List Nat)} (h:OwnT base w v n ts) (hb:base'≤base):OwnT base' w v n ts:=by
 obtain ⟨hs,h1,h2,h3⟩:=h
 exact ⟨hs,yK h1 hb,h2,h3⟩
theorem OwnT.nil (base:Nat) (w:World):OwnT base w (.slice none 0 0) 0 []:=⟨[],World.ownsRow_nil _ _ _ _,RowsT.nil,rfl⟩
theorem OwnT.push {base n:Nat} {w w':World} {v v':Value} {ts:List (List Nat)} {hs:List Value} {u:Value} {l:List Nat} (h1:w.ownsRow base 22 1 v n hs) (h2:RowsT w.heap.size 3 nats w hs ts) (h3:ts.length=n) (hu:RowT w.heap.size 3 w u (nats l))
  (ho:w'.ownsRow base 22 1 v' (n+1) (hs ++ [u])) (hg:w.grownBy w' v.ownBlock):OwnT base w' v' (n+1) (ts ++ [l]):=by
 refine ⟨_,ho,?_,by simp [h3]⟩
 exact ((h2.snoc hu).kept hg (fun k e=>.inr (tD h1 (by decide) k e))).mono hg.size
def gensD (m:DfaV) (n k:Nat):List (List Nat):=(List.range k).map fun a=>(List.range n).map fun q=>nx m q a
theorem tF (m:DfaV) (n k:Nat):(gensD m n k).length=k:=by simp [gensD]
def colD (m:DfaV) (n a:Nat):List Nat:=(List.range n).map fun q=>nx m q a
theorem mA (m:DfaV) (n a:Nat):(colD m n a).length=n:=by simp [colD]
theorem colD_take {m:DfaV} {n a q:Nat} (hq:q < n):(colD m n a).take (q+1)=(colD m n a).take q ++ [nx m q a]:=by
 rw [yF (d:=0) (by rw [mA];exact hq),zV (by rw [mA];exact hq)];simp [colD]
theorem gensD_take {m:DfaV} {n k a:Nat} (ha:a < k):(gensD m n k).take (a+1)=(gensD m n k).take a ++ [colD m n a]:=by
 rw [yF (d:=[]) (by rw [tF];exact ha),zV (by rw [tF];exact ha)];simp [gensD,colD]
def kV (w:World) (ts:List (List Nat)) (e:Ending) (w':World):Prop:=∃ (sa:Option Addr) (sc:Nat),e=.returned (.slice sa ts.length sc)∧OwnT w.heap.size w' (.slice sa ts.length sc) ts.length ts∧w.grownBy w' none
set_option maxRecDepth 100000 in
set_option maxHeartbeats 1000000 in
theorem ofDFA_any (B:Nat) (w:World) (v:Value) (d:DfaV) (n k:Nat) (hB:B≤w.heap.size) (h:DfaOk B w v d) (hd:VD d n k) :
  Calls Tryd.prog 47 #[v] w (kV w (gensD d n k)):=by
 obtain ⟨fb,fo,fc,b,off,cap,RB,RO,RC,rfl,hat⟩:=h.at hd
 have hn1:=hd.n1
 have hn512:=hd.n512
 have hk6:=hd.k6
 have hk1:=hd.k1
 have hcp:=hat.cap.1
 have hcp2:=hat.cap.2
 have hmx2:cap≤9223372036854775807:=by unfold maxLen at hcp2;omega
 obtain ⟨wA,hWA⟩:∃ wA,wA=w.alloc (.cells #[.int .i64 (k:Int),.int .i64 (st0 d:Int),.slice (some ⟨fb,fo,none⟩) n fc,.slice (some ⟨b,off,none⟩) n cap] 28):=⟨_,rfl⟩
 have hbox:wA.heap[w.heap.size]?=some (.cells #[.int .i64 (k:Int),.int .i64 (st0 d:Int),.slice (some ⟨fb,fo,none⟩) n fc,.slice (some ⟨b,off,none⟩) n cap] 28 (0,0)):=by rw [hWA];exact heap_alloc_new w _
 have hgA:w.grownBy wA none:=by rw [hWA];exact Ga w _ none
 have hzA:wA.heap.size=w.heap.size+1:=by rw [hWA,zO]
 obtain ⟨P,hP⟩:∃ P,P=w.heap.size:=⟨_,rfl⟩
 have HPE:=Kh hP
 rw [← hP] at hbox hB hzA
 have HBX:=Kh hbox;have HGA:=Kh hgA;have HWA:=Kh hWA;have HAT:=Kh (hat.kept hgA (by simp));have HD:=Kh hd
 unfold dAgg
 clear hbox hgA hWA hat hd h hcp2
 go_enter Tryd.func47,Tryd.ntmps47
 go_upto_region 2 with fail
 rw [← HWA.out,← HPE.out]
 clear hP
 go_wp2
 go_loopg [3,4] k (fun gh v3 i wr=>∃ (a:Nat) (sa:Option Addr) (sc:Nat),gh+a=k∧i=.int .i64 a∧v3=.slice sa a sc∧OwnT (P+1) wr (.slice sa a sc) a ((gensD d n k).take a)∧wA.grownBy wr none)
 case atStart=>exact ⟨0,none,0,rfl,rfl,rfl,by simpa using OwnT.nil _ _,zX _ _⟩
 case round =>
  obtain ⟨a,sa,sc,hg,rfl,rfl,hown,hgr⟩:=hrel
  have HG:=Kh hg;have HOWN:=Kh hown;have HGR:=Kh hgr
  obtain ⟨d0,d1,d2,d3⟩:=zR (zE HBX.out hgr (by simp))
  clear hg hown
  by_cases ha:a < k
  ·have ha':(a:Int) < k:=by omega
   obtain ⟨wo,rfl⟩:∃ wo:World,wo=wr:=⟨_,rfl⟩
   clear hgr
   go_wp2
   go_loopg [5,6,16] n (fun gh ov a6 i wr=>∃ (q:Nat) (sr:Option Addr) (cr:Nat),gh+q=n∧i=.int .i64 q∧ov=.slice sr q cr∧wr.ownsRow wo.heap.size 3 1 (.slice sr q cr) q (nats ((colD d n a).take q))∧wo.grownBy wr none)
   case atStart=>exact ⟨0,none,0,rfl,rfl,rfl,by simpa [nats] using World.ownsRow_nil _ _ _ _,zX _ _⟩
   case round =>
    obtain ⟨q,sr,cr,hg,rfl,rfl,hown,hgr⟩:=hrel
    have HGQ:=Kh hg;have HOWR:=Kh hown;have HGRQ:=Kh hgr
    clear hg hown d0 d1 d2 d3
    obtain ⟨d0,d1,d2,d3⟩:=zR (zE HBX.out (zG HGR.out hgr) (by simp))
    by_cases hq:q < n
    ·have hq':(q:Int) < n:=by omega
     have hA:=HAT.out.kept (zG HGR.out hgr) (by simp)
     have ch:=hA.hd q hq
     have ce:=hA.el q a hq ha
     have hrc:=(hA.rcap q hq).1
     have HCT:Hid ((colD d n a).take (q+1)=(colD d n a).take q ++ [nx d q a]):=Kh (colD_take hq)
     obtain ⟨s,hs⟩:∃ s,s=nx d q a:=⟨_,rfl⟩
     rw [← hs] at ce HCT
     have hgs:=hgr.size
     clear hA hs hgr
     go_wp2_with (first|(at_builtin;refine app1 rfl _ _ _ rfl yG wo.heap.size _ q (nats ((colD d n a).take q)) rfl HOWR.out _ rfl rfl ?c1 ?c2 ?c3 ?_)|fail)
     case c1=>unfold maxLen;omega
     case c2=>omega
     case c3=>exact hgs
     intro sa' sc' w6 hown6 hg6 hlt6
     have HO6:=Kh hown6;have HG6:=Kh hg6
     clear hown6 hg6
     go_wp2
     go_roundg (n - (q+1))
     case measure=>have:=HGQ.out;omega
     case rel =>
      refine ⟨q+1,sa',sc',by omega,by go_num,rfl,?_,zF HGRQ.out HG6.out (fun q e=>(HOWR.out.lt q e).1)⟩
      rw [HCT.out,uP]
      exact HO6.out
    ·have hqn:q=n:=by have:=HGQ.out;omega
     have hct:(colD d n a).take q=colD d n a:=by have h9:=mA d n a;rw [hqn];exact List.take_of_length_le (by omega)
     rw [hct] at HOWR
     have hot:=HOWN.out.grow hgr
     obtain ⟨hs,ho1,ho2,ho3⟩:=hot
     have hrow:=RowT.of_owns HOWR.out
     have HR:=Kh hrow;have HO1:=Kh ho1;have HO2:=Kh ho2;have HO3:=Kh ho3
     have hzz:=hgr.size
     have hPw:P+1≤wr.heap.size:=by have:=HGR.out.size;omega
     clear hqn hct hgr hrow ho1 ho2 ho3
     go_wp2_with (first|(at_builtin;refine app1 rfl _ _ _ rfl wT (P+1) _ a hs rfl HO1.out _ rfl rfl ?c1 ?c2 ?c3 ?_)|fail)
     case c1=>unfold maxLen;omega
     case c2=>omega
     case c3=>exact hPw
     intro sa' sc' w6 hown6 hg6 hlt6
     have HO6:Hid (OwnT (P+1) w6 (.slice sa' (a+1) sc') (a+1) ((gensD d n k).take (a+1))):=Kh (by
      rw [gensD_take ha]
      exact OwnT.push HO1.out HO2.out HO3.out HR.out hown6 hg6)
     have HG6:Hid (wA.grownBy w6 none):=Kh (zF (zG HGR.out HGRQ.out) hg6 (fun x e=>by have:=(HO1.out.lt x e).1;omega))
     clear hown6 hg6
     go_wp2
     go_roundg (k - (a+1))
     case measure=>have:=HG.out;omega
     case rel=>exact ⟨a+1,sa',sc',by omega,by go_num,rfl,HO6.out,HG6.out⟩
  ·have hak:a=k:=by have:=HG.out;omega
   have hgl:=tF d n k
   have HE:Hid ((gensD d n k).take a=gensD d n k∧(gensD d n k).length=a):=Kh ⟨List.take_of_length_le (by omega),by rw [hgl,hak]⟩
   clear hak hgr hgl
   go_wp2
   go_ret
   rw [HE.out.1] at HOWN
   refine ⟨sa,sc,by rw [HE.out.2];rfl,?_,zG HGA.out HGR.out⟩
   rw [HE.out.2]
   exact HOWN.out.base (by have:=HPE.out;omega)
def compT (f g:List Nat):List Nat:=f.map fun x=>g.getD x 0
theorem sX (f g:List Nat):(compT f g).length=f.length:=by simp [compT]
theorem compT_get {f g:List Nat} {i:Nat} (h:i < f.length):(compT f g).getD i 0=g.getD (f.getD i 0) 0:=by rw [compT,vC (x:=0) h]
def IsT (n:Nat) (f:List Nat):Prop:=f.length=n∧∀ x∈f,x < n
theorem IsT.get {n:Nat} {f:List Nat} (h:IsT n f) {i:Nat} (hi:i < n):f.getD i 0 < n:=by
 rw [zV (by rw [h.1];exact hi)];exact h.2 _ (List.getElem_mem _)
theorem kQ {n:Nat} {f g:List Nat} (hf:IsT n f) (hg:IsT n g):IsT n (compT f g):=by
 refine ⟨by rw [sX,hf.1],fun x hx=>?_⟩
 obtain ⟨y,hy,rfl⟩:=List.mem_map.1 hx
 exact hg.get (hf.2 y hy)
set_option maxHeartbeats 800000 in
theorem discrete_any (w:World) (n:Nat) (hn:n≤100000):Calls Tryd.prog 116 #[.int .i64 (n:Int)] w (NumOk w (List.range n)):=by
 go_enter Tryd.func116,Tryd.ntmps116
 go_wp2_with (first|(at_make;refine make1 rfl _ _ _ rfl yG rfl .i64 .i64 _ _ n rfl rfl rfl rfl ?b1 ?b2 ?_;(case b1=>omega);(case b2=>(unfold maxLen;omega));intro w2 harr hg2 hlt2)|fail)
 have HA2:=Kh harr;have HG2:=Kh hg2
 clear harr hg2
 go_loopg [4,9] n (fun gh a4 i wr=>∃ k:Nat,gh+k=n∧i=.int .i64 k∧Arr wr w.heap.size 3 (nats (vX (List.range n) k))∧w.grownBy wr none)
 case atStart=>exact ⟨0,rfl,rfl,by rw [qG,List.length_range,xX];exact HA2.out,HG2.out⟩
 case round =>
  clear HA2 HG2
  obtain ⟨k,hg,rfl,harr,hgr⟩:=hrel
  have HG:=Kh hg;have HA:=Kh harr;have HGR:=Kh hgr
  clear hg hgr
  by_cases hk:k < n
  ·have hk':(k:Int) < n:=by omega
   have cgk:=harr.nat k (by rw [xC (by simp;omega)];simpa using hk)
   have fgk:=harr.frozen k
   have hset:=pF (l:=List.range n) (k:=k) (by simpa using hk)
   rw [show (List.range n).getD k 0=k from by rw [zV (by simpa using hk)];simp] at hset
   have HS:=Kh hset
   clear hset harr
   go_wp2
   go_roundg (n - (k+1))
   case measure=>have:=HG.out;omega
   case rel =>
    refine ⟨k+1,by omega,by go_num,?_,zF HGR.out (zH wr ⟨w.heap.size,k,none⟩ _) (fun q e=>by have h7:w.heap.size=q:=Oj e;omega)⟩
    rw [← HS.out]
    exact HA.out.nat_set k (by rw [xC (by simp;omega)];simpa using hk) k
  ·have hkn:k=n:=by have:=HG.out;omega
   have HE:Hid (vX (List.range n) k=List.range n):=Kh (by have:=pG (List.range n);rw [List.length_range] at this;rw [hkn];exact this)
   clear hkn harr
   go_wp2
   go_ret
   refine ⟨w.heap.size,by rw [List.length_range];rfl,Nat.le_refl _,?_,HGR.out⟩
   rw [← HE.out];exact HA.out
set_option maxHeartbeats 800000 in
theorem compose_any (B C:Nat) (w:World) (va vb:Value) (f g:List Nat) (n:Nat) (hB:B≤w.heap.size) (hC:C≤w.heap.size) (ha:Row B w va (nats f)) (hb:Row C w vb (nats g)) (hf:IsT n f) (hg:IsT n g) (hn:n≤100000) :
  Calls Tryd.prog 117 #[va,vb] w (NumOk w (compT f g)):=by
 obtain ⟨va',vc,rfl⟩:=ha.shape
 obtain ⟨vb',vd,rfl⟩:=hb.shape
 have hbl:=hb.len_le
 rw [zN,hf.1] at ha ⊢
 rw [zN,hg.1] at hb ⊢
 have HA:=Kh ha;have HB:=Kh hb;have HF:=Kh hf;have HGT:=Kh hg
 clear ha hb hf hg hbl
 go_enter Tryd.func117,Tryd.ntmps117
 go_wp2_with (first|(at_make;refine make1 rfl _ _ _ rfl yG rfl .i64 .i64 _ _ n rfl rfl rfl rfl ?b1 ?b2 ?_;(case b1=>omega);(case b2=>(unfold maxLen;omega));intro w2 harr hg2 hlt2)|fail)
 have HA2:=Kh harr;have HG2:=Kh hg2
 clear harr hg2
 have hcl:(compT f g).length=n:=by rw [sX,HF.out.1]
 go_loopg [6,7,13] n (fun gh a6 a7 i wr=>∃ k:Nat,gh+k=n∧i=.int .i64 k∧Arr wr w.heap.size 3 (nats (vX (compT f g) k))∧w.grownBy wr none)
 case atStart=>exact ⟨0,rfl,rfl,by rw [qG,hcl,xX];exact HA2.out,HG2.out⟩
 case round =>
  clear HA2 HG2
  obtain ⟨k,hg,rfl,harr,hgr⟩:=hrel
  have HG:=Kh hg;have HAR:=Kh harr;have HGR:=Kh hgr
  clear hg
  by_cases hk:k < n
  ·have hk':(k:Int) < n:=by omega
   obtain ⟨ib,io,ic,e,_,hc1,hc2,hra⟩:=(HA.out.kept hgr (by simp)).some_ (by rw [zN,HF.out.1];omega)
   simp only [Value.slice.injEq] at e
   obtain ⟨rfl,-,rfl⟩:=e
   obtain ⟨jb,jo,jc,e,_,hd1,hd2,hrb⟩:=(HB.out.kept hgr (by simp)).some_ (by rw [zN,HGT.out.1];omega)
   simp only [Value.slice.injEq] at e
   obtain ⟨rfl,-,rfl⟩:=e
   have ca:=hra.nat k (by rw [HF.out.1];exact hk)
   have hx:=HF.out.get hk
   have cb:=hrb.nat (f.getD k 0) (by rw [HGT.out.1];exact hx)
   have cgk:=harr.nat k (by rw [xC (by omega)];omega)
   have fgk:=harr.frozen k
   have hset:=pF (l:=compT f g) (k:=k) (by omega)
   rw [compT_get (by rw [HF.out.1];exact hk)] at hset
   obtain ⟨x,hxe⟩:∃ x,x=f.getD k 0:=⟨_,rfl⟩
   rw [← hxe] at ca cb hx hset
   obtain ⟨y,hye⟩:∃ y,y=g.getD x 0:=⟨_,rfl⟩
   rw [← hye] at cb hset
   have hx':(x:Int) < n:=by omega
   have HS:=Kh hset
   clear hset harr hgr hra hrb hxe hye
   go_wp2
   go_roundg (n - (k+1))
   case measure=>have:=HG.out;omega
   case rel =>
    refine ⟨k+1,by omega,by go_num,?_,zF HGR.out (zH wr ⟨w.heap.size,k,none⟩ _) (fun q e=>by have h7:w.heap.size=q:=Oj e;omega)⟩
    rw [← HS.out]
    exact HAR.out.nat_set k (by rw [xC (by omega)];omega) y
  ·have hkn:k=n:=by have:=HG.out;omega
   have HE:Hid (vX (compT f g) k=compT f g):=Kh (by rw [hkn,← hcl];exact pG _)
   clear hkn harr hgr
   go_wp2
   go_ret
   refine ⟨w.heap.size,by rw [hcl];rfl,Nat.le_refl _,?_,HGR.out⟩
   rw [← HE.out];exact HAR.out
def findT (ts:List (List Nat)) (f:List Nat):Int:=if f∈ts then (ts.idxOf f:Int) else -1
theorem findT_at {ts:List (List Nat)} {f:List Nat} {i:Nat} (hi:i < ts.length) (h:ts.getD i []=f) (hno:∀ j,j < i→ts.getD j []≠f):findT ts f=i:=by
 have hm:f∈ts:=by rw [← h,zV hi];exact List.getElem_mem _
 rw [findT,if_pos hm]
 have h1:=List.idxOf_lt_length_of_mem hm
 have h2:=List.getElem_idxOf h1
 have h3:¬ ts.idxOf f < i:=fun hlt=>hno _ hlt (by rw [zV h1];exact h2)
 have h4:¬ i < ts.idxOf f:=fun hlt=>by
  have h5:=List.not_of_lt_findIdx (xs:=ts) (p:=(· == f)) (show i < ts.findIdx (· == f) from hlt)
  rw [zV hi] at h
  simp [h] at h5
 omega
theorem findT_none {ts:List (List Nat)} {f:List Nat} (hno:∀ j,j < ts.length→ts.getD j []≠f):findT ts f = -1:=by
 rw [findT,if_neg]
 intro hm
 obtain ⟨i,hi,e⟩:=List.getElem_of_mem hm
 exact hno i hi (by rw [zV hi];exact e)
set_option maxHeartbeats 800000 in
theorem kN (B C:Nat) (w:World) (va vb:Value) (ts:List (List Nat)) (f:List Nat) (hts:TMat B w va ts) (hb:Row C w vb (nats f)) :
  Calls Tryd.prog 86 #[va,vb] w fun e w'=>e=.returned (.int .i64 (findT ts f))∧∃ m,w'=w.drewN m:=by
 obtain ⟨ta,tc,rfl⟩:=hts.shape
 have HT:=Kh hts;have HB:=Kh hb
 have htl:ts.length≤9223372036854775807:=by
  obtain ⟨hs,h1,h2⟩:=hts
  have:=h1.len_le
  rw [h2.1] at this
  unfold maxLen at this;omega
 clear hts hb
 go_enter Tryd.func86,Tryd.ntmps86
 go_wp2
 go_loopg [5,8] ts.length (fun gh a5 i wr=>∃ k:Nat,gh+k=ts.length∧i=.int .i64 k∧Hid (∀ j,j < k→ts.getD j []≠f)∧∃ m,wr=w.drewN m)
 case atStart=>exact ⟨0,rfl,rfl,Kh (fun j hj=>by omega),0,rfl⟩
 case round =>
  obtain ⟨k,hg,rfl,hno,m,rfl⟩:=hrel
  have HG:=Kh hg
  clear hg
  by_cases hk:k < ts.length
  ·have hk':(k:Int) < ts.length:=by omega
   have hts2:=HT.out.kept (zJ w m none) (by simp)
   obtain ⟨b,off,cap,e,hc1,hc2,_,_,hall⟩:=hts2.head (by omega)
   simp only [Value.slice.injEq] at e
   obtain ⟨rfl,-,rfl⟩:=e
   obtain ⟨a,c,ch,hrow⟩:=hall k hk
   have hmx:tc≤9223372036854775807:=by unfold maxLen at hc2;omega
   have HSA:=nD B C (w.drewN m) (.slice a (ts.getD k []).length c) vb ((ts.getD k []).map fun (x:Nat)=>(x:Int)) (f.map fun (x:Nat)=>(x:Int))
    (by rw [← tE];exact hrow.row) (by rw [← tE];exact HB.out.kept (zJ w m none) (by simp))
   rw [cast_dec] at HSA
   obtain ⟨t,ht⟩:∃ t,t=ts.getD k []:=⟨_,rfl⟩
   rw [← ht] at ch HSA
   have HSA:=Kh HSA;have HTT:=Kh ht
   clear ht hts2 hall hrow
   by_cases he:t=f
   ·rw [decide_eq_true he] at HSA
    have HF:Hid (findT ts f=k):=Kh (findT_at hk (HTT.out.symm.trans he) hno.out)
    clear he
    go_wp2_with fail
    refine HSA.out.mono ?_
    rintro e w2 ⟨rfl,m2,rfl⟩
    go_wp2
    go_ret
    exact ⟨yD HF.out.symm,m+m2,rfl⟩
   ·rw [decide_eq_false he] at HSA
    have HNO:Hid (∀ j,j < k+1→ts.getD j []≠f):=Kh (fun j hj=>by
     rcases Nat.lt_succ_iff_lt_or_eq.1 hj with hj|rfl
     ·exact hno.out j hj
     ·rw [← HTT.out];exact he)
    clear he
    go_wp2_with fail
    refine HSA.out.mono ?_
    rintro e w2 ⟨rfl,m2,rfl⟩
    go_wp2
    go_roundg (ts.length - (k+1))
    case measure=>have:=HG.out;omega
    case rel=>exact ⟨k+1,by omega,by go_num,HNO,m+m2,rfl⟩
  ·have HF:Hid (findT ts f = -1):=Kh (findT_none (fun j hj=>hno.out j (by have:=HG.out;omega)))
   go_wp2
   go_ret
   exact ⟨yD HF.out.symm,m,rfl⟩
set_option maxRecDepth 100000 in
set_option maxHeartbeats 800000 in
theorem copyT_any (B:Nat) (w:World) (v:Value) (ts:List (List Nat)) (hB:B≤w.heap.size) (h:TMat B w v ts) (hl:ts.length≤4096) (hr:∀ t∈ts,t.length≤4096) :
  Calls Tryd.prog 115 #[v] w (kV w ts):=by
 obtain ⟨ta,tc,rfl⟩:=h.shape
 have HT:=Kh h;have HR:=Kh hr
 clear h hr
 go_enter Tryd.func115,Tryd.ntmps115
 go_wp2
 go_loopg [3,5,8] ts.length (fun gh v3 a5 i wr=>∃ (k:Nat) (sa:Option Addr) (sc:Nat),gh+k=ts.length∧i=.int .i64 k∧v3=.slice sa k sc∧OwnT w.heap.size wr (.slice sa k sc) k (ts.take k)∧w.grownBy wr none)
 case atStart=>exact ⟨0,none,0,rfl,rfl,rfl,by simpa using OwnT.nil _ _,zX _ _⟩
 case round =>
  obtain ⟨k,sa,sc,hg,rfl,rfl,hown,hgr⟩:=hrel
  have HG:=Kh hg;have HOWN:=Kh hown;have HGR:=Kh hgr
  clear hg
  by_cases hk:k < ts.length
  ·have hk':(k:Int) < ts.length:=by omega
   have hts2:=HT.out.kept hgr (by simp)
   obtain ⟨b,off,cap,e,hc1,hc2,_,_,hall⟩:=hts2.head (by omega)
   simp only [Value.slice.injEq] at e
   obtain ⟨rfl,-,rfl⟩:=e
   obtain ⟨a,c,ch,hrow⟩:=hall k hk
   have hmx:tc≤9223372036854775807:=by unfold maxLen at hc2;omega
   have hst:Hid (ts.take (k+1)=ts.take k ++ [ts.getD k []]):=Kh (yF hk)
   have hlt:(ts.getD k []).length≤4096:=HR.out _ (by rw [zV hk];exact List.getElem_mem _)
   obtain ⟨t,ht⟩:∃ t,t=ts.getD k []:=⟨_,rfl⟩
   rw [← ht] at ch hrow hst hlt
   have HROW:=Kh hrow
   have hzz:=hgr.size
   clear ht hts2 hall hrow hgr hown
   go_wp2_with (first|(at_builtin;refine appR rfl _ _ _ rfl yG wr.heap.size (.slice (some ⟨wr.heap.size,0,none⟩) 0 0) 0 [] rfl (owns_lit0 (heap_alloc_new wr _) (Nat.le_refl _)) _ (nats t) rfl ⟨_,HROW.out.row.kept (Ga wr _ none) (by simp)⟩ (nats_one _) t.length (by simp [nats]) (by unfold maxLen;omega) (by omega) (by rw [zO];omega) ?_;intro sr cr w6 hown6 hg6;(have HO6:=Kh hown6);(have HG6:Hid (wr.grownBy w6 none):=Kh (zF (Ga wr (.cells #[] 3) none) hg6 (fun x e=>by have:wr.heap.size=x:=Oj e;omega)));clear hown6 hg6;obtain ⟨hs,ho1,ho2,ho3⟩:=HOWN.out.grow HG6.out;(have HO1:=Kh ho1);(have HO2:=Kh ho2);(have HO3:=Kh ho3);(have hz6:=HG6.out.size);clear ho1 ho2 ho3)|(at_builtin;refine app1 rfl _ _ _ rfl wT w.heap.size _ k hs rfl HO1.out _ rfl rfl ?c1 ?c2 ?c3 ?_)|fail)
   case c1=>unfold maxLen;omega
   case c2=>omega
   case c3=>omega
   intro sa' sc' w8 hown8 hg8 hlt8
   have HO8:Hid (OwnT w.heap.size w8 (.slice sa' (k+1) sc') (k+1) (ts.take (k+1))):=Kh (by
    rw [hst.out]
    exact OwnT.push HO1.out HO2.out HO3.out (RowT.of_owns HO6.out) hown8 hg8)
   have HG8:Hid (w.grownBy w8 none):=Kh (zF (zG HGR.out HG6.out) hg8 (fun x e=>(HO1.out.lt x e).1))
   clear hown8 hg8
   go_wp2
   go_roundg (ts.length - (k+1))
   case measure=>have:=HG.out;omega
   case rel=>exact ⟨k+1,sa',sc',by omega,by go_num,rfl,HO8.out,HG8.out⟩
  ·have hkn:k=ts.length:=by have:=HG.out;omega
   have HE:Hid (ts.take k=ts):=Kh (List.take_of_length_le (by omega))
   have HKN:=Kh hkn
   rw [HE.out] at HOWN
   clear hkn hgr hown
   go_wp2
   go_ret
   exact ⟨sa,sc,by rw [← HKN.out];rfl,by rw [← HKN.out];exact HOWN.out,HGR.out⟩
set_option maxHeartbeats 800000 in
theorem validT_any (B:Nat) (w:World) (v:Value) (f:List Nat) (n:Nat) (h:Row B w v (nats f)) (hf:IsT n f) (h1:1≤n) (h32:n≤32) :
  Calls Tryd.prog 119 #[v] w fun e w'=>e=.returned (.bool true)∧w=w':=by
 obtain ⟨b,off,cap,rfl,_,hc1,hc2,hra⟩:=h.some_ (by rw [zN,hf.1];omega)
 have hmx:cap≤9223372036854775807:=by unfold maxLen at hc2;omega
 rw [zN,hf.1] at hc1 ⊢
 have HRA:=Kh hra;have HF:=Kh hf
 clear h hf hra hc2
 go_enter Tryd.func119,Tryd.ntmps119
 go_wp2
 go_loopg [15] n (fun gh i wr=>∃ k:Nat,gh+k=n∧i=.int .i64 k∧w=wr)
 case atStart=>exact ⟨0,rfl,rfl,rfl⟩
 case round =>
  obtain ⟨k,hg,rfl,rfl⟩:=hrel
  have HG:=Kh hg
  clear hg
  by_cases hk:k < n
  ·have ck:=HRA.out.nat k (by rw [HF.out.1];exact hk)
   have hx:=HF.out.get hk
   obtain ⟨x,hxe⟩:∃ x,x=f.getD k 0:=⟨_,rfl⟩
   rw [← hxe] at ck hx
   have hx':(x:Int) < n:=by omega
   clear hxe
   go_wp2
   go_roundg (n - (k+1))
   case measure=>have:=HG.out;omega
   case rel=>exact ⟨k+1,by omega,by go_num,rfl⟩
  ·go_wp2
   go_ret
   exact ⟨rfl,rfl⟩
set_option maxHeartbeats 800000 in
theorem mayGens_any (B:Nat) (w:World) (v:Value) (ts:List (List Nat)) (n:Nat) (h:TMat B w v ts) (hts:∀ t∈ts,IsT n t) (h1:1≤n) (h32:n≤32) (hl1:1≤ts.length) (hl6:ts.length≤6) :
  Calls Tryd.prog 114 #[v] w fun e w'=>e=.returned (.bool true)∧w=w':=by
 obtain ⟨b,off,cap,rfl,hc1,hc2,_,_,hall⟩:=h.head (by omega)
 have hmx:cap≤9223372036854775807:=by unfold maxLen at hc2;omega
 have H0:=hall 0 (by omega)
 obtain ⟨a0,c0,ch0,hrow0⟩:=H0
 have hl0:(ts.getD 0 []).length=n:=(hts _ (by rw [zV (by omega)];exact List.getElem_mem _)).1
 rw [hl0] at ch0
 rw [Nat.add_zero] at ch0
 have HALL:=Kh hall;have HTS:=Kh hts
 obtain ⟨L,hL⟩:∃ L,L=ts.length:=⟨_,rfl⟩
 rw [← hL] at hc1 hl1 hl6 HALL ⊢
 have HLE:=Kh hL
 clear h hts hall hc2 hrow0 hl0 hL
 go_enter Tryd.func114,Tryd.ntmps114
 go_wp2
 go_loopg [15] L (fun gh i wr=>∃ k:Nat,gh+k=L∧i=.int .i64 k∧w=wr)
 case atStart=>exact ⟨0,rfl,rfl,rfl⟩
 case round =>
  obtain ⟨k,hg,rfl,rfl⟩:=hrel
  have HG:=Kh hg
  clear hg
  by_cases hk:k < L
  ·obtain ⟨a,c,ch,hrow⟩:=HALL.out k hk
   have hit:IsT n (ts.getD k []):=HTS.out _ (by rw [zV (by have:=HLE.out;omega)];exact List.getElem_mem _)
   have hlk:=hit.1
   have HV:=Kh (validT_any B w _ _ n hrow.row hit h1 h32)
   rw [hlk] at ch HV
   have e1:((n:Int) != (n:Int))=false:=by simp
   clear hrow hit hlk
   go_wp2_with fail
   refine HV.out.mono ?_
   rintro e w1 ⟨rfl,rfl⟩
   go_wp2
   go_roundg (L - (k+1))
   case measure=>have:=HG.out;omega
   case rel=>exact ⟨k+1,by omega,by go_num,rfl⟩
  ·go_wp2
   go_ret
   exact ⟨rfl,rfl⟩
set_option maxHeartbeats 400000 in
theorem mX (w:World) (a:Nat) (ha:a < 26):Calls Tryd.prog 106 #[.int .i64 (a:Int)] w fun e w'=>e=.returned (.string (strOfNums [97+(a:Int)]))∧w.grownBy w' none:=by
 have hby:IntKind.u8.wrap (97+(a:Int))=97+(a:Int):=IntWalk.u8_in _ (by omega)
 obtain ⟨X,hX⟩:∃ X,X=strOfNums [97+(a:Int)]:=⟨_,rfl⟩
 have hcv:∀ (W:World) (g:Nat),W.cell? ⟨g,0,none⟩=some (.int .u8 (97+(a:Int)))→(convert 89 9 (.slice (some ⟨g,0,none⟩) 1 1)).run Tryd.prog W=.ok (.string X) W:=fun W g h=>by rw [hX];exact pY 89 5 Tryd.underlying89 Tryd.underlying5 9 Tryd.underlying9 h
 rw [← hX]
 clear hX
 go_enter Tryd.func106,Tryd.ntmps106
 go_wp2
 go_ret
 exact ⟨rfl,Ga _ _ none⟩
end Go.Proofs.YtdjhoadoiknaoaaDoor
